/- A-logic, part 11: ranges over functions: the statement; a round. -/
import Derived.Test.YtbnikhbpkiickaaA10
set_option linter.unusedSimpArgs false
set_option linter.unusedVariables false
namespace Go.AL
open Go.RowKit

def asgT (T : Fr) : List Tmp → List AV → Fr
  | p :: ps, x :: xs => asgT (upd T p x) ps xs
  | _, _ => T
def ARound (l N : Nat) (T : Fr) (ps : Array Tmp) (assign body : Code) (R : AV → Store → Prop) : Exit → Fr → Store → Prop
  | .normal, _, σ => σ l = some (.loop N T ps assign body .busy none) ∧ R (.v (.bool true)) (σ.set l (.loop N T ps assign body .ready none))
  | .ret, _, σ => σ l = some (.loop N T ps assign body .busy none) ∧ R (.v (.bool false)) (σ.set l (.loop N T ps assign body .done (some .ret)))
  | .exit id, _, σ => σ l = some (.loop N T ps assign body .busy none) ∧ R (.v (.bool false)) (σ.set l (.loop N T ps assign body .done (some (.exit id))))
  | _, _, _ => False

section sound
variable {P : Program} {N : Nat} {B : Nat} {w0 : World} {Φ : Frm} {D : List Nat} {G : Gh} {σ : Store} {w : World} {T : Fr} {a : Act}

theorem St.noMarks (h : St B w0 Φ D G σ w) : St B w0 Φ [] G σ w := ⟨h.below, h.le, h.imm, h.cap, h.own, h.frame, List.nodup_nil, fun r hr => by simp at hr⟩
theorem repT_asg : ∀ {ps : List Tmp} {xs : List AV} {ys : List Value} {T : Fr} {tmps : Array Value}, RepT G N T tmps → RepL G xs ys → xs.length = ps.length →
    RepT G N (asgT T ps xs) ((ps.zip ys).foldl (fun tmps p => tmps.setIfInBounds p.1 p.2) tmps)
  | [], xs, ys, T, tmps, h, hl, he => by
    cases xs with
    | nil => exact h
    | cons x xs => simp at he
  | p :: ps, [], ys, T, tmps, h, hl, he => by simp at he
  | p :: ps, x :: xs, ys, T, tmps, h, hl, he => by
    obtain ⟨y, ys', rfl, h1, h2⟩ := hl.head
    exact repT_asg (T := AL.upd T p x) (AL.RepT.upd h p h1) h2 (by simpa using he)
theorem loop_set (hs : St B w0 Φ D G σ w) {l N' : Nat} {T' : Fr} {ps : Array Tmp} {as bd : Code} {st st' : LoopState} {j j' : Option Code} {fn : FuncId} {tmps : Array Value} {df : Nat}
    (hσ : σ l = some (.loop N' T' ps as bd st j)) (ht : RepT G N' T' tmps) (hw : w.heap[l]? = some (.loop ⟨st, j, fn, tmps, ps, as, bd, df⟩)) :
    St B w0 Φ D G (σ.set l (.loop N' T' ps as bd st' j')) (w.putObj l (.loop ⟨st', j', fn, tmps, ps, as, bd, df⟩)) := by
  have himm := hs.imm_obj hw (fun _ _ _ => by simp)
  have hlt := (Array.getElem?_eq_some_iff.1 hw).1
  exact hs.change hσ (only_putObj w l _) (Gh.le_refl _) (fun _ _ _ => rfl) (fun _ => rfl) (fun o v e => by rw [himm o] at e; cases e) ⟨fn, tmps, df, World.putObj_heap_same (w := w) hlt, ht⟩

/-- A call of yield is a round. -/
theorem ayield {l : Nat} {ps : Array Tmp} {assign body : Code} {args : List AV} {R : AV → Store → Prop} (hσ : σ l = some (.loop N T ps assign body .ready none)) (hlen : args.length = ps.size)
    (h : AWP P (some l) N assign (fun e T1 σ1 => e = .normal ∧ σ1 l = some (.loop N T ps assign body .ready none) ∧
      AWP P (some l) N body (ARound l N T ps assign body R) T1 (σ1.set l (.loop N T ps assign body .busy none))) (asgT T ps.toList args) σ) : AYield P l args σ R := by
  intro B w0 Φ G w vs hs hv
  obtain ⟨hB, fn, tmps, df, hw, ht⟩ := hs.own l _ hσ
  refine ⟨fn, _, assign, body, run_yield hw (by simp [hv.1, hlen]), ?_⟩
  have hfold : (ps.zip vs.toArray).foldl (fun tmps (t, a) => tmps.setIfInBounds t a) tmps = (ps.toList.zip vs).foldl (fun tmps p => tmps.setIfInBounds p.1 p.2) tmps := by
    rw [← Array.foldl_toList, Array.toList_zip]
  simp only
  rw [hfold]
  have ht0 : RepT G N (asgT T ps.toList args) ((ps.toList.zip vs).foldl (fun tmps p => tmps.setIfInBounds p.1 p.2) tmps)   := repT_asg ht hv (by simpa using hlen)
  refine roundIn_of_wpIn trivial ?_
  refine wpIn_mono (h B w0 Φ [] G w { tmps := _, defers := [] } hs ht0 rfl) ?_
  rintro e a1 w1 ⟨D1, G1, T1, σ1, g1, s1, t1, d1, rfl, q1, q2⟩
  obtain ⟨_, fn1, tmps1, df1, hw1, ht1⟩ := s1.own l _ q1
  refine ⟨_, run_beginRound hw1 rfl, ?_⟩
  have s2 := loop_set (st' := .busy) (j' := none) s1 q1 ht1 hw1
  refine wpIn_mono (q2 B w0 Φ D1 G1 _ a1 s2 t1 d1) ?_
  rintro e a2 w2 ⟨D2, G2, T2, σ2, g2, s3, t2, d2, hq⟩
  cases e with
  | normal =>
    obtain ⟨p1, p2⟩ := hq
    obtain ⟨_, fn2, tmps2, df2, hw2, ht2⟩ := s3.own l _ p1
    exact ⟨_, _, run_endRound none hw2, _, _, G2, _, rfl, Gh.le_trans g1 g2, (loop_set s3 p1 ht2 hw2).noMarks, .v _, p2⟩
  | ret =>
    obtain ⟨p1, p2⟩ := hq
    obtain ⟨_, fn2, tmps2, df2, hw2, ht2⟩ := s3.own l _ p1
    exact ⟨_, _, run_endRound (some .ret) hw2, _, _, G2, _, rfl, Gh.le_trans g1 g2, (loop_set s3 p1 ht2 hw2).noMarks, .v _, p2⟩
  | exit id =>
    obtain ⟨p1, p2⟩ := hq
    obtain ⟨_, fn2, tmps2, df2, hw2, ht2⟩ := s3.own l _ p1
    exact ⟨_, _, run_endRound (some (.exit id)) hw2, _, _, G2, _, rfl, Gh.le_trans g1 g2, (loop_set s3 p1 ht2 hw2).noMarks, .v _, p2⟩
  | goto t => exact hq.elim
  | panic ch => exact hq.elim
  | outgrown => exact hq.elim

/-- What comes behind a range over a function. -/
def ARest (P : Program) (N : Nat) (Q : Exit → Fr → Store → Prop) (T : Fr) (σ : Store) : Option Code → Prop
  | none => ∃ σ2 : Store, (∀ l c, σ2 l = some c → σ l = some c) ∧ Q .normal T σ2
  | some c => AWP P none N c Q T σ
theorem AWP.rangeFunc {g : Operand} {ps : Array Tmp} {assign body : Code} {Q : Exit → Fr → Store → Prop} {f : FuncId} {first caps : Array Value} (hN : Operand.inN N g = true) (hg : aev T g = .v (.func (.func f) first caps))
    (h : ∀ l, σ l = none → ACalls P f (first.toList.map .v ++ [.v (.func (.yield l) #[] #[])] ++ caps.toList.map .v) (σ.set l (.loop N T ps assign body .ready none))
      (fun _ σ' => ∃ st jump, σ' l = some (.loop N T ps assign body st jump) ∧ st ≠ .busy ∧ ARest P N Q T (σ'.del l) jump)) : AWP P none N (.rangeFunc g ps assign body) Q T σ := by
  intro B w0 Φ D G w a hs ht hd
  have hr := rep_aev ht hN
  rw [hg] at hr
  have eg : a.eval g = .func (.func f) first caps := by generalize a.eval g = q at hr; cases hr; rfl
  refine wpIn_rangeFunc fun fn _ => ?_
  let w1 := w.alloc (.deferred (some []))
  let rec0 : Loop := { state := .ready, pending := none, fn, tmps := a.tmps, params := ps, assign, body, defers := w.heap.size }
  let w2 := w1.alloc (.loop rec0)
  have s1 : St B w0 Φ (w.heap.size :: D) G σ w1 := by
    have := hs.alloc_any (.deferred (some []))
    refine ⟨this.below, this.le, this.imm, this.cap, this.own, this.frame, List.nodup_cons.2 ⟨fun hm => ?_, hs.nodup⟩, fun r hr => ?_⟩
    · have := (hs.marks _ hm).2.2.2
      exact absurd (Array.getElem?_eq_some_iff.1 this).1 (Nat.lt_irrefl _)
    · rcases List.mem_cons.1 hr with rfl | hr
      · exact ⟨hs.le, hs.fresh, hs.freshΦ, World.alloc_heap_new w _⟩
      · exact this.marks r hr
  have hsz1 : w1.heap.size = w.heap.size + 1 := by simp [w1]
  have s2 : St B w0 Φ (w.heap.size :: D) G (σ.set (w.heap.size + 1) (.loop N T ps assign body .ready none)) w2 := by
    have := s1.alloc (.loop rec0) (c := .loop N T ps assign body .ready none) (Gh.le_refl _) (fun _ _ _ => rfl) (fun _ _ => rfl) (fun o v e => by rw [s1.imm_new o] at e; cases e) ⟨fn, a.tmps, w.heap.size, World.alloc_heap_new w1 _, ht⟩
    rw [hsz1] at this
    exact this
  have hfresh : σ (w.heap.size + 1) = none := by rw [← hsz1]; exact s1.fresh
  obtain ⟨hen, hc⟩ := h _ hfresh
  have hargs : RepL G (first.toList.map .v ++ [.v (.func (.yield (w.heap.size + 1)) #[] #[])] ++ caps.toList.map .v) (first.toList ++ [Value.func (.yield (w.heap.size + 1)) #[] #[]] ++ caps.toList) := (repL_v.app (.one (.v _))).app repL_v
  have hc2 := hc B w0 (hideD Φ (w.heap.size :: D)) G w2 _ s2.hide hargs
  refine ⟨w.heap.size + 1, [mark w.heap.size], w2, { target := .fn (.func f) caps, args := first ++ #[Value.func (.yield (w.heap.size + 1)) #[] #[]] }, w2, f, (first.toList ++ [Value.func (.yield (w.heap.size + 1)) #[] #[]] ++ caps.toList).toArray, w2,
    run_enterLoop_outer fn a.tmps ps assign body, ?_, fun _ _ => trivial, ?_, fun h => by simp [FR_depth] at h, ?_⟩
  · have : a.eval (.const (.func (.yield (w.heap.size + 1)) #[] #[])) = Value.func (.yield (w.heap.size + 1)) #[] #[] := rfl
    simp [resolve, rangeCall, eg, Deferred.ofValue, this]
  · have harr : first ++ #[Value.func (.yield (w.heap.size + 1)) #[] #[]] ++ caps = (first.toList ++ [Value.func (.yield (w.heap.size + 1)) #[] #[]] ++ caps.toList).toArray := by apply Array.toList_inj.1; simp
    rw [← harr]
    simp only [invoke]
    exact hen _ _
  · refine (callsIn_wide (n := 0 - 1)).2 ?_
    refine hc2.mono ?_
    rintro e w' ⟨v, r, G', σ', rfl, g1, s3, g3, st, jump, k1, k2, k3⟩
    have s4 := s2.unhide s3
    obtain ⟨hB, fn', tmps', df', hw', ht'⟩ := s4.own _ _ k1
    have hmem : w.heap.size + 1 ∉ w.heap.size :: D := fun hm => by
      have := (s4.marks _ hm).2.1
      rw [k1] at this; cases this
    have s5 := s4.putObj (σ' := σ'.del (w.heap.size + 1)) (D' := w.heap.size :: D) (ob' := .loop ⟨.exhausted, jump, fn', tmps', ps, assign, body, df'⟩) hw' hB (by
        cases e : Φ (w.heap.size + 1) with
        | none => rfl
        | some p => have := (s4.frame _ _ e).1; rw [k1] at this; cases this) (fun _ _ _ => by simp)
      (fun k hk => by unfold Store.del; rw [if_neg hk]) (fun c e => by unfold Store.del at e; rw [if_pos rfl] at e; cases e) s4.nodup (fun r hr => ⟨hr, fun e => hmem (e ▸ hr)⟩)
    refine ⟨jump, _, run_endLoop hw' k2, ?_⟩
    have hd' : (mark w.heap.size :: a.defers) = (w.heap.size :: D).map mark := by simp [hd]
    cases jump with
    | none =>
      obtain ⟨σ2, hsub, hq⟩ := k3
      exact Lft.of g1 (s5.weaken hsub) (ht.mono g1) hd' hq
    | some c =>
      have := k3 B w0 Φ (w.heap.size :: D) G' _ { a with defers := mark w.heap.size :: a.defers } s5 (ht.mono g1) hd'
      exact wpIn_mono this fun _ _ _ x => x.lower g1
end sound
end Go.AL
