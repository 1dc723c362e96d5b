/- A-logic, part 10: a region that draws its order. -/
import Derived.Test.YtbnikhbpkiickaaA9
set_option linter.unusedSimpArgs false
set_option linter.unusedVariables false
namespace Go.AL
open Go.RowKit

def otmp : Operand → Option Nat
  | .tmp t => some t
  | _ => none
def gtmp (l : List Oper) (o : Oper) : List Nat :=
  match o.guard with
  | none => []
  | some (j, _) => ((l[j]?).bind (·.dst)).toList
def readsOf (l : List Oper) (o : Oper) : List Nat := o.op.operands.toList.filterMap otmp ++ gtmp l o
def deps (o : Oper) : List Nat := (o.after.toList.filter (Region.binds .any ·)).map (·.on)
def maskAt (ms : List Nat) (ds : List Nat) : Nat := ds.foldl (fun m j => m ||| ((1 <<< j) ||| ms.getD j 0)) 0
def masks (l : List Oper) : List Nat := l.foldl (fun ms o => ms ++ [maskAt ms (deps o)]) []
def msOk (l : List Oper) (ms : List Nat) : Bool := (List.range l.length).all fun i => match l[i]? with
  | some o => ms.getD i 0 == maskAt ms (deps o) && (deps o).all (· < i)
  | none => true
def dstIs (l : List Oper) (i : Nat) : Option Nat := (l[i]?).bind (·.dst)
def readsAt (l : List Oper) (i : Nat) : List Nat := match l[i]? with | some o => readsOf l o | none => []
def rd (l : List Oper) (i : Nat) (d : Option Nat) : Bool := match d with | some d => (readsAt l i).contains d | none => false
def sameDst : Option Nat → Option Nat → Bool
  | some d, some e => d == e
  | _, _ => false
/-- Operations that read no memory. -/
def noMem : Op → Bool
  | .move _ | .assign _ | .pick _ _ _ | .binOp _ _ _ _ _ | .unOp _ _ _ | .fieldAddr _ _ _ | .field _ _ _ | .indexAddr _ _ _ | .index _ _ _ | .extract _ _ | .makeInterface _ _ | .makeFunc _ _ _ | .nilCheck _ => true
  | _ => false
def noMemAt (l : List Oper) (i : Nat) : Bool := match l[i]? with | some o => noMem o.op | none => false
theorem qv_noMem {P : Program} {o : Oper} {T : Fr} {σ σ' : Store} (h : noMem o.op = true) : qv P o T σ = qv P o T σ' := by
  unfold qv pv
  cases ho : o.op <;> first | rfl | (rw [ho] at h; simp [noMem] at h)
def pairOk (l : List Oper) (ms : List Nat) (p q : Nat × Nat) : Bool :=
  let bit := (ms.getD q.1 0).testBit p.1
  (!rd l q.1 (dstIs l p.1) || bit) && (!rd l p.1 (dstIs l q.1) || (q.2 != 0 && bit)) && (p.2 == 0 || bit) && !sameDst (dstIs l p.1) (dstIs l q.1) && (q.2 != 1 || bit) && p.1 != q.1 && (q.2 != 3 || bit || noMemAt l p.1)
def pairs {α : Type} (f : α → α → Bool) : List α → Bool
  | [] => true
  | x :: xs => xs.all (f x) && pairs f xs
def selfOk (l : List Oper) (p : Nat × Nat) : Bool := (!rd l p.1 (dstIs l p.1) || p.2 != 0) && p.1 < l.length
def planOk (N : Nat) (l : List Oper) (idx : List (Nat × Nat)) : Bool :=
  (List.range l.length).all (fun i => (idx.map (·.1)).contains i) && pairs (pairOk l (masks l)) idx && idx.all (selfOk l) && opsOk N l && msOk l (masks l)

def dw (P : Program) (l : List Oper) (K : Fr → Store → Prop) : List (Nat × Nat) → Fr → Store → Prop
  | [] => K
  | (i, t) :: rest => fun T σ => match l[i]? with
    | some o => match t with
      | 0 => gq P l o (dw P l K rest) T σ
      | 1 => gvc P l o (dw P l K rest) T σ
      | 3 => gvc P l o (dw P l K rest) T σ
      | _ => gvc P l o (fun T' σ' => Soft σ σ' ∧ dw P l K rest T' σ') T σ
    | none => False

theorem testBit_maskAt {ms ds : List Nat} {k : Nat} (h : (maskAt ms ds).testBit k = true) : ∃ j, j ∈ ds ∧ (k = j ∨ (ms.getD j 0).testBit k = true) := by
  have key : ∀ (ds : List Nat) (m : Nat), (ds.foldl (fun m j => m ||| ((1 <<< j) ||| ms.getD j 0)) m).testBit k = true → m.testBit k = true ∨ ∃ j, j ∈ ds ∧ (k = j ∨ (ms.getD j 0).testBit k = true) := by
    intro ds
    induction ds with
    | nil => intro m h; exact .inl h
    | cons d ds ih =>
      intro m h
      rcases ih _ h with h | ⟨j, hj, hk⟩
      · simp only [Nat.testBit_or, Bool.or_eq_true] at h
        rcases h with h | h | h
        · exact .inl h
        · refine .inr ⟨d, by simp, .inl ?_⟩
          rw [Nat.one_shiftLeft, Nat.testBit_two_pow] at h
          exact (of_decide_eq_true h).symm
        · exact .inr ⟨d, by simp, .inr h⟩
      · exact .inr ⟨j, by simp [hj], hk⟩
  rcases key ds 0 h with h | h
  · simp at h
  · exact h

section down
variable {l : List Oper} {Ld : Nat → Bool}
def Dn (l : List Oper) (Ld : Nat → Bool) : Prop := ∀ i o, l[i]? = some o → Ld i = true → ∀ j ∈ deps o, Ld j = true
theorem mask_listed {ms : List Nat} (hm : msOk l ms = true) (hd : Dn l Ld) : ∀ (i : Nat) (o : Oper), l[i]? = some o → (∀ j ∈ deps o, Ld j = true) → ∀ k, (ms.getD i 0).testBit k = true → Ld k = true := by
  intro i
  induction i using Nat.strongRecOn with
  | ind i ih =>
    intro o ho hr k hk
    have hi : i < l.length := (List.getElem?_eq_some_iff.1 ho).1
    have := List.all_eq_true.1 hm i (List.mem_range.2 hi)
    simp only [ho, Bool.and_eq_true, beq_iff_eq, List.all_eq_true, decide_eq_true_eq] at this
    rw [this.1] at hk
    obtain ⟨j, hj, hk⟩ := testBit_maskAt hk
    rcases hk with rfl | hk
    · exact hr _ hj
    · have hlt := this.2 j hj
      have hoj : l[j]? = some l[j] := List.getElem?_eq_getElem (by omega)
      exact ih j hlt _ hoj (hd j _ hoj (hr j hj)) k hk
theorem deps_lt {ms : List Nat} (hm : msOk l ms = true) {i : Nat} {o : Oper} (ho : l[i]? = some o) : ∀ j ∈ deps o, j < i := by
  have hi : i < l.length := (List.getElem?_eq_some_iff.1 ho).1
  have := List.all_eq_true.1 hm i (List.mem_range.2 hi)
  simp only [ho, Bool.and_eq_true, beq_iff_eq, List.all_eq_true, decide_eq_true_eq] at this
  exact this.2
end down

theorem pairs_app {α : Type} {f : α → α → Bool} : ∀ {xs ys : List α}, pairs f (xs ++ ys) = true → ∀ x ∈ xs, ∀ y ∈ ys, f x y = true
  | [], ys, _, x, hx, _, _ => by simp at hx
  | z :: xs, ys, h, x, hx, y, hy => by
    simp only [List.cons_append, pairs, Bool.and_eq_true, List.all_eq_true] at h
    rcases List.mem_cons.1 hx with rfl | hx
    · exact h.1 y (by simp [hy])
    · exact pairs_app h.2 x hx y hy
theorem pairs_right {α : Type} {f : α → α → Bool} : ∀ {xs ys : List α}, pairs f (xs ++ ys) = true → pairs f ys = true
  | [], _, h => h
  | z :: xs, ys, h => by
    simp only [List.cons_append, pairs, Bool.and_eq_true] at h
    exact pairs_right h.2
theorem pairs_two {α : Type} {f : α → α → Bool} : ∀ {xs : List α}, pairs f xs = true → ∀ x ∈ xs, ∀ y ∈ xs, x = y ∨ f x y = true ∨ f y x = true
  | [], _, x, hx, _, _ => by simp at hx
  | z :: xs, h, x, hx, y, hy => by
    simp only [pairs, Bool.and_eq_true, List.all_eq_true] at h
    rcases List.mem_cons.1 hx with e1 | hx2
    · rcases List.mem_cons.1 hy with e2 | hy2
      · exact .inl (e1.trans e2.symm)
      · exact .inr (.inl (e1 ▸ h.1 y hy2))
    · rcases List.mem_cons.1 hy with e2 | hy2
      · exact .inr (.inr (e2 ▸ h.1 _ hx2))
      · exact pairs_two h.2 x hx2 y hy2

/-- What two operations, one ahead of the other in the plan, owe each other. -/
structure PairOk (l : List Oper) (ms : List Nat) (p q : Nat × Nat) : Prop where
  later : rd l q.1 (dstIs l p.1) = true → (ms.getD q.1 0).testBit p.1 = true
  earlier : rd l p.1 (dstIs l q.1) = true → q.2 ≠ 0 ∧ (ms.getD q.1 0).testBit p.1 = true
  eff : p.2 ≠ 0 → (ms.getD q.1 0).testBit p.1 = true
  dst : ∀ d, dstIs l p.1 = some d → dstIs l q.1 ≠ some d
  hard : q.2 = 1 → (ms.getD q.1 0).testBit p.1 = true
  ne : p.1 ≠ q.1
  wild : q.2 = 3 → (ms.getD q.1 0).testBit p.1 = true ∨ noMemAt l p.1 = true
theorem pairOk_spec {l : List Oper} {ms : List Nat} {p q : Nat × Nat} (h : pairOk l ms p q = true) : PairOk l ms p q := by
  simp only [pairOk, Bool.and_eq_true, Bool.or_eq_true, Bool.not_eq_true', beq_iff_eq, bne_iff_ne, ne_eq] at h
  obtain ⟨⟨⟨⟨⟨⟨h1, h2⟩, h3⟩, h4⟩, h5⟩, h6⟩, h7⟩ := h
  refine ⟨fun e => h1.resolve_left (by simp [e]), fun e => h2.resolve_left (by simp [e]), fun e => h3.resolve_left e, fun d e1 e2 => ?_, fun e => h5.resolve_left (by simp [e]), h6, fun e => ?_⟩
  rotate_left
  · rcases h7 with (h7 | h7) | h7
    · exact absurd e h7
    · exact .inl h7
    · exact .inr h7
  rw [e1, e2] at h4
  simp [sameDst] at h4

section sound
variable {P : Program} {ρ : Option Nat} {N : Nat} {B : Nat} {w0 : World} {Φ : Frm} {D : List Nat} {G : Gh} {σ : Store} {w : World} {T : Fr} {a : Act} {o : Oper}

/-- Two frames agree on what an operation reads. -/
theorem aev_of_reads {l : List Oper} {T T' : Fr} (h : ∀ t ∈ readsOf l o, T t = T' t) : ∀ x ∈ o.op.operands.toList, aev T x = aev T' x := by
  intro x hx
  cases x with
  | tmp t => exact h t (by unfold readsOf; exact List.mem_append_left _ (List.mem_filterMap.2 ⟨_, hx, rfl⟩))
  | const c => rfl
  | global g => rfl
  | func f => rfl
theorem gslot_of_reads {l : List Oper} {T T' : Fr} {j : Nat} {want : Bool} (hg : o.guard = some (j, want)) (h : ∀ t ∈ readsOf l o, T t = T' t) : gslot l T j = gslot l T' j := by
  unfold gslot
  split
  · rename_i d hd
    have : T d = T' d := h d (by unfold readsOf gtmp; simp [hg, hd])
    simp only [this]
  · rfl
theorem QV_congr {l : List Oper} {T T' : Fr} {x : AV} (h : ∀ t ∈ readsOf l o, T t = T' t) (hq : QV P l o T σ x) : QV P l o T' σ x := by
  unfold QV at *
  rw [← qv_congr (aev_of_reads h)]
  split at hq
  · exact hq
  · rename_i j want hg
    rw [← gslot_of_reads hg h]
    exact hq
theorem QV_soft {l : List Oper} {σ' : Store} {x : AV} (hs : Soft σ σ') (hq : QV P l o T σ x) : QV P l o T σ' x := by
  unfold QV at *
  split at hq
  · exact qv_soft hs hq
  · obtain ⟨b, h1, h2, h3⟩ := hq
    exact ⟨b, h1, fun e => qv_soft hs (h2 e), h3⟩
theorem gvc_map {l : List Oper} {K K' : Fr → Store → Prop} {T T' : Fr} (h : ∀ t ∈ readsOf l o, T t = T' t) (hK : ∀ r σ', K (putT T o.dst r) σ' → K' (putT T' o.dst r) σ') (hv : gvc P l o K T σ) : gvc P l o K' T' σ := by
  unfold gvc at *
  split at hv
  · exact vc_map (aev_of_reads h) hK hv
  · rename_i j want hg
    rw [← gslot_of_reads hg h]
    obtain ⟨b, h1, h2, h3⟩ := hv
    exact ⟨b, h1, fun e => vc_map (aev_of_reads h) hK (h2 e), fun e => hK _ _ (h3 e)⟩

structure Inv (P : Program) (l : List Oper) (idx : List (Nat × Nat)) (Ld : Nat → Bool) (T : Fr) (σ : Store) (pre rest : List (Nat × Nat)) (Tc : Fr) : Prop where
  split : idx = pre ++ rest
  effs : ∀ p ∈ pre, p.2 ≠ 0 → Ld p.1 = true
  unl : ∀ p ∈ rest, Ld p.1 = false
  agree : ∀ d, (∀ p ∈ pre, Ld p.1 = false → dstIs l p.1 ≠ some d) → T d = Tc d
  val : ∀ p ∈ pre, Ld p.1 = false → ∃ o x, l[p.1]? = some o ∧ QV P l o Tc σ x ∧ ∀ d, o.dst = some d → Tc d = x

variable {l : List Oper} {idx : List (Nat × Nat)} {Ld : Nat → Bool} {pre rest : List (Nat × Nat)} {Tc : Fr} {K : Fr → Store → Prop}
theorem put_ne {T : Fr} {d : Nat} {dst : Option Nat} {x : AV} (h : dst ≠ some d) : putT T dst x d = T d := by
  cases dst with
  | none => rfl
  | some e => simp only [putT, upd]; rw [if_neg (by rintro rfl; exact h rfl)]
theorem put_at {T : Fr} {d : Nat} {dst : Option Nat} {x : AV} (h : dst = some d) : putT T dst x d = x := by subst h; simp [putT, upd]
theorem rd_of {i d : Nat} {o : Oper} (ho : l[i]? = some o) (h : d ∈ readsOf l o) {e : Option Nat} (he : e = some d) : rd l i e = true := by
  subst he; simp [rd, readsAt, ho, h]

structure PlanOk (N : Nat) (l : List Oper) (idx : List (Nat × Nat)) : Prop where
  all : ∀ i, i < l.length → ∃ t, (i, t) ∈ idx
  pair : pairs (pairOk l (masks l)) idx = true
  self : ∀ p ∈ idx, (rd l p.1 (dstIs l p.1) = true → p.2 ≠ 0) ∧ p.1 < l.length
  ops : opsOk N l = true
  ms : msOk l (masks l) = true
theorem planOk_spec (h : planOk N l idx = true) : PlanOk N l idx := by
  simp only [planOk, Bool.and_eq_true, List.all_eq_true] at h
  obtain ⟨⟨⟨⟨h1, h2⟩, h3⟩, h4⟩, h5⟩ := h
  refine ⟨fun i hi => ?_, h2, fun p hp => ?_, h4, h5⟩
  · have := h1 i (List.mem_range.2 hi)
    simp only [List.contains_eq_mem, decide_eq_true_eq, List.mem_map] at this
    obtain ⟨p, hp, rfl⟩ := this
    exact ⟨p.2, hp⟩
  · have := h3 p hp
    simp only [selfOk, Bool.and_eq_true, Bool.or_eq_true, Bool.not_eq_true', bne_iff_ne, ne_eq, decide_eq_true_eq] at this
    exact ⟨fun e => this.1.resolve_left (by simp [e]), this.2⟩

/-- Quiet operations that come next are done, in thought. -/
theorem Inv.settle (hp : PlanOk N l idx) : ∀ {rest pre : List (Nat × Nat)} {Tc : Fr}, Inv P l idx Ld T σ pre rest Tc → dw P l K rest Tc σ →
    ∃ pre' rest' Tc', Inv P l idx Ld T σ pre' rest' Tc' ∧ dw P l K rest' Tc' σ ∧ ∀ q rs, rest' = q :: rs → q.2 ≠ 0 := by
  intro rest
  induction rest with
  | nil => intro pre Tc h hw; exact ⟨pre, [], Tc, h, hw, fun q rs e => by cases e⟩
  | cons q rest ih =>
    intro pre Tc h hw
    obtain ⟨i, t⟩ := q
    by_cases ht : t = 0
    · subst ht
      simp only [dw] at hw
      split at hw
      · rename_i o ho
        obtain ⟨x, hx, hw⟩ := gq_QV hw
        have hsp : idx = pre ++ ((i, 0) :: rest) := h.split
        have hq : (i, 0) ∈ idx := by rw [hsp]; simp
        have hpair : ∀ p ∈ pre, PairOk l (masks l) p (i, 0) := fun p hpp => pairOk_spec (pairs_app (hsp ▸ hp.pair) p hpp _ (by simp))
        have hdst : dstIs l i = o.dst := by simp [dstIs, ho]
        have hself : ∀ t ∈ readsOf l o, putT Tc o.dst x t = Tc t := fun t ht => put_ne (by
          intro e
          exact absurd rfl ((hp.self _ hq).1 (rd_of ho ht (hdst.trans e))))
        refine ih (pre := pre ++ [(i, 0)]) (Tc := putT Tc o.dst x) ⟨by rw [hsp]; simp, ?_, fun p hpp => h.unl p (by simp [hpp]), ?_, ?_⟩ hw
        · intro p hpp hne
          rcases List.mem_append.1 hpp with hpp | hpp
          · exact h.effs p hpp hne
          · simp at hpp; subst hpp; exact absurd rfl hne
        · intro d hd
          have h1 : o.dst ≠ some d := by
            have := hd (i, 0) (by simp) (h.unl _ (by simp))
            rw [hdst] at this
            exact this
          rw [put_ne h1]
          exact h.agree d fun p hpp => hd p (by simp [hpp])
        · intro p hpp hL
          rcases List.mem_append.1 hpp with hpp | hpp
          · obtain ⟨o', y, h1, h2, h3⟩ := h.val p hpp hL
            refine ⟨o', y, h1, QV_congr (fun t ht => (put_ne ?_).symm) h2, fun d hd => ?_⟩
            · intro e
              exact absurd rfl ((hpair p hpp).earlier (rd_of h1 ht (hdst.trans e))).1
            · rw [put_ne]
              · exact h3 d hd
              · intro e
                exact (hpair p hpp).dst d (by simp [dstIs, h1, hd]) (hdst.trans e)
          · simp at hpp; subst hpp
            exact ⟨o, x, ho, QV_congr (fun t ht => (hself t ht).symm) hx, fun d hd => put_at hd⟩
      · exact hw.elim
    · exact ⟨pre, (i, t) :: rest, Tc, h, hw, fun q rs e => by cases e; exact ht⟩

/-- A step: an operation that is ready comes up. -/
theorem Inv.step (hp : PlanOk N l idx) (hdn : Dn l Ld) (h : Inv P l idx Ld T σ pre rest Tc) (hw : dw P l K rest Tc σ) (hset : ∀ q rs, rest = q :: rs → q.2 ≠ 0)
    {i : Nat} (ho : l[i]? = some o) (hi : Ld i = false) (hr : ∀ j ∈ deps o, Ld j = true) :
    GOk P ρ N l o (fun T' σ' => ∃ pre' rest' Tc', Inv P l idx (fun k => if k = i then true else Ld k) T' σ' pre' rest' Tc' ∧ dw P l K rest' Tc' σ' ∧ ∀ q rs, rest' = q :: rs → q.2 ≠ 0) T σ := by
  have hlt : i < l.length := (List.getElem?_eq_some_iff.1 ho).1
  have hom : o ∈ l := List.mem_of_getElem? ho
  obtain ⟨t, hmem⟩ := hp.all i hlt
  have hbits := mask_listed hp.ms hdn i o ho hr
  have hdst : dstIs l i = o.dst := by simp [dstIs, ho]
  have hmem2 := hmem
  rw [h.split] at hmem2
  have hpairs : pairs (pairOk l (masks l)) (pre ++ rest) = true := h.split ▸ hp.pair
  rcases List.mem_append.1 hmem2 with hpre | hrest
  · -- quiet, done in thought before
    have hq : t = 0 := by
      refine Classical.byContradiction fun hne => ?_
      have := h.effs _ hpre hne
      rw [hi] at this; cases this
    subst hq
    obtain ⟨o', x, h1, h2, h3⟩ := h.val _ hpre hi
    cases ho.symm.trans h1
    have hag : ∀ t ∈ readsOf l o, Tc t = T t := by
      intro s hs
      refine (h.agree s fun p hpp hL e => ?_).symm
      have hrd := rd_of ho hs e
      obtain ⟨p1, p2⟩ := p
      rcases pairs_two hp.pair _ (h.split ▸ List.mem_append_left _ hpp) _ hmem with e1 | e1 | e1
      · cases e1
        exact absurd rfl ((hp.self _ hmem).1 hrd)
      · have := hbits _ ((pairOk_spec e1).later hrd)
        rw [hL] at this; cases this
      · have := ((pairOk_spec e1).earlier hrd).1
        have := h.effs _ hpp this
        rw [hL] at this; cases this
    have hQ := QV_congr hag h2
    have hG := QV_sound (ρ := ρ) hp.ops hom hQ
    intro B w0 Φ D G w a hs ht Kc Qc hK
    refine hG B w0 Φ D G w a hs ht Kc Qc ?_
    rintro G' T' σ' a' w' k1 k2 k3 k4 ⟨rfl, rfl⟩
    refine hK G' _ _ a' w' k1 k2 k3 k4 ⟨pre, rest, Tc, ⟨h.split, fun p hpp hne => ?_, fun p hpp => ?_, fun d hd => ?_, fun p hpp hL => ?_⟩, hw, hset⟩
    · split
      · rfl
      · exact h.effs p hpp hne
    · split
      · rename_i e
        obtain ⟨p1, p2⟩ := p
        simp only at e
        subst e
        exact absurd rfl (pairOk_spec (pairs_app hpairs _ hpre _ hpp)).ne
      · exact h.unl p hpp
    · by_cases e : o.dst = some d
      · rw [put_at e, h3 d e]
      · rw [put_ne e]
        refine h.agree d fun p hpp hL => ?_
        by_cases e1 : p.1 = i
        · rw [e1, hdst]; exact e
        · exact hd p hpp (by rw [if_neg e1]; exact hL)
    · split at hL
      · cases hL
      · exact h.val p hpp hL
  · -- an effect: the next one
    obtain ⟨q, rs, hrs⟩ : ∃ q rs, rest = q :: rs := by
      cases rest with
      | nil => simp at hrest
      | cons q rs => exact ⟨q, rs, rfl⟩
    subst hrs
    have hq2 := hset q rs rfl
    have hqi : q = (i, t) := by
      rcases List.mem_cons.1 hrest with e | e
      · exact e.symm
      · have hpr := pairs_right hpairs
        simp only [pairs, Bool.and_eq_true, List.all_eq_true] at hpr
        have := hbits _ ((pairOk_spec (hpr.1 _ e)).eff hq2)
        rw [h.unl q (by simp)] at this
        cases this
    subst hqi
    have hpairp : ∀ p ∈ pre, PairOk l (masks l) p (i, t) := fun p hpp => pairOk_spec (pairs_app hpairs p hpp _ (by simp))
    have hpairr : ∀ p ∈ rs, PairOk l (masks l) (i, t) p := fun p hpp => by
      have hpr := pairs_right hpairs
      simp only [pairs, Bool.and_eq_true, List.all_eq_true] at hpr
      exact pairOk_spec (hpr.1 p hpp)
    have hag : ∀ t ∈ readsOf l o, Tc t = T t := by
      intro s hs
      refine (h.agree s fun p hpp hL e => ?_).symm
      have := hbits _ ((hpairp p hpp).later (rd_of ho hs e))
      rw [hL] at this; cases this
    have hw' : gvc P l o (fun T' σ' => (t = 1 ∨ t = 3 ∨ Soft σ σ') ∧ dw P l K rs T' σ') Tc σ := by
      simp only [dw, ho] at hw
      match t, hq2 with
      | 1, _ => exact gvc_map (fun _ _ => rfl) (fun r σ' hh => ⟨.inl rfl, hh⟩) hw
      | 3, _ => exact gvc_map (fun _ _ => rfl) (fun r σ' hh => ⟨.inr (.inl rfl), hh⟩) hw
      | 2, _ => exact gvc_map (fun _ _ => rfl) (fun r σ' hh => ⟨.inr (.inr hh.1), hh.2⟩) hw
      | t + 4, _ => exact gvc_map (fun _ _ => rfl) (fun r σ' hh => ⟨.inr (.inr hh.1), hh.2⟩) hw
    have hw2 : gvc P l o (fun T' σ' => ∃ pre' rest' Tc', Inv P l idx (fun k => if k = i then true else Ld k) T' σ' pre' rest' Tc' ∧ dw P l K rest' Tc' σ' ∧ ∀ q rs, rest' = q :: rs → q.2 ≠ 0) T σ := by
      refine gvc_map hag (fun r σ' hh => ?_) hw'
      refine Inv.settle hp (rest := rs) (pre := pre ++ [(i, t)]) (Tc := putT Tc o.dst r) ⟨by rw [h.split]; simp, fun p hpp hne => ?_, fun p hpp => ?_, fun d hd => ?_, fun p hpp hL => ?_⟩ hh.2
      · split
        · rfl
        · rename_i e
          rcases List.mem_append.1 hpp with hpp | hpp
          · exact h.effs p hpp hne
          · simp at hpp; subst hpp; exact absurd rfl e
      · rw [if_neg (fun e => (hpairr p hpp).ne e.symm)]
        exact h.unl p (by simp [hpp])
      · by_cases e : o.dst = some d
        · rw [put_at e, put_at e]
        · rw [put_ne e, put_ne e]
          refine h.agree d fun p hpp hL => hd p (by simp [hpp]) ?_
          rw [if_neg (hpairp p hpp).ne]; exact hL
      · rcases List.mem_append.1 hpp with hpp | hpp
        · rw [if_neg (hpairp p hpp).ne] at hL
          obtain ⟨o', y, h1, h2, h3⟩ := h.val p hpp hL
          have hnb : ((masks l).getD i 0).testBit p.1 ≠ true := fun e => by
            have := hbits _ e
            rw [hL] at this; cases this
          have hkeep : ∀ {T : Fr}, QV P l o' T σ y → QV P l o' T σ' y := fun {T} hq => by
            rcases hh.1 with e | e | hsoft
            · exact absurd ((hpairp p hpp).hard e) hnb
            · have hm := ((hpairp p hpp).wild e).resolve_left hnb
              simp only [noMemAt, h1] at hm
              unfold QV at hq ⊢
              rw [qv_noMem (σ' := σ) hm]
              exact hq
            · exact QV_soft hsoft hq
          refine ⟨o', y, h1, hkeep (QV_congr (fun t ht => (put_ne ?_).symm) h2), fun d hd => ?_⟩
          · intro e
            exact hnb ((hpairp p hpp).earlier (rd_of h1 ht (hdst.trans e))).2
          · rw [put_ne]
            · exact h3 d hd
            · intro e
              exact (hpairp p hpp).dst d (by simp [dstIs, h1, hd]) (hdst.trans e)
        · simp at hpp; subst hpp
          simp at hL
    exact gvc_sound hp.ops hom hw2

theorem filter_less {n i : Nat} {Ld : Nat → Bool} (hi : i < n) (hL : Ld i = false) : ((List.range n).filter fun k => !(if k = i then true else Ld k)).length < ((List.range n).filter fun k => !Ld k).length := by
  have h1 : ((List.range n).filter fun k => !(if k = i then true else Ld k)) = ((List.range n).filter fun k => !Ld k).filter fun k => k != i := by
    rw [List.filter_filter]
    congr 1
    funext k
    by_cases e : k = i <;> simp [e]
  rw [h1]
  refine Nat.lt_of_le_of_ne (List.length_filter_le _ _) fun e => ?_
  have := (List.length_filter_eq_length_iff.1 e) i (List.mem_filter.2 ⟨List.mem_range.2 hi, by simp [hL]⟩)
  simp at this
theorem some_ready (hp : PlanOk N l idx) {Ld : Nat → Bool} (h : ∀ i o, l[i]? = some o → Ld i = false → ∃ j ∈ deps o, Ld j = false) : ∀ i, i < l.length → Ld i = true := by
  intro i
  induction i using Nat.strongRecOn with
  | ind i ih =>
    intro hi
    cases e : Ld i with
    | true => rfl
    | false =>
      have ho : l[i]? = some l[i] := List.getElem?_eq_getElem hi
      obtain ⟨j, hj, hL⟩ := h i _ ho e
      have hlt := deps_lt hp.ms ho j hj
      rw [ih j hlt (by omega)] at hL
      cases hL
theorem Inv.done (hp : PlanOk N l idx) (h : Inv P l idx Ld T σ pre rest Tc) (hw : dw P l K rest Tc σ) (hall : ∀ i, i < l.length → Ld i = true) : K T σ := by
  have hr : rest = [] := by
    cases rest with
    | nil => rfl
    | cons q rs =>
      have h1 := h.unl q (by simp)
      have h2 := (hp.self q (by rw [h.split]; simp)).2
      rw [hall _ h2] at h1; cases h1
  subst hr
  have : T = Tc := funext fun d => h.agree d fun p hpp hL => by
    have h2 := (hp.self p (by rw [h.split]; simp [hpp])).2
    rw [hall _ h2] at hL; cases hL
  rw [this]
  exact hw

theorem mem_deps {o : Oper} {j : Nat} : j ∈ deps o ↔ ∃ e ∈ o.after, Region.binds .any e = true ∧ e.on = j := by
  simp [deps, and_assoc]
theorem ready_iff {listed : Array Bool} (hsz : listed.size = l.length) (hp : PlanOk N l idx) {i : Nat} : i ∈ Region.ready .any l.toArray listed ↔ listed.getD i true = false ∧ ∃ o, l[i]? = some o ∧ ∀ j ∈ deps o, listed.getD j true = true := by
  rw [mem_ready]
  refine and_congr Iff.rfl ?_
  simp only [List.getElem?_toArray]
  constructor
  · rintro ⟨o, ho, h⟩
    refine ⟨o, ho, fun j hj => ?_⟩
    obtain ⟨e, he, hb, rfl⟩ := mem_deps.1 hj
    have := h e he hb
    simp only [Array.getD_eq_getD_getElem?] at this ⊢
    cases hx : listed[e.on]? with
    | none => rw [hx] at this; simp at this
    | some b => rw [hx] at this; simpa using this
  · rintro ⟨o, ho, h⟩
    refine ⟨o, ho, fun e he hb => ?_⟩
    have hj := mem_deps.2 ⟨e, he, hb, rfl⟩
    have := h _ hj
    have hlt := deps_lt hp.ms ho _ hj
    have hi : i < l.length := (List.getElem?_eq_some_iff.1 ho).1
    have hx : listed[e.on]? = some listed[e.on] := Array.getElem?_eq_getElem (by omega)
    simp only [Array.getD_eq_getD_getElem?, hx, Option.getD_some] at this ⊢
    exact this

theorem AWP.draw {id : Nat} {Q : Exit → Fr → Store → Prop} (hm : P.follows .mixedOrders = true) (hpl : planOk N l idx = true) (h : dw P l (Q .normal) idx T σ) : AWP P ρ N (.region id l.toArray true) Q T σ := by
  have hp := planOk_spec hpl
  intro B w0 Φ D G w a hs ht hd
  refine wpIn_region_any hm ?_
  have key : ∀ (fuel : Nat) (listed : Array Bool) (a : Act) (w : World) (T : Fr) (σ : Store) (G' : Gh) (pre rest : List (Nat × Nat)) (Tc : Fr), listed.size = l.length →
      ((List.range l.length).filter fun k => !(listed.getD k true)).length ≤ fuel → Dn l (fun k => listed.getD k true) → Inv P l idx (fun k => listed.getD k true) T σ pre rest Tc → dw P l (Q .normal) rest Tc σ → (∀ q rs, rest = q :: rs → q.2 ≠ 0) →
      G.le G' → St B w0 Φ D G' σ w → RepT G' N T a.tmps → a.defers = D.map mark → wpAnyIn (FR ρ) 0 P .any l.toArray (Lft B w0 Φ G N Q) fuel listed a w := by
    intro fuel
    induction fuel with
    | zero =>
      intro listed a w T σ G' pre rest Tc hsz hf hdn hI hw hset hG hs ht hd
      have hall : ∀ i, i < l.length → listed.getD i true = true := fun i hi => by
        cases e : listed.getD i true with
        | true => rfl
        | false =>
          have : i ∈ (List.range l.length).filter fun k => !(listed.getD k true) := List.mem_filter.2 ⟨List.mem_range.2 hi, by rw [e]; rfl⟩
          have := List.length_pos_of_mem this
          omega
      refine ⟨?_, D, G', T, σ, hG, hs, ht, hd, hI.done hp hw hall⟩
      refine List.eq_nil_iff_forall_not_mem.2 fun i hi => ?_
      obtain ⟨h1, o, ho, _⟩ := (ready_iff hsz hp).1 hi
      rw [hall i (List.getElem?_eq_some_iff.1 ho).1] at h1
      cases h1
    | succ fuel ih =>
      intro listed a w T σ G' pre rest Tc hsz hf hdn hI hw hset hG hs ht hd
      refine ⟨fun hnil => ?_, fun i hi => ?_⟩
      · refine ⟨D, G', T, σ, hG, hs, ht, hd, hI.done hp hw (some_ready hp fun i o ho hL => ?_)⟩
        refine Classical.byContradiction fun hno => ?_
        have : i ∈ Region.ready .any l.toArray listed := (ready_iff hsz hp).2 ⟨hL, o, ho, fun j hj => by
          cases e : listed.getD j true with
          | true => rfl
          | false => exact absurd ⟨j, hj, e⟩ hno⟩
        rw [hnil] at this
        cases this
      · obtain ⟨h1, o, ho, hr⟩ := (ready_iff hsz hp).1 hi
        have hlt : i < l.length := (List.getElem?_eq_some_iff.1 ho).1
        have hLd : (fun k => (listed.setIfInBounds i true).getD k true) = fun k => if k = i then true else listed.getD k true := by
          funext k
          by_cases e : k = i
          · subst e; simp [hsz, hlt]
          · rw [if_neg e, getD_set_ne true (Ne.symm e)]
        have hst := hI.step (ρ := ρ) hp hdn hw hset ho h1 hr B w0 Φ D G' w a hs ht
        unfold wpOpIn
        simp only [List.getElem?_toArray, ho]
        refine hst _ _ ?_
        rintro G'' T' σ' a' w' k1 k2 k3 k4 ⟨pre', rest', Tc', hI', hw', hset'⟩
        refine ih _ a' w' T' σ' G'' pre' rest' Tc' (by simp [hsz]) ?_ ?_ (hLd ▸ hI') hw' hset' (Gh.le_trans hG k1) k2 k3 (k4.trans hd)
        · have := filter_less (Ld := fun k => listed.getD k true) hlt h1
          have e : ((List.range l.length).filter fun k => !((listed.setIfInBounds i true).getD k true)) = (List.range l.length).filter fun k => !(if k = i then true else listed.getD k true) := by
            congr 1
            funext k
            rw [show (listed.setIfInBounds i true).getD k true = (if k = i then true else listed.getD k true) from congrFun hLd k]
          rw [e]
          omega
        · rw [hLd]
          intro k o' ho' hk j hj
          simp only at hk ⊢
          split
          · rfl
          · rename_i hji
            split at hk
            · rename_i e; subst e; cases ho.symm.trans ho'; exact hr j hj
            · exact hdn k o' ho' hk j hj
  have hnil : ∀ k, k < l.length → (Array.replicate l.length false).getD k true = false := fun k hk => by simp [hk]
  obtain ⟨pre, rest, Tc, hI, hw, hset⟩ := Inv.settle (P := P) (Ld := fun k => (Array.replicate l.length false).getD k true) (T := T) (σ := σ) (K := Q .normal) hp (rest := idx) (pre := []) (Tc := T)
    ⟨rfl, fun p hpp => by simp at hpp, fun p hpp => hnil _ (hp.self p hpp).2, fun _ _ => rfl, fun p hpp => by simp at hpp⟩ h
  have hsize : l.toArray.size = l.length := by simp
  rw [hsize]
  refine key l.length _ a _ T σ G pre rest Tc (by simp) ?_ ?_ hI hw hset (Gh.le_refl _) hs.drew ht hd
  · have := List.length_filter_le (fun k => !((Array.replicate l.length false).getD k true)) (List.range l.length)
    simpa using this
  · intro i o ho hL
    simp only at hL
    rw [hnil i (List.getElem?_eq_some_iff.1 ho).1] at hL
    cases hL
end sound
end Go.AL
