/- A-logic, part 9: what an operation reads. -/
import Derived.Test.YtbnikhbpkiickaaA8
set_option linter.unusedSimpArgs false
set_option linter.unusedVariables false
namespace Go.AL
open Go.RowKit

section congr
variable {P : Program} {o : Oper} {T T' : Fr} {σ σ' : Store}
theorem map_aev {xs : List Operand} (h : ∀ x ∈ xs, aev T x = aev T' x) : xs.map (aev T) = xs.map (aev T') := List.map_congr_left h
theorem map_aev2 {xs : List (Nat × Operand)} (h : ∀ x ∈ xs.map (·.2), aev T x = aev T' x) : (xs.map fun p => (p.1, aev T p.2)) = xs.map fun p => (p.1, aev T' p.2) :=
  List.map_congr_left fun p hp => by rw [h p.2 (List.mem_map.2 ⟨p, hp, rfl⟩)]
theorem opt_aev {x : Option Operand} (h : ∀ y ∈ x, aev T y = aev T' y) : x.map (aev T) = x.map (aev T') := by
  cases x with
  | none => rfl
  | some y => simp [h y rfl]
theorem args_aev {c : Call} (ho : o.op = .call c) (h : ∀ x ∈ o.op.operands.toList, aev T x = aev T' x) : c.args.toList.map (aev T) = c.args.toList.map (aev T') := by
  refine map_aev fun x hx => h x ?_
  rw [ho]
  simp only [Op.operands, Call.operands]
  split <;> simp_all
theorem pv_congr (h : ∀ x ∈ o.op.operands.toList, aev T x = aev T' x) : pv P o T σ = pv P o T' σ := by
  unfold pv
  cases ho : o.op with
  | move x => simp [h x (by simp [ho, Op.operands])]
  | assign x => simp [h x (by simp [ho, Op.operands])]
  | pick c a b => simp [h c (by simp [ho, Op.operands]), h a (by simp [ho, Op.operands]), h b (by simp [ho, Op.operands])]
  | load t x => simp [h x (by simp [ho, Op.operands])]
  | nilCheck x => simp [h x (by simp [ho, Op.operands])]
  | binOp op t x y s => simp [h x (by simp [ho, Op.operands]), h y (by simp [ho, Op.operands])]
  | unOp op t x => simp [h x (by simp [ho, Op.operands])]
  | convert s d x => simp [h x (by simp [ho, Op.operands])]
  | makeInterface t x => simp [h x (by simp [ho, Op.operands])]
  | makeFunc fn first caps =>
    have h1 := map_aev (xs := first.toList) fun x hx => h x (by simp [ho, Op.operands]; exact .inl (by simpa using hx))
    have h2 := map_aev (xs := caps.toList) fun x hx => h x (by simp [ho, Op.operands]; exact .inr (by simpa using hx))
    simp only [h1, h2]
  | slice t x lo hi mx =>
    have h1 := h x (by simp [ho, Op.operands])
    have h2 := opt_aev (x := lo) fun y hy => h y (by simp only [ho, Op.operands]; cases hy; simp)
    have h3 := opt_aev (x := hi) fun y hy => h y (by simp only [ho, Op.operands]; cases hy; simp)
    have h4 := opt_aev (x := mx) fun y hy => h y (by simp only [ho, Op.operands]; cases hy; simp)
    simp only [h1, h2, h3, h4]
  | fieldAddr s x f => simp [h x (by simp [ho, Op.operands])]
  | field t x f => simp [h x (by simp [ho, Op.operands])]
  | indexAddr t x i => simp [h x (by simp [ho, Op.operands]), h i (by simp [ho, Op.operands])]
  | index t x i => simp [h x (by simp [ho, Op.operands]), h i (by simp [ho, Op.operands])]
  | extract x i => simp [h x (by simp [ho, Op.operands])]
  | build t ps =>
    have h1 := map_aev2 (xs := ps.toList) fun x hx => h x (by simp only [ho, Op.operands]; exact hx)
    simp only [h1]
  | lookup t m k ok => simp [h m (by simp [ho, Op.operands]), h k (by simp [ho, Op.operands])]
  | call c =>
    have h1 := args_aev ho h
    cases c with
    | mk callee args argTypes =>
      simp only at h1
      cases callee <;> simp only [h1]
  | _ => rfl
theorem qv_congr (h : ∀ x ∈ o.op.operands.toList, aev T x = aev T' x) : qv P o T σ = qv P o T' σ := by
  unfold qv
  rw [pv_congr h]
  cases ho : o.op with
  | buildSlice t n ps =>
    have h1 := map_aev2 (xs := ps.toList) fun x hx => h x (by simp only [ho, Op.operands]; exact hx)
    simp only [h1]
  | convert s d x => simp only [h x (by simp [ho, Op.operands])]
  | _ => rfl

theorem callv_mono {fv : AV} {args : List AV} {R R' : AV → Store → Prop} (h : ACallV P fv args σ R) (hr : ∀ r σ', R r σ' → R' r σ') : ACallV P fv args σ R' := by
  unfold ACallV at *
  split at h
  · exact h.imp (fun k => k.mono hr) fun ⟨vs, v, a, b, c⟩ => ⟨vs, v, a, b, hr _ _ c⟩
  · exact h.mono hr
  · exact h
theorem meth_mono {rv : AV} {name : String} {args : List AV} {R R' : AV → Store → Prop} (h : AMeth P rv name args σ R) (hr : ∀ r σ', R r σ' → R' r σ') : AMeth P rv name args σ R' := by
  unfold AMeth at *
  split at h
  · obtain ⟨f, r, a, b⟩ := h; exact ⟨f, r, a, b.mono hr⟩
  · exact h
theorem vcAppend_mono {t t' : TypeId} {s x : AV} {R R' : AV → Store → Prop} (h : vcAppend P t t' s x σ R) (hr : ∀ r σ', R r σ' → R' r σ') : vcAppend P t t' s x σ R' := by
  unfold vcAppend at *
  split at h
  · obtain ⟨h1, i, z, sz, h2, h3, h4, h5, h6, h7, h8, h9, h10, h11, h12, h13⟩ := h
    exact ⟨h1, i, z, sz, h2, h3, h4, h5, h6, h7, h8, h9, h10, h11, h12, fun o ho => hr _ _ (h13 o ho)⟩
  · exact h
theorem vcAppendB_mono {t t' : TypeId} {s x : AV} {R R' : AV → Store → Prop} (h : vcAppendB P t t' s x σ R) (hr : ∀ r σ', R r σ' → R' r σ') : vcAppendB P t t' s x σ R' := by
  unfold vcAppendB at *
  split at h
  · obtain ⟨h0, h1, i, z, sz, h2, h3, h4, h5, h6, h8, hp, h10, h11, h13⟩ := h
    exact ⟨h0, h1, i, z, sz, h2, h3, h4, h5, h6, h8, hp, h10, h11, fun l c rest a b d => hr _ _ (h13 l c rest a b d)⟩
  · exact h
theorem vc_map {K K' : Fr → Store → Prop} (h : ∀ x ∈ o.op.operands.toList, aev T x = aev T' x) (hK : ∀ r σ', K (putT T o.dst r) σ' → K' (putT T' o.dst r) σ') (hv : vc P o K T σ) : vc P o K' T' σ := by
  have hp : (∃ y, pv P o T σ = some y ∧ K (putT T o.dst y) σ) → ∃ y, pv P o T' σ = some y ∧ K' (putT T' o.dst y) σ := fun ⟨y, h1, h2⟩ => ⟨y, by rw [← pv_congr h]; exact h1, hK _ _ h2⟩
  unfold vc at *
  cases ho : o.op with
  | alloc t =>
    simp only [ho] at hv ⊢
    obtain ⟨i, z, h1, h2, h3⟩ := hv
    exact ⟨i, z, h1, h2, fun l hl => hK _ _ (h3 l hl)⟩
  | box t x =>
    simp only [ho] at hv ⊢
    rw [← h x (by simp [ho, Op.operands])]
    exact ⟨hv.1, fun l hl => hK _ _ (hv.2 l hl)⟩
  | store t p x =>
    simp only [ho] at hv ⊢
    rw [← h x (by simp [ho, Op.operands]), ← h p (by simp [ho, Op.operands])]
    split at hv
    · rename_i l off e
      obtain ⟨Tb, cells, h1, h2, h3, h4, h5, h6⟩ := hv
      exact ⟨Tb, cells, h1, h2, h3, h4, h5, hK _ _ h6⟩
    · exact hv
  | buildSlice t n ps =>
    simp only [ho] at hv ⊢
    have h1 := map_aev2 (xs := ps.toList) fun x hx => h x (by simp only [ho, Op.operands]; exact hx)
    rw [← h1]
    obtain ⟨e, s, rows, a1, a2, a3, a4, a5, a6, a7, a8⟩ := hv
    exact ⟨e, s, rows, a1, a2, a3, a4, a5, a6, a7, hK _ _ a8⟩
  | makeMap t r =>
    cases r with
    | none =>
      simp only [ho] at hv ⊢
      exact fun r hr => hK _ _ (hv r hr)
    | some r => simp only [ho] at hv ⊢; exact hp hv
  | mapUpdate t m k x =>
    simp only [ho] at hv ⊢
    rw [← h x (by simp [ho, Op.operands]), ← h m (by simp [ho, Op.operands]), ← h k (by simp [ho, Op.operands])]
    split at hv
    · obtain ⟨kd, es, clock, res, h1, h2, h3, h4, h5⟩ := hv
      exact ⟨kd, es, clock, res, h1, h2, h3, h4, hK _ _ h5⟩
    · exact hv
  | convert s d x =>
    simp only [ho] at hv ⊢
    rw [← h x (by simp [ho, Op.operands])]
    split at hv
    · obtain ⟨bs, h1, h2⟩ := hv; exact ⟨bs, h1, hK _ _ h2⟩
    · exact ⟨hv.1, fun g hg => hK _ _ (hv.2 g hg)⟩
    · exact hp hv
  | call c =>
    have ha := args_aev ho h
    simp only [ho] at hv ⊢
    split at hv
    · rename_i s x e1 e2
      rw [e2] at ha
      simp only [List.map_cons, List.map_nil, List.cons.injEq, and_true] at ha
      rw [← ha.1, ← ha.2]
      obtain ⟨t, t', h1, h2⟩ := hv
      exact ⟨t, t', h1, h2.imp (fun h2 => vcAppend_mono h2 fun r σ' => hK r σ') (fun h2 => vcAppendB_mono h2 fun r σ' => hK r σ')⟩
    · rename_i _ f e1
      rw [← ha, ← h f (by rw [ho]; simp [Op.operands, Call.operands, e1])]
      exact callv_mono hv fun r σ' => hK r σ'
    · rename_i _ r name e1
      rw [← ha, ← h r (by rw [ho]; simp [Op.operands, Call.operands, e1])]
      exact meth_mono hv fun r σ' => hK r σ'
    · exact hp hv
  | _ => simp only [ho] at hv ⊢; exact hp hv

/-! ### Cells stay -/
def Soft (σ σ' : Store) : Prop := ∀ l c, σ l = some c → (∀ E s n, c ≠ .tip E s n) → σ' l = some c
theorem ldp_soft {t : TypeId} {p x : AV} (hs : Soft σ σ') (h : ldp P t p σ = some x) : ldp P t p σ' = some x := by
  unfold ldp at *
  split at h
  · split at h
    · rename_i e; simp only [hs _ _ e (by simp)]; exact h
    · cases h
  · exact h
  · cases h
theorem lkp_soft {t : TypeId} {x k z : AV} {ok : Bool} (hs : Soft σ σ') (h : lkp P t x k ok σ = some z) : lkp P t x k ok σ' = some z := by
  unfold lkp at *
  split at h
  · obtain ⟨kd, h1, h⟩ := Option.bind_eq_some_iff.1 h
    split at h
    · rename_i hkk
      obtain ⟨ei, h2, h⟩ := Option.bind_eq_some_iff.1 h
      obtain ⟨zv, h3, h⟩ := Option.bind_eq_some_iff.1 h
      obtain ⟨kv, h4, h⟩ := Option.bind_eq_some_iff.1 h
      simp only [h1, hkk, h2, h3, h4, Option.bind_some, if_true]
      split at h
      · exact h
      · split at h
        · rename_i e; simp only [hs _ _ e (by simp)]; exact h
        · cases h
      · cases h
    · cases h
  · cases h
theorem blt_soft {b : Builtin} {ats : Array TypeId} {ty : TypeId} {cs : Array Bool} {xs : List AV} {z : AV} (hs : Soft σ σ') (h : blt P b ats ty cs xs σ = some z) : blt P b ats ty cs xs σ' = some z := by
  unfold blt at *
  split at h
  · exact h
  · exact h
  · split at h
    · rename_i e1 e2; simp only [hs _ _ e2 (by simp), e1]; exact h
    · cases h
  · exact h
theorem pv_soft {x : AV} (hs : Soft σ σ') (h : pv P o T σ = some x) : pv P o T σ' = some x := by
  unfold pv at *
  split at h <;> first | exact h | exact ldp_soft hs h | exact lkp_soft hs h | exact blt_soft hs h
theorem qv_soft {x : AV} (hs : Soft σ σ') (h : qv P o T σ = some x) : qv P o T σ' = some x := by
  unfold qv at *
  split at h
  · exact h
  · split at h <;> first | exact h | exact pv_soft hs h | cases h
  · exact pv_soft hs h
end congr
end Go.AL
