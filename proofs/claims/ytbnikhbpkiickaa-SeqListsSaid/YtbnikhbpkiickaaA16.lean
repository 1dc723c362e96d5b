/- A-logic, part 16: from a contract to a row's statement. -/
import Derived.Test.YtbnikhbpkiickaaA15
import Derived.ProofKit
import Derived.Deep.SlicePairs
set_option linter.unusedSimpArgs false
set_option linter.unusedVariables false
namespace Go.AL
open Go.RowKit Go.ChangeShapes Go.WideShapes

/-- Where a call of the row begins: all that stands in memory stays. -/
def G0 (W : World) : Gh := ⟨fun b o => W.cell? ⟨b, o, none⟩, fun _ => none⟩
theorem st0 (W : World) : St W.heap.size W (fun _ => none) [] (G0 W) Store.nil W :=
  ⟨Below.refl _ _, Nat.le_refl _, fun _ _ _ h => h, fun _ _ h => by simp [G0] at h, fun _ _ h => by simp [Store.nil] at h, fun _ _ h => by simp at h, List.nodup_nil, fun _ h => by simp at h⟩
theorem law_calls {P : Program} {f : FuncId} {args : List AV} {W : World} {vs : List Value} (h : ACalls P f args Store.nil fun r _ => r = vb true) (hv : RepL (G0 W) args vs) :
    Calls P f vs.toArray W fun e W' => e = .returned (.bool true) ∧ Below W.heap.size W W' := by
  refine (h.2 _ _ _ _ W vs (st0 W) hv).mono ?_
  rintro e w' ⟨v, r, G', σ', rfl, _, hs, hr, rfl⟩
  cases hr
  exact ⟨rfl, hs.below⟩

section
variable {H : Type} {enc : TypeId × Value → H} {P : Program}
theorem post_of_old {f : Func} {s : ChangeSpec} {apart fresh handsOn again : Bool} {W W' : World} {args : Array Value} {v : Value} {ds gs : List (DataW H)} {before pa pv : List MemPlace}
    (hW : DataW.Whole enc P f.params.toList s.vars apart W args.toList ds gs before)
    (hres : ∀ (b : Nat) (sp : Nat → Bool) (hd : Bool), DataW.TrodAll enc P W' b sp hd f.resultTypes.toList (v.resultList f.resultTypes.size) (s.fn H (ds ++ gs)).results [])
    (hargs : ∀ sp : Nat → Bool, (∀ p ∈ before, sp p.block = true) → DataW.TrodAll enc P W' 0 sp true f.params.toList args.toList (s.fn H (ds ++ gs)).args pa)
    (hvars : ∀ sp : Nat → Bool, (∀ p ∈ before, sp p.block = true) → DataW.TrodVars enc P W' sp s.vars (s.fn H (ds ++ gs)).vars pv)
    (hps : before = pa ++ pv) (hb : Below W.heap.size W W')
    (hok : ∀ (j : Nat) (t : TypeId) (r : Value), f.resultTypes[j]? = some t → (v.resultList f.resultTypes.size)[j]? = some r → Value.okWide P W' .any 0 t r) :
    s.post enc P f apart fresh handsOn again W args v W' := by
  have hold : ∀ p ∈ before, (fun b => decide (b < W.heap.size)) p.block = true := fun p hp => by simpa using hW.lt p hp
  refine ⟨ds, gs, before, [], pa, pv, hW, hres _ _ _, hargs _ hold, hvars _ hold, World.keptBut_mono (fun p hp => ⟨hp, ?_⟩) (hb.frame _), fun _ => ?_⟩
  · rw [hps, List.mem_append] at hp
    exact Or.inr hp
  · have hlt := hW.lt
    obtain ⟨_, _, _, _, _, hz, hn⟩ := hW
    refine ⟨hok, _, _, ([] ++ pa) ++ pv, ⟨[] ++ pa, pv, trodAll_append (hargs _ (fun _ _ => rfl)) (hres _ _ _), hvars _ (fun _ _ => rfl), rfl, ?_, ?_⟩, ?_⟩
    · intro b off hp
      have hp' : MemPlace.cell b off ∈ before := by rw [hps]; simpa using hp
      rw [hb.frozen (hlt _ hp')]
      exact hz b off hp'
    · intro ha
      have := hn ha
      rw [hps] at this
      simpa using this
    · intro p hp _
      rw [hps]
      simpa using hp

def inI64 (n : Int) : Prop := -9223372036854775808 ≤ n ∧ n < 9223372036854775808
theorem wf_i64 {n : Int} (h : (Lit.int .i64 n).wf = true) : inI64 n := by
  have e1 : IntKind.i64.min = -9223372036854775808 := by decide
  have e2 : IntKind.i64.max = 9223372036854775807 := by decide
  simp only [Lit.wf, Bool.and_eq_true, decide_eq_true_eq, e1, e2] at h
  exact ⟨h.1, by omega⟩
/-- A slice of structs of a string and an int, as it comes in. -/
theorem rep_pairs {W : World} {t e : TypeId} {f0 f1 : Field} {v : Value} {d : DataW H} {p : List MemPlace} {r : Reach} {b0 : Nat} (hp : P.underlying t = some (.slice e)) (he : P.underlying e = some (.struct #[f0, f1]))
    (ce : P.cellsOf e = 2) (o0 : f0.offset = 0) (o1 : f1.offset = 1) (c0 : P.cellsOf f0.type = 1) (c1 : P.cellsOf f1.type = 1) (t0 : P.underlying f0.type = some .string) (t1 : P.underlying f1.type = some (.int .i64))
    (hv : Value.okWide P W r b0 t v) (h : DataW.Trod enc P W 0 (fun _ => true) true t v d p) :
    ∃ ps : List (List UInt8 × Int), (∀ x ∈ ps, inI64 x.2) ∧ Rep (G0 W) (.sl .ro (ps.map fun p => [vs p.1, vi .i64 p.2])) v := by
  obtain ⟨av, len', cap', rfl⟩ := okWide_slice hp hv
  obtain ⟨fuel, hf⟩ := h
  rcases Go.Deep.open_slice_pairs hp he ce o0 o1 c0 c1 hf with ⟨hcs, _⟩ | ⟨a, len, cap, m, n, V0, V1, D0, D1, P0, P1, hcs, _, hle, _, hm, _, hi⟩
  · refine ⟨[], by simp, ?_⟩
    have : (Value.slice av len' cap') = .slice none 0 0 := by simpa [Value.cells] using hcs
    rw [this]
    exact rep_ro rep_nil
  · have : (Value.slice av len' cap') = .slice (some a) len cap := by simpa [Value.cells] using hcs
    rw [this]
    have hlm : len ≤ m := by rw [hm]; split <;> omega
    have each : ∀ i, i < len → ∃ q : List UInt8 × Int, V0 i = .string ⟨q.1.toArray⟩ ∧ V1 i = .int .i64 q.2 ∧ inI64 q.2 := fun i hlt => by
      obtain ⟨_, _, h0, h1⟩ := hi i (by omega)
      obtain ⟨s, e0, _, _⟩ := DataW.trod_string t0 h0
      obtain ⟨k, e1, _, hw⟩ := DataW.trod_int t1 h1
      refine ⟨(s.data.toList, k), ?_, ?_, wf_i64 hw⟩
      · simp only [List.cons.injEq, and_true] at e0
        rw [e0]
      · simpa using e1
    let q : Nat → List UInt8 × Int := fun i => if h : i < len then Classical.choose (each i h) else ([], 0)
    have hq : ∀ i, i < len → V0 i = .string ⟨(q i).1.toArray⟩ ∧ V1 i = .int .i64 (q i).2 ∧ inI64 (q i).2 := fun i h => by
      simp only [q, dif_pos h]
      exact Classical.choose_spec (each i h)
    refine ⟨(List.range len).map q, fun x hx => ?_, ?_⟩
    · obtain ⟨i, hi', rfl⟩ := List.mem_map.1 hx
      exact (hq i (List.mem_range.1 hi')).2.2
    · have hl : (((List.range len).map q).map fun p => [vs p.1, vi .i64 p.2]).length = len := by simp
      have hrow : ∀ (i : Nat) (r : List AV), (((List.range len).map q).map fun p => [vs p.1, vi .i64 p.2])[i]? = some r → i < len ∧ r = [vs (q i).1, vi .i64 (q i).2] := fun i r h => by
        have hlt : i < len := by have := (List.getElem?_eq_some_iff.1 h).1; simpa using this
        refine ⟨hlt, ?_⟩
        simp [hlt] at h
        exact h.symm
      have hsp : ∀ i, i < len → a.spot = none := fun i hlt => by
        obtain ⟨h0, _⟩ := hi 0 (by omega)
        unfold World.cell? at h0
        split at h0
        · simp only [Nat.zero_mul, Addr.add, if_true] at h0
          cases e : a.spot with
          | none => rfl
          | some k => rw [e] at h0; simp at h0
        · cases h0
      have := Rep.sl (G := G0 W) (o := .ro) (rows := ((List.range len).map q).map fun p => [vs p.1, vi .i64 p.2]) (a := some a) (c := cap) 2 (fun i j => if j = 0 then V0 i else V1 i) trivial (by rw [hl]; exact hle) ?_ ?_ ?_
      · rw [hl] at this; exact this
      · intro i r h; rw [(hrow i r h).2]; rfl
      · intro i r j x h hx
        obtain ⟨hlt, rfl⟩ := hrow i r h
        obtain ⟨g0, g1, _, _⟩ := hi i (by omega)
        have hs := hsp i hlt
        obtain ⟨ab, ao, asp⟩ := a
        simp only at hs
        subst hs
        refine ⟨ab, ao, rfl, ?_⟩
        rw [Addr.add_plain] at g0 g1
        match j, hx with
        | 0, _ => exact g0
        | 1, _ => exact g1
        | j + 2, hx => simp at hx
      · intro i r j x h hx
        obtain ⟨hlt, rfl⟩ := hrow i r h
        obtain ⟨e0, e1, _⟩ := hq i hlt
        match j, hx with
        | 0, hx =>
          simp only [List.getElem?_cons_zero, Option.some.injEq] at hx
          subst hx
          simp only [if_true, e0]
          exact .v _
        | 1, hx =>
          simp only [List.getElem?_cons_succ, List.getElem?_cons_zero, Option.some.injEq] at hx
          subst hx
          simp only [Nat.one_ne_zero, if_false, e1]
          exact .v _
        | j + 2, hx => simp at hx
end
end Go.AL
