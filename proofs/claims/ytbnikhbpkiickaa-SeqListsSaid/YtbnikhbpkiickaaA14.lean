/- A-logic, part 14: words for memory: rows that encode lists, owners, iterators. -/
import Derived.Test.YtbnikhbpkiickaaA13
set_option linter.unusedSimpArgs false
set_option linter.unusedVariables false
namespace Go.AL
open Go.RowKit

theorem AWP.seqk {P : Program} {ρ : Option Nat} {N : Nat} {x y : Code} {Q : Exit → Fr → Store → Prop} {T : Fr} {σ : Store}
    (h : ∀ next : Fr → Store → Prop, (∀ T σ, AWP P ρ N y Q T σ → next T σ) → AWP P ρ N x (AThen next Q) T σ) : AWP P ρ N (.seq x y) Q T σ :=
  AWP.seq (h _ fun _ _ h => h)

section words
variable {P : Program} {t e : TypeId} {s : Nat} {o : Owner} {rows : List (List AV)} {σ σ0 : Store} {α : Type} {enc : α → List AV} {xs ys : List α}
theorem ldp_box {l off : Nat} {Tb : TypeId} {cells : List AV} (h : σ l = some (.box Tb cells)) : ldp P t (.v (.pointer (some ⟨l, off, none⟩))) σ = ldc P t (cells.drop off) := by simp [ldp, h]
theorem ldp_el {row : List AV} {off : Nat} : ldp P t (.el row off) σ = ldc P t (row.drop off) := rfl
theorem ldc_agg {n : Nat} {cs : List AV} (h : szAgg P t = some (n, true)) (hn : cs.length = n) : ldc P t cs = some (.agg cs) := by subst hn; simp [ldc, h]
theorem ldc_aggT {n : Nat} {cs : List AV} (h : szAgg P t = some (n, true)) (hn : n ≤ cs.length) : ldc P t cs = some (.agg (cs.take n)) := by simp [ldc, h, hn]
theorem ldc_one {n : Nat} {c : AV} {cs : List AV} (h : szAgg P t = some (n, false)) : ldc P t (c :: cs) = some c := by simp [ldc, h]
theorem iad_map {k : IntKind} {i : Nat} (hu : P.underlying t = some (.slice e)) (he : szOf P e = some s) (h0 : 0 < s) (hlen : ∀ x, (enc x).length = s) (hi : i < xs.length) :
    iad P t (.sl o (xs.map enc)) (vi k (i : Int)) = some (.el (enc xs[i]) 0) := by
  have h1 : (0 : Int) ≤ (i : Int) := Int.natCast_nonneg _
  simp [iad, hu, he, hlen, h0, hi]
theorem len_sl {ats : Array TypeId} {ty : TypeId} {cs : Array Bool} (ha : (ats[0]?).bind P.underlying = some (.slice e)) : blt P .len ats ty cs [.sl o (xs.map enc)] σ = some (vi .i64 xs.length) := by simp [blt, ha]

/-! ### Owners -/
structure Owned (e : TypeId) (s : Nat) (σ0 : Store) (o : Owner) (n : Nat) (σ : Store) : Prop where
  ok : OwnerOk σ0 o n
  eq : σ = σ0.give e s o n
theorem Owned.nil : Owned e s σ .nil 0 σ := ⟨rfl, rfl⟩
theorem Owned.tight {n : Nat} : Owned e s σ .tight n σ := ⟨trivial, rfl⟩
theorem Owned.drop {n : Nat} (h : Owned e s σ0 o n σ) : σ.drop o = σ0 := by
  obtain ⟨h1, rfl⟩ := h
  cases o with
  | own g =>
    funext l
    simp only [Store.drop, Store.give, Store.del, Store.set]
    split
    · rename_i e; subst e; exact h1.symm
    · rfl
  | _ => rfl
theorem Owned.app {n : Nat} (h : Owned e s σ0 o n σ) : Appendable e s σ o n := by
  obtain ⟨h1, rfl⟩ := h
  cases o with
  | own g => simp [Appendable, Store.give, Store.set]
  | nil => exact h1
  | tight => trivial
  | ro => exact h1.elim
theorem Owned.sub {n : Nat} (h : Owned e s σ0 o n σ) : ∀ l c, σ0 l = some c → σ l = some c := by
  obtain ⟨h1, rfl⟩ := h
  intro l c hl
  cases o with
  | own g =>
    simp only [Store.give, Store.set]
    rw [if_neg]
    · exact hl
    · rintro rfl
      have : σ0 l = none := h1
      rw [this] at hl; cases hl
  | _ => exact hl
theorem Owned.set {n l : Nat} {c c' : Cell} (h : Owned e s (σ0.set l c) o n σ) : Owned e s (σ0.set l c') o n (σ.set l c') := by
  obtain ⟨h1, rfl⟩ := h
  cases o with
  | own g =>
    have hg : (σ0.set l c) g = none := h1
    have hne : g ≠ l := by
      rintro rfl
      simp [Store.set] at hg
    refine ⟨?_, ?_⟩
    · show (σ0.set l c') g = none
      simp only [Store.set] at hg ⊢
      rw [if_neg hne] at hg ⊢
      exact hg
    · funext k
      simp only [Store.give, Store.set]
      by_cases h2 : k = l
      · subst h2; rw [if_pos rfl, if_neg (Ne.symm hne), if_pos rfl]
      · rw [if_neg h2]
        by_cases h3 : k = g
        · rw [if_pos h3, if_pos h3]
        · rw [if_neg h3, if_neg h3, if_neg h2, if_neg h2]
  | nil => exact ⟨h1, by funext k; simp only [Store.give, Store.set]; split <;> rfl⟩
  | tight => exact ⟨trivial, by funext k; simp only [Store.give, Store.set]; split <;> rfl⟩
  | ro => exact h1.elim

/-- What is asked of an element's type, for appending. -/
structure ElemT (P : Program) (t e : TypeId) (s : Nat) : Prop where
  under : P.underlying t = some (.slice e)
  size : szOf P e = some s
  pos : 0 < s
  info : ∃ i z, P.info? e = some i ∧ i.zero = some z ∧ i.size = s ∧ z.cells.size = s ∧ i.bytes ≤ 128
def elemT (P : Program) (t e : TypeId) (s : Nat) : Bool :=
  (match P.underlying t with | some (.slice e') => e' == e | _ => false) && 0 < s &&
  match P.info? e with | some i => i.size == s && decide (i.bytes ≤ 128) && (match i.zero with | some z => z.cells.size == s | none => false) | none => false
theorem elemT_spec (h : elemT P t e s = true) : ElemT P t e s := by
  unfold elemT at h
  simp only [Bool.and_eq_true, decide_eq_true_eq] at h
  obtain ⟨⟨h1, h2⟩, h3⟩ := h
  split at h1
  · rename_i e' hu
    have : e' = e := by simpa using h1
    subst this
    split at h3
    · rename_i i hi
      simp only [Bool.and_eq_true, beq_iff_eq, decide_eq_true_eq] at h3
      obtain ⟨⟨h4, h5⟩, h6⟩ := h3
      split at h6
      · rename_i z hz
        exact ⟨hu, by simp [szOf, hi, h4], h2, i, z, hi, hz, h4, by simpa using h6, h5⟩
      · cases h6
    · cases h3
  · cases h1
theorem append_map {R : AV → Store → Prop} {oy : Owner} (ht : ElemT P t e s) (hlen : ∀ x, (enc x).length = s) (hone : ∀ x, (enc x).all AV.one = true) (hb : xs.length + ys.length ≤ 1099511627776) (ho : Owned e s σ0 o xs.length σ)
    (h : ∀ o' σ', Owned e s σ0 o' (xs ++ ys).length σ' → R (.sl o' ((xs ++ ys).map enc)) σ') : vcAppend P t t (.sl o (xs.map enc)) (.sl oy (ys.map enc)) σ R := by
  obtain ⟨i, z, h1, h2, h3, h4, h5⟩ := ht.info
  have hl : (xs.map enc).length = xs.length := by simp
  simp only [vcAppend, ht.under, srcRows]
  refine ⟨by simp [slOrStr, ht.under], i, z, s, h1, h2, h3, h4, ht.pos, ?_, ?_, ?_, ?_, by simp; omega, by rw [hl]; exact ho.app, fun o' ho' => ?_⟩
  · simp [rowsSz, hlen]
  · simp [rowsSz, hlen]
  · simp only [rowsOne, List.all_map, List.all_eq_true]
    intro x _
    exact hone x
  · simp only [List.length_map]
    calc (xs.length + ys.length) * i.bytes ≤ 1099511627776 * 128 := Nat.mul_le_mul hb h5
      _ ≤ 140737488355328 := by decide
  · rw [← List.map_append] at ho' ⊢
    rw [ho.drop] at ho' ⊢
    simp only [List.length_map] at ho' ⊢
    exact h o' _ ⟨ho', rfl⟩
end words

/-! ### Joins -/
theorem join_set {σ τ : Store} {l : Nat} {c : Cell} : (σ.join τ).set l c = σ.join (τ.set l c) := by
  funext k
  simp only [Store.join, Store.set]
  by_cases h : k = l
  · simp [h]
  · simp [h]
theorem Apart.set {σ τ : Store} (h : Apart σ τ) {l : Nat} {c : Cell} (hl : (σ.join τ) l = none) : Apart σ (τ.set l c) := by
  intro k c' hk
  simp only [Store.set] at hk
  split at hk
  · rename_i e; subst e
    simp only [Store.join] at hl
    split at hl
    · cases hl
    · exact hl
  · exact h k c' hk
theorem join_right {σ τ : Store} {l : Nat} {c : Cell} (h : τ l = some c) : (σ.join τ) l = some c := by simp [Store.join, h]
theorem join_sub {σ τ τ' : Store} (h : ∀ l c, τ' l = some c → τ l = some c) (ha : Apart σ τ) : ∀ l c, (σ.join τ') l = some c → (σ.join τ) l = some c := by
  intro l c hl
  simp only [Store.join] at hl ⊢
  cases e : τ' l with
  | some c' => rw [e] at hl; rw [h l c' e]; exact hl
  | none =>
    rw [e] at hl
    cases e2 : τ l with
    | none => exact hl
    | some c2 => rw [ha l c2 e2] at hl; cases hl

theorem callv_frame {P : Program} {fv : AV} {args : List AV} {σ τ : Store} {R : AV → Store → Prop} (h : ACallV P fv args σ R) (ha : Apart σ τ) : ACallV P fv args (σ.join τ) (FrameR τ R) := by
  unfold ACallV at *
  split at h
  · exact h.imp (fun k => k.frame ha) fun ⟨vs, v, a, b, c⟩ => ⟨vs, v, a, b, σ, c, ha, rfl⟩
  · exact h.frame ha
  · exact h

theorem join_assoc {σ β τ : Store} : σ.join (β.join τ) = (σ.join β).join τ := by
  funext l
  simp only [Store.join]
  cases τ l <;> rfl
theorem join_set_left {σ τ : Store} {l : Nat} {c : Cell} (h : τ l = none) : (σ.join τ).set l c = (σ.set l c).join τ := by
  funext k
  simp only [Store.join, Store.set]
  by_cases e : k = l
  · subst e; simp [h]
  · simp [e]
theorem join_none {σ τ : Store} {l : Nat} (h : (σ.join τ) l = none) : σ l = none ∧ τ l = none := by
  simp only [Store.join] at h
  cases e : τ l with
  | some c => rw [e] at h; cases h
  | none => rw [e] at h; exact ⟨h, rfl⟩
theorem Apart.join {σ β τ : Store} : Apart σ (β.join τ) ↔ Apart σ β ∧ Apart σ τ := by
  constructor
  · intro h
    refine ⟨fun l c e => ?_, fun l c e => h l c (join_right e)⟩
    cases e2 : τ l with
    | some c2 => exact h l c2 (join_right e2)
    | none => exact h l c (by simp [Store.join, e2, e])
  · rintro ⟨h1, h2⟩ l c e
    simp only [Store.join] at e
    split at e
    · rename_i c2 e2; exact h2 l c2 e2
    · exact h1 l c e
theorem Apart.left {σ β τ : Store} (h1 : Apart σ τ) (h2 : Apart β τ) : Apart (σ.join β) τ := by
  intro l c e
  simp only [Store.join, h2 l c e, h1 l c e]
theorem Apart.setL {σ τ : Store} {l : Nat} {c : Cell} (h : Apart σ τ) (hl : τ l = none) : Apart (σ.set l c) τ := by
  intro k c' e
  simp only [Store.set]
  rw [if_neg (by rintro rfl; rw [hl] at e; cases e)]
  exact h k c' e
theorem set_none {σ : Store} {l k : Nat} {c : Cell} (h : (σ.set l c) k = none) : k ≠ l ∧ σ k = none := by
  simp only [Store.set] at h
  split at h
  · cases h
  · rename_i e; exact ⟨e, h⟩
/-- The same cells, perhaps with other contents. -/
def Dom (τ τ' : Store) : Prop := ∀ l, τ l = none ↔ τ' l = none
theorem Apart.dom {σ τ τ' : Store} (h : Apart σ τ) (hd : Dom τ τ') : Apart σ τ' := by
  intro l c e
  cases e2 : τ l with
  | some c2 => exact h l c2 e2
  | none => rw [(hd l).1 e2] at e; cases e

/-- A function value that runs through a list: each entry is what yield is called with. Its own cells: at the call τ0; where yield is called for the k-th time τ k; behind the last entry τe. -/
def Iter (P : Program) (fv : AV) (τ0 : Store) (τ : Nat → Store) (τe : Store) (xs : List (List AV)) : Prop :=
  ∃ g first caps, fv = .v (.func (.func g) first caps) ∧ ∀ (fn : Fn) (ya yb : Array Value) (J S : Nat → Store → Prop),
    (∀ k x σ, xs[k]? = some x → J k σ → ACallV P (.v (.func fn ya yb)) x σ fun r σ' => (r = vb true ∧ J (k + 1) σ') ∨ (r = vb false ∧ S k σ')) →
    ∀ σ, J 0 σ → Apart σ τ0 → ACalls P g (first.toList.map .v ++ [.v (.func fn ya yb)] ++ caps.toList.map .v) (σ.join τ0)
      fun _ σ' => FrameR τe (fun _ σ1 => J xs.length σ1) (vb true) σ' ∨ ∃ k, k < xs.length ∧ FrameR (τ k) (fun _ σ1 => S k σ1) (vb true) σ'
end Go.AL
