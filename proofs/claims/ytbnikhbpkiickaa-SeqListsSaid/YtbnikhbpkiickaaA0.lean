/- A-logic, part 0: abstract values, the relation between abstract and concrete states. Over any program. -/
import Derived.RangeFuncLeaves
import Derived.RangeFuncIn
import Derived.OrdersIn
import Derived.TacticsIn
import Derived.Below
import Derived.WalkKit
import Derived.KernelRfl
set_option linter.unusedSimpArgs false
set_option linter.unusedVariables false
namespace Go.AL
open Go.RowKit

/-- Who owns the row behind a slice. -/
inductive Owner where
  | nil | ro | tight | own (g : Nat)

/-- Abstract values. -/
inductive AV where
  | v (x : Value)
  | sl (o : Owner) (rows : List (List AV))
  | el (row : List AV) (off : Nat)
  | agg (cells : List AV)
  | tup (vs : List AV)
  | junk

def AV.cells : AV → List AV
  | .agg cs => cs
  | x => [x]

/-- What is known for good: cells that never change, capacities of owned rows. -/
structure Gh where
  imm : Nat → Nat → Option Value
  cap : Nat → Option Nat

structure Gh.le (G G' : Gh) : Prop where
  imm : ∀ b o v, G.imm b o = some v → G'.imm b o = some v
  cap : ∀ b c, G.cap b = some c → G'.cap b = some c
theorem Gh.le_refl (G : Gh) : G.le G := ⟨fun _ _ _ h => h, fun _ _ h => h⟩
theorem Gh.le_trans {G G' G'' : Gh} (h : G.le G') (k : G'.le G'') : G.le G'' := ⟨fun _ _ _ x => k.imm _ _ _ (h.imm _ _ _ x), fun _ _ x => k.cap _ _ (h.cap _ _ x)⟩

def OwnerAt (G : Gh) : Owner → Option Addr → Nat → Nat → Prop
  | .nil, a, _, c => a = none ∧ c = 0
  | .ro, _, _, _ => True
  | .tight, _, n, c => c = n
  | .own g, a, _, c => a = some ⟨g, 0, none⟩ ∧ G.cap g = some c
theorem OwnerAt.mono {G G' : Gh} (h : G.le G') {o : Owner} {a : Option Addr} {n c : Nat} (k : OwnerAt G o a n c) : OwnerAt G' o a n c := by
  cases o with
  | nil => exact k
  | ro => trivial
  | tight => exact k
  | own g => exact ⟨k.1, h.cap _ _ k.2⟩

inductive Rep (G : Gh) : AV → Value → Prop where
  | v (x : Value) : Rep G (.v x) x
  | junk (x : Value) : Rep G .junk x
  | sl {o : Owner} {rows : List (List AV)} {a : Option Addr} {c : Nat} (sz : Nat) (cs : Nat → Nat → Value) (ho : OwnerAt G o a rows.length c) (hc : rows.length ≤ c)
      (hsz : ∀ (i : Nat) (r : List AV), rows[i]? = some r → r.length = sz)
      (hcell : ∀ (i : Nat) (r : List AV) (j : Nat) (x : AV), rows[i]? = some r → r[j]? = some x → ∃ b off, a = some ⟨b, off, none⟩ ∧ G.imm b (off + i * sz + j) = some (cs i j))
      (hrep : ∀ (i : Nat) (r : List AV) (j : Nat) (x : AV), rows[i]? = some r → r[j]? = some x → Rep G x (cs i j)) : Rep G (.sl o rows) (.slice a rows.length c)
  | el {row : List AV} {off b bo : Nat} (cs : Nat → Value)
      (hcell : ∀ (j : Nat) (x : AV), row[j]? = some x → G.imm b (bo + j) = some (cs j))
      (hrep : ∀ (j : Nat) (x : AV), row[j]? = some x → Rep G x (cs j)) : Rep G (.el row off) (.pointer (some ⟨b, bo + off, none⟩))
  | agg {cells : List AV} {cs : List Value} (hl : cs.length = cells.length)
      (hrep : ∀ (j : Nat) (x : AV) (y : Value), cells[j]? = some x → cs[j]? = some y → Rep G x y) : Rep G (.agg cells) (.agg cs.toArray)
  | tup {cells : List AV} {cs : List Value} (hl : cs.length = cells.length)
      (hrep : ∀ (j : Nat) (x : AV) (y : Value), cells[j]? = some x → cs[j]? = some y → Rep G x y) : Rep G (.tup cells) (.tuple cs.toArray)

theorem Rep.mono {G G' : Gh} (h : G.le G') {x : AV} {y : Value} (k : Rep G x y) : Rep G' x y := by
  induction k with
  | v => exact .v _
  | junk => exact .junk _
  | sl sz cs ho hc hsz hcell _ ih => exact .sl sz cs (ho.mono h) hc hsz (fun i r j x h1 h2 => let ⟨b, off, e, hh⟩ := hcell i r j x h1 h2; ⟨b, off, e, h.imm _ _ _ hh⟩) ih
  | el cs hcell _ ih => exact .el cs (fun j x hj => h.imm _ _ _ (hcell j x hj)) ih
  | agg hl _ ih => exact .agg hl ih
  | tup hl _ ih => exact .tup hl ih

/-- Lists, cell by cell. -/
def RepL (G : Gh) (xs : List AV) (ys : List Value) : Prop := ys.length = xs.length ∧ ∀ (j : Nat) (x : AV) (y : Value), xs[j]? = some x → ys[j]? = some y → Rep G x y
theorem RepL.mono {G G' : Gh} (h : G.le G') {xs : List AV} {ys : List Value} (k : RepL G xs ys) : RepL G' xs ys := ⟨k.1, fun j x y a b => (k.2 j x y a b).mono h⟩
theorem RepL.nil {G : Gh} : RepL G [] [] := ⟨rfl, fun j x y h => by simp at h⟩
theorem RepL.cons {G : Gh} {x : AV} {y : Value} {xs : List AV} {ys : List Value} (h : Rep G x y) (k : RepL G xs ys) : RepL G (x :: xs) (y :: ys) := by
  refine ⟨by simp [k.1], fun j a b ha hb => ?_⟩
  cases j with
  | zero => simp at ha hb; subst ha; subst hb; exact h
  | succ j => exact k.2 j a b (by simpa using ha) (by simpa using hb)
theorem RepL.one {G : Gh} {x : AV} {y : Value} (h : Rep G x y) : RepL G [x] [y] := .cons h .nil
theorem RepL.head {G : Gh} {x : AV} {xs : List AV} {ys : List Value} (k : RepL G (x :: xs) ys) : ∃ y ys', ys = y :: ys' ∧ Rep G x y ∧ RepL G xs ys' := by
  obtain ⟨hl, h⟩ := k
  cases ys with
  | nil => simp at hl
  | cons y ys' =>
    exact ⟨y, ys', rfl, h 0 x y rfl rfl, ⟨by simpa using hl, fun j a b ha hb => h (j + 1) a b (by simpa using ha) (by simpa using hb)⟩⟩
theorem RepL.nil_inv {G : Gh} {ys : List Value} (k : RepL G [] ys) : ys = [] := List.eq_nil_of_length_eq_zero (by simpa using k.1)
theorem RepL.at {G : Gh} {xs : List AV} {ys : List Value} (k : RepL G xs ys) {j : Nat} {x : AV} (h : xs[j]? = some x) : ∃ y, ys[j]? = some y ∧ Rep G x y := by
  have hj : j < ys.length := by rw [k.1]; exact (List.getElem?_eq_some_iff.1 h).1
  exact ⟨ys[j], List.getElem?_eq_getElem hj, k.2 j x _ h (List.getElem?_eq_getElem hj)⟩
theorem RepL.app {G : Gh} {xs xs' : List AV} {ys ys' : List Value} (h : RepL G xs ys) (k : RepL G xs' ys') : RepL G (xs ++ xs') (ys ++ ys') := by
  refine ⟨by simp [h.1, k.1], fun j x y hx hy => ?_⟩
  rw [List.getElem?_append] at hx hy
  rw [h.1] at hy
  split at hx
  · rename_i hlt; rw [if_pos hlt] at hy; exact h.2 j x y hx hy
  · rename_i hlt; rw [if_neg hlt] at hy; exact k.2 _ x y hx hy
theorem RepL.drop {G : Gh} {xs : List AV} {ys : List Value} (h : RepL G xs ys) (n : Nat) : RepL G (xs.drop n) (ys.drop n) :=
  ⟨by simp [h.1], fun j x y hx hy => h.2 (n + j) x y (by simpa using hx) (by simpa using hy)⟩
theorem RepL.take {G : Gh} {xs : List AV} {ys : List Value} (h : RepL G xs ys) (n : Nat) : RepL G (xs.take n) (ys.take n) := by
  refine ⟨by simp [h.1], fun j x y hx hy => ?_⟩
  rw [List.getElem?_take] at hx hy
  split at hx
  · rename_i hlt; rw [if_pos hlt] at hy; exact h.2 j x y hx hy
  · cases hx
theorem RepL.set {G : Gh} {xs : List AV} {ys : List Value} (h : RepL G xs ys) (n : Nat) {x : AV} {y : Value} (hx : Rep G x y) : RepL G (xs.set n x) (ys.set n y) := by
  refine ⟨by simp [h.1], fun j a b ha hb => ?_⟩
  rw [List.getElem?_set] at ha hb
  split at ha
  · rename_i hj
    rw [if_pos hj] at hb
    split at ha
    · rw [if_pos (by rw [h.1]; assumption)] at hb
      cases ha; cases hb; exact hx
    · cases ha
  · rename_i hj
    rw [if_neg hj] at hb
    exact h.2 j a b ha hb
theorem Rep.cells {G : Gh} {x : AV} {y : Value} (h : Rep G x y) (hj : x ≠ .junk) (hv : ∀ z, x = .v z → z.cells = #[z]) : RepL G x.cells y.cells.toList := by
  cases h with
  | v => rw [hv _ rfl]; exact .one (.v _)
  | junk => exact absurd rfl hj
  | sl sz cs ho hc hsz hcell hrep => exact .one (.sl sz cs ho hc hsz hcell hrep)
  | el cs hcell hrep => exact .one (.el cs hcell hrep)
  | agg hl hrep => exact ⟨by simpa [AV.cells, Value.cells] using hl, fun j x y ha hb => hrep j x y ha (by simpa [Value.cells] using hb)⟩
  | tup hl hrep => exact .one (.tup hl hrep)

/-- Frames of temporaries. -/
abbrev Fr := Nat → AV
def upd (T : Fr) (d : Nat) (x : AV) : Fr := fun i => if i = d then x else T i
def putT (T : Fr) : Option Nat → AV → Fr
  | none, _ => T
  | some d, x => upd T d x
structure RepT (G : Gh) (N : Nat) (T : Fr) (tmps : Array Value) : Prop where
  size : tmps.size = N
  rep : ∀ i, i < N → Rep G (T i) (tmps.getD i undef)
theorem RepT.mono {G G' : Gh} (h : G.le G') {N : Nat} {T : Fr} {tmps : Array Value} (k : RepT G N T tmps) : RepT G' N T tmps := ⟨k.size, fun i hi => (k.rep i hi).mono h⟩
theorem RepT.upd {G : Gh} {N : Nat} {T : Fr} {tmps : Array Value} (k : RepT G N T tmps) (d : Nat) {x : AV} {y : Value} (h : Rep G x y) : RepT G N (upd T d x) (tmps.setIfInBounds d y) := by
  refine ⟨by simp [k.size], fun i hi => ?_⟩
  have hs := k.size
  unfold AL.upd
  by_cases e : i = d
  · subst e; simp [hs, hi, h]
  · rw [if_neg e]
    have := k.rep i hi
    simp only [Array.getD_eq_getD_getElem?] at this ⊢
    rw [Array.getElem?_setIfInBounds_ne (by omega)]
    exact this

/-- Cells of the abstract store: what the call itself has made, by block number. -/
inductive Cell where
  | box (T : TypeId) (cells : List AV)
  | tip (E : TypeId) (sz n : Nat)
  | map (es : List (Value × AV × Nat)) (clock : Nat)
  | loop (N : Nat) (T : Fr) (ps : Array Tmp) (assign body : Code) (st : LoopState) (jump : Option Code)
abbrev Store := Nat → Option Cell
def Store.set (σ : Store) (l : Nat) (c : Cell) : Store := fun k => if k = l then some c else σ k
def Store.del (σ : Store) (l : Nat) : Store := fun k => if k = l then none else σ k

def Holds (G : Gh) (w : World) (l : Nat) : Cell → Prop
  | .box T cells => ∃ cs : List Value, w.heap[l]? = some (.cells cs.toArray T (0, 0)) ∧ RepL G cells cs ∧ ∀ o, G.imm l o = none
  | .tip E sz n => ∃ (cur : Array Value) (cap lo hi : Nat), w.heap[l]? = some (.cells cur E (lo, hi)) ∧ G.cap l = some cap ∧ cur.size = cap * sz ∧ n ≤ cap ∧ cap ≤ maxLen ∧ (∀ o, n * sz ≤ o → o < cur.size → (lo ≤ o && o < hi) = false) ∧ ∀ o, n * sz ≤ o → G.imm l o = none
  | .map es clock => ∃ ents : Array MapEntry, w.heap[l]? = some (.map ents clock) ∧ ents.size = es.length ∧
      ∀ (j : Nat) (k : Value) (x : AV) (born : Nat) (e : MapEntry), es[j]? = some (k, x, born) → ents[j]? = some e → e.key = k ∧ e.born = born ∧ Rep G x e.val
  | .loop N T ps assign body st jump => ∃ (fn : FuncId) (tmps : Array Value) (df : Nat), w.heap[l]? = some (.loop ⟨st, jump, fn, tmps, ps, assign, body, df⟩) ∧ RepT G N T tmps

theorem Holds.mono {G G' : Gh} {w w' : World} {l : Nat} {c : Cell} (h : Holds G w l c) (hG : G.le G') (hi : ∀ o, G.imm l o = none → G'.imm l o = none) (hw : w'.heap[l]? = w.heap[l]?) : Holds G' w' l c := by
  cases c with
  | box T cells => obtain ⟨cs, h1, h2, h3⟩ := h; exact ⟨cs, hw.trans h1, h2.mono hG, fun o => hi o (h3 o)⟩
  | tip E sz n => obtain ⟨cur, cap, lo, hi', h1, h2, h3, h4, h5, h6, h7⟩ := h; exact ⟨cur, cap, lo, hi', hw.trans h1, hG.cap _ _ h2, h3, h4, h5, h6, fun o ho => hi o (h7 o ho)⟩
  | map es clock => obtain ⟨ents, h1, h2, h3⟩ := h; exact ⟨ents, hw.trans h1, h2, fun j k x born e a b => let ⟨p, q, r⟩ := h3 j k x born e a b; ⟨p, q, r.mono hG⟩⟩
  | loop N T ps assign body st jump => obtain ⟨fn, tmps, df, h1, h2⟩ := h; exact ⟨fn, tmps, df, hw.trans h1, h2.mono hG⟩

/-- The frame: blocks that others hold; they stay just as they are. -/
abbrev Frm := Nat → Option (Obj × (Nat → Option Value))
def mark (r : Nat) : Deferred := { target := .collected r, args := #[] }

structure St (B : Nat) (w0 : World) (Φ : Frm) (D : List Nat) (G : Gh) (σ : Store) (w : World) : Prop where
  below : Below B w0 w
  le : B ≤ w.heap.size
  imm : ∀ b o v, G.imm b o = some v → w.cell? ⟨b, o, none⟩ = some v
  cap : ∀ b c, G.cap b = some c → b < w.heap.size
  own : ∀ l c, σ l = some c → B ≤ l ∧ Holds G w l c
  frame : ∀ l p, Φ l = some p → σ l = none ∧ w.heap[l]? = some p.1 ∧ G.imm l = p.2
  nodup : D.Nodup
  marks : ∀ r, r ∈ D → B ≤ r ∧ σ r = none ∧ Φ r = none ∧ w.heap[r]? = some (.deferred (some []))

theorem Holds.lt {G : Gh} {w : World} {l : Nat} {c : Cell} (h : Holds G w l c) : l < w.heap.size := by
  have key : ∀ {o : Obj}, w.heap[l]? = some o → l < w.heap.size := fun h => (Array.getElem?_eq_some_iff.1 h).1
  cases c with
  | box T cells => obtain ⟨cs, h1, _⟩ := h; exact key h1
  | tip E sz n => obtain ⟨cur, cap, lo, hi, h1, _⟩ := h; exact key h1
  | map es clock => obtain ⟨ents, h1, _⟩ := h; exact key h1
  | loop N T ps assign body st jump => obtain ⟨fn, tmps, df, h1, _⟩ := h; exact key h1

section
variable {B : Nat} {w0 : World} {Φ : Frm} {D : List Nat} {G : Gh} {σ : Store} {w : World}
theorem St.lt (h : St B w0 Φ D G σ w) {l : Nat} {c : Cell} (hl : σ l = some c) : l < w.heap.size := (h.own l c hl).2.lt
theorem St.fresh (h : St B w0 Φ D G σ w) : σ w.heap.size = none := by
  cases e : σ w.heap.size with
  | none => rfl
  | some c => exact absurd (h.lt e) (Nat.lt_irrefl _)
theorem St.freshΦ (h : St B w0 Φ D G σ w) : Φ w.heap.size = none := by
  cases e : Φ w.heap.size with
  | none => rfl
  | some c => exact absurd (Array.getElem?_eq_some_iff.1 (h.frame _ _ e).2.1).1 (Nat.lt_irrefl _)
theorem St.immlt (h : St B w0 Φ D G σ w) {b o : Nat} {v : Value} (hi : G.imm b o = some v) : b < w.heap.size := World.block_lt_of_cell? w ⟨b, o, none⟩ (h.imm _ _ _ hi)
theorem St.imm_new (h : St B w0 Φ D G σ w) (o : Nat) : G.imm w.heap.size o = none := by
  cases e : G.imm w.heap.size o with
  | none => rfl
  | some c => exact absurd (h.immlt e) (Nat.lt_irrefl _)
theorem St.cap_new (h : St B w0 Φ D G σ w) : G.cap w.heap.size = none := by
  cases e : G.cap w.heap.size with
  | none => rfl
  | some c => exact absurd (h.cap _ _ e) (Nat.lt_irrefl _)

/-- One may forget cells. -/
theorem St.weaken (h : St B w0 Φ D G σ w) {σ' : Store} (hs : ∀ l c, σ' l = some c → σ l = some c) : St B w0 Φ D G σ' w := by
  have hn : ∀ l, σ l = none → σ' l = none := fun l e => by
    cases e' : σ' l with
    | none => rfl
    | some c => rw [hs l c e'] at e; cases e
  exact ⟨h.below, h.le, h.imm, h.cap, fun l c e => h.own l c (hs l c e), fun l o e => ⟨hn l (h.frame l o e).1, (h.frame l o e).2⟩, h.nodup,
    fun r hr => let ⟨a, b, c, d⟩ := h.marks r hr; ⟨a, hn r b, c, d⟩⟩

theorem St.drew (h : St B w0 Φ D G σ w) : St B w0 Φ D G σ w.drew :=
  ⟨h.below.drew, h.le, h.imm, h.cap, fun l c e => let ⟨a, b⟩ := h.own l c e; ⟨a, b.mono (Gh.le_refl _) (fun _ x => x) rfl⟩, h.frame, h.nodup, h.marks⟩

theorem cell?_of_heap {w w' : World} {b o : Nat} (h : w'.heap[b]? = w.heap[b]?) : w'.cell? ⟨b, o, none⟩ = w.cell? ⟨b, o, none⟩ := World.cell?_of_block (a := ⟨b, o, none⟩) h

/-- A new block, of which something is known. -/
theorem St.alloc (h : St B w0 Φ D G σ w) (ob : Obj) {G' : Gh} {c : Cell} (hG : G.le G') (hGi : ∀ b o, b ≠ w.heap.size → G'.imm b o = G.imm b o) (hGc : ∀ b, b ≠ w.heap.size → G'.cap b = G.cap b)
    (hi : ∀ o v, G'.imm w.heap.size o = some v → (w.alloc ob).cell? ⟨w.heap.size, o, none⟩ = some v) (hc : Holds G' (w.alloc ob) w.heap.size c) :
    St B w0 Φ D G' (σ.set w.heap.size c) (w.alloc ob) := by
  have hold : ∀ k, k < w.heap.size → (w.alloc ob).heap[k]? = w.heap[k]? := fun k hk => Below.heap_alloc w ob k hk
  refine ⟨h.below.alloc h.le ob, by simp; exact Nat.le_succ_of_le h.le, fun b o v e => ?_, fun b c e => ?_, fun l c' e => ?_, fun l o e => ?_, h.nodup, fun r hr => ?_⟩
  · by_cases hb : b = w.heap.size
    · subst hb; exact hi o v e
    · rw [hGi b o hb] at e
      rw [cell?_of_heap (hold b (h.immlt e))]
      exact h.imm b o v e
  · by_cases hb : b = w.heap.size
    · subst hb; simp
    · rw [hGc b hb] at e
      have := h.cap b c e
      simp; omega
  · unfold Store.set at e
    by_cases hl : l = w.heap.size
    · rw [if_pos hl] at e
      cases e
      subst hl
      exact ⟨h.le, hc⟩
    · rw [if_neg hl] at e
      obtain ⟨a, b⟩ := h.own l c' e
      exact ⟨a, b.mono hG (fun o x => by rw [hGi l o hl]; exact x) (hold l b.lt)⟩
  · obtain ⟨a, b, c⟩ := h.frame l o e
    have hlt := (Array.getElem?_eq_some_iff.1 b).1
    exact ⟨by unfold Store.set; rw [if_neg (by omega)]; exact a, (hold l hlt).trans b, by rw [← c]; exact funext fun o => hGi l o (by omega)⟩
  · obtain ⟨a, b, c, d⟩ := h.marks r hr
    have hlt := (Array.getElem?_eq_some_iff.1 d).1
    exact ⟨a, by unfold Store.set; rw [if_neg (by omega)]; exact b, c, (hold r hlt).trans d⟩

/-- A new block of which nothing is kept. -/
theorem St.alloc_any (h : St B w0 Φ D G σ w) (ob : Obj) : St B w0 Φ D G σ (w.alloc ob) := by
  have hold : ∀ k, k < w.heap.size → (w.alloc ob).heap[k]? = w.heap[k]? := fun k hk => Below.heap_alloc w ob k hk
  refine ⟨h.below.alloc h.le ob, by simp; exact Nat.le_succ_of_le h.le, fun b o v e => ?_, fun b c e => ?_, fun l c' e => ?_, fun l o e => ?_, h.nodup, fun r hr => ?_⟩
  · rw [cell?_of_heap (hold b (h.immlt e))]; exact h.imm b o v e
  · have := h.cap b c e; simp; omega
  · obtain ⟨a, b⟩ := h.own l c' e
    exact ⟨a, b.mono (Gh.le_refl _) (fun o x => x) (hold l b.lt)⟩
  · obtain ⟨a, b, c⟩ := h.frame l o e
    exact ⟨a, (hold l (Array.getElem?_eq_some_iff.1 b).1).trans b, c⟩
  · obtain ⟨a, b, c, d⟩ := h.marks r hr
    exact ⟨a, b, c, (hold r (Array.getElem?_eq_some_iff.1 d).1).trans d⟩

/-- The world has changed at one block alone, of which the store has a cell. -/
structure OnlyAt (l : Nat) (w w' : World) : Prop where
  os : w'.os = w.os
  tape : w'.tape = w.tape
  output : w'.output = w.output
  size : w'.heap.size = w.heap.size
  block : ∀ k, k ≠ l → w'.heap[k]? = w.heap[k]?

theorem St.change (h : St B w0 Φ D G σ w) {l : Nat} {c c' : Cell} (hl : σ l = some c) {w' : World} (hw : OnlyAt l w w') {G' : Gh} (hG : G.le G') (hGi : ∀ b o, b ≠ l → G'.imm b o = G.imm b o)
    (hGc : ∀ b, G'.cap b = G.cap b) (hi : ∀ o v, G'.imm l o = some v → w'.cell? ⟨l, o, none⟩ = some v) (hc : Holds G' w' l c') : St B w0 Φ D G' (σ.set l c') w' := by
  obtain ⟨hBl, _⟩ := h.own l c hl
  refine ⟨h.below.trans ⟨hw.os, hw.tape, hw.output, Nat.le_of_eq hw.size.symm, fun k hk => hw.block k (by omega)⟩, by rw [hw.size]; exact h.le, fun b o v e => ?_, fun b c e => ?_, fun k c'' e => ?_, fun k o e => ?_, h.nodup, fun r hr => ?_⟩
  · by_cases hb : b = l
    · subst hb; exact hi o v e
    · rw [hGi b o hb] at e
      rw [cell?_of_heap (hw.block b hb)]; exact h.imm b o v e
  · rw [hw.size]; rw [hGc] at e; exact h.cap b c e
  · unfold Store.set at e
    by_cases hk : k = l
    · rw [if_pos hk] at e; cases e; subst hk; exact ⟨hBl, hc⟩
    · rw [if_neg hk] at e
      obtain ⟨a, b⟩ := h.own k c'' e
      exact ⟨a, b.mono hG (fun o x => by rw [hGi k o hk]; exact x) (hw.block k hk)⟩
  · obtain ⟨a, b, c⟩ := h.frame k o e
    have hk : k ≠ l := by rintro rfl; rw [hl] at a; cases a
    exact ⟨by unfold Store.set; rw [if_neg hk]; exact a, (hw.block k hk).trans b, by rw [← c]; exact funext fun o => hGi k o hk⟩
  · obtain ⟨a, b, c1, d⟩ := h.marks r hr
    have hk : r ≠ l := by rintro rfl; rw [hl] at b; cases b
    exact ⟨a, by unfold Store.set; rw [if_neg hk]; exact b, c1, (hw.block r hk).trans d⟩
end

def cval : Value → AV
  | .agg cs => .agg (cs.toList.map fun c => match c with | .slice none 0 0 => .sl .nil [] | x => .v x)
  | .slice none 0 0 => .sl .nil []
  | x => .v x
theorem rep_nil {G : Gh} : Rep G (.sl .nil []) (.slice none 0 0) :=
  .sl (rows := []) 0 (fun _ _ => undef) ⟨rfl, rfl⟩ (Nat.le_refl _) (fun i r h => by simp at h) (fun i r j x h => by simp at h) (fun i r j x h => by simp at h)
theorem rep_cval {G : Gh} (x : Value) : Rep G (cval x) x := by
  unfold cval
  split
  · rename_i cs
    have : Rep G (.agg (cs.toList.map fun c => match c with | .slice none 0 0 => .sl .nil [] | x => .v x)) (.agg cs.toList.toArray) := by
      refine .agg (by simp) (fun j x y hx hy => ?_)
      rw [List.getElem?_map] at hx
      rw [hy] at hx
      simp only [Option.map_some, Option.some.injEq] at hx
      subst hx
      split
      · exact rep_nil
      · exact .v _
    simpa using this
  · exact rep_nil
  · exact .v _
def aev (T : Fr) : Operand → AV
  | .tmp t => T t
  | .const x => cval x
  | .global g => .v (.pointer (some ⟨g, 0, none⟩))
  | .func f => .v (.func (.func f) #[] #[])
def Operand.inN (N : Nat) : Operand → Bool
  | .tmp t => t < N
  | _ => true
theorem rep_aev {G : Gh} {N : Nat} {T : Fr} {a : Act} (h : RepT G N T a.tmps) {x : Operand} (hx : Operand.inN N x = true) : Rep G (aev T x) (a.eval x) := by
  cases x with
  | tmp t => exact h.rep t (by simpa [Operand.inN] using hx)
  | const x => exact rep_cval x
  | global g => exact .v _
  | func f => exact .v _
end Go.AL
