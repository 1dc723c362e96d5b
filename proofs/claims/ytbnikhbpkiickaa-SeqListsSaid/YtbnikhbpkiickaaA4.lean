/- A-logic, part 4: operations that make or change memory; calls. -/
import Derived.Test.YtbnikhbpkiickaaA3
set_option linter.unusedSimpArgs false
set_option linter.unusedVariables false
namespace Go.AL
open Go.RowKit

/-! ### Ownership of rows -/
def Appendable (E : TypeId) (sz : Nat) (σ : Store) : Owner → Nat → Prop
  | .nil, n => n = 0
  | .tight, _ => True
  | .own g, n => σ g = some (.tip E sz n)
  | .ro, _ => False
def Store.drop (σ : Store) : Owner → Store
  | .own g => σ.del g
  | _ => σ
def Store.give (σ : Store) (E : TypeId) (sz : Nat) : Owner → Nat → Store
  | .own g, n => σ.set g (.tip E sz n)
  | _, _ => σ
def OwnerOk (σ : Store) : Owner → Nat → Prop
  | .nil, n => n = 0
  | .tight, _ => True
  | .own g, _ => σ g = none
  | .ro, _ => False

/-- Surely one cell. -/
def AV.one : AV → Bool
  | .v (.agg _) | .v (.tuple _) => false
  | .v _ | .sl _ _ | .el _ _ => true
  | _ => false
theorem rep_one {G : Gh} {x : AV} {y : Value} (h : Rep G x y) (h1 : x.one = true) : y.oneCell' = true := by
  cases h with
  | v => cases y <;> first | rfl | (simp [AV.one] at h1)
  | junk => simp [AV.one] at h1
  | sl => rfl
  | el => rfl
  | agg => simp [AV.one] at h1
  | tup => simp [AV.one] at h1
theorem repL_one {G : Gh} {xs : List AV} {ys : List Value} (h : RepL G xs ys) (h1 : xs.all AV.one = true) : ∀ u ∈ ys, u.oneCell' = true := by
  intro u hu
  obtain ⟨j, hj⟩ := List.mem_iff_getElem?.1 hu
  have hlt : j < xs.length := by rw [← h.1]; exact (List.getElem?_eq_some_iff.1 hj).1
  exact rep_one (h.2 j xs[j] u (List.getElem?_eq_getElem hlt) hj) (List.all_eq_true.1 h1 _ (List.getElem_mem _))
def rowsSz (rows : List (List AV)) (s : Nat) : Bool := rows.all fun r => r.length == s
def rowsOne (rows : List (List AV)) : Bool := rows.all fun r => r.all AV.one
def bslRows (s : Nat) : Nat → List (Nat × AV) → Option (List (List AV))
  | _, [] => some []
  | i, (j, x) :: ps => if j = i ∧ x.word = true ∧ x.cells.length = s then (bslRows s (i + 1) ps).map (x.cells :: ·) else none
def aput (kd : TypeDesc) (k : Value) (x : AV) : List (Value × AV × Nat) → Option (Option (List (Value × AV × Nat)))
  | [] => some none
  | (key, y, born) :: es =>
    match Instr.sameNow kd k key with
    | some true => if Instr.sameBits 10000 key k then some (some ((k, x, born) :: es)) else none
    | some false => (aput kd k x es).map fun r => r.map ((key, y, born) :: ·)
    | none => none
def concB : List (List AV) → Option (List UInt8)
  | [] => some []
  | [.v (.int .u8 n)] :: rs => if 0 ≤ n ∧ n < 256 then (concB rs).map (UInt8.ofNat n.toNat :: ·) else none
  | _ => none
def encB (b : UInt8) : List AV := [.v (.int .u8 b.toNat)]
def conv2 (P : Program) (s d : TypeId) : Option (Bool × TypeId) :=   -- true: bytes to string; false: string to bytes
  match P.underlying s, P.underlying d with
  | some (.slice e), some .string => match P.underlying e with | some (.int .u8) => some (true, e) | _ => none
  | some .string, some (.slice e) => match P.underlying e with | some (.int .u8) => some (false, e) | _ => none
  | _, _ => none

def mapRes (es : List (Value × AV × Nat)) (kv : Value) (x : AV) (clock : Nat) : Option (List (Value × AV × Nat)) → Cell
  | some es' => .map es' clock
  | none => .map (es ++ [(kv, x, clock)]) (clock + 1)
def ACallV (P : Program) (fv : AV) (args : List AV) (σ : Store) (R : AV → Store → Prop) : Prop :=
  match fv with
  | .v (.func (.func g) first caps) => ACalls P g (first.toList.map .v ++ args ++ caps.toList.map .v) σ R ∨
      ∃ (vs : List Value) (v : Value), concLL (first.toList.map .v ++ args ++ caps.toList.map .v) = some vs ∧ pureRun? P (callFunc g vs.toArray) = some (.value v) ∧ R (cval v) σ
  | .v (.func (.yield l) first _) => AYield P l (first.toList.map .v ++ args) σ R
  | _ => False
def AMeth (P : Program) (rv : AV) (name : String) (args : List AV) (σ : Store) (R : AV → Store → Prop) : Prop :=
  match rv with
  | .v (.iface t x) => ∃ (f : FuncId) (r : Value), pureRun? P (method (P.types.size + Made.depth) t x name) = some (f, r) ∧ ACalls P f (.v r :: args) σ R
  | _ => False

def srcRows : AV → Option (List (List AV))
  | .sl _ ys => some ys
  | .v (.string b) => some (b.data.toList.map encB)
  | _ => none
def slOrStr (P : Program) (t : TypeId) : Bool :=
  match P.underlying t with
  | some (.slice _) | some .string => true
  | _ => false
def vcAppend (P : Program) (t t' : TypeId) (s x : AV) (σ : Store) (R : AV → Store → Prop) : Prop :=
  match P.underlying t, s, srcRows x with
  | some (.slice e), .sl o rows, some ys => slOrStr P t' = true ∧ ∃ i z sz, P.info? e = some i ∧ i.zero = some z ∧ i.size = sz ∧ z.cells.size = sz ∧ 0 < sz ∧ rowsSz rows sz = true ∧ rowsSz ys sz = true ∧ rowsOne ys = true ∧
      (rows.length + ys.length) * i.bytes ≤ 140737488355328 ∧ rows.length + ys.length ≤ 4611686018427387904 ∧ Appendable e sz σ o rows.length ∧
      ∀ o', OwnerOk (σ.drop o) o' (rows ++ ys).length → R (.sl o' (rows ++ ys)) ((σ.drop o).give e sz o' (rows ++ ys).length)
  | _, _, _ => False

def emptyRow : AV → Bool
  | .sl .nil [] | .sl .tight [] => true
  | _ => false
/-- append to an empty slice: the new row as a variable that may be written. -/
def vcAppendB (P : Program) (t t' : TypeId) (s x : AV) (σ : Store) (R : AV → Store → Prop) : Prop :=
  match P.underlying t, srcRows x with
  | some (.slice e), some ys => emptyRow s = true ∧ slOrStr P t' = true ∧ ∃ i z sz, P.info? e = some i ∧ i.zero = some z ∧ i.size = sz ∧ z.cells.size = sz ∧ 0 < sz ∧ rowsSz ys sz = true ∧
      0 < ys.length ∧ ys.length * i.bytes ≤ 140737488355328 ∧ ys.length ≤ 4611686018427387904 ∧
      ∀ l c rest, σ l = none → ys.length ≤ c → rest.length = (c - ys.length) * sz → R (.v (.slice (some ⟨l, 0, none⟩) ys.length c)) (σ.set l (.box e (ys.flatten ++ rest)))
  | _, _ => False

def vc (P : Program) (o : Oper) (K : Fr → Store → Prop) (T : Fr) (σ : Store) : Prop :=
  match o.op with
  | .alloc t => ∃ i z, P.info? t = some i ∧ i.zero = some z ∧ ∀ l, σ l = none → K (putT T o.dst (.v (.pointer (some ⟨l, 0, none⟩)))) (σ.set l (.box t (cval z).cells))
  | .box t x => (aev T x).word = true ∧ ∀ l, σ l = none → K (putT T o.dst (.v (.pointer (some ⟨l, 0, none⟩)))) (σ.set l (.box t (aev T x).cells))
  | .store t p x =>
    match aev T p with
    | .v (.pointer (some ⟨l, off, none⟩)) => ∃ Tb cells, σ l = some (.box Tb cells) ∧ (aev T x).word = true ∧ (aev T x).cells.all AV.one = true ∧ szOf P t = some (aev T x).cells.length ∧ off + (aev T x).cells.length ≤ cells.length ∧
        K (putT T o.dst .junk) (σ.set l (.box Tb (setRun cells off (aev T x).cells)))
    | _ => False
  | .buildSlice t n ps => ∃ e s rows, P.underlying t = some (.slice e) ∧ szOf P e = some s ∧ (∃ i z, P.info? e = some i ∧ i.zero = some z ∧ z.cells.size = s) ∧ 0 < s ∧ n * s ≤ 16777216 ∧ ps.size = n ∧
      bslRows s 0 (ps.toList.map fun p => (p.1, aev T p.2)) = some rows ∧ K (putT T o.dst (.sl .tight rows)) σ
  | .makeMap _ none => ∀ r, σ r = none → K (putT T o.dst (.v (.map (some r)))) (σ.set r (.map [] 0))
  | .mapUpdate t m k x =>
    match aev T m, P.underlying t, conc (aev T k) with
    | .v (.map (some r)), some (.map kt _), some kv => ∃ kd es clock res, P.underlying kt = some kd ∧ keyKind kd = true ∧ σ r = some (.map es clock) ∧ aput kd kv (aev T x) es = some res ∧
        K (putT T o.dst .junk) (σ.set r (mapRes es kv (aev T x) clock res))
    | _, _, _ => False
  | .convert s d x =>
    match conv2 P s d, aev T x with
    | some (true, _), .sl _ rows => ∃ bs, concB rows = some bs ∧ K (putT T o.dst (.v (.string ⟨bs.toArray⟩))) σ
    | some (false, e), .v (.string b) => b.size ≤ 4611686018427387904 ∧ ∀ g, σ g = none → K (putT T o.dst (.sl (.own g) (b.data.toList.map encB))) (σ.set g (.tip e 1 b.size))
    | _, _ => ∃ y, pv P o T σ = some y ∧ K (putT T o.dst y) σ
  | .call c =>
    match c.callee, c.args.toList with
    | .builtin .append, [s, x] => ∃ t t', c.argTypes = #[t, t'] ∧ (vcAppend P t t' (aev T s) (aev T x) σ (fun r σ' => K (putT T o.dst r) σ') ∨ vcAppendB P t t' (aev T s) (aev T x) σ fun r σ' => K (putT T o.dst r) σ')
    | .value f, args => ACallV P (aev T f) (args.map (aev T)) σ fun r σ' => K (putT T o.dst r) σ'
    | .invoke r name, args => AMeth P (aev T r) name (args.map (aev T)) σ fun r σ' => K (putT T o.dst r) σ'
    | _, _ => ∃ y, pv P o T σ = some y ∧ K (putT T o.dst y) σ
  | _ => ∃ y, pv P o T σ = some y ∧ K (putT T o.dst y) σ

def OpOk (P : Program) (ρ : Option Nat) (N : Nat) (o : Oper) (K : Fr → Store → Prop) (T : Fr) (σ : Store) : Prop :=
  ∀ (B : Nat) (w0 : World) (Φ : Frm) (D : List Nat) (G : Gh) (w : World) (a : Act), St B w0 Φ D G σ w → RepT G N T a.tmps →
    ∀ (Kc : Act → World → Prop) (Qc : Exit → Act → World → Prop),
      (∀ (G' : Gh) (T' : Fr) (σ' : Store) (a' : Act) (w' : World), G.le G' → St B w0 Φ D G' σ' w' → RepT G' N T' a'.tmps → a'.defers = a.defers → K T' σ' → Kc a' w') → o.wpIn (FR ρ) 0 P a w Kc Qc

section sound
variable {P : Program} {ρ : Option Nat} {N : Nat} {B : Nat} {w0 : World} {Φ : Frm} {D : List Nat} {G : Gh} {σ : Store} {w : World} {T : Fr} {a : Act} {o : Oper}
  {K : Fr → Store → Prop} {Kc : Act → World → Prop} {Qc : Exit → Act → World → Prop}

theorem wp_value {v : Value} {w' : World} (hd : ∀ c, o.op ≠ .defer c) (h : (execOp a.eval o).run P w = .ok (.value v) w') (hK : Kc (a.put o.dst v) w') : o.wpIn (FR ρ) 0 P a w Kc Qc := by
  refine ⟨fun f _ => trivial, ?_⟩
  rw [Oper.semAt_eq _ _ _ hd, h]
  exact hK
theorem wp_skip {w' : World} (hd : ∀ c, o.op ≠ .defer c) (h : (execOp a.eval o).run P w = .ok .skip w') (hK : Kc (a.put o.dst undef) w') : o.wpIn (FR ρ) 0 P a w Kc Qc := by
  refine ⟨fun f _ => trivial, ?_⟩
  rw [Oper.semAt_eq _ _ _ hd, h]
  exact hK
theorem RepT.put (h : RepT G N T a.tmps) (dst : Option Nat) {x : AV} {v : Value} (hx : Rep G x v) : RepT G N (putT T dst x) (a.put dst v).tmps := by
  cases dst with
  | none => exact h
  | some d => exact h.upd d hx
theorem put_defers (dst : Option Nat) (v : Value) : (a.put dst v).defers = a.defers := by cases dst <;> rfl

theorem pv_ok (hin : opIn N o = true) (hd : ∀ c, o.op ≠ .defer c) (h : ∃ y, pv P o T σ = some y ∧ K (putT T o.dst y) σ) : OpOk P ρ N o K T σ := by
  intro B w0 Φ D G w a hs ht Kc Qc hK
  obtain ⟨y, hy, hk⟩ := h
  obtain ⟨v, hv, hr⟩ := pv_sound hs ht hin hy
  exact wp_value hd hv (hK G _ σ _ w (Gh.le_refl _) hs (ht.put o.dst hr) (put_defers _ _) hk)

/-- A variable is made. -/
theorem newVar_ok (hs : St B w0 Φ D G σ w) (t : TypeId) {x : AV} {v : Value} (hx : RepL G x.cells v.cells.toList) :
    (newVar t v).run P w = .ok ⟨w.heap.size, 0, none⟩ (w.alloc (.cells v.cells t)) ∧ St B w0 Φ D G (σ.set w.heap.size (.box t x.cells)) (w.alloc (.cells v.cells t)) := by
  refine ⟨rfl, hs.alloc _ (Gh.le_refl _) (fun _ _ _ => rfl) (fun _ _ => rfl) (fun o v e => ?_) ⟨v.cells.toList, ?_, hx, fun o => hs.imm_new o⟩⟩
  · rw [hs.imm_new o] at e; cases e
  · simpa using heap_alloc_new w (.cells v.cells t)
theorem alloc_ok {t : TypeId} (ho : o.op = .alloc t) (h : ∃ i z, P.info? t = some i ∧ i.zero = some z ∧ ∀ l, σ l = none → K (putT T o.dst (.v (.pointer (some ⟨l, 0, none⟩)))) (σ.set l (.box t (cval z).cells))) : OpOk P ρ N o K T σ := by
  intro B w0 Φ D G w a hs ht Kc Qc hK
  obtain ⟨i, z, h1, h2, hk⟩ := h
  obtain ⟨hr, hs'⟩ := newVar_ok (P := P) hs t (x := cval z) (v := z) cells_cval
  refine wp_value (by simp [ho]) (v := .pointer (some ⟨w.heap.size, 0, none⟩)) (w' := w.alloc (.cells z.cells t)) ?_ (hK G _ _ _ _ (Gh.le_refl _) hs' (ht.put o.dst (.v _)) (put_defers _ _) (hk _ hs.fresh))
  simp [execOp, ho, Instr.alloc, zeroValue, typeInfo, h1, h2, hr]
theorem box_ok {t : TypeId} {x : Operand} (hin : opIn N o = true) (ho : o.op = .box t x) (hw : (aev T x).word = true)
    (h : ∀ l, σ l = none → K (putT T o.dst (.v (.pointer (some ⟨l, 0, none⟩)))) (σ.set l (.box t (aev T x).cells))) : OpOk P ρ N o K T σ := by
  intro B w0 Φ D G w a hs ht Kc Qc hK
  have hx := rep_aev (G := G) ht (x := x) (List.all_eq_true.1 hin x (by simp [ho, Op.operands]))
  obtain ⟨hr, hs'⟩ := newVar_ok (P := P) hs t (word_cells hx hw)
  refine wp_value (by simp [ho]) (v := .pointer (some ⟨w.heap.size, 0, none⟩)) (w' := w.alloc (.cells (a.eval x).cells t)) ?_ (hK G _ _ _ _ (Gh.le_refl _) hs' (ht.put o.dst (.v _)) (put_defers _ _) (h _ hs.fresh))
  simp [execOp, ho, Instr.box, hr]


theorem run_storeCells (P : Program) (l : Nat) (T : TypeId) (lo hi : Nat) : ∀ (xs : List Value) (off i : Nat) (cs : List Value) (w : World), w.heap[l]? = some (.cells cs.toArray T (lo, hi)) → off + i + xs.length ≤ cs.length → (∀ u ∈ xs, u.oneCell' = true) →
    (∀ k, off + i ≤ k → k < off + i + xs.length → (lo ≤ k && k < hi) = false) →
    ∃ w', (storeCells ⟨l, off, none⟩ xs i).run P w = .ok () w' ∧ w'.heap[l]? = some (.cells (cs.take (off + i) ++ xs ++ cs.drop (off + i + xs.length)).toArray T (lo, hi)) ∧ OnlyAt l w w' := by
  intro xs
  induction xs with
  | nil => intro off i cs w hw hle _ _; exact ⟨w, rfl, by simpa using hw, ⟨rfl, rfl, rfl, rfl, fun _ _ => rfl⟩⟩
  | cons x xs ih =>
    intro off i cs w hw hle h1 hfz
    simp only [List.length_cons] at hle hfz
    have hc : w.cell? ⟨l, off + i, none⟩ = some cs[off + i] := by
      rw [cell_of_row w l (off + i) _ _ _ hw]
      simp
    have hf : w.frozen? ⟨l, off + i, none⟩ = false := by
      have := hfz (off + i) (Nat.le_refl _) (by omega)
      simpa [World.frozen?, hw] using this
    have hx1 : x.oneCell' = true := h1 x (by simp)
    have hset : (w.setCell ⟨l, off + i, none⟩ x).heap[l]? = some (.cells (cs.set (off + i) x).toArray T (lo, hi)) := by
      simp [World.setCell, Array.getElem?_modify, hw]
    obtain ⟨w', hr, hw', ho⟩ := ih off (i + 1) (cs.set (off + i) x) (w.setCell ⟨l, off + i, none⟩ x) hset (by simp; omega) (fun u hu => h1 u (by simp [hu])) (fun k a b => hfz k (by omega) (by omega))
    refine ⟨w', ?_, ?_, ⟨ho.os, ho.tape, ho.output, ho.size.trans (by simp), fun k hk => (ho.block k hk).trans (Below.heap_setCell _ _ _ _ hk)⟩⟩
    · have hst : (store ⟨l, off + i, none⟩ x).run P w = .ok () (w.setCell ⟨l, off + i, none⟩ x) := by
        rw [run_store P w _ _ _ hx1]
        simp [hc, hf]
      simp only [storeCells, Addr.add_plain, Sem.run_bind, hst, Result.andThen_ok, hr]
    · rw [hw']
      congr 3
      rw [show off + (i + 1) = off + i + 1 from by omega]
      have e1 : (cs.set (off + i) x).take (off + i + 1) = cs.take (off + i) ++ [x] := by
        rw [List.take_add_one]
        simp [List.take_set, List.getElem?_set, show off + i < cs.length from by omega]
        rw [List.set_eq_of_length_le (by simp; omega)]
      have e2 : (cs.set (off + i) x).drop (off + i + 1 + xs.length) = cs.drop (off + i + (xs.length + 1)) := by
        rw [List.drop_set, if_pos (by omega)]
        congr 1
        omega
      rw [e1, e2]
      simp
theorem store_ok {t : TypeId} {p x : Operand} {l off : Nat} {Tb : TypeId} {cells : List AV} (hin : opIn N o = true) (ho : o.op = .store t p x) (hp : aev T p = .v (.pointer (some ⟨l, off, none⟩))) (hσ : σ l = some (.box Tb cells))
    (hw : (aev T x).word = true) (h1 : (aev T x).cells.all AV.one = true) (hsz : szOf P t = some (aev T x).cells.length) (hle : off + (aev T x).cells.length ≤ cells.length)
    (h : K (putT T o.dst .junk) (σ.set l (.box Tb (setRun cells off (aev T x).cells)))) : OpOk P ρ N o K T σ := by
  intro B w0 Φ D G w a hs ht Kc Qc hK
  have hx := rep_aev (G := G) ht (x := x) (List.all_eq_true.1 hin x (by simp [ho, Op.operands]))
  have hpp := rep_aev (G := G) ht (x := p) (List.all_eq_true.1 hin p (by simp [ho, Op.operands]))
  rw [hp] at hpp
  generalize hq : a.eval p = q at hpp
  cases hpp
  have hc := word_cells hx hw
  obtain ⟨hB, cs, hl, hcs, hi⟩ := hs.own l _ hσ
  have hlen : (a.eval x).cells.toList.length = (aev T x).cells.length := hc.1
  obtain ⟨w', hr, hw', hoa⟩ := run_storeCells P l Tb 0 0 (a.eval x).cells.toList off 0 cs w hl (by rw [hlen, hcs.1]; simpa using hle) (repL_one hc h1) (fun _ _ _ => by simp)
  simp only [Nat.add_zero] at hw'
  have hs' := hs.change (c' := .box Tb (setRun cells off (aev T x).cells)) hσ hoa (Gh.le_refl _) (fun _ _ _ => rfl) (fun _ => rfl) (fun o v e => by rw [hi o] at e; cases e)
    ⟨_, hw', by unfold setRun; rw [← hlen]; exact ((hcs.take off).app hc).app (hcs.drop _), hi⟩
  refine wp_skip (by simp [ho]) (w' := w') ?_ (hK G _ _ _ _ (Gh.le_refl _) hs' (ht.put o.dst (.junk _)) (put_defers _ _) h)
  have hsize : (a.eval x).cells.size = (aev T x).cells.length := by simpa using hlen
  simp [execOp, ho, Instr.storeAt, hq, Instr.sureAddr, storeVar, run_szOf hsz, hsize, hr]

/-! ### New rows -/
/-- Flat cells of a new block as rows of a slice. -/
theorem newRow_ok (hs : St B w0 Φ D G σ w) (e : TypeId) {rows : List (List AV)} {s c : Nat} {cs : List Value} (hcs : RepL G rows.flatten cs) (hsz : ∀ r, r ∈ rows → r.length = s) (h0 : 0 < s) (rest : List Value) (hc : (cs ++ rest).length = c * s) (hcm : c ≤ maxLen)
    (ob : Obj) (hob : ob = .cells (cs ++ rest).toArray e) :
    ∃ G', G.le G' ∧ (∀ o, OwnerAt G' o (some ⟨w.heap.size, 0, none⟩) rows.length c → Rep G' (.sl o rows) (.slice (some ⟨w.heap.size, 0, none⟩) rows.length c)) ∧ G'.cap w.heap.size = some c ∧
      St B w0 Φ D G' (σ.set w.heap.size (.tip e s rows.length)) (w.alloc ob) := by
  subst hob
  have hlen : rows.flatten.length = rows.length * s := by
    clear hcs hc
    induction rows with
    | nil => simp
    | cons r rs ih => simp [hsz r (by simp), ih (fun q hq => hsz q (by simp [hq])), Nat.add_mul]; omega
  have hat : ∀ (i : Nat) (r : List AV) (j : Nat) (x : AV), rows[i]? = some r → r[j]? = some x → rows.flatten[i * s + j]? = some x := by
    clear hcs hc hlen
    induction rows with
    | nil => intro i r j x h; simp at h
    | cons r rs ih =>
      intro i q j x h1 h2
      have hr := hsz r (by simp)
      cases i with
      | zero =>
        simp only [List.getElem?_cons_zero, Option.some.injEq] at h1
        subst h1
        rw [List.flatten_cons, List.getElem?_append_left (by have := (List.getElem?_eq_some_iff.1 h2).1; omega)]
        simpa using h2
      | succ i =>
        rw [List.flatten_cons, List.getElem?_append_right (by rw [hr, Nat.add_mul]; omega)]
        have := ih (fun q hq => hsz q (by simp [hq])) i q j x (by simpa using h1) h2
        rw [show (i + 1) * s + j - r.length = i * s + j from by rw [hr, Nat.add_mul]; omega]
        exact this
  let G' : Gh := ⟨fun b o => if b = w.heap.size then (if o < cs.length then cs[o]? else none) else G.imm b o, fun b => if b = w.heap.size then some c else G.cap b⟩
  have hle : G.le G' := ⟨fun b o v e => by
      have : b ≠ w.heap.size := by rintro rfl; rw [hs.imm_new o] at e; cases e
      simp only [G']; rw [if_neg this]; exact e, fun b c' e => by
      have : b ≠ w.heap.size := by rintro rfl; rw [hs.cap_new] at e; cases e
      simp only [G']; rw [if_neg this]; exact e⟩
  have hheap : (w.alloc (.cells (cs ++ rest).toArray e)).heap[w.heap.size]? = some (.cells (cs ++ rest).toArray e (0, 0)) := heap_alloc_new w _
  have hcl : cs.length = rows.length * s := by rw [hcs.1, hlen]
  have hrc : rows.length ≤ c := by
    have : rows.length * s ≤ c * s := by rw [← hc, ← hcl]; simp
    exact Nat.le_of_mul_le_mul_right this h0
  refine ⟨G', hle, fun o ho => ?_, by simp [G'], ?_⟩
  · refine .sl s (fun i j => cs.getD (i * s + j) undef) ho hrc (fun i r h => hsz r (List.mem_of_getElem? h)) (fun i r j x h1 h2 => ?_) (fun i r j x h1 h2 => ?_)
    · obtain ⟨y, hy, hr⟩ := hcs.at (hat i r j x h1 h2)
      refine ⟨_, _, rfl, ?_⟩
      have hlt := (List.getElem?_eq_some_iff.1 hy).1
      simp [G', hy, hlt, List.getD_eq_getElem?_getD]
    · obtain ⟨y, hy, hr⟩ := hcs.at (hat i r j x h1 h2)
      have : cs.getD (i * s + j) undef = y := by simp [List.getD_eq_getElem?_getD, hy]
      rw [this]
      exact hr.mono hle
  · refine hs.alloc _ hle (fun b o hb => by simp only [G']; rw [if_neg hb]) (fun b hb => by simp only [G']; rw [if_neg hb]) (fun o v e => ?_) ⟨_, c, 0, 0, hheap, by simp [G'], by simpa using hc, hrc, hcm, fun _ _ _ => by simp, fun o ho => ?_⟩
    · simp only [G', if_true] at e
      split at e
      · exact cell_of_cells hheap (by rw [List.getElem?_append_left (by assumption)]; exact e)
      · cases e
    · simp only [G', if_true]
      rw [if_neg (by omega)]
theorem bslRows_sound {s : Nat} (h0 : 0 < s) (place : Nat → Option (Nat × Nat)) (hpl : ∀ i, place i = some (i * s, s)) : ∀ {ps : List (Nat × AV)} {qs : List (Nat × Value)} {i : Nat} {rows : List (List AV)} (pre : List Value) (rest : List Value),
    bslRows s i ps = some rows → RepP G ps qs → pre.length = i * s → rest.length = ps.length * s →
    ∃ cs, Instr.fill place (pre ++ rest).toArray qs = some (pre ++ cs).toArray ∧ RepL G rows.flatten cs ∧ rows.length = ps.length ∧ ∀ r, r ∈ rows → r.length = s := by
  intro ps
  induction ps with
  | nil =>
    intro qs i rows pre rest h hp hl hr
    cases qs with
    | cons q qs => simp [RepP] at hp
    | nil =>
      simp only [bslRows, Option.some.injEq] at h
      subst h
      have : rest = [] := List.eq_nil_of_length_eq_zero (by simpa using hr)
      subst this
      exact ⟨[], by simp [Instr.fill], .nil, rfl, by simp⟩
  | cons p ps ih =>
    intro qs i rows pre rest h hp hl hr
    obtain ⟨j, x⟩ := p
    cases qs with
    | nil => simp [RepP] at hp
    | cons q qs =>
      obtain ⟨j', v⟩ := q
      obtain ⟨e1, e2⟩ := hp.2 0 _ _ rfl rfl
      simp only at e1 e2
      subst e1
      simp only [bslRows] at h
      split at h
      · rename_i hc
        obtain ⟨rfl, hw, hsz⟩ := hc
        obtain ⟨rows', h2, rfl⟩ := Option.map_eq_some_iff.1 h
        have hcells := word_cells e2 hw
        have hvl : v.cells.toList.length = s := by rw [hcells.1, hsz]
        have hvs : v.cells.size = s := by simpa using hvl
        simp only [List.length_cons] at hr
        have hrest : s ≤ rest.length := by rw [hr, Nat.add_mul]; omega
        have hf : (v.cells.zipIdx).foldl (fun cs (c, k) => cs.setIfInBounds (j * s + k) c) (pre ++ rest).toArray = ((pre ++ v.cells.toList) ++ rest.drop s).toArray := by
          have := fold_set (j * s) v.cells.toList 0 (pre ++ rest) (by simp [hvs, hl]; omega)
          simp only [Nat.add_zero] at this
          have e3 : (pre ++ rest).take (j * s) = pre := by rw [← hl]; simp
          have e4 : (pre ++ rest).drop (j * s + v.cells.toList.length) = rest.drop s := by rw [hvl, ← hl, List.drop_append]; simp
          rw [e3, e4] at this
          rw [← this, ← Array.foldl_toList]
          simp
        obtain ⟨cs, h3, h4, h5, h6⟩ := ih (qs := qs) (i := j + 1) (rows := rows') (pre ++ v.cells.toList) (rest.drop s) h2
          ⟨by simpa using hp.1, fun k p q a b => hp.2 (k + 1) p q (by simpa using a) (by simpa using b)⟩ (by simp [hl, hvs, Nat.add_mul]) (by rw [List.length_drop, hr, Nat.add_mul]; omega)
        refine ⟨v.cells.toList ++ cs, ?_, ?_, by simp [h5], fun r hr => ?_⟩
        · simp only [Instr.fill, hpl, hf]
          rw [if_neg (by simp [hvs, hl]; omega), h3]
          simp
        · rw [List.flatten_cons]
          exact hcells.app h4
        · rcases List.mem_cons.1 hr with rfl | hr
          · exact hsz
          · exact h6 r hr
      · cases h
theorem buildSlice_ok {t : TypeId} {n : Nat} {ps : Array (Nat × Operand)} {e s : Nat} {rows : List (List AV)} (hin : opIn N o = true) (ho : o.op = .buildSlice t n ps) (ht' : P.underlying t = some (.slice e)) (hsz : szOf P e = some s)
    (hz : ∃ i z, P.info? e = some i ∧ i.zero = some z ∧ z.cells.size = s) (h0 : 0 < s) (hns : n * s ≤ 16777216) (hn : ps.size = n) (hrows : bslRows s 0 (ps.toList.map fun p => (p.1, aev T p.2)) = some rows)
    (h : K (putT T o.dst (.sl .tight rows)) σ) : OpOk P ρ N o K T σ := by
  intro B w0 Φ D G w a hs ht Kc Qc hK
  obtain ⟨i, z, h1, h2, h3⟩ := hz
  have hp : RepP G (ps.toList.map fun p => (p.1, aev T p.2)) ((ps.map fun p => (p.1, a.eval p.2)).toList) := by
    refine ⟨by simp, fun j p q e1 e2 => ?_⟩
    simp only [Array.toList_map, List.getElem?_map, Option.map_eq_some_iff] at e1 e2
    obtain ⟨⟨i1, x1⟩, g1, rfl⟩ := e1
    obtain ⟨⟨i2, x2⟩, g2, rfl⟩ := e2
    rw [g1] at g2
    cases g2
    exact ⟨rfl, rep_aev ht (List.all_eq_true.1 hin x1 (by simp only [ho, Op.operands]; exact List.mem_map.2 ⟨_, List.mem_of_getElem? g1, rfl⟩))⟩
  let zc : Array Value := if n * s = 0 then #[] else z.cells
  let zeros : Array Value := (Array.range (n * s)).map (zc[· % zc.size]!)
  obtain ⟨cs, hf, hr, hl, hall⟩ := bslRows_sound (G := G) h0 (fun i => some (i * s, s)) (fun _ => rfl) (qs := (ps.map fun p => (p.1, a.eval p.2)).toList) [] zeros.toList hrows hp (by simp) (by simp [zeros, hn])
  have hlen : rows.length = n := by rw [hl]; simpa using hn
  have hcl : cs.length = n * s := by
    rw [hr.1]
    clear hf hr hl hrows
    have : ∀ rows : List (List AV), (∀ r, r ∈ rows → r.length = s) → rows.flatten.length = rows.length * s := by
      intro rows
      induction rows with
      | nil => intro; simp
      | cons r rs ih => intro hh; simp [hh r (by simp), ih (fun q hq => hh q (by simp [hq])), Nat.add_mul]; omega
    rw [this rows hall, hlen]
  obtain ⟨G', hG, hrep, _, hs'⟩ := newRow_ok (c := n) hs e hr hall h0 [] (by simpa using hcl) (by unfold maxLen; have := Nat.le_of_mul_le_mul_right (show n * s ≤ 16777216 * s from Nat.le_trans hns (Nat.le_mul_of_pos_right _ h0)) h0; omega) _ rfl
  refine wp_value (by simp [ho]) (v := .slice (some ⟨w.heap.size, 0, none⟩) rows.length n) (w' := w.alloc (.cells (cs ++ []).toArray e)) ?_
    (hK G' _ σ _ _ hG (hs'.weaken fun l c hc => by
      unfold Store.set
      rw [if_neg (by rintro rfl; rw [hs.fresh] at hc; cases hc)]
      exact hc) ((ht.mono hG).put o.dst (hrep .tight hlen.symm)) (put_defers _ _) h)
  have hfill : Instr.fill (fun i => some (i * s, s)) zeros (ps.map fun p => (p.1, a.eval p.2)).toList = some cs.toArray := by simpa using hf
  have hbig : ¬ (n * s > 2 ^ 24) := by omega
  by_cases hns0 : n * s = 0
  · have e0 : (Array.range (n * s)).map (fun x => (#[] : Array Value)[x % (#[] : Array Value).size]!) = zeros := by simp only [zeros, zc, if_pos hns0]
    simp only [execOp, ho, Instr.buildSlice, Sem.run_bind, run_underlying ht', Result.andThen_ok, run_szOf hsz, if_neg hbig, if_pos hns0, Sem.run_pure, hlen, List.append_nil, e0, hfill]
    rfl
  · have e0 : (Array.range (n * s)).map (fun x => z.cells[x % z.cells.size]!) = zeros := by simp only [zeros, zc, if_neg hns0]
    simp only [execOp, ho, Instr.buildSlice, Sem.run_bind, run_underlying ht', Result.andThen_ok, run_szOf hsz, if_neg hbig, if_neg hns0, Sem.run_pure, hlen, List.append_nil, zeroValue, typeInfo, program, Sem.run, h1, h2, e0, hfill]
    rfl
end sound
end Go.AL
