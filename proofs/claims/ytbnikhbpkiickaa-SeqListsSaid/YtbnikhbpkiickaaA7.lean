/- A-logic, part 7: append, maps, conversions, calls as rules; every operation together. -/
import Derived.Test.YtbnikhbpkiickaaA6
import Derived.Lib.ConvBytes
import Derived.MapKept
set_option linter.unusedSimpArgs false
set_option linter.unusedVariables false
namespace Go.AL
open Go.RowKit
section sound
variable {P : Program} {ρ : Option Nat} {N : Nat} {B : Nat} {w0 : World} {Φ : Frm} {D : List Nat} {G : Gh} {σ : Store} {w : World} {T : Fr} {a : Act} {o : Oper}
  {K : Fr → Store → Prop} {Kc : Act → World → Prop} {Qc : Exit → Act → World → Prop}

theorem encB_flat (bs : List UInt8) : (bs.map encB).flatten = bs.map fun b => AV.v (.int .u8 b.toNat) := by
  induction bs with
  | nil => rfl
  | cons b bs ih => simp [encB, ih]
theorem src_ok (hs : St B w0 Φ D G σ w) {x : AV} {v : Value} {ys : List (List AV)} {s : Nat} (h : srcRows x = some ys) (hx : Rep G x v) (hys : rowsSz ys s = true) :
    ∃ news : List Value, (Builtin.lenOf v).run P w = .ok ys.length w ∧ (∀ W : World, (∀ b o y, G.imm b o = some y → W.cell? ⟨b, o, none⟩ = some y) → (Builtin.firstCells s ys.length v).run P W = .ok news.toArray W) ∧ RepL G ys.flatten news := by
  unfold srcRows at h
  split at h
  · cases h
    obtain ⟨A, c, cs, rfl, _, _, hcs, _, hrun, _⟩ := slice_cells (P := P) hs hx hys
    exact ⟨cs, rfl, hrun, hcs⟩
  · cases h
    cases hx
    rename_i b
    refine ⟨b.data.toList.map fun c => .int .u8 c.toNat, by simp [Builtin.lenOf], fun W _ => ?_, ?_⟩
    · simp only [Builtin.firstCells, List.length_map, Array.length_toList, Sem.run_pure, List.map_toArray, Result.ok.injEq, and_true]
      apply Array.toList_inj.1
      simp [ByteArray.data_extract]
    · rw [encB_flat]
      refine ⟨by simp, fun j x y hx hy => ?_⟩
      rw [List.getElem?_map] at hx hy
      cases hb : b.data.toList[j]? with
      | none => rw [hb] at hx; cases hx
      | some q =>
        rw [hb] at hx hy
        cases hx
        cases hy
        exact .v _
  · cases h
theorem append_ok {t t' : TypeId} {s x : Operand} {c : Call} (hin : opIn N o = true) (ho : o.op = .call c) (hc1 : c.callee = .builtin .append) (hc2 : c.args.toList = [s, x]) (hty : c.argTypes = #[t, t'])
    (h : vcAppend P t t' (aev T s) (aev T x) σ fun r σ' => K (putT T o.dst r) σ') : OpOk P ρ N o K T σ := by
  intro B w0 Φ D G w a hs ht Kc Qc hK
  have hop : o.op.operands.toList = [s, x] := by simp [ho, Op.operands, Call.operands, hc1, hc2]
  have rs := rep_aev (G := G) ht (x := s) (List.all_eq_true.1 hin s (by rw [hop]; simp))
  have rx := rep_aev (G := G) ht (x := x) (List.all_eq_true.1 hin x (by rw [hop]; simp))
  unfold vcAppend at h
  split at h
  · rename_i e ow rows ys eu es ex
    obtain ⟨h1, i, z, sz, h2, h3, h4, h5, h6, h7, h8, h9, h10, h11, h12, h13⟩ := h
    rw [es] at rs
    obtain ⟨news, g1, g2, g3⟩ := src_ok (P := P) hs ex rx h8
    have hys : ∀ r, r ∈ ys → r.length = sz := fun r hr => by simpa using List.all_eq_true.1 h8 r hr
    have hone : ys.flatten.all AV.one = true := by
      rw [List.all_eq_true]
      intro q hq
      obtain ⟨r, hr, hqr⟩ := List.mem_flatten.1 hq
      exact List.all_eq_true.1 (List.all_eq_true.1 h9 r hr) q hqr
    have ht2 : (∃ e', P.underlying t' = some (.slice e')) ∨ P.underlying t' = some .string := by
      unfold slOrStr at h1
      split at h1
      · rename_i e' q; exact .inl ⟨e', q⟩
      · rename_i q; exact .inr q
      · cases h1
    obtain ⟨v', w', G', ow', k1, k2, k3, k4, k5⟩ := append_core (P := P) (ty := o.type) hs eu ht2 h2 h3 h4 h5 h6 rs h7 hys g1 g2 g3 (repL_one g3 hone) h10 h11 h12
    refine wp_value (by simp [ho]) (v := v') (w' := w') ?_ (hK G' _ _ _ _ k2 k4 ((ht.mono k2).put o.dst k5) (put_defers _ _) (h13 ow' k3))
    have hargs : c.args.map a.eval = #[a.eval s, a.eval x] := by
      rw [← Array.toArray_toList (xs := c.args), hc2]; simp
    simp only [execOp, ho, resolve, hc1, Sem.run_bind, Sem.run_pure, Result.andThen_ok, invoke, builtin, hargs, hty, k1]
  · exact h.elim

theorem repL_v {G : Gh} : ∀ {xs : List Value}, RepL G (xs.map AV.v) xs
  | [] => .nil
  | x :: xs => .cons (.v x) repL_v
theorem appendB_ok {t t' : TypeId} {s x : Operand} {c : Call} (hin : opIn N o = true) (ho : o.op = .call c) (hc1 : c.callee = .builtin .append) (hc2 : c.args.toList = [s, x]) (hty : c.argTypes = #[t, t'])
    (h : vcAppendB P t t' (aev T s) (aev T x) σ fun r σ' => K (putT T o.dst r) σ') : OpOk P ρ N o K T σ := by
  intro B w0 Φ D G w a hs ht Kc Qc hK
  have hop : o.op.operands.toList = [s, x] := by simp [ho, Op.operands, Call.operands, hc1, hc2]
  have rs := rep_aev (G := G) ht (x := s) (List.all_eq_true.1 hin s (by rw [hop]; simp))
  have rx := rep_aev (G := G) ht (x := x) (List.all_eq_true.1 hin x (by rw [hop]; simp))
  unfold vcAppendB at h
  split at h
  · rename_i e ys eu ex
    obtain ⟨h0, h1, i, z, sz, h2, h3, h4, h5, h6, h8, hpos, h10, h11, h13⟩ := h
    obtain ⟨news, g1, g2, g3⟩ := src_ok (P := P) hs ex rx h8
    have ht2 : (∃ e', P.underlying t' = some (.slice e')) ∨ P.underlying t' = some .string := by
      unfold slOrStr at h1
      split at h1
      · rename_i e' q; exact .inl ⟨e', q⟩
      · rename_i q; exact .inr q
      · cases h1
    obtain ⟨A, hA⟩ : ∃ A, a.eval s = .slice A 0 0 := by
      unfold emptyRow at h0
      split at h0
      · rename_i e2
        rw [e2] at rs
        generalize a.eval s = q at rs
        cases rs with
        | sl sz cs ho hc hsz hcell hrep => obtain ⟨rfl, rfl⟩ := ho; exact ⟨_, rfl⟩
      · rename_i e2
        rw [e2] at rs
        generalize a.eval s = q at rs
        cases rs with
        | sl sz cs ho hc hsz hcell hrep =>
          have : _ = 0 := ho
          subst this
          exact ⟨_, rfl⟩
      · cases h0
    have hfirst : ∀ (W : World) (q : Nat), (Builtin.firstCells q 0 (.slice A 0 0)).run P W = .ok (([] : List Value)).toArray W := fun W q => by
      cases A with
      | none => simp [Builtin.firstCells]
      | some ad => simp [Builtin.firstCells, loadCells, loadCellsFrom]
    have hr := run_append_new (P := P) (w := w) (ty := o.type) (i := i) (z := z) eu ht2 h2 h3 (A := A) (n := 0) (c := 0) (m := ys.length) (x := a.eval x) (olds := []) (news := news) g1
      (hfirst _ _) (by rw [h4]; exact g2 w.drew hs.imm) (by omega) (by omega) (by rw [Nat.zero_add]; exact h10)
    simp only [Nat.zero_add, List.nil_append] at hr
    have hge := grownCap_ge w ys.length 0 e
    have hlen : (Builtin.zeroCells z.cells (grownCap w ys.length 0 e - ys.length)).toList.length = (grownCap w ys.length 0 e - ys.length) * sz := by
      rw [Array.length_toList, size_zeroCells, h5]
    have hs' := hs.drew.alloc (.cells (news ++ (Builtin.zeroCells z.cells (grownCap w ys.length 0 e - ys.length)).toList).toArray e) (c := .box e (ys.flatten ++ (Builtin.zeroCells z.cells (grownCap w ys.length 0 e - ys.length)).toList.map .v)) (Gh.le_refl _) (fun _ _ _ => rfl) (fun _ _ => rfl)
      (fun o v e => by rw [hs.drew.imm_new o] at e; cases e) ⟨_, World.alloc_heap_new w.drew _, g3.app repL_v, fun o => hs.drew.imm_new o⟩
    refine wp_value (by simp [ho]) (v := .slice (some ⟨w.heap.size, 0, none⟩) ys.length (grownCap w ys.length 0 e)) (w' := w.drew.alloc (.cells (news ++ (Builtin.zeroCells z.cells (grownCap w ys.length 0 e - ys.length)).toList).toArray e)) ?_
      (hK G _ _ _ _ (Gh.le_refl _) hs' (ht.put o.dst (.v _)) (put_defers _ _) (h13 w.heap.size _ _ hs.fresh (by simpa using hge) (by rw [List.length_map, hlen])))
    have hargs : c.args.map a.eval = #[.slice A 0 0, a.eval x] := by
      rw [← Array.toArray_toList (xs := c.args), hc2]; simp [hA]
    simp only [execOp, ho, resolve, hc1, Sem.run_bind, Sem.run_pure, Result.andThen_ok, invoke, builtin, hargs, hty, hr]
  · exact h.elim

theorem makeMap_ok {t : TypeId} (ho : o.op = .makeMap t none) (h : ∀ r, σ r = none → K (putT T o.dst (.v (.map (some r)))) (σ.set r (.map [] 0))) : OpOk P ρ N o K T σ := by
  intro B w0 Φ D G w a hs ht Kc Qc hK
  have hs' := hs.alloc (.map #[] 0) (c := .map [] 0) (Gh.le_refl _) (fun _ _ _ => rfl) (fun _ _ => rfl) (fun o v e => by rw [hs.imm_new o] at e; cases e) ⟨#[], World.alloc_heap_new w _, rfl, fun j k x b e h => by simp at h⟩
  refine wp_value (by simp [ho]) (v := .map (some w.heap.size)) (w' := w.alloc (.map #[] 0)) ?_ (hK G _ _ _ _ (Gh.le_refl _) hs' (ht.put o.dst (.v _)) (put_defers _ _) (h _ hs.fresh))
  simp [execOp, ho, Instr.makeMap, newObj, Sem.run]

/-! ### A map's entry is set -/
def EntsRep (G : Gh) (es : List (Value × AV × Nat)) (ents : List MapEntry) : Prop := ents.length = es.length ∧
  ∀ (j : Nat) (k : Value) (x : AV) (born : Nat) (e : MapEntry), es[j]? = some (k, x, born) → ents[j]? = some e → e.key = k ∧ e.born = born ∧ Rep G x e.val
theorem aput_sound {kd : TypeDesc} {k : Value} {x : AV} {v : Value} (hx : Rep G x v) : ∀ {es : List (Value × AV × Nat)} {ents : List MapEntry} {res : Option (List (Value × AV × Nat))} (i : Nat), aput kd k x es = some res → EntsRep G es ents →
    match res with
    | none => Instr.findNow kd k ents i = some none
    | some es' => ∃ j u e, Instr.findNow kd k ents i = some (some (i + j, u)) ∧ ents[j]? = some e ∧ Instr.sameBits 10000 e.key k = true ∧ EntsRep G es' (ents.modify j fun e => { e with key := k, val := v }) := by
  intro es
  induction es with
  | nil =>
    intro ents res i h hl
    simp only [aput, Option.some.injEq] at h
    subst h
    cases ents with
    | nil => rfl
    | cons e es => simp [EntsRep] at hl
  | cons q es ih =>
    intro ents res i h hl
    obtain ⟨key, y, born⟩ := q
    cases ents with
    | nil => simp [EntsRep] at hl
    | cons e ents =>
      obtain ⟨h1, h2, h3⟩ := hl.2 0 key y born e rfl rfl
      simp only [aput] at h
      cases hs : Instr.sameNow kd k key with
      | none => rw [hs] at h; cases h
      | some b =>
        rw [hs] at h
        cases b with
        | true =>
          simp only at h
          split at h
          · rename_i hsb
            simp only [Option.some.injEq] at h
            subst h
            refine ⟨0, e.val, e, by simp [Instr.findNow, h1, hs], rfl, by rw [h1]; exact hsb, by simpa using hl.1, fun j k' x' b' e' ha hb => ?_⟩
            cases j with
            | zero =>
              simp at ha hb
              obtain ⟨rfl, rfl, rfl⟩ := ha
              subst hb
              exact ⟨rfl, h2, hx⟩
            | succ j => exact hl.2 (j + 1) k' x' b' e' (by simpa using ha) (by simpa using hb)
          · cases h
        | false =>
          simp only at h
          obtain ⟨r, hr, rfl⟩ := Option.map_eq_some_iff.1 h
          have := ih (ents := ents) (i + 1) hr ⟨by simpa using hl.1, fun j k' x' b' e' a c => hl.2 (j + 1) k' x' b' e' (by simpa using a) (by simpa using c)⟩
          cases r with
          | none =>
            simp only [Option.map_none] at this ⊢
            simp only [Instr.findNow, h1, hs]
            exact this
          | some es' =>
            obtain ⟨j, u, e2, e3, e4, e5, e6⟩ := this
            refine ⟨j + 1, u, e2, ?_, by simpa using e4, e5, by simpa using e6.1, fun jj k' x' b' e' ha hb => ?_⟩
            · simp only [Instr.findNow, h1, hs, e3]
              congr 3
              omega
            · cases jj with
              | zero =>
                simp at ha hb
                obtain ⟨rfl, rfl, rfl⟩ := ha
                subst hb
                exact ⟨h1, h2, h3⟩
              | succ jj => exact e6.2 jj k' x' b' e' (by simpa using ha) (by simpa using hb)
theorem only_putObj (w : World) (r : Nat) (ob : Obj) : OnlyAt r w (w.putObj r ob) := ⟨rfl, rfl, rfl, by simp, fun k hk => World.putObj_heap_other (w := w) hk⟩
theorem mapUpdate_ok {t : TypeId} {m k x : Operand} {r : Nat} {kt et : TypeId} {kv : Value} {kd : TypeDesc} {es : List (Value × AV × Nat)} {clock : Nat} {res : Option (List (Value × AV × Nat))} (hin : opIn N o = true) (ho : o.op = .mapUpdate t m k x)
    (hm : aev T m = .v (.map (some r))) (ht0 : P.underlying t = some (.map kt et)) (hk : conc (aev T k) = some kv) (hkd : P.underlying kt = some kd) (hkk : keyKind kd = true) (hσ : σ r = some (.map es clock)) (hp : aput kd kv (aev T x) es = some res)
    (h : K (putT T o.dst .junk) (σ.set r (mapRes es kv (aev T x) clock res))) : OpOk P ρ N o K T σ := by
  intro B w0 Φ D G w a hs ht Kc Qc hK
  have rm := rep_aev (G := G) ht (x := m) (List.all_eq_true.1 hin m (by simp [ho, Op.operands]))
  have rk := rep_aev (G := G) ht (x := k) (List.all_eq_true.1 hin k (by simp [ho, Op.operands]))
  have rx := rep_aev (G := G) ht (x := x) (List.all_eq_true.1 hin x (by simp [ho, Op.operands]))
  rw [hm] at rm
  have em : a.eval m = .map (some r) := by generalize a.eval m = q at rm; cases rm; rfl
  have ek : a.eval k = kv := rep_conc rk hk
  obtain ⟨hB, ents, hw, hl, hr⟩ := hs.own r _ hσ
  have hget := run_getObj_map (P := P) hw
  have hck : (Instr.checkKey false 10000 kt kv).run P w = .ok () w := run_checkKey hkd hkk false kv 9999
  have hlt := (Array.getElem?_eq_some_iff.1 hw).1
  have himm := hs.imm_obj hw (fun _ _ _ => by simp)
  have hER : EntsRep G es ents.toList := ⟨by simpa using hl, fun j q y b e p1 p2 => hr j q y b e p1 (by simpa using p2)⟩
  have hput := aput_sound rx 0 hp hER
  have hset : ∀ ob, (setObj r ob).run P w = .ok () (w.putObj r ob) := fun ob => by simp [setObj, Sem.run, hw, World.putObj]
  have fin : ∀ (ents' : Array MapEntry) (es' : List (Value × AV × Nat)) (c' : Nat), EntsRep G es' ents'.toList → St B w0 Φ D G (σ.set r (.map es' c')) (w.putObj r (.map ents' c')) := fun ents' es' c' hh =>
    hs.change hσ (only_putObj w r _) (Gh.le_refl _) (fun _ _ _ => rfl) (fun _ => rfl) (fun o v e => by rw [himm o] at e; cases e)
      ⟨ents', World.putObj_heap_same (w := w) hlt, by simpa using hh.1, fun j q y b e p1 p2 => hh.2 j q y b e p1 (by simpa using p2)⟩
  cases res with
  | none =>
    simp only at hput h
    have hs' := fin (ents.push { key := kv, val := a.eval x, born := clock }) (es ++ [(kv, aev T x, clock)]) (clock + 1) (by
      refine ⟨by simp [hl], fun j q y b e p1 p2 => ?_⟩
      simp only [Array.toList_push] at p2
      rw [List.getElem?_append] at p1 p2
      simp only [Array.length_toList, hl] at p2
      split at p1
      · rename_i hj; rw [if_pos hj] at p2; exact hER.2 j q y b e p1 p2
      · rename_i hj
        rw [if_neg hj] at p2
        cases hjj : j - es.length with
        | zero =>
          rw [hjj] at p1 p2
          simp at p1 p2
          obtain ⟨rfl, rfl, rfl⟩ := p1
          subst p2
          exact ⟨rfl, rfl, rx⟩
        | succ n => rw [hjj] at p1; simp at p1)
    refine wp_skip (by simp [ho]) (w' := w.putObj r (.map (ents.push { key := kv, val := a.eval x, born := clock }) (clock + 1))) ?_ (hK G _ _ _ _ (Gh.le_refl _) hs' (ht.put o.dst (.junk _)) (put_defers _ _) h)
    simp [execOp, ho, Instr.mapUpdate, run_underlying ht0, em, ek, hget, hck, Instr.findKey, run_underlying hkd, hput, hset]
  | some es' =>
    obtain ⟨j, u, e, h1, h2, h3, h4⟩ := hput
    simp only [Nat.zero_add] at h1
    have hs' := fin (ents.modify j fun e => { e with key := kv, val := a.eval x }) es' clock (by simpa [Array.toList_modify] using h4)
    have h2' : ents[j]? = some e := by simpa using h2
    refine wp_skip (by simp [ho]) (w' := w.putObj r (.map (ents.modify j fun e => { e with key := kv, val := a.eval x }) clock)) ?_ (hK G _ _ _ _ (Gh.le_refl _) hs' (ht.put o.dst (.junk _)) (put_defers _ _) h)
    simp [execOp, ho, Instr.mapUpdate, run_underlying ht0, em, ek, hget, hck, Instr.findKey, run_underlying hkd, h1, h2', Instr.keyThatStays, h3, hset]

/-! ### Bytes and strings -/
theorem concB_eq : ∀ {rows : List (List AV)} {bs : List UInt8}, concB rows = some bs → rows = bs.map encB
  | [], bs, h => by simp only [concB, Option.some.injEq] at h; subst h; rfl
  | r :: rs, bs, h => by
    unfold concB at h
    split at h
    · rename_i e; cases e
    · rename_i n rs' e
      cases e
      split at h
      · rename_i hn
        obtain ⟨bs', h1, rfl⟩ := Option.map_eq_some_iff.1 h
        rw [concB_eq h1]
        have : ((UInt8.ofNat n.toNat).toNat : Int) = n := by
          have h2 : n.toNat < 256 := by omega
          rw [UInt8.toNat_ofNat_of_lt' (by simpa using h2)]
          omega
        rw [List.map_cons]
        congr 1
        simp only [encB, this]
      · cases h
    · cases h
theorem foldl_push (bs : List UInt8) : ∀ r : ByteArray, (bs.map fun b => (b.toNat : Int)).foldl (fun r n => r.push (UInt8.ofNat n.toNat)) r = ⟨(r.data.toList ++ bs).toArray⟩ := by
  induction bs with
  | nil => intro r; simp
  | cons b bs ih =>
    intro r
    rw [List.map_cons, List.foldl_cons, ih]
    simp [ByteArray.push]
theorem concL_bytes : ∀ bs : List UInt8, concL (bs.map fun b => AV.v (.int .u8 b.toNat)) = some ((bs.map fun b => (b.toNat : Int)).map (Value.int .u8))
  | [] => rfl
  | b :: bs => by
    have := concL_bytes bs
    simp only [List.map_cons, concL, conc1, Option.bind_some, this]
theorem conv_b2s_ok {s d : TypeId} {x : Operand} {e : TypeId} {ow : Owner} {rows : List (List AV)} {bs : List UInt8} (hin : opIn N o = true) (ho : o.op = .convert s d x) (hc : conv2 P s d = some (true, e)) (hx : aev T x = .sl ow rows) (hb : concB rows = some bs)
    (h : K (putT T o.dst (.v (.string ⟨bs.toArray⟩))) σ) : OpOk P ρ N o K T σ := by
  intro B w0 Φ D G w a hs ht Kc Qc hK
  have rx := rep_aev (G := G) ht (x := x) (List.all_eq_true.1 hin x (by simp [ho, Op.operands]))
  rw [hx] at rx
  have hrows := concB_eq hb
  subst hrows
  have hty : ∃ e, P.underlying s = some (.slice e) ∧ P.underlying d = some .string ∧ P.underlying e = some (.int .u8) := by
    unfold conv2 at hc
    split at hc
    · rename_i e' h1 h2
      split at hc
      · rename_i h3; exact ⟨e', h1, h2, h3⟩
      · cases hc
    · split at hc <;> cases hc
    · cases hc
  obtain ⟨e', h1, h2, h3⟩ := hty
  obtain ⟨A, c, cs, hv, _, _, hcs, _, hrun, _⟩ := slice_cells (P := P) hs rx (s := 1) (by simp [rowsSz, encB])
  have hcs2 : cs = (bs.map fun b => (b.toNat : Int)).map (Value.int .u8) := by
    rw [encB_flat] at hcs
    refine rep_concL hcs ?_
    exact concL_bytes bs
  have hr := hrun w hs.imm
  rw [hv] at hr
  have hfin : (Conv.bytesToString (a.eval x)).run P w = .ok (.string ⟨bs.toArray⟩) w := by
    rw [hv]
    cases A with
    | none =>
      have : cs = [] := by simpa [Builtin.firstCells] using hr
      rw [this] at hcs2
      have hb0 : bs = [] := by simpa using hcs2.symm
      subst hb0
      simp [Conv.bytesToString]
      rfl
    | some ad =>
      have hr2 : (loadCells ad (bs.map encB).length).run P w = .ok ((bs.map fun b => (b.toNat : Int)).map (Value.int .u8)).toArray w := by
        rw [← hcs2]
        simpa [Builtin.firstCells] using hr
      rw [run_bytesToString w ad _ c _ hr2, foldl_push]
      rfl
  refine wp_value (by simp [ho]) (v := .string ⟨bs.toArray⟩) (w' := w) ?_ (hK G _ _ _ _ (Gh.le_refl _) hs (ht.put o.dst (.v _)) (put_defers _ _) h)
  have hcv : (convert s d (a.eval x)).run P w = .ok (.string ⟨bs.toArray⟩) w := by
    rw [← hfin, hv]
    exact run_convert_bytes_string w s d e' A _ c h1 h3 h2
  simp [execOp, ho, hcv]
theorem conv_s2b_ok {s d : TypeId} {x : Operand} {e : TypeId} {b : ByteArray} (hin : opIn N o = true) (ho : o.op = .convert s d x) (hc : conv2 P s d = some (false, e)) (hx : aev T x = .v (.string b)) (hb : b.size ≤ 4611686018427387904)
    (h : ∀ g, σ g = none → K (putT T o.dst (.sl (.own g) (b.data.toList.map encB))) (σ.set g (.tip e 1 b.size))) : OpOk P ρ N o K T σ := by
  intro B w0 Φ D G w a hs ht Kc Qc hK
  have rx := rep_aev (G := G) ht (x := x) (List.all_eq_true.1 hin x (by simp [ho, Op.operands]))
  rw [hx] at rx
  have ex : a.eval x = .string b := by generalize a.eval x = q at rx; cases rx; rfl
  have hty : P.underlying s = some .string ∧ P.underlying d = some (.slice e) ∧ P.underlying e = some (.int .u8) := by
    unfold conv2 at hc
    split at hc
    · split at hc <;> cases hc
    · rename_i e' h1 h2
      split at hc
      · rename_i h3; cases hc; exact ⟨h1, h2, h3⟩
      · cases hc
    · cases hc
  obtain ⟨h1, h2, h3⟩ := hty
  have hge : b.size ≤ grownCap w b.size 0 e := by simpa using grownCap_ge w b.size 0 e
  have hmx := grownCap_le_maxLen w b.size 0 e (by unfold maxLen; omega)
  let cs : List Value := b.data.toList.map fun c => .int .u8 c.toNat
  have hcs : RepL G (b.data.toList.map encB).flatten cs := by
    rw [encB_flat]
    refine ⟨by simp [cs], fun j p q hp hq => ?_⟩
    simp only [cs, List.getElem?_map] at hp hq
    cases hbj : b.data.toList[j]? with
    | none => rw [hbj] at hp; cases hp
    | some c => rw [hbj] at hp hq; cases hp; cases hq; exact .v _
  have hsize : b.data.toList.length = b.size := rfl
  obtain ⟨G', hG, hrep, hcap, hs'⟩ := newRow_ok (c := grownCap w b.size 0 e) hs.drew e (rows := b.data.toList.map encB) (s := 1) (cs := cs) hcs (fun r hr => by obtain ⟨q, _, rfl⟩ := List.mem_map.1 hr; rfl) (by omega)
    (List.replicate (grownCap w b.size 0 e - b.size) (Value.int .u8 0)) (by simp [cs]; simp at hsize; omega) hmx _ rfl
  have hcells : (Lib.bytesCells w e b) = (cs ++ List.replicate (grownCap w b.size 0 e - b.size) (Value.int .u8 0)).toArray := by
    apply Array.toList_inj.1
    simp [Lib.bytesCells, cs]
  have hrl : (b.data.toList.map encB).length = b.size := by simp
  rw [hrl] at hs' hrep
  -- the mark of a conversion's row
  have hs2 : St B w0 Φ D G' (σ.set w.heap.size (.tip e 1 b.size)) (Lib.bytesWorld w e b) := by
    have hcs' : (σ.set w.heap.size (.tip e 1 b.size)) w.heap.size = some (.tip e 1 b.size) := by simp [Store.set]
    obtain ⟨hB, cur, cap, lo, hi, g1, g2, g3, g4, g5, g6, g7⟩ := hs'.own w.heap.size _ hcs'
    have hnew : (w.drew.alloc (.cells (Lib.bytesCells w e b) e)).heap[w.heap.size]? = some (.cells (Lib.bytesCells w e b) e (0, 0)) := heap_alloc_new w.drew _
    have hst : St B w0 Φ D G' (σ.set w.heap.size (.tip e 1 b.size)) (w.drew.alloc (.cells (Lib.bytesCells w e b) e)) := by rw [hcells]; exact hs'
    have hcur : cur = Lib.bytesCells w e b := by
      rw [← hcells] at g1
      have := g1.symm.trans hnew
      cases this
      rfl
    subst hcur
    have hfr : (Lib.bytesWorld w e b).heap[w.heap.size]? = some (.cells (Lib.bytesCells w e b) e ((Lib.bytesCells w e b).size, (Lib.bytesCells w e b).size + 1)) := by
      simp only [Lib.bytesWorld, World.freeze]
      rw [if_neg (by decide)]
      simp only [Array.getElem?_modify, if_true, hnew, Option.map_some]
      rfl
    have hoa : OnlyAt w.heap.size (w.drew.alloc (.cells (Lib.bytesCells w e b) e)) (Lib.bytesWorld w e b) := by
      refine ⟨?_, ?_, ?_, ?_, fun k hk => ?_⟩ <;> simp only [Lib.bytesWorld, World.freeze] <;> rw [if_neg (by decide)]
      · simp
      · simp only [Array.getElem?_modify]; rw [if_neg (by omega)]
    have := hst.change (c' := .tip e 1 b.size) hcs' hoa (Gh.le_refl _) (fun _ _ _ => rfl) (fun _ => rfl) (fun o v hv => by
        have := hst.imm _ o v hv
        rw [cell_of_row _ _ _ _ _ _ hfr]
        rwa [cell_of_row _ _ _ _ _ _ hnew] at this)
      ⟨_, cap, _, _, hfr, g2, g3, g4, g5, fun o h1 h2 => by simp; omega, g7⟩
    exact this.weaken fun l c hl => by
      simp only [Store.set] at hl ⊢
      split at hl
      · rename_i e1; rw [if_pos e1]; exact hl
      · rename_i e1; rw [if_neg e1, if_neg e1]; exact hl
  refine wp_value (by simp [ho]) (v := .slice (some ⟨w.heap.size, 0, none⟩) b.size (grownCap w b.size 0 e)) (w' := Lib.bytesWorld w e b) ?_
    (hK G' _ _ _ _ hG hs2 ((ht.mono hG).put o.dst (hrep (.own w.heap.size) ⟨rfl, hcap⟩)) (put_defers _ _) (h _ hs.fresh))
  simp [execOp, ho, ex, Lib.run_convert_string_bytes w s d e b h1 h2 h3]

/-! ### Calls -/
theorem call_enter (hs : St B w0 Φ D G σ w) {f : FuncId} {args : List AV} {vs : List Value} {R : AV → Store → Prop} (h : ACalls P f args σ R) (hv : RepL G args vs)
    (hK : ∀ (G' : Gh) (σ' : Store) (r : AV) (v : Value) (w' : World), G.le G' → St B w0 Φ D G' σ' w' → Rep G' r v → R r σ' → Kc (a.put o.dst v) w') :
    o.uponIn (FR ρ) 0 P a Kc Qc (.ok (.enter f vs.toArray) w) := by
  refine ⟨fun h => by simp [FR_depth] at h, ?_⟩
  have hc := h.2 B w0 (hideD Φ D) G w vs hs.hide hv
  have hc2 : CallsIn (FR ρ) (0 - 1) P f vs.toArray w _ := (callsIn_wide (n := 0 - 1)).2 hc
  refine hc2.mono ?_
  rintro e w' ⟨v, r, G', σ', rfl, h2, h3, h4, h5⟩
  exact hK G' σ' r v w' h2 (hs.unhide h3) h4 h5
theorem callv_ok {c : Call} {f : Operand} (hin : opIn N o = true) (ho : o.op = .call c) (hc1 : c.callee = .value f)
    (h : ACallV P (aev T f) (c.args.toList.map (aev T)) σ fun r σ' => K (putT T o.dst r) σ') : OpOk P ρ N o K T σ := by
  intro B w0 Φ D G w a hs ht Kc Qc hK
  have hop : o.op.operands.toList = f :: c.args.toList := by simp [ho, Op.operands, Call.operands, hc1]
  have rf := rep_aev (G := G) ht (x := f) (List.all_eq_true.1 hin f (by rw [hop]; simp))
  have ra := repL_aev (G := G) (xs := c.args.toList) ht (List.all_eq_true.2 fun x hx => List.all_eq_true.1 hin x (by rw [hop]; simp; exact .inr (by simpa using hx)))
  unfold ACallV at h
  split at h
  · rename_i g first caps e
    rw [e] at rf
    have ef : a.eval f = .func (.func g) first caps := by generalize a.eval f = q at rf; cases rf; rfl
    have hargs : RepL G (first.toList.map .v ++ c.args.toList.map (aev T) ++ caps.toList.map .v) (first.toList ++ c.args.toList.map a.eval ++ caps.toList) := (repL_v.app ra).app repL_v
    have harr : first ++ c.args.map a.eval ++ caps = (first.toList ++ c.args.toList.map a.eval ++ caps.toList).toArray := by
      apply Array.toList_inj.1; simp
    refine ⟨fun f _ => trivial, ?_⟩
    rw [Oper.semAt_eq _ _ _ (by simp [ho])]
    rcases h with h | ⟨vs, v, h1, h2, h3⟩
    · have hr : (execOp a.eval o).run P w = .ok (.enter g (first.toList ++ c.args.toList.map a.eval ++ caps.toList).toArray) w := by
        simp only [execOp, ho, resolve, hc1, ef, Deferred.ofValue, Sem.run_bind, Sem.run_pure, Result.andThen_ok, invoke, harr]
        exact h.1 _ w
      rw [hr]
      exact call_enter hs h hargs fun G' σ' r v w' k1 k2 k3 k4 => hK G' _ σ' _ w' k1 k2 ((ht.mono k1).put o.dst k3) (put_defers _ _) k4
    · have hvs := rep_concLL hargs h1
      have hr : (execOp a.eval o).run P w = .ok (.value v) w := by
        simp only [execOp, ho, resolve, hc1, ef, Deferred.ofValue, Sem.run_bind, Sem.run_pure, Result.andThen_ok, invoke, harr, hvs]
        exact pureRun_run _ h2 w
      rw [hr]
      exact hK G _ σ _ w (Gh.le_refl _) hs (ht.put o.dst (rep_cval v)) (put_defers _ _) h3
  · rename_i l first caps e
    rw [e] at rf
    have ef : a.eval f = .func (.yield l) first caps := by generalize a.eval f = q at rf; cases rf; rfl
    have hargs : RepL G (first.toList.map .v ++ c.args.toList.map (aev T)) (first.toList ++ c.args.toList.map a.eval) := repL_v.app ra
    have harr : first ++ c.args.map a.eval = (first.toList ++ c.args.toList.map a.eval).toArray := by
      apply Array.toList_inj.1; simp
    refine ⟨fun f _ => trivial, ?_⟩
    rw [Oper.semAt_eq _ _ _ (by simp [ho])]
    obtain ⟨fn, tmps, assign, body, h1, h2⟩ := h B w0 (hideD Φ D) G w _ hs.hide hargs
    have hr : (execOp a.eval o).run P w = .ok (.round l fn tmps assign body) w := by
      simp only [execOp, ho, resolve, hc1, ef, Deferred.ofValue, Sem.run_bind, Sem.run_pure, Result.andThen_ok, invoke, harr]
      exact h1
    rw [hr, Oper.uponIn_round]
    refine ⟨fun h => by simp [FR_depth] at h, ?_⟩
    have h3 : RoundIn (FR ρ) 0 P l fn tmps assign body w _ := h2
    refine h3.mono ?_
    rintro e w' ⟨v, r, G', σ', rfl, k1, k2, k3, k4⟩
    exact hK G' _ σ' _ w' k1 (hs.unhide k2) ((ht.mono k1).put o.dst k3) (put_defers _ _) k4
  · exact h.elim
theorem meth_ok {c : Call} {r : Operand} {name : String} (hin : opIn N o = true) (ho : o.op = .call c) (hc1 : c.callee = .invoke r name)
    (h : AMeth P (aev T r) name (c.args.toList.map (aev T)) σ fun r σ' => K (putT T o.dst r) σ') : OpOk P ρ N o K T σ := by
  intro B w0 Φ D G w a hs ht Kc Qc hK
  have hop : o.op.operands.toList = r :: c.args.toList := by simp [ho, Op.operands, Call.operands, hc1]
  have rf := rep_aev (G := G) ht (x := r) (List.all_eq_true.1 hin r (by rw [hop]; simp))
  have ra := repL_aev (G := G) (xs := c.args.toList) ht (List.all_eq_true.2 fun x hx => List.all_eq_true.1 hin x (by rw [hop]; simp; exact .inr (by simpa using hx)))
  unfold AMeth at h
  split at h
  · rename_i t x e
    obtain ⟨f, rv, h1, h2⟩ := h
    rw [e] at rf
    have ef : a.eval r = .iface t x := by generalize a.eval r = q at rf; cases rf; rfl
    have hm := pureRun_run _ h1 w
    refine ⟨fun f _ => trivial, ?_⟩
    rw [Oper.semAt_eq _ _ _ (by simp [ho])]
    have harr : #[rv] ++ c.args.map a.eval = (rv :: c.args.toList.map a.eval).toArray := by apply Array.toList_inj.1; simp
    have hext : (#[Value.iface t x] ++ c.args.map a.eval).extract 1 (#[Value.iface t x] ++ c.args.map a.eval).size = c.args.map a.eval := by
      apply Array.toList_inj.1
      simp
      rw [List.take_of_length_le (by simp)]
    have hr : (execOp a.eval o).run P w = .ok (.enter f (rv :: c.args.toList.map a.eval).toArray) w := by
      have h0 : (#[Value.iface t x] ++ c.args.map a.eval)[0]? = some (.iface t x) := by rw [Array.getElem?_append_left (by simp)]; rfl
      simp only [execOp, ho, resolve, hc1, ef, Sem.run_bind, Sem.run_pure, Result.andThen_ok, invoke, h0, callMethod, program, Sem.run, hm, hext, harr]
      exact h2.1 _ w
    rw [hr]
    exact call_enter hs h2 (.cons (.v rv) ra) fun G' σ' r v w' k1 k2 k3 k4 => hK G' _ σ' _ w' k1 k2 ((ht.mono k1).put o.dst k3) (put_defers _ _) k4
  · exact h.elim

theorem vc_sound (hin : opIn N o = true) (hd : ∀ c, o.op ≠ .defer c) (h : vc P o K T σ) : OpOk P ρ N o K T σ := by
  unfold vc at h
  split at h
  · rename_i t ho; exact alloc_ok ho h
  · rename_i t x ho; exact box_ok hin ho h.1 h.2
  · rename_i t p x ho
    split at h
    · rename_i l off e
      obtain ⟨Tb, cells, h1, h2, h3, h4, h5, h6⟩ := h
      exact store_ok hin ho e h1 h2 h3 h4 h5 h6
    · exact h.elim
  · rename_i t n ps ho
    obtain ⟨e, s, rows, h1, h2, h3, h4, h5, h6, h7, h8⟩ := h
    exact buildSlice_ok hin ho h1 h2 h3 h4 h5 h6 h7 h8
  · rename_i t ho; exact makeMap_ok ho h
  · rename_i t m k x ho
    split at h
    · rename_i r kt et kv e1 e2 e3
      obtain ⟨kd, es, clock, res, h1, h2, h3, h4, h5⟩ := h
      exact mapUpdate_ok hin ho e1 e2 e3 h1 h2 h3 h4 h5
    · exact h.elim
  · rename_i s d x ho
    split at h
    · rename_i e ow rows e1 e2
      obtain ⟨bs, h1, h2⟩ := h
      exact conv_b2s_ok hin ho e1 e2 h1 h2
    · rename_i e b e1 e2
      exact conv_s2b_ok hin ho e1 e2 h.1 h.2
    · exact pv_ok hin hd h
  · rename_i c ho
    split at h
    · rename_i s x e1 e2
      obtain ⟨t, t', h1, h2 | h2⟩ := h
      · exact append_ok hin ho e1 e2 h1 h2
      · exact appendB_ok hin ho e1 e2 h1 h2
    · rename_i f args e1
      exact callv_ok hin ho e1 h
    · rename_i r name args e1
      exact meth_ok hin ho e1 h
    · exact pv_ok hin hd h
  · exact pv_ok hin hd h
end sound
end Go.AL
