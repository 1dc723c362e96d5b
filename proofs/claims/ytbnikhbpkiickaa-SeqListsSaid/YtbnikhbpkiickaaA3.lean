/- A-logic, part 3: operations that change nothing, the rest; all of them together. -/
import Derived.Test.YtbnikhbpkiickaaA2
set_option linter.unusedSimpArgs false
set_option linter.unusedVariables false
namespace Go.AL
open Go.RowKit
section sound
variable {P : Program} {B : Nat} {w0 : World} {Φ : Frm} {D : List Nat} {G : Gh} {σ : Store} {w : World}

theorem run_checkKey {t : TypeId} {kd : TypeDesc} (h : P.underlying t = some kd) (hk : keyKind kd = true) (e : Bool) (v : Value) (n : Nat) : (Instr.checkKey e (n + 1) t v).run P w = .ok () w := by
  unfold Instr.checkKey
  cases kd <;> simp [keyKind] at hk <;> simp [run_underlying h]

theorem afind_sound {kd : TypeDesc} {k : Value} : ∀ {es : List (Value × AV × Nat)} {ents : List MapEntry} {res : Option AV} (i : Nat), afind kd k es = some res → ents.length = es.length →
    (∀ (j : Nat) (q : Value) (x : AV) (born : Nat) (e : MapEntry), es[j]? = some (q, x, born) → ents[j]? = some e → e.key = q ∧ e.born = born ∧ Rep G x e.val) →
    ∃ r, Instr.findNow kd k ents i = some r ∧ (match res with | none => r = none | some y => ∃ j v, r = some (i + j, v) ∧ Rep G y v ∧ ∃ e, ents[j]? = some e ∧ e.val = v) := by
  intro es
  induction es with
  | nil =>
    intro ents res i h hl _
    cases ents with
    | nil => simp only [afind, Option.some.injEq] at h; subst h; exact ⟨none, rfl, rfl⟩
    | cons e es => simp at hl
  | cons q es ih =>
    intro ents res i h hl hr
    obtain ⟨key, x, born⟩ := q
    cases ents with
    | nil => simp at hl
    | cons e ents =>
      obtain ⟨h1, h2, h3⟩ := hr 0 key x born e rfl rfl
      simp only [afind] at h
      simp only [Instr.findNow, h1]
      cases hs : Instr.sameNow kd k key with
      | none => rw [hs] at h; cases h
      | some b =>
        rw [hs] at h
        cases b with
        | true =>
          simp only [Option.some.injEq] at h
          subst h
          exact ⟨_, rfl, 0, e.val, rfl, h3, e, rfl, rfl⟩
        | false =>
          obtain ⟨r, hr1, hr2⟩ := ih (i + 1) h (by simpa using hl) (fun j q x b e a c => hr (j + 1) q x b e (by simpa using a) (by simpa using c))
          refine ⟨r, hr1, ?_⟩
          cases res with
          | none => exact hr2
          | some y =>
            obtain ⟨j, v, e1, e2, e3, e4, e5⟩ := hr2
            exact ⟨j + 1, v, by rw [e1]; congr 2; omega, e2, e3, by simpa using e4, e5⟩

theorem run_getObj_map {r : Nat} {ents : Array MapEntry} {clock : Nat} (hw : w.heap[r]? = some (.map ents clock)) : (getObj r).run P w = .ok (.map ents clock) w := by simp [getObj, Sem.run, hw]
theorem lkp_sound (hs : St B w0 Φ D G σ w) {t : TypeId} {x k z : AV} {ok : Bool} {a b : Value} (h : lkp P t x k ok σ = some z) (hx : Rep G x a) (hk : Rep G k b) :
    ∃ v, (Instr.lookup t a b ok).run P w = .ok v w ∧ Rep G z v := by
  unfold lkp at h
  split at h
  · rename_i kt et eu
    obtain ⟨kd, h1, h⟩ := Option.bind_eq_some_iff.1 h
    split at h
    · rename_i hkk
      obtain ⟨ei, h2, h⟩ := Option.bind_eq_some_iff.1 h
      obtain ⟨zv, h3, h⟩ := Option.bind_eq_some_iff.1 h
      obtain ⟨kv, h4, h⟩ := Option.bind_eq_some_iff.1 h
      cases rep_conc hk h4
      have hzero : (zeroValue et).run P w = .ok zv w := by simp [zeroValue, typeInfo, h2, h3]
      have hck : ∀ e, (Instr.checkKey e 10000 kt b).run P w = .ok () w := fun e => run_checkKey h1 hkk e b 9999
      split at h
      · cases hx
        simp only [Option.some.injEq] at h
        subst h
        cases ok
        · exact ⟨zv, by simp [Instr.lookup, run_underlying eu, hck, Instr.findKey, run_underlying h1, Instr.findNow, hzero], rep_cval zv⟩
        · exact ⟨.tuple #[zv, .bool false], by simp [Instr.lookup, run_underlying eu, hck, Instr.findKey, run_underlying h1, Instr.findNow, hzero],
            .tup (cs := [zv, .bool false]) rfl (RepL.cons (rep_cval zv) (.one (.v _))).2⟩
      · cases hx
        split at h
        · rename_i es clock hσ
          obtain ⟨res, h5, rfl⟩ := Option.map_eq_some_iff.1 h
          obtain ⟨_, ents, hw, hl, hr⟩ := hs.own _ _ hσ
          obtain ⟨rr, hf, hm⟩ := afind_sound (G := G) (ents := ents.toList) 0 h5 (by simpa using hl) (fun j q x bo e p1 p2 => hr j q x bo e p1 (by simpa using p2))
          have hget := run_getObj_map (P := P) hw
          cases res with
          | none =>
            subst hm
            cases ok
            · exact ⟨zv, by simp [Instr.lookup, run_underlying eu, hget, hck, Instr.findKey, run_underlying h1, hf, hzero], rep_cval zv⟩
            · exact ⟨.tuple #[zv, .bool false], by simp [Instr.lookup, run_underlying eu, hget, hck, Instr.findKey, run_underlying h1, hf, hzero],
                .tup (cs := [zv, .bool false]) rfl (RepL.cons (rep_cval zv) (.one (.v _))).2⟩
          | some y =>
            obtain ⟨j, v, rfl, hy, _⟩ := hm
            cases ok
            · exact ⟨v, by simp [Instr.lookup, run_underlying eu, hget, hck, Instr.findKey, run_underlying h1, hf], hy⟩
            · exact ⟨.tuple #[v, .bool true], by simp [Instr.lookup, run_underlying eu, hget, hck, Instr.findKey, run_underlying h1, hf],
                .tup (cs := [v, .bool true]) rfl (RepL.cons hy (.one (.v _))).2⟩
        · cases h
      · cases h
    · cases h
  · cases h

/-! ### Composite values -/
theorem word_cells {x : AV} {y : Value} (h : Rep G x y) (hw : x.word = true) : RepL G x.cells y.cells.toList :=
  h.cells (fun e => by rw [e] at hw; simp [AV.word] at hw) (fun z e => by subst e; cases z <;> simp [AV.word] at hw <;> rfl)
theorem fold_set (off : Nat) : ∀ (xs : List Value) (k : Nat) (cs : List Value), off + k + xs.length ≤ cs.length →
    (xs.zipIdx k).foldl (fun (acc : Array Value) (p : Value × Nat) => acc.setIfInBounds (off + p.2) p.1) cs.toArray = (cs.take (off + k) ++ xs ++ cs.drop (off + k + xs.length)).toArray := by
  intro xs
  induction xs with
  | nil => intro k cs h; simp
  | cons x xs ih =>
    intro k cs h
    simp only [List.length_cons] at h
    simp only [List.zipIdx_cons, List.foldl_cons, List.setIfInBounds_toArray]
    rw [ih (k + 1) (cs.set (off + k) x) (by simp; omega)]
    congr 1
    rw [show off + (k + 1) = off + k + 1 from by omega]
    have h1 : (cs.set (off + k) x).take (off + k + 1) = cs.take (off + k) ++ [x] := by
      rw [List.take_add_one]
      simp [List.take_set, List.getElem?_set, show off + k < cs.length from by omega]
      rw [List.set_eq_of_length_le (by simp; omega)]
    have h2 : (cs.set (off + k) x).drop (off + k + 1 + xs.length) = cs.drop (off + k + (xs.length + 1)) := by
      rw [List.drop_set, if_pos (by omega)]
      congr 1
      omega
    rw [h1, h2]
    simp
def RepP (G : Gh) (ps : List (Nat × AV)) (qs : List (Nat × Value)) : Prop := qs.length = ps.length ∧ ∀ (j : Nat) (p : Nat × AV) (q : Nat × Value), ps[j]? = some p → qs[j]? = some q → p.1 = q.1 ∧ Rep G p.2 q.2
theorem afill_sound {place : Nat → Option (Nat × Nat)} : ∀ {ps : List (Nat × AV)} {qs : List (Nat × Value)} {cells cells' : List AV} {cs : List Value}, afill place cells ps = some cells' → RepL G cells cs → RepP G ps qs →
    ∃ cs', Instr.fill place cs.toArray qs = some cs'.toArray ∧ RepL G cells' cs' := by
  intro ps
  induction ps with
  | nil =>
    intro qs cells cells' cs h hr hp
    cases qs with
    | nil => simp only [afill, Option.some.injEq] at h; subst h; exact ⟨cs, rfl, hr⟩
    | cons q qs => simp [RepP] at hp
  | cons p ps ih =>
    intro qs cells cells' cs h hr hp
    obtain ⟨i, x⟩ := p
    cases qs with
    | nil => simp [RepP] at hp
    | cons q qs =>
      obtain ⟨i', v⟩ := q
      obtain ⟨e1, e2⟩ := hp.2 0 _ _ rfl rfl
      simp only at e1 e2
      subst e1
      simp only [afill] at h
      obtain ⟨⟨off, size⟩, h1, h⟩ := Option.bind_eq_some_iff.1 h
      simp only at h
      split at h
      · rename_i hc
        obtain ⟨hw, hsz, hle⟩ := hc
        have hcells := word_cells e2 hw
        have hvs : v.cells.size = size := by have := hcells.1; simpa [hsz] using this
        have hlen := hr.1
        have hf : (v.cells.zipIdx).foldl (fun cs (c, j) => cs.setIfInBounds (off + j) c) cs.toArray = (cs.take off ++ v.cells.toList ++ cs.drop (off + v.cells.toList.length)).toArray := by
          have := fold_set off v.cells.toList 0 cs (by simp [hvs]; omega)
          simp only [Nat.add_zero] at this
          rw [← this, ← Array.foldl_toList]
          simp
        obtain ⟨cs', h2, h3⟩ := ih (qs := qs) (cs := cs.take off ++ v.cells.toList ++ cs.drop (off + v.cells.toList.length)) h
          (by
            have hl2 : x.cells.length = v.cells.toList.length := by rw [hcells.1]
            unfold setRun
            rw [hl2]
            exact ((hr.take off).app hcells).app (hr.drop _))
          ⟨by simpa using hp.1, fun j p q a b => hp.2 (j + 1) p q (by simpa using a) (by simpa using b)⟩
        refine ⟨cs', ?_, h3⟩
        simp only [Instr.fill, h1, hf]
        rw [if_neg (by simp [hvs]; omega)]
        exact h2
      · cases h
theorem run_fieldPlaces : ∀ {fs : List Field} {l : List (Nat × Nat)}, fieldPlaces P fs = some l → (fs.mapM fun f => do pure (f.offset, ← sizeOf f.type) : Sem (List (Nat × Nat))).run P w = .ok l w := by
  intro fs
  induction fs with
  | nil => intro l h; simp only [fieldPlaces, Option.some.injEq] at h; subst h; rfl
  | cons f fs ih =>
    intro l h
    simp only [fieldPlaces] at h
    obtain ⟨n, h1, h⟩ := Option.bind_eq_some_iff.1 h
    obtain ⟨l', h2, h⟩ := Option.bind_eq_some_iff.1 h
    cases h
    have := ih h2
    simp only [List.mapM_cons, Sem.run_bind, run_szOf h1, Result.andThen_ok, Sem.run_pure, this]
theorem cells_cval {v : Value} : RepL G (cval v).cells v.cells.toList := by
  unfold cval
  split
  · rename_i cs
    refine ⟨by simp [AV.cells, Value.cells], fun j x y hx hy => ?_⟩
    simp only [AV.cells, Value.cells, List.getElem?_map] at hx hy
    rw [hy] at hx
    simp only [Option.map_some, Option.some.injEq] at hx
    subst hx
    split
    · exact rep_nil
    · exact .v _
  · exact .one rep_nil
  · rename_i n1 n2
    have : v.cells = #[v] := by
      cases v <;> first | rfl | exact absurd rfl (n1 _)
    rw [this]
    exact .one (.v _)
theorem bld_sound {t : TypeId} {ps : List (Nat × AV)} {qs : Array (Nat × Value)} {z : AV} (h : bld P t ps = some z) (hp : RepP G ps qs.toList) : ∃ v, (Instr.build t qs).run P w = .ok v w ∧ Rep G z v := by
  unfold bld at h
  split at h
  · rename_i fs i eu ei
    obtain ⟨zv, h1, h⟩ := Option.bind_eq_some_iff.1 h
    obtain ⟨pl, h2, h⟩ := Option.bind_eq_some_iff.1 h
    obtain ⟨cells, h3, rfl⟩ := Option.map_eq_some_iff.1 h
    obtain ⟨cs', h4, h5⟩ := afill_sound h3 (cells_cval (G := G) (v := zv)) hp
    refine ⟨.agg cs'.toArray, ?_, .agg h5.1 h5.2⟩
    have hmap : (fs.mapM fun f => do pure (f.offset, ← sizeOf f.type) : Sem (Array (Nat × Nat))).run P w = .ok pl.toArray w := by
      rw [← Array.toArray_toList (xs := fs), List.mapM_toArray]
      simp only [map_eq_pure_bind, Sem.run_bind, run_fieldPlaces h2, Result.andThen_ok, Sem.run_pure]
    have h4' : Instr.fill (fun j => pl.toArray[j]?) zv.cells qs.toList = some cs'.toArray := by
      simpa using h4
    simp only [Instr.build, zeroValue, typeInfo, Sem.run_bind, program, Sem.run, ei, h1, Result.andThen_ok, Sem.run_pure, run_underlying eu, hmap, h4']
  · rename_i n e i eu ei
    obtain ⟨zv, h1, h⟩ := Option.bind_eq_some_iff.1 h
    obtain ⟨s, h2, h⟩ := Option.bind_eq_some_iff.1 h
    obtain ⟨cells, h3, rfl⟩ := Option.map_eq_some_iff.1 h
    obtain ⟨cs', h4, h5⟩ := afill_sound h3 (cells_cval (G := G) (v := zv)) hp
    refine ⟨.agg cs'.toArray, ?_, .agg h5.1 h5.2⟩
    have h4' : Instr.fill (fun j => some (j * s, s)) zv.cells qs.toList = some cs'.toArray := by simpa using h4
    simp only [Instr.build, zeroValue, typeInfo, Sem.run_bind, program, Sem.run, ei, h1, Result.andThen_ok, Sem.run_pure, run_underlying eu, run_szOf h2, h4']
  · cases h

theorem rep_concLL : ∀ {xs : List AV} {ys zs : List Value}, RepL G xs ys → concLL xs = some zs → ys = zs
  | [], ys, zs, h, hc => by cases h.nil_inv; simpa [concLL] using hc
  | x :: xs, ys, zs, h, hc => by
    obtain ⟨y, ys', rfl, h1, h2⟩ := h.head
    simp only [concLL] at hc
    obtain ⟨z, hz, hc⟩ := Option.bind_eq_some_iff.1 hc
    obtain ⟨zs', hzs, hc⟩ := Option.bind_eq_some_iff.1 hc
    cases hc
    rw [rep_conc h1 hz, rep_concLL h2 hzs]
theorem blt_sound (hs : St B w0 Φ D G σ w) {b : Builtin} {ats : Array TypeId} {ty : TypeId} {consts : Array Bool} {xs : List AV} {vs : List Value} {z : AV} (h : blt P b ats ty consts xs σ = some z) (hx : RepL G xs vs) :
    ∃ v, (builtin b ats ty consts vs.toArray).run P w = .ok (.value v) w ∧ Rep G z v := by
  unfold blt at h
  split at h
  · split at h
    · rename_i e
      obtain ⟨t, ht, eu⟩ := Option.bind_eq_some_iff.1 e
      cases h
      obtain ⟨y, ys, rfl, h1, h2⟩ := hx.head
      cases h2.nil_inv
      cases h1 with
      | sl sz cs ho hc hsz hcell hrep =>
        exact ⟨_, by simp [builtin, Builtin.len_, ht, run_underlying eu]; rfl, .v _⟩
    · cases h
  · split at h
    · rename_i e
      obtain ⟨t, ht, eu⟩ := Option.bind_eq_some_iff.1 e
      cases h
      obtain ⟨y, ys, rfl, h1, h2⟩ := hx.head
      cases h2.nil_inv
      cases h1 with
      | sl sz cs ho hc hsz hcell hrep =>
        have ho' := ho
        simp only [OwnerAt] at ho'
        subst ho'
        exact ⟨_, by simp [builtin, Builtin.cap_, ht, run_underlying eu]; rfl, .v _⟩
    · cases h
  · split at h
    · rename_i e eσ
      obtain ⟨t, ht, eu⟩ := Option.bind_eq_some_iff.1 e
      cases h
      obtain ⟨y, ys, rfl, h1, h2⟩ := hx.head
      cases h2.nil_inv
      cases h1
      obtain ⟨_, ents, hw, hl, hr⟩ := hs.own _ _ eσ
      have hget := run_getObj_map (P := P) hw
      exact ⟨_, by simp [builtin, Builtin.len_, ht, run_underlying eu, hget, hl]; rfl, .v _⟩
    · cases h
  · obtain ⟨ys, h1, h⟩ := Option.bind_eq_some_iff.1 h
    obtain ⟨nx, h2, h⟩ := Option.bind_eq_some_iff.1 h
    cases rep_concLL hx h1
    have hr := pureRun_run _ h2 w
    cases nx with
    | value v =>
      simp only [Option.some.injEq] at h
      subst h
      exact ⟨v, hr, rep_cval v⟩
    | _ => simp at h

def opIn (N : Nat) (o : Oper) : Bool := o.op.operands.toList.all (Operand.inN N)
theorem repL_aev {N : Nat} {T : Fr} {a : Act} (h : RepT G N T a.tmps) : ∀ {xs : List Operand}, xs.all (Operand.inN N) = true → RepL G (xs.map (aev T)) (xs.map a.eval)
  | [], _ => .nil
  | x :: xs, hx => by
    simp only [List.all_cons, Bool.and_eq_true] at hx
    exact .cons (rep_aev h hx.1) (repL_aev h hx.2)
theorem repO_aev {N : Nat} {T : Fr} {a : Act} (h : RepT G N T a.tmps) {x : Option Operand} (hx : ∀ y, x = some y → Operand.inN N y = true) : RepO G (x.map (aev T)) (x.map a.eval) := by
  cases x with
  | none => trivial
  | some y => exact rep_aev h (hx y rfl)

theorem pv_sound (hs : St B w0 Φ D G σ w) {N : Nat} {T : Fr} {a : Act} (ht : RepT G N T a.tmps) {o : Oper} (hin : opIn N o = true) {z : AV} (h : pv P o T σ = some z) :
    ∃ v, (execOp a.eval o).run P w = .ok (.value v) w ∧ Rep G z v := by
  have hin' : ∀ x, x ∈ o.op.operands.toList → Operand.inN N x = true := fun x hx => List.all_eq_true.1 hin x hx
  have R : ∀ x, x ∈ o.op.operands.toList → Rep G (aev T x) (a.eval x) := fun x hx => rep_aev ht (hin' x hx)
  unfold pv at h
  split at h
  · rename_i x ho; cases h; exact ⟨_, by simp [execOp, ho], R x (by simp [ho, Op.operands])⟩
  · rename_i x ho; cases h; exact ⟨_, by simp [execOp, ho], R x (by simp [ho, Op.operands])⟩
  · rename_i c x y ho
    split at h
    · rename_i t e
      cases h
      have hc := R c (by simp [ho, Op.operands])
      rw [e] at hc
      have e2 : a.eval c = .bool t := by generalize a.eval c = q at hc; cases hc; rfl
      refine ⟨_, by simp [execOp, ho, e2, asBool]; rfl, ?_⟩
      cases t
      · exact R y (by simp [ho, Op.operands])
      · exact R x (by simp [ho, Op.operands])
    · cases h
  · rename_i t x ho
    obtain ⟨ad, v, e1, e2, e3⟩ := run_ldp hs h (R x (by simp [ho, Op.operands]))
    exact ⟨v, by simp [execOp, ho, Instr.loadAt, e1, Instr.sureAddr, e2], e3⟩
  · rename_i x ho
    exact ⟨_, nilc_sound h (R x (by simp [ho, Op.operands])) o a.eval x ho rfl⟩
  · rename_i op t x y yt ho
    obtain ⟨v, e1, e2⟩ := binE_sound (w := w) h (R x (by simp [ho, Op.operands])) (R y (by simp [ho, Op.operands]))
    exact ⟨v, by simp only [execOp, ho, Sem.run_bind]; rw [Sem.run_bind] at e1; rw [e1]; rfl, e2⟩
  · rename_i op t x ho
    obtain ⟨v, e1, e2⟩ := one_sound (w := w) h (R x (by simp [ho, Op.operands]))
    exact ⟨v, by simp [execOp, ho, e1], e2⟩
  · rename_i s d x ho
    obtain ⟨v, e1, e2⟩ := one_sound (w := w) h (R x (by simp [ho, Op.operands]))
    exact ⟨v, by simp [execOp, ho, e1], e2⟩
  · rename_i t x ho
    obtain ⟨v, e1, e2⟩ := one_sound (w := w) h (R x (by simp [ho, Op.operands]))
    exact ⟨v, by simp [execOp, ho, e1], e2⟩
  · rename_i fn first caps ho
    unfold mkf at h
    obtain ⟨p, h1, h⟩ := Option.bind_eq_some_iff.1 h
    obtain ⟨q, h2, h⟩ := Option.bind_eq_some_iff.1 h
    cases h
    have r1 := rep_concL (repL_aev (G := G) (xs := first.toList) ht (List.all_eq_true.2 fun x hx => hin' x (by simp only [ho, Op.operands, Array.toList_append, List.mem_append]; exact .inl hx))) h1
    have r2 := rep_concL (repL_aev (G := G) (xs := caps.toList) ht (List.all_eq_true.2 fun x hx => hin' x (by simp only [ho, Op.operands, Array.toList_append, List.mem_append]; exact .inr hx))) h2
    have e1 : first.map a.eval = p.toArray := by rw [← r1, ← Array.toList_map]
    have e2 : caps.map a.eval = q.toArray := by rw [← r2, ← Array.toList_map]
    exact ⟨_, by simp [execOp, ho, Instr.makeFunc, e1, e2], .v _⟩
  · rename_i t x lo hi mx ho
    obtain ⟨v, e1, e2⟩ := slc_sound (w := w) h (R x (by simp [ho, Op.operands]))
      (repO_aev ht (x := lo) (fun y e => hin' y (by simp [ho, Op.operands, e])))
      (repO_aev ht (x := hi) (fun y e => hin' y (by simp [ho, Op.operands, e])))
      (repO_aev ht (x := mx) (fun y e => hin' y (by simp [ho, Op.operands, e])))
    exact ⟨v, by simp [execOp, ho, e1], e2⟩
  · rename_i s x f ho
    obtain ⟨v, e1, e2⟩ := fad_sound (w := w) h (R x (by simp [ho, Op.operands]))
    exact ⟨v, by simp [execOp, ho, e1], e2⟩
  · rename_i t x f ho
    obtain ⟨v, e1, e2⟩ := fld_sound (w := w) h (R x (by simp [ho, Op.operands]))
    exact ⟨v, by simp [execOp, ho, e1], e2⟩
  · rename_i t x i ho
    obtain ⟨v, e1, e2⟩ := iad_sound (w := w) h (R x (by simp [ho, Op.operands])) (R i (by simp [ho, Op.operands]))
    exact ⟨v, by simp [execOp, ho, e1], e2⟩
  · rename_i t x i ho
    obtain ⟨v, e1, e2⟩ := idx_sound (w := w) h (R x (by simp [ho, Op.operands])) (R i (by simp [ho, Op.operands]))
    exact ⟨v, by simp [execOp, ho, e1], e2⟩
  · rename_i x i ho
    split at h
    · rename_i vs e
      have hx := R x (by simp [ho, Op.operands])
      rw [e] at hx
      generalize hq : a.eval x = q at hx
      cases hx with
      | tup hl hr =>
        obtain ⟨v, e1, e2⟩ := RepL.at ⟨hl, hr⟩ h
        exact ⟨v, by simp [execOp, ho, hq, Instr.extract, e1], e2⟩
    · cases h
  · rename_i t ps ho
    have hp : RepP G (ps.toList.map fun p => (p.1, aev T p.2)) ((ps.map fun (i, x) => (i, a.eval x)).toList) := by
      refine ⟨by simp, fun j p q e1 e2 => ?_⟩
      simp only [Array.toList_map, List.getElem?_map, Option.map_eq_some_iff] at e1 e2
      obtain ⟨⟨i1, x1⟩, h1, rfl⟩ := e1
      obtain ⟨⟨i2, x2⟩, h2, rfl⟩ := e2
      rw [h1] at h2
      cases h2
      exact ⟨rfl, R x1 (by simp only [ho, Op.operands]; exact List.mem_map.2 ⟨_, List.mem_of_getElem? h1, rfl⟩)⟩
    obtain ⟨v, e1, e2⟩ := bld_sound (w := w) h hp
    exact ⟨v, by simp [execOp, ho, e1], e2⟩
  · rename_i t m k ok ho
    obtain ⟨v, e1, e2⟩ := lkp_sound hs h (R m (by simp [ho, Op.operands])) (R k (by simp [ho, Op.operands]))
    exact ⟨v, by simp [execOp, ho, e1], e2⟩
  · rename_i b args ats ho
    obtain ⟨v, e1, e2⟩ := blt_sound hs h (repL_aev (G := G) (xs := args.toList) ht (List.all_eq_true.2 fun x hx => hin' x (by simp only [ho, Op.operands, Call.operands, Array.toList_append, List.mem_append]; exact .inr hx)))
    have e3 : args.map a.eval = (args.toList.map a.eval).toArray := by rw [← Array.toList_map]
    refine ⟨v, ?_, e2⟩
    simp only [execOp, ho, resolve, invoke, Sem.run_bind, Sem.run_pure, Result.andThen_ok]
    rw [e3]
    exact e1
  · cases h
end sound
end Go.AL
