/- A-logic, part 2: operations that change nothing. -/
import Derived.Test.YtbnikhbpkiickaaA1
set_option linter.unusedSimpArgs false
set_option linter.unusedVariables false
namespace Go.AL
open Go.RowKit

/-- A run that asks memory nothing. -/
def pureRun? (P : Program) {α : Type} : Sem α → Option α
  | .pure a => some a
  | .program k => pureRun? P (k P)
  | .mark _ k => pureRun? P k
  | _ => none
theorem pureRun_run {P : Program} {α : Type} : ∀ (s : Sem α) {a : α}, pureRun? P s = some a → ∀ w, s.run P w = .ok a w
  | .pure b, a, h, w => by simp only [pureRun?, Option.some.injEq] at h; subst h; rfl
  | .program k, a, h, w => by simp only [pureRun?] at h; exact pureRun_run (k P) h w
  | .mark m k, a, h, w => by simp only [pureRun?] at h; exact pureRun_run k h w
  | .load _ _ _, a, h, w => by simp [pureRun?] at h
  | .store _ _ _ _, a, h, w => by simp [pureRun?] at h
  | .new _ _, a, h, w => by simp [pureRun?] at h
  | .shape _ _, a, h, w => by simp [pureRun?] at h
  | .freeze _ _ _, a, h, w => by simp [pureRun?] at h
  | .frozen _ _, a, h, w => by simp [pureRun?] at h
  | .getObj _ _, a, h, w => by simp [pureRun?] at h
  | .setObj _ _ _, a, h, w => by simp [pureRun?] at h
  | .choose _ _, a, h, w => by simp [pureRun?] at h
  | .sys _ _, a, h, w => by simp [pureRun?] at h
  | .halt _, a, h, w => by simp [pureRun?] at h

/-- The one concrete value, where there is one. -/
def conc1 : AV → Option Value
  | .v x => some x
  | .sl .nil _ => some (.slice none 0 0)
  | _ => none
def concL : List AV → Option (List Value)
  | [] => some []
  | x :: xs => (conc1 x).bind fun y => (concL xs).bind fun ys => some (y :: ys)
def conc : AV → Option Value
  | .agg cs => (concL cs).map fun l => .agg l.toArray
  | x => conc1 x
theorem rep_conc1 {G : Gh} {x : AV} {y z : Value} (h : Rep G x y) (hc : conc1 x = some z) : y = z := by
  cases h with
  | v => simpa [conc1] using hc
  | junk => simp [conc1] at hc
  | sl sz cs ho hle hsz hcell hrep =>
    rename_i o rows a c
    cases o with
    | nil =>
      simp only [conc1, Option.some.injEq] at hc
      obtain ⟨rfl, rfl⟩ := ho
      have : rows.length = 0 := by omega
      rw [this]; exact hc
    | _ => simp [conc1] at hc
  | el cs _ _ => simp [conc1] at hc
  | agg _ _ => simp [conc1] at hc
  | tup _ _ => simp [conc1] at hc
theorem rep_concL {G : Gh} : ∀ {xs : List AV} {ys zs : List Value}, RepL G xs ys → concL xs = some zs → ys = zs
  | [], ys, zs, h, hc => by cases h.nil_inv; simpa [concL] using hc
  | x :: xs, ys, zs, h, hc => by
    obtain ⟨y, ys', rfl, h1, h2⟩ := h.head
    simp only [concL] at hc
    obtain ⟨z, hz, hc⟩ := Option.bind_eq_some_iff.1 hc
    obtain ⟨zs', hzs, hc⟩ := Option.bind_eq_some_iff.1 hc
    cases hc
    rw [rep_conc1 h1 hz, rep_concL h2 hzs]
theorem rep_conc {G : Gh} {x : AV} {y z : Value} (h : Rep G x y) (hc : conc x = some z) : y = z := by
  cases h with
  | agg hl hrep =>
    simp only [conc, Option.map_eq_some_iff] at hc
    obtain ⟨l, h1, rfl⟩ := hc
    rw [rep_concL ⟨hl, hrep⟩ h1]
  | v => exact rep_conc1 (G := G) (.v _) (by simpa [conc] using hc)
  | junk => simp [conc, conc1] at hc
  | sl sz cs ho hle hsz hcell hrep => exact rep_conc1 (.sl sz cs ho hle hsz hcell hrep) (by simpa [conc] using hc)
  | el cs _ _ => simp [conc, conc1] at hc
  | tup _ _ => simp [conc, conc1] at hc

def szOf (P : Program) (t : TypeId) : Option Nat := (P.info? t).map (·.size)
theorem run_szOf {P : Program} {t : TypeId} {n : Nat} (h : szOf P t = some n) (w : World) : (sizeOf t).run P w = .ok n w := by
  unfold szOf at h
  obtain ⟨i, hi, rfl⟩ := Option.map_eq_some_iff.1 h
  simp [sizeOf, typeInfo, hi]

def bin (P : Program) (op : BinOp) (t : TypeId) (ox oy : Operand) (x y : AV) : Option AV :=
  (conc x).bind fun a => (conc y).bind fun b => (pureRun? P (do eqGuard op t ox oy a b; binOp op t a b)).map cval
def sleq (P : Program) (op : BinOp) (t : TypeId) (x y : AV) : Option AV :=
  match P.underlying t, op, x, y with
  | some (.slice _), .eql, .sl _ ((_ :: _) :: _), .sl .nil _ => some (.v (.bool false))
  | some (.slice _), .neq, .sl _ ((_ :: _) :: _), .sl .nil _ => some (.v (.bool true))
  | _, _, _, _ => none
def binE (P : Program) (op : BinOp) (t : TypeId) (ox oy : Operand) (x y : AV) : Option AV :=
  match bin P op t ox oy x y with
  | some z => some z
  | none => sleq P op t x y
def un (P : Program) (op : UnOp) (x : AV) : Option AV := (conc x).bind fun a => (pureRun? P (Op.unary op a)).map cval
def cnv (P : Program) (s d : TypeId) (x : AV) : Option AV := (conc x).bind fun a => (pureRun? P (convert s d a)).map cval
def mki (P : Program) (t : TypeId) (x : AV) : Option AV := (conc x).bind fun a => (pureRun? P (Instr.makeInterface t a)).map cval
def mkf (fn : Fn) (first caps : List AV) : Option AV := (concL first).bind fun a => (concL caps).bind fun b => some (.v (.func fn a.toArray b.toArray))
def nilc : AV → Option AV
  | .v (.pointer (some a)) => some (.v (.pointer (some a)))
  | .v (.iface t x) => some (.v (.iface t x))
  | .v (.func (.func f) a b) => some (.v (.func (.func f) a b))
  | .el row off => some (.el row off)
  | _ => none
def addOff : AV → Nat → Option AV
  | .v (.pointer (some ⟨l, off, none⟩)), n => some (.v (.pointer (some ⟨l, off + n, none⟩)))
  | .el row off, n => some (.el row (off + n))
  | _, _ => none
def fad (P : Program) (s : TypeId) (x : AV) (f : Nat) : Option AV :=
  match P.underlying s with
  | some (.struct fs) => (fs[f]?).bind fun fd => (szOf P fd.type).bind fun n => if n = 0 then none else addOff x fd.offset
  | _ => none
def part? (P : Program) (t : TypeId) (cs : List AV) (off : Nat) : Option AV :=
  match szAgg P t with
  | some (n, true) => if off + n ≤ cs.length then some (.agg ((cs.drop off).take n)) else none
  | some (_, false) => cs[off]?
  | none => none
def fld (P : Program) (t : TypeId) (x : AV) (f : Nat) : Option AV :=
  match P.underlying t, x with
  | some (.struct fs), .agg cs => (fs[f]?).bind fun fd => part? P fd.type cs fd.offset
  | _, _ => none
def iad (P : Program) (t : TypeId) (x i : AV) : Option AV :=
  match P.underlying t, x, i with
  | some (.slice e), .sl _ rows, .v (.int _ n) => if 0 ≤ n then (rows[n.toNat]?).bind fun r => if szOf P e = some r.length ∧ 0 < r.length then some (.el r 0) else none else none
  | some (.slice e), .v (.slice (some ⟨l, off, none⟩) len _), .v (.int _ n) => if 0 ≤ n ∧ n < len then (szOf P e).bind fun s => some (.v (.pointer (some ⟨l, off + n.toNat * s, none⟩))) else none
  | some (.array len e), x, .v (.int _ n) => if 0 ≤ n ∧ n < len then (szOf P e).bind fun s => addOff x (n.toNat * s) else none
  | _, _, _ => none
def idx (P : Program) (t : TypeId) (x i : AV) : Option AV := (conc x).bind fun a => (conc i).bind fun b => (pureRun? P (Instr.index t a b)).map cval
def natOf (d : Nat) : Option AV → Option Nat
  | none => some d
  | some (.v (.int _ n)) => if 0 ≤ n then some n.toNat else none
  | some _ => none
def concO : Option AV → Option (Option Value)
  | none => some none
  | some x => (conc x).map some
def slc (P : Program) (t : TypeId) (x : AV) (lo hi mx : Option AV) : Option AV :=
  match P.underlying t, x with
  | some (.slice e), .sl _ rows =>
    (natOf rows.length hi).bind fun h => (natOf 0 lo).bind fun l => (szOf P e).bind fun s => if l ≤ h ∧ h ≤ rows.length ∧ (rows.all fun r => r.length == s) = true then
      match mx with
      | none => some (.sl .ro ((rows.take h).drop l))
      | some m => if hi.isSome then (natOf 0 (some m)).bind fun m => if m = h then some (.sl .tight ((rows.take h).drop l)) else none else none
    else none
  | some (.string), x => (conc x).bind fun a => (concO lo).bind fun l => (concO hi).bind fun h => (concO mx).bind fun m => (pureRun? P (Instr.slice t a l h m)).map cval
  | _, _ => none
def afind (kind : TypeDesc) (k : Value) : List (Value × AV × Nat) → Option (Option AV)
  | [] => some none
  | (key, x, _) :: es =>
    match Instr.sameNow kind k key with
    | some true => some (some x)
    | some false => afind kind k es
    | none => none
def keyKind : TypeDesc → Bool
  | .string | .int _ | .bool => true
  | _ => false
def lkp (P : Program) (t : TypeId) (x k : AV) (ok : Bool) (σ : Store) : Option AV :=
  match P.underlying t with
  | some (.map kt et) => (P.underlying kt).bind fun kd => if keyKind kd then (P.info? et).bind fun ei => ei.zero.bind fun z => (conc k).bind fun kv =>
      match x with
      | .v (.map none) => some (if ok then .tup [cval z, .v (.bool false)] else cval z)
      | .v (.map (some r)) =>
        match σ r with
        | some (.map es _) => (afind kd kv es).map fun
          | some y => if ok then .tup [y, .v (.bool true)] else y
          | none => if ok then .tup [cval z, .v (.bool false)] else cval z
        | _ => none
      | _ => none
    else none
  | _ => none
def AV.word : AV → Bool
  | .junk => false
  | .v (.agg _) => false
  | _ => true
def setRun (cells : List AV) (off : Nat) (xs : List AV) : List AV := cells.take off ++ xs ++ cells.drop (off + xs.length)
def afill (place : Nat → Option (Nat × Nat)) (cells : List AV) : List (Nat × AV) → Option (List AV)
  | [] => some cells
  | (i, x) :: rest => (place i).bind fun (off, size) => if x.word ∧ x.cells.length = size ∧ off + size ≤ cells.length then afill place (setRun cells off x.cells) rest else none
def fieldPlaces (P : Program) : List Field → Option (List (Nat × Nat))
  | [] => some []
  | f :: fs => (szOf P f.type).bind fun n => (fieldPlaces P fs).bind fun l => some ((f.offset, n) :: l)
def bld (P : Program) (t : TypeId) (parts : List (Nat × AV)) : Option AV :=
  match P.underlying t, P.info? t with
  | some (.struct fs), some i => i.zero.bind fun z => (fieldPlaces P fs.toList).bind fun pl => (afill (fun j => pl[j]?) (cval z).cells parts).map .agg
  | some (.array _ e), some i => i.zero.bind fun z => (szOf P e).bind fun s => (afill (fun j => some (j * s, s)) (cval z).cells parts).map .agg
  | _, _ => none
def concLL : List AV → Option (List Value)
  | [] => some []
  | x :: xs => (conc x).bind fun y => (concLL xs).bind fun ys => some (y :: ys)
def blt (P : Program) (b : Builtin) (ats : Array TypeId) (ty : TypeId) (consts : Array Bool) (xs : List AV) (σ : Store) : Option AV :=
  match b, xs with
  | .len, [.sl o rows] => match (ats[0]?).bind P.underlying with | some (.slice _) => some (.v (.int .i64 rows.length)) | _ => none
  | .cap, [.sl .tight rows] => match (ats[0]?).bind P.underlying with | some (.slice _) => some (.v (.int .i64 rows.length)) | _ => none
  | .len, [.v (.map (some r))] => match (ats[0]?).bind P.underlying, σ r with | some (.map _ _), some (.map es _) => some (.v (.int .i64 es.length)) | _, _ => none
  | b, xs => (concLL xs).bind fun ys => (pureRun? P (builtin b ats ty consts ys.toArray)).bind fun | .value v => some (cval v) | _ => none

def pv (P : Program) (o : Oper) (T : Fr) (σ : Store) : Option AV :=
  match o.op with
  | .move x | .assign x => some (aev T x)
  | .pick c a b => match aev T c with | .v (.bool t) => some (if t then aev T a else aev T b) | _ => none
  | .load t x => ldp P t (aev T x) σ
  | .nilCheck x => nilc (aev T x)
  | .binOp op t x y _ => binE P op t x y (aev T x) (aev T y)
  | .unOp op _ x => un P op (aev T x)
  | .convert s d x => cnv P s d (aev T x)
  | .makeInterface t x => mki P t (aev T x)
  | .makeFunc fn first caps => mkf fn (first.toList.map (aev T)) (caps.toList.map (aev T))
  | .slice t x lo hi mx => slc P t (aev T x) (lo.map (aev T)) (hi.map (aev T)) (mx.map (aev T))
  | .fieldAddr s x f => fad P s (aev T x) f
  | .field t x f => fld P t (aev T x) f
  | .indexAddr t x i => iad P t (aev T x) (aev T i)
  | .index t x i => idx P t (aev T x) (aev T i)
  | .extract x i => match aev T x with | .tup vs => vs[i]? | _ => none
  | .build t parts => bld P t (parts.toList.map fun p => (p.1, aev T p.2))
  | .lookup t m k ok => lkp P t (aev T m) (aev T k) ok σ
  | .call { callee := .builtin b, args, argTypes } => blt P b argTypes o.type (args.map fun | .const _ => true | _ => false) (args.toList.map (aev T)) σ
  | _ => none

section sound
variable {P : Program} {B : Nat} {w0 : World} {Φ : Frm} {D : List Nat} {G : Gh} {σ : Store} {w : World}

theorem bin_sound {op : BinOp} {t : TypeId} {ox oy : Operand} {x y z : AV} {a b : Value} (h : bin P op t ox oy x y = some z) (hx : Rep G x a) (hy : Rep G y b) :
    ∃ v, (do eqGuard op t ox oy a b; binOp op t a b : Sem Value).run P w = .ok v w ∧ Rep G z v := by
  unfold bin at h
  obtain ⟨a', h1, h⟩ := Option.bind_eq_some_iff.1 h
  obtain ⟨b', h2, h⟩ := Option.bind_eq_some_iff.1 h
  obtain ⟨v, h3, rfl⟩ := Option.map_eq_some_iff.1 h
  cases rep_conc hx h1
  cases rep_conc hy h2
  exact ⟨v, pureRun_run _ h3 w, rep_cval v⟩
theorem sl_some {o : Owner} {x : AV} {r : List AV} {rows : List (List AV)} {a : Value} (h : Rep G (.sl o ((x :: r) :: rows)) a) : ∃ ad n c, a = .slice (some ad) n c := by
  cases h with
  | sl sz cs ho hc hsz hcell hrep =>
    obtain ⟨b, off, rfl, _⟩ := hcell 0 (x :: r) 0 x rfl rfl
    exact ⟨_, _, _, rfl⟩
theorem sl_nil {rows : List (List AV)} {a : Value} (h : Rep G (.sl .nil rows) a) : ∃ n c, a = .slice none n c := by
  cases h with
  | sl sz cs ho hc hsz hcell hrep =>
    obtain ⟨rfl, _⟩ := ho
    exact ⟨_, _, rfl⟩
theorem run_eqslice {t e : TypeId} (ut : P.underlying t = some (.slice e)) {ad : Addr} {n c n' c' : Nat} (k : Nat) : (Op.equalIn (k + 1) t (.slice (some ad) n c) (.slice none n' c')).run P w = .ok false w := by
  unfold Op.equalIn
  simp only [Sem.run_bind, run_underlying ut, Result.andThen_ok, Sem.run_pure]
theorem run_eqnil {t e : TypeId} {ox oy : Operand} (ut : P.underlying t = some (.slice e)) {ad : Addr} {n c n' c' : Nat} : (do eqGuard .eql t ox oy (.slice (some ad) n c) (.slice none n' c'); binOp .eql t (.slice (some ad) n c) (.slice none n' c') : Sem Value).run P w = .ok (.bool false) w := by
  have h1 : (eqGuard .eql t ox oy (.slice (some ad) n c) (.slice none n' c')).run P w = .ok () w := rfl
  have h2 : binOp .eql t (.slice (some ad) n c) (.slice none n' c') = (do pure (.bool (← Op.equalIn (9999 + 1) t (.slice (some ad) n c) (.slice none n' c')))) := rfl
  simp only [Sem.run_bind, h1, h2, run_eqslice ut, Result.andThen_ok, Sem.run_pure]
theorem run_nenil {t e : TypeId} {ox oy : Operand} (ut : P.underlying t = some (.slice e)) {ad : Addr} {n c n' c' : Nat} : (do eqGuard .neq t ox oy (.slice (some ad) n c) (.slice none n' c'); binOp .neq t (.slice (some ad) n c) (.slice none n' c') : Sem Value).run P w = .ok (.bool true) w := by
  have h1 : (eqGuard .neq t ox oy (.slice (some ad) n c) (.slice none n' c')).run P w = .ok () w := rfl
  have h2 : binOp .neq t (.slice (some ad) n c) (.slice none n' c') = (do pure (.bool (!(← Op.equalIn (9999 + 1) t (.slice (some ad) n c) (.slice none n' c'))))) := rfl
  simp only [Sem.run_bind, h1, h2, run_eqslice ut, Result.andThen_ok, Sem.run_pure, Bool.not_false]
theorem binE_sound {op : BinOp} {t : TypeId} {ox oy : Operand} {x y z : AV} {a b : Value} (h : binE P op t ox oy x y = some z) (hx : Rep G x a) (hy : Rep G y b) :
    ∃ v, (do eqGuard op t ox oy a b; binOp op t a b : Sem Value).run P w = .ok v w ∧ Rep G z v := by
  unfold binE at h
  split at h
  · rename_i z' hb
    cases h
    exact bin_sound hb hx hy
  · unfold sleq at h
    split at h
    · rename_i ut
      cases h
      obtain ⟨ad, n, c, rfl⟩ := sl_some hx
      obtain ⟨n', c', rfl⟩ := sl_nil hy
      exact ⟨_, run_eqnil (by assumption), .v _⟩
    · rename_i ut
      cases h
      obtain ⟨ad, n, c, rfl⟩ := sl_some hx
      obtain ⟨n', c', rfl⟩ := sl_nil hy
      exact ⟨_, run_nenil (by assumption), .v _⟩
    · cases h
theorem one_sound {f : Value → Sem Value} {x z : AV} {a : Value} (h : ((conc x).bind fun a => (pureRun? P (f a)).map cval) = some z) (hx : Rep G x a) : ∃ v, (f a).run P w = .ok v w ∧ Rep G z v := by
  obtain ⟨a', h1, h⟩ := Option.bind_eq_some_iff.1 h
  obtain ⟨v, h3, rfl⟩ := Option.map_eq_some_iff.1 h
  cases rep_conc hx h1
  exact ⟨v, pureRun_run _ h3 w, rep_cval v⟩
theorem nilc_sound {x z : AV} {a : Value} (h : nilc x = some z) (hx : Rep G x a) (o : Oper) (ρ : Operand → Value) (op : Operand) (ho : o.op = .nilCheck op) (he : ρ op = a) :
    (execOp ρ o).run P w = .ok (.value a) w ∧ Rep G z a := by
  unfold nilc at h
  split at h
  · cases h; cases hx; simp [execOp, ho, he]; exact .v _
  · cases h; cases hx; simp [execOp, ho, he]; exact .v _
  · cases h; cases hx; simp [execOp, ho, he]; exact .v _
  · cases h
    cases hx with
    | el cs hc hr => refine ⟨by simp [execOp, ho, he], .el cs hc hr⟩
  · cases h
theorem addOff_sound {x z : AV} {n : Nat} {a : Value} (h : addOff x n = some z) (hx : Rep G x a) : ∃ ad : Addr, a = .pointer (some ad) ∧ Rep G z (.pointer (some (ad.add n))) := by
  unfold addOff at h
  split at h
  · cases h; cases hx
    exact ⟨_, rfl, by rw [Addr.add_plain]; exact .v _⟩
  · cases h
    cases hx with
    | el cs hc hr => exact ⟨_, rfl, by rw [Addr.add_plain, Nat.add_assoc]; exact .el cs hc hr⟩
  · cases h
theorem fad_sound {s : TypeId} {x z : AV} {f : Nat} {a : Value} (h : fad P s x f = some z) (hx : Rep G x a) : ∃ v, (Instr.fieldAt s a f).run P w = .ok v w ∧ Rep G z v := by
  unfold fad at h
  split at h
  · rename_i fs e
    obtain ⟨fd, h1, h⟩ := Option.bind_eq_some_iff.1 h
    obtain ⟨n, h2, h⟩ := Option.bind_eq_some_iff.1 h
    split at h
    · cases h
    · rename_i hn
      obtain ⟨ad, rfl, hz⟩ := addOff_sound h hx
      exact ⟨_, by simp [Instr.fieldAt, run_underlying e, h1, Instr.sureAddr, fieldPlace, run_szOf h2, hn], hz⟩
  · cases h
theorem part_sound {t : TypeId} {cs : List AV} {off : Nat} {z : AV} {vs : List Value} (h : part? P t cs off = some z) (hx : RepL G cs vs) : ∃ v, (part t vs.toArray off).run P w = .ok v w ∧ Rep G z v := by
  unfold part? at h
  split at h
  · rename_i n e
    obtain ⟨h1, h2⟩ := run_isAgg P t w e
    split at h
    · rename_i hle
      cases h
      have hl : ((vs.drop off).take n).length = n := by simp [hx.1]; omega
      refine ⟨.agg ((vs.drop off).take n).toArray, ?_, .agg (by simp [hx.1]) (((hx.drop off).take n).2)⟩
      have : vs.toArray.extract off (off + n) = ((vs.drop off).take n).toArray := by simp [List.extract_eq_take_drop]
      simp [part, h1, h2 rfl, this]
    · cases h
  · rename_i n e
    obtain ⟨h1, _⟩ := run_isAgg P t w e
    obtain ⟨v, hv, hr⟩ := hx.at h
    exact ⟨v, by simp [part, h1, hv], hr⟩
  · cases h
theorem fld_sound {t : TypeId} {x z : AV} {f : Nat} {a : Value} (h : fld P t x f = some z) (hx : Rep G x a) : ∃ v, (Instr.field t a f).run P w = .ok v w ∧ Rep G z v := by
  unfold fld at h
  split at h
  · rename_i fs cs e
    obtain ⟨fd, h1, h⟩ := Option.bind_eq_some_iff.1 h
    cases hx with
    | agg hl hr =>
      obtain ⟨v, hv, hz⟩ := part_sound (w := w) h ⟨hl, hr⟩
      exact ⟨v, by simp [Instr.field, run_underlying e, h1, asAgg, hv], hz⟩
  · cases h
theorem iad_sound {t : TypeId} {x i z : AV} {a b : Value} (h : iad P t x i = some z) (hx : Rep G x a) (hi : Rep G i b) : ∃ v, (Instr.indexAt t a b).run P w = .ok v w ∧ Rep G z v := by
  unfold iad at h
  split at h
  · rename_i e o rows k n eu
    cases hi
    split at h
    · rename_i h0
      obtain ⟨r, h1, h⟩ := Option.bind_eq_some_iff.1 h
      split at h
      · rename_i hsz
        cases h
        cases hx with
        | sl sz cs ho hc hs hcell hrep =>
          rename_i a c
          have hlen := hs _ _ h1
          have hlt : n.toNat < rows.length := (List.getElem?_eq_some_iff.1 h1).1
          obtain ⟨b, off, rfl, _⟩ := hcell _ r 0 r[0] h1 (List.getElem?_eq_getElem hsz.2)
          have hel : Rep G (.el r 0) (.pointer (some ⟨b, (off + n.toNat * sz) + 0, none⟩)) :=
            .el (cs n.toNat) (fun j x hj => let ⟨b', off', e', hh⟩ := hcell _ r j x h1 hj; by cases e'; exact hh) (fun j x hj => hrep _ r j x h1 hj)
          have hn : (0 ≤ n ∧ n < (rows.length : Int)) := ⟨h0, by omega⟩
          refine ⟨_, ?_, hel⟩
          simp [Instr.indexAt, asIntOf, run_underlying eu, hn, run_szOf hsz.1, hlen, Addr.add_plain]
      · cases h
    · cases h
  · rename_i e l off len cp k n eu
    cases hi
    cases hx
    split at h
    · rename_i hb
      obtain ⟨s, h1, h⟩ := Option.bind_eq_some_iff.1 h
      cases h
      refine ⟨_, ?_, .v _⟩
      simp [Instr.indexAt, asIntOf, run_underlying eu, hb, run_szOf h1, Addr.add_plain]
    · cases h
  · rename_i len e x k n eu
    cases hi
    split at h
    · rename_i hb
      obtain ⟨s, h1, h⟩ := Option.bind_eq_some_iff.1 h
      obtain ⟨ad, rfl, hz⟩ := addOff_sound h hx
      exact ⟨_, by simp [Instr.indexAt, asIntOf, run_underlying eu, Instr.sureAddr, hb, run_szOf h1], hz⟩
    · cases h
  · cases h

theorem idx_sound {t : TypeId} {x i z : AV} {a b : Value} (h : idx P t x i = some z) (hx : Rep G x a) (hi : Rep G i b) : ∃ v, (Instr.index t a b).run P w = .ok v w ∧ Rep G z v := by
  unfold idx at h
  obtain ⟨a', h1, h⟩ := Option.bind_eq_some_iff.1 h
  obtain ⟨b', h2, h⟩ := Option.bind_eq_some_iff.1 h
  obtain ⟨v, h3, rfl⟩ := Option.map_eq_some_iff.1 h
  cases rep_conc hx h1
  cases rep_conc hi h2
  exact ⟨v, pureRun_run _ h3 w, rep_cval v⟩
/-- Options of operands. -/
def RepO (G : Gh) : Option AV → Option Value → Prop
  | none, none => True
  | some x, some y => Rep G x y
  | _, _ => False
theorem natOf_sound {d n : Nat} {x : Option AV} {y : Option Value} (h : natOf d x = some n) (hx : RepO G x y) : (y = none ∧ n = d) ∨ ∃ k : IntKind, y = some (.int k (n : Int)) := by
  cases x with
  | none =>
    cases y with
    | none => simp only [natOf, Option.some.injEq] at h; exact .inl ⟨rfl, h.symm⟩
    | some y => exact hx.elim
  | some x =>
    cases y with
    | none => exact hx.elim
    | some y =>
      unfold natOf at h
      split at h
      · rename_i e; cases e
      · rename_i k i e
        cases e
        cases hx
        split at h
        · rename_i h0
          cases h
          exact .inr ⟨k, by rw [Int.toNat_of_nonneg h0]⟩
        · cases h
      · cases h
theorem concO_sound {x : Option AV} {y z : Option Value} (h : concO x = some z) (hx : RepO G x y) : y = z := by
  cases x with
  | none =>
    cases y with
    | none => simpa [concO] using h
    | some y => exact hx.elim
  | some x =>
    cases y with
    | none => exact hx.elim
    | some y =>
      simp only [concO, Option.map_eq_some_iff] at h
      obtain ⟨v, h1, rfl⟩ := h
      rw [rep_conc hx h1]
theorem run_sliceBound {k : IntKind} {n y : Nat} {code : BoundsCode} (h : n ≤ y) : (Instr.sliceBound (.int k (n : Int)) y code).run P w = .ok n w := by
  have : (0 : Int) ≤ (n : Int) ∧ (n : Int) ≤ (y : Int) := by omega
  simp [Instr.sliceBound, asIntOf, this]
theorem rep_cut {o o' : Owner} {rows : List (List AV)} {a : Option Addr} {c c' l h : Nat} {sz : Nat} {cs : Nat → Nat → Value} (hlh : l ≤ h) (hh : h ≤ rows.length)
    (hsz : ∀ (i : Nat) (r : List AV), rows[i]? = some r → r.length = sz)
    (hcell : ∀ (i : Nat) (r : List AV) (j : Nat) (x : AV), rows[i]? = some r → r[j]? = some x → ∃ b off, a = some ⟨b, off, none⟩ ∧ G.imm b (off + i * sz + j) = some (cs i j))
    (hrep : ∀ (i : Nat) (r : List AV) (j : Nat) (x : AV), rows[i]? = some r → r[j]? = some x → Rep G x (cs i j))
    {a' : Option Addr} (ha : (h - l = 0) ∨ a' = a.map (·.add (l * sz))) (hc' : h - l ≤ c') (ho : OwnerAt G o' a' (h - l) c') : Rep G (.sl o' ((rows.take h).drop l)) (.slice a' (h - l) c') := by
  have hlen : ((rows.take h).drop l).length = h - l := by simp; omega
  have key : ∀ (i : Nat) (r : List AV), ((rows.take h).drop l)[i]? = some r → rows[l + i]? = some r ∧ i < h - l := by
    intro i r e
    rw [List.getElem?_drop, List.getElem?_take] at e
    split at e
    · exact ⟨e, by omega⟩
    · cases e
  have := Rep.sl (G := G) (o := o') (rows := (rows.take h).drop l) (a := a') (c := c') sz (fun i j => cs (l + i) j) (by rw [hlen]; exact ho) (by rw [hlen]; exact hc')
    (fun i r e => hsz _ r (key i r e).1)
    (fun i r j x e hj => by
      obtain ⟨e', hi⟩ := key i r e
      obtain ⟨b, off, rfl, hh⟩ := hcell _ r j x e' hj
      rcases ha with ha | ha
      · omega
      · refine ⟨b, off + l * sz, by rw [ha, Option.map_some, Addr.add_plain], ?_⟩
        rw [show off + l * sz + i * sz + j = off + (l + i) * sz + j from by rw [Nat.add_mul]; omega]
        exact hh)
    (fun i r j x e hj => hrep _ r j x (key i r e).1 hj)
  rw [hlen] at this
  exact this
theorem slc_sound {t : TypeId} {x z : AV} {lo hi mx : Option AV} {a : Value} {lo' hi' mx' : Option Value} (h : slc P t x lo hi mx = some z) (hx : Rep G x a) (hlo : RepO G lo lo') (hhi : RepO G hi hi') (hmx : RepO G mx mx') :
    ∃ v, (Instr.sliceAt t a lo' hi' mx').run P w = .ok v w ∧ Rep G z v := by
  unfold slc at h
  split at h
  · rename_i e o rows eu
    obtain ⟨hh, h1, h⟩ := Option.bind_eq_some_iff.1 h
    obtain ⟨ll, h2, h⟩ := Option.bind_eq_some_iff.1 h
    obtain ⟨s, h3, h⟩ := Option.bind_eq_some_iff.1 h
    split at h
    · rename_i hle
      obtain ⟨hl, hn, hall⟩ := hle
      cases hx with
      | sl sz cs ho hc hsz hcell hrep =>
        rename_i a c
        have hs : ∀ r, r ∈ rows → r.length = s := fun r hr => by simpa using List.all_eq_true.1 hall r hr
        have hss : rows ≠ [] → sz = s := fun hne => by
          cases rows with
          | nil => exact absurd rfl hne
          | cons r rs => rw [← hsz 0 r rfl, hs r (by simp)]
        have hsl : ∀ k (y : Option Value) (dflt bnd : Nat) (code : BoundsCode), ((y = none ∧ k = dflt) ∨ ∃ kk : IntKind, y = some (.int kk (k : Int))) → k ≤ bnd →
            (match y with | some v => Instr.sliceBound v bnd code | none => (pure dflt : Sem Nat)).run P w = .ok k w := by
          rintro k y dflt bnd code (⟨rfl, rfl⟩ | ⟨kk, rfl⟩) hk
          · rfl
          · exact run_sliceBound hk
        have eh := natOf_sound h1 hhi
        have el := natOf_sound h2 hlo
        split at h
        · -- no third index
          have em : mx' = none := by cases mx' with | none => rfl | some y => exact hmx.elim
          subst em
          cases h
          have hcut := rep_cut (o := o) (o' := .ro) (G := G) (c := c) (c' := c - ll) hl hn hsz hcell hrep (a' := if c = ll then a else a.map (·.add (ll * s)))
            (by
              by_cases hz : hh - ll = 0
              · exact .inl hz
              · right
                rw [if_neg (by omega), hss (by rintro rfl; simp at hn; omega)]) (by omega) trivial
          refine ⟨_, ?_, hcut⟩
          simp only [Instr.sliceAt, Instr.slice, Instr.sliceBounds, Sem.run_bind, run_underlying eu, Result.andThen_ok, Sem.run_pure]
          have hhc : hh ≤ c := by omega
          rcases eh with ⟨rfl, he⟩ | ⟨k1, rfl⟩ <;> rcases el with ⟨rfl, rfl⟩ | ⟨k2, rfl⟩
          · subst he; simp [run_szOf h3]
          · subst he; simp [run_sliceBound hl, run_szOf h3]
          · simp [run_sliceBound hhc, run_szOf h3]
          · simp [run_sliceBound hl, run_sliceBound hhc, run_szOf h3]
        · rename_i m
          split at h
          · rename_i his
            obtain ⟨mm, h4, h⟩ := Option.bind_eq_some_iff.1 h
            split at h
            · rename_i hmh
              subst hmh
              cases h
              have em := natOf_sound (d := 0) h4 hmx
              have hcut := rep_cut (o := o) (o' := .tight) (G := G) (c := c) (c' := mm - ll) hl hn hsz hcell hrep (a' := if mm = ll then a else a.map (·.add (ll * s)))
                (by
                  by_cases hz : mm - ll = 0
                  · exact .inl hz
                  · right
                    rw [if_neg (by omega), hss (by rintro rfl; simp at hn; omega)]) (by omega) rfl
              refine ⟨_, ?_, hcut⟩
              simp only [Instr.sliceAt, Instr.slice, Instr.sliceBounds, Sem.run_bind, run_underlying eu, Result.andThen_ok, Sem.run_pure]
              have hhc : mm ≤ c := by omega
              have hmx2 : ∃ k3 : IntKind, mx' = some (.int k3 (mm : Int)) := by
                rcases em with ⟨rfl, _⟩ | hk
                · exact hmx.elim
                · exact hk
              have hhi2 : ∃ k3 : IntKind, hi' = some (.int k3 (mm : Int)) := by
                rcases eh with ⟨rfl, _⟩ | hk
                · cases hi with
                  | none => simp at his
                  | some y => exact hhi.elim
                · exact hk
              obtain ⟨k3, rfl⟩ := hmx2
              obtain ⟨k1, rfl⟩ := hhi2
              rcases el with ⟨rfl, rfl⟩ | ⟨k2, rfl⟩
              · simp [run_sliceBound hhc, run_sliceBound (Nat.le_refl mm), run_szOf h3]
              · simp [run_sliceBound hl, run_sliceBound hhc, run_sliceBound (Nat.le_refl mm), run_szOf h3]
            · cases h
          · cases h
    · cases h
  · rename_i eu
    obtain ⟨a', h1, h⟩ := Option.bind_eq_some_iff.1 h
    obtain ⟨l, h2, h⟩ := Option.bind_eq_some_iff.1 h
    obtain ⟨hh, h3, h⟩ := Option.bind_eq_some_iff.1 h
    obtain ⟨m, h4, h⟩ := Option.bind_eq_some_iff.1 h
    obtain ⟨v, h5, rfl⟩ := Option.map_eq_some_iff.1 h
    cases rep_conc hx h1
    cases concO_sound h2 hlo
    cases concO_sound h3 hhi
    cases concO_sound h4 hmx
    refine ⟨v, ?_, rep_cval v⟩
    simp only [Instr.sliceAt, Sem.run_bind, run_underlying eu, Result.andThen_ok]
    exact pureRun_run _ h5 w
  · cases h
end sound
end Go.AL
