/- A-logic, part 12: words for running operations by simp. -/
import Derived.Test.YtbnikhbpkiickaaA11
set_option linter.unusedSimpArgs false
set_option linter.unusedVariables false
namespace Go.AL
open Go.RowKit

section run
variable {P : Program} {ops rest : List Oper} {K : Fr → Store → Prop} {T : Fr} {σ : Store} {d : Option Tmp} {ty : TypeId} {ps : String} {af : Array Edge} {g : Option (Nat × Bool)}
theorem vcs_nil : vcs P ops K [] T σ = K T σ := rfl
theorem vcs_plain {op : Op} : vcs P ops K (⟨d, op, ty, ps, af, none⟩ :: rest) T σ = vc P ⟨d, op, ty, ps, af, none⟩ (vcs P ops K rest) T σ := rfl
theorem vcs_guard {op : Op} {j : Nat} {want : Bool} : vcs P ops K (⟨d, op, ty, ps, af, some (j, want)⟩ :: rest) T σ =
    ∃ b, gslot ops T j = some b ∧ (b = want → vc P ⟨d, op, ty, ps, af, some (j, want)⟩ (vcs P ops K rest) T σ) ∧ (b = !want → vcs P ops K rest (putT T d .junk) σ) := rfl
def kq (K : Fr → Store → Prop) (d : Option Tmp) (T : Fr) (σ : Store) (y : AV) : Prop := K (putT T d y) σ
theorem kq_at {y : AV} : kq K d T σ y = K (putT T d y) σ := rfl
def kr (K : Fr → Store → Prop) (d : Option Tmp) (T : Fr) (r : AV) (σ' : Store) : Prop := K (putT T d r) σ'
theorem kr_at {y : AV} : kr K d T y σ = K (putT T d y) σ := rfl
def have_ (x : Option AV) (k : AV → Prop) : Prop := ∃ y, x = some y ∧ k y
theorem have_some {y : AV} {k : AV → Prop} : have_ (some y) k = k y := by simp [have_]
theorem vc_move {x : Operand} : vc P ⟨d, .move x, ty, ps, af, g⟩ K T σ = K (putT T d (aev T x)) σ := by simp [vc, pv]
theorem vc_assign {x : Operand} : vc P ⟨d, .assign x, ty, ps, af, g⟩ K T σ = K (putT T d (aev T x)) σ := by simp [vc, pv]
theorem vc_load {t : TypeId} {x : Operand} : vc P ⟨d, .load t x, ty, ps, af, g⟩ K T σ = have_ (ldp P t (aev T x) σ) (kq K d T σ) := rfl
theorem vc_nilCheck {x : Operand} : vc P ⟨d, .nilCheck x, ty, ps, af, g⟩ K T σ = have_ (nilc (aev T x)) (kq K d T σ) := rfl
theorem vc_binOp {op : BinOp} {t s : TypeId} {x y : Operand} : vc P ⟨d, .binOp op t x y s, ty, ps, af, g⟩ K T σ = have_ (binE P op t x y (aev T x) (aev T y)) (kq K d T σ) := rfl
theorem vc_unOp {op : UnOp} {t : TypeId} {x : Operand} : vc P ⟨d, .unOp op t x, ty, ps, af, g⟩ K T σ = have_ (un P op (aev T x)) (kq K d T σ) := rfl
theorem vc_makeInterface {t : TypeId} {x : Operand} : vc P ⟨d, .makeInterface t x, ty, ps, af, g⟩ K T σ = have_ (mki P t (aev T x)) (kq K d T σ) := rfl
theorem vc_makeFunc {fn : Fn} {a b : Array Operand} : vc P ⟨d, .makeFunc fn a b, ty, ps, af, g⟩ K T σ = have_ (mkf fn (a.toList.map (aev T)) (b.toList.map (aev T))) (kq K d T σ) := rfl
theorem vc_fieldAddr {s : TypeId} {x : Operand} {f : Nat} : vc P ⟨d, .fieldAddr s x f, ty, ps, af, g⟩ K T σ = have_ (fad P s (aev T x) f) (kq K d T σ) := rfl
theorem vc_field {s : TypeId} {x : Operand} {f : Nat} : vc P ⟨d, .field s x f, ty, ps, af, g⟩ K T σ = have_ (fld P s (aev T x) f) (kq K d T σ) := rfl
theorem vc_indexAddr {s : TypeId} {x i : Operand} : vc P ⟨d, .indexAddr s x i, ty, ps, af, g⟩ K T σ = have_ (iad P s (aev T x) (aev T i)) (kq K d T σ) := rfl
theorem vc_index {s : TypeId} {x i : Operand} : vc P ⟨d, .index s x i, ty, ps, af, g⟩ K T σ = have_ (idx P s (aev T x) (aev T i)) (kq K d T σ) := rfl
theorem vc_slice {s : TypeId} {x : Operand} {lo hi mx : Option Operand} : vc P ⟨d, .slice s x lo hi mx, ty, ps, af, g⟩ K T σ = have_ (slc P s (aev T x) (lo.map (aev T)) (hi.map (aev T)) (mx.map (aev T))) (kq K d T σ) := rfl
theorem vc_build {s : TypeId} {parts : Array (Nat × Operand)} : vc P ⟨d, .build s parts, ty, ps, af, g⟩ K T σ = have_ (bld P s (parts.toList.map fun p => (p.1, aev T p.2))) (kq K d T σ) := rfl
theorem vc_lookup {t : TypeId} {m k : Operand} {ok : Bool} : vc P ⟨d, .lookup t m k ok, ty, ps, af, g⟩ K T σ = have_ (lkp P t (aev T m) (aev T k) ok σ) (kq K d T σ) := rfl
theorem vc_builtin {b : Builtin} {args : Array Operand} {ats : Array TypeId} (hb : b ≠ .append) : vc P ⟨d, .call { callee := .builtin b, args, argTypes := ats }, ty, ps, af, g⟩ K T σ =
    have_ (blt P b ats ty (args.map fun | .const _ => true | _ => false) (args.toList.map (aev T)) σ) (kq K d T σ) := by
  cases b <;> first | exact absurd rfl hb | rfl
theorem vc_pick {c a b : Operand} {t : Bool} (h : aev T c = .v (.bool t)) : vc P ⟨d, .pick c a b, ty, ps, af, g⟩ K T σ = K (putT T d (if t then aev T a else aev T b)) σ := by simp [vc, pv, h]
theorem vc_extract {x : Operand} {i : Nat} {vs : List AV} (h : aev T x = .tup vs) : vc P ⟨d, .extract x i, ty, ps, af, g⟩ K T σ = have_ (vs[i]?) (kq K d T σ) := by simp [vc, pv, h, have_, kq]
theorem vc_callv {f : Operand} {args : Array Operand} {ats : Array TypeId} : vc P ⟨d, .call { callee := .value f, args, argTypes := ats }, ty, ps, af, g⟩ K T σ =
    ACallV P (aev T f) (args.toList.map (aev T)) σ (kr K d T) := rfl
theorem vc_invoke {r : Operand} {nm : String} {args : Array Operand} {ats : Array TypeId} : vc P ⟨d, .call { callee := .invoke r nm, args, argTypes := ats }, ty, ps, af, g⟩ K T σ =
    AMeth P (aev T r) nm (args.toList.map (aev T)) σ (kr K d T) := rfl
theorem vc_append {s x : Operand} {t t' : TypeId} : vc P ⟨d, .call { callee := .builtin .append, args := #[s, x], argTypes := #[t, t'] }, ty, ps, af, g⟩ K T σ =
    (vcAppend P t t' (aev T s) (aev T x) σ (kr K d T) ∨ vcAppendB P t t' (aev T s) (aev T x) σ (kr K d T)) := by
  simp only [vc, eq_iff_iff]
  constructor
  · rintro ⟨a, b, h1, h2⟩; cases h1; exact h2
  · intro h; exact ⟨_, _, rfl, h⟩
theorem vc_box {t : TypeId} {x : Operand} : vc P ⟨d, .box t x, ty, ps, af, g⟩ K T σ = ((aev T x).word = true ∧ ∀ l, σ l = none → K (putT T d (.v (.pointer (some ⟨l, 0, none⟩)))) (σ.set l (.box t (aev T x).cells))) := rfl
theorem vc_alloc {t : TypeId} {i : TypeInfo} {z : Value} (h1 : P.info? t = some i) (h2 : i.zero = some z) : vc P ⟨d, .alloc t, ty, ps, af, g⟩ K T σ = ∀ l, σ l = none → K (putT T d (.v (.pointer (some ⟨l, 0, none⟩)))) (σ.set l (.box t (cval z).cells)) := by
  simp [vc, h1, h2]
theorem vc_store {t : TypeId} {p x : Operand} {l off : Nat} {Tb : TypeId} {cells : List AV} (hp : aev T p = .v (.pointer (some ⟨l, off, none⟩))) (hσ : σ l = some (.box Tb cells)) (hw : (aev T x).word = true) (h1 : (aev T x).cells.all AV.one = true)
    (hs : szOf P t = some (aev T x).cells.length) (hle : off + (aev T x).cells.length ≤ cells.length) :
    vc P ⟨d, .store t p x, ty, ps, af, g⟩ K T σ = K (putT T d .junk) (σ.set l (.box Tb (setRun cells off (aev T x).cells))) := by
  simp only [vc, hp, hσ, Option.some.injEq, eq_iff_iff, Cell.box.injEq]
  constructor
  · rintro ⟨_, _, ⟨rfl, rfl⟩, _, _, _, _, h⟩; exact h
  · intro h; exact ⟨_, _, ⟨rfl, rfl⟩, hw, h1, hs, hle, h⟩
theorem putT_some {d : Nat} {x : AV} : putT T (some d) x = upd T d x := rfl
theorem putT_none {x : AV} : putT T none x = T := rfl
theorem aev_tmp {t : Nat} : aev T (.tmp t) = T t := rfl
theorem upd_at {t d : Nat} {x : AV} : upd T d x t = if t = d then x else T t := rfl
theorem store_at {l k : Nat} {c : Cell} : σ.set l c k = if k = l then some c else σ k := rfl
theorem store_del {l k : Nat} : σ.del l k = if k = l then none else σ k := rfl
theorem athen_normal {next : Fr → Store → Prop} {Q : Exit → Fr → Store → Prop} : AThen next Q .normal T σ = next T σ := rfl
theorem athen_ret {next : Fr → Store → Prop} {Q : Exit → Fr → Store → Prop} : AThen next Q .ret T σ = Q .ret T σ := rfl
theorem athen_exit {next : Fr → Store → Prop} {Q : Exit → Fr → Store → Prop} {i : Nat} : AThen next Q (.exit i) T σ = Q (.exit i) T σ := rfl
theorem ablock_normal {id : Nat} {Q : Exit → Fr → Store → Prop} : ABlock id Q .normal T σ = Q .normal T σ := rfl
theorem ablock_ret {id : Nat} {Q : Exit → Fr → Store → Prop} : ABlock id Q .ret T σ = Q .ret T σ := rfl
theorem ablock_exit {id i : Nat} {Q : Exit → Fr → Store → Prop} : ABlock id Q (.exit i) T σ = (if i = id then Q .normal T σ else Q (.exit i) T σ) := rfl
theorem apost_normal {N : Nat} {rs : List ResultVar} {R : AV → Store → Prop} : APost P N rs R .normal T σ = ∃ r, ares P N rs T σ = some r ∧ R r σ := rfl
theorem apost_ret {N : Nat} {rs : List ResultVar} {R : AV → Store → Prop} : APost P N rs R .ret T σ = ∃ r, ares P N rs T σ = some r ∧ R r σ := rfl
end run
end Go.AL
