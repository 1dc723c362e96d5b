/- A-logic, part 17: words for running regions that draw their order. -/
import Derived.Test.YtbnikhbpkiickaaA16
set_option linter.unusedSimpArgs false
set_option linter.unusedVariables false
namespace Go.AL
open Go.RowKit
section
variable {P : Program} {l : List Oper} {K : Fr → Store → Prop} {T : Fr} {σ : Store} {d : Option Tmp} {ty : TypeId} {ps : String} {af : Array Edge} {g : Option (Nat × Bool)} {i : Nat} {rest : List (Nat × Nat)} {op : Op} {j : Nat} {want : Bool}
theorem dw_nil : dw P l K [] T σ = K T σ := rfl
theorem dw_0 : dw P l K ((i, 0) :: rest) T σ = match l[i]? with | some o => gq P l o (dw P l K rest) T σ | none => False := rfl
theorem dw_1 : dw P l K ((i, 1) :: rest) T σ = match l[i]? with | some o => gvc P l o (dw P l K rest) T σ | none => False := rfl
theorem dw_3 : dw P l K ((i, 3) :: rest) T σ = match l[i]? with | some o => gvc P l o (dw P l K rest) T σ | none => False := rfl
theorem dw_2 : dw P l K ((i, 2) :: rest) T σ = match l[i]? with | some o => gvc P l o (fun T' σ' => Soft σ σ' ∧ dw P l K rest T' σ') T σ | none => False := rfl
theorem gq_plain : gq P l ⟨d, op, ty, ps, af, none⟩ K T σ = have_ (qv P ⟨d, op, ty, ps, af, none⟩ T σ) (kq K d T σ) := rfl
theorem gq_if : gq P l ⟨d, op, ty, ps, af, some (j, want)⟩ K T σ = have_b (gslot l T j) fun b => gif b want (have_ (qv P ⟨d, op, ty, ps, af, some (j, want)⟩ T σ) (kq K d T σ)) (K (putT T d .junk) σ) := by
  show (∃ b, _ ∧ _ ∧ _) = _
  unfold have_b
  congr 1; funext b; congr 1
  exact ite_and
theorem gvc_plain : gvc P l ⟨d, op, ty, ps, af, none⟩ K T σ = vc P ⟨d, op, ty, ps, af, none⟩ K T σ := rfl
theorem gvc_if : gvc P l ⟨d, op, ty, ps, af, some (j, want)⟩ K T σ = have_b (gslot l T j) fun b => gif b want (vc P ⟨d, op, ty, ps, af, some (j, want)⟩ K T σ) (K (putT T d .junk) σ) := by
  show (∃ b, _ ∧ _ ∧ _) = _
  unfold have_b
  congr 1; funext b; congr 1
  exact ite_and
theorem qv_move {x : Operand} : qv P ⟨d, .move x, ty, ps, af, g⟩ T σ = some (aev T x) := rfl
theorem qv_assign {x : Operand} : qv P ⟨d, .assign x, ty, ps, af, g⟩ T σ = some (aev T x) := rfl
theorem qv_load {t : TypeId} {x : Operand} : qv P ⟨d, .load t x, ty, ps, af, g⟩ T σ = ldp P t (aev T x) σ := rfl
theorem qv_nilCheck {x : Operand} : qv P ⟨d, .nilCheck x, ty, ps, af, g⟩ T σ = nilc (aev T x) := rfl
theorem qv_binOp {o : BinOp} {t s : TypeId} {x y : Operand} : qv P ⟨d, .binOp o t x y s, ty, ps, af, g⟩ T σ = binE P o t x y (aev T x) (aev T y) := rfl
theorem qv_unOp {o : UnOp} {t : TypeId} {x : Operand} : qv P ⟨d, .unOp o t x, ty, ps, af, g⟩ T σ = un P o (aev T x) := rfl
theorem qv_makeInterface {t : TypeId} {x : Operand} : qv P ⟨d, .makeInterface t x, ty, ps, af, g⟩ T σ = mki P t (aev T x) := rfl
theorem qv_makeFunc {fn : Fn} {a b : Array Operand} : qv P ⟨d, .makeFunc fn a b, ty, ps, af, g⟩ T σ = mkf fn (a.toList.map (aev T)) (b.toList.map (aev T)) := rfl
theorem qv_fieldAddr {s : TypeId} {x : Operand} {f : Nat} : qv P ⟨d, .fieldAddr s x f, ty, ps, af, g⟩ T σ = fad P s (aev T x) f := rfl
theorem qv_field {s : TypeId} {x : Operand} {f : Nat} : qv P ⟨d, .field s x f, ty, ps, af, g⟩ T σ = fld P s (aev T x) f := rfl
theorem qv_indexAddr {s : TypeId} {x y : Operand} : qv P ⟨d, .indexAddr s x y, ty, ps, af, g⟩ T σ = iad P s (aev T x) (aev T y) := rfl
theorem qv_index {s : TypeId} {x y : Operand} : qv P ⟨d, .index s x y, ty, ps, af, g⟩ T σ = idx P s (aev T x) (aev T y) := rfl
theorem qv_slice {s : TypeId} {x : Operand} {lo hi mx : Option Operand} : qv P ⟨d, .slice s x lo hi mx, ty, ps, af, g⟩ T σ = slc P s (aev T x) (lo.map (aev T)) (hi.map (aev T)) (mx.map (aev T)) := rfl
theorem qv_build {s : TypeId} {parts : Array (Nat × Operand)} : qv P ⟨d, .build s parts, ty, ps, af, g⟩ T σ = bld P s (parts.toList.map fun p => (p.1, aev T p.2)) := rfl
theorem qv_lookup {t : TypeId} {m k : Operand} {ok : Bool} : qv P ⟨d, .lookup t m k ok, ty, ps, af, g⟩ T σ = lkp P t (aev T m) (aev T k) ok σ := rfl
theorem qv_builtin {b : Builtin} {args : Array Operand} {ats : Array TypeId} : qv P ⟨d, .call { callee := .builtin b, args, argTypes := ats }, ty, ps, af, g⟩ T σ = blt P b ats ty (args.map fun | .const _ => true | _ => false) (args.toList.map (aev T)) σ := rfl
theorem qv_pick {c a b : Operand} : qv P ⟨d, .pick c a b, ty, ps, af, g⟩ T σ = pick_ (aev T c) (aev T a) (aev T b) := by
  unfold qv pick_
  simp only [pv]
  generalize aev T c = q
  rcases q with x | _ | _ | _ | _ | _ <;> first | rfl | (cases x <;> first | rfl | (rename_i b; cases b <;> rfl))
def pick (l : List Oper) : List (Nat × Nat) → List (Nat × Oper)
  | [] => []
  | (i, t) :: r => match l[i]? with
    | some o => (t, o) :: pick l r
    | none => pick l r
def dwo (P : Program) (l : List Oper) (K : Fr → Store → Prop) : List (Nat × Oper) → Fr → Store → Prop
  | [] => K
  | (t, o) :: rest => fun T σ => match t with
    | 0 => gq P l o (dwo P l K rest) T σ
    | 1 => gvc P l o (dwo P l K rest) T σ
    | 3 => gvc P l o (dwo P l K rest) T σ
    | _ => gvc P l o (fun T' σ' => Soft σ σ' ∧ dwo P l K rest T' σ') T σ
theorem dw_pick : ∀ (idx : List (Nat × Nat)), (∀ p ∈ idx, p.1 < l.length) → dw P l K idx = dwo P l K (pick l idx)
  | [], _ => rfl
  | (i, t) :: r, h => by
    have ih := dw_pick r fun p hp => h p (by simp [hp])
    have hlt : i < l.length := h (i, t) (by simp)
    have hi : l[i]? = some l[i] := List.getElem?_eq_getElem hlt
    funext T σ
    simp only [dw, pick, hi, ih]
    rfl
theorem dwo_nil : dwo P l K [] T σ = K T σ := rfl
theorem dwo_0 {o : Oper} {r : List (Nat × Oper)} : dwo P l K ((0, o) :: r) T σ = gq P l o (dwo P l K r) T σ := rfl
theorem dwo_1 {o : Oper} {r : List (Nat × Oper)} : dwo P l K ((1, o) :: r) T σ = gvc P l o (dwo P l K r) T σ := rfl
theorem dwo_3 {o : Oper} {r : List (Nat × Oper)} : dwo P l K ((3, o) :: r) T σ = gvc P l o (dwo P l K r) T σ := rfl
theorem dwo_2 {o : Oper} {r : List (Nat × Oper)} : dwo P l K ((2, o) :: r) T σ = gvc P l o (fun T' σ' => Soft σ σ' ∧ dwo P l K r T' σ') T σ := rfl
theorem AWP.drawo {ρ : Option Nat} {N : Nat} {idx : List (Nat × Nat)} {Q : Exit → Fr → Store → Prop} (hm : P.follows .mixedOrders = true) (hpl : planOk N l idx = true) (h : dwo P l (Q .normal) (pick l idx) T σ) : AWP P ρ N (.region i l.toArray true) Q T σ :=
  AWP.draw hm hpl (by rw [dw_pick idx fun p hp => ((planOk_spec hpl).self p hp).2]; exact h)
end
end Go.AL
