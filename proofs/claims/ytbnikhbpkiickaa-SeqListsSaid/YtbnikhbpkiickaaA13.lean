/- A-logic, part 13: what operations on words yield. -/
import Derived.Test.YtbnikhbpkiickaaA12
set_option linter.unusedSimpArgs false
set_option linter.unusedVariables false
namespace Go.AL
open Go.RowKit

abbrev vi (k : IntKind) (n : Int) : AV := .v (.int k n)
abbrev vb (b : Bool) : AV := .v (.bool b)
abbrev vs (s : List UInt8) : AV := .v (.string ⟨s.toArray⟩)
theorem ba_toList (s : List UInt8) : (⟨s.toArray⟩ : ByteArray).toList = s := by simp [ByteArray.toList_eq]
theorem ba_of (b : ByteArray) : b = ⟨b.data.toList.toArray⟩ := by simp
theorem ba_app (s t : List UInt8) : (⟨s.toArray⟩ ++ ⟨t.toArray⟩ : ByteArray) = ⟨(s ++ t).toArray⟩ := by
  apply ByteArray.ext
  simp [ByteArray.data_append]
section ops
variable {P : Program} {t : TypeId} {ox oy : Operand} {k : IntKind} {a b : Int} {x y : Bool} {s u : List UInt8}
theorem bin_add : bin P .add t ox oy (vi k a) (vi k b) = some (vi k (k.wrap (a + b))) := by cases k <;> rfl
theorem bin_sub : bin P .sub t ox oy (vi k a) (vi k b) = some (vi k (k.wrap (a - b))) := by cases k <;> rfl
theorem bin_mul : bin P .mul t ox oy (vi k a) (vi k b) = some (vi k (k.wrap (a * b))) := by cases k <;> rfl
theorem bin_quo (h : b ≠ 0) : bin P .quo t ox oy (vi k a) (vi k b) = some (vi k (k.wrap (a.tdiv b))) := by cases k <;> simp [bin, conc, conc1, eqGuard, binOp, Op.intDiv, h, pureRun?, cval, Bind.bind, Sem.bind, Pure.pure]
theorem bin_rem (h : b ≠ 0) : bin P .rem t ox oy (vi k a) (vi k b) = some (vi k (a.tmod b)) := by cases k <;> simp [bin, conc, conc1, eqGuard, binOp, Op.intDiv, h, pureRun?, cval, Bind.bind, Sem.bind, Pure.pure]
theorem bin_and : bin P .and t ox oy (vi k a) (vi k b) = some (vi k (k.wrap ((BitVec.ofInt k.bits a &&& BitVec.ofInt k.bits b).toNat : Nat))) := by cases k <;> rfl
theorem bin_or : bin P .or t ox oy (vi k a) (vi k b) = some (vi k (k.wrap ((BitVec.ofInt k.bits a ||| BitVec.ofInt k.bits b).toNat : Nat))) := by cases k <;> rfl
theorem bin_xor : bin P .xor t ox oy (vi k a) (vi k b) = some (vi k (k.wrap ((BitVec.ofInt k.bits a ^^^ BitVec.ofInt k.bits b).toNat : Nat))) := by cases k <;> rfl
theorem bin_shl {k' : IntKind} (h : 0 ≤ b) : bin P .shl t ox oy (vi k a) (vi k' b) = some (vi k (k.wrap (a * 2 ^ min b.toNat k.bits))) := by
  simp [bin, conc, conc1, eqGuard, binOp, Op.shift, Int.not_lt.2 h, pureRun?, cval, Bind.bind, Sem.bind, Pure.pure]
theorem bin_shr {k' : IntKind} (h : 0 ≤ b) : bin P .shr t ox oy (vi k a) (vi k' b) = some (vi k (a.fdiv (2 ^ min b.toNat k.bits))) := by
  simp [bin, conc, conc1, eqGuard, binOp, Op.shift, Int.not_lt.2 h, pureRun?, cval, Bind.bind, Sem.bind, Pure.pure]
theorem bin_eql : bin P .eql t ox oy (vi k a) (vi k b) = some (vb (a == b)) := by cases k <;> rfl
theorem bin_neq : bin P .neq t ox oy (vi k a) (vi k b) = some (vb (a != b)) := by cases k <;> rfl
theorem bin_lss : bin P .lss t ox oy (vi k a) (vi k b) = some (vb (decide (a < b))) := by cases k <;> rfl
theorem bin_leq : bin P .leq t ox oy (vi k a) (vi k b) = some (vb (decide (a ≤ b))) := by cases k <;> rfl
theorem bin_gtr : bin P .gtr t ox oy (vi k a) (vi k b) = some (vb (decide (b < a))) := by cases k <;> rfl
theorem bin_geq : bin P .geq t ox oy (vi k a) (vi k b) = some (vb (decide (b ≤ a))) := by cases k <;> rfl
theorem sbin_eql : bin P .eql t ox oy (vs s) (vs u) = some (vb (s == u)) := by
  have h1 := ba_toList s
  have h2 := ba_toList u
  show (some _ : Option AV) = _
  simp only [h1, h2]
  rfl
theorem sbin_neq : bin P .neq t ox oy (vs s) (vs u) = some (vb (s != u)) := by
  have h1 := ba_toList s
  have h2 := ba_toList u
  show (some _ : Option AV) = _
  simp only [h1, h2]
  rfl
theorem sbin_lss : bin P .lss t ox oy (vs s) (vs u) = some (vb (Op.bytesLess s u)) := by
  have h1 := ba_toList s
  have h2 := ba_toList u
  show (some _ : Option AV) = _
  simp only [h1, h2]
  rfl
theorem sbin_leq : bin P .leq t ox oy (vs s) (vs u) = some (vb (Op.bytesLess s u || s == u)) := by
  have h1 := ba_toList s
  have h2 := ba_toList u
  show (some _ : Option AV) = _
  simp only [h1, h2]
  rfl
theorem sbin_gtr : bin P .gtr t ox oy (vs s) (vs u) = some (vb (!(Op.bytesLess s u || s == u))) := by
  have h1 := ba_toList s
  have h2 := ba_toList u
  show (some _ : Option AV) = _
  simp only [h1, h2]
  rfl
theorem sbin_geq : bin P .geq t ox oy (vs s) (vs u) = some (vb (!Op.bytesLess s u)) := by
  have h1 := ba_toList s
  have h2 := ba_toList u
  show (some _ : Option AV) = _
  simp only [h1, h2]
  rfl
theorem sbin_add (h : s.length + u.length < 9223372036854775808) : bin P .add t ox oy (vs s) (vs u) = some (vs (s ++ u)) := by
  have h1 : ¬ ((((⟨s.toArray⟩ : ByteArray).size + (⟨u.toArray⟩ : ByteArray).size : Nat) : Int) > IntKind.i64.max) := by
    have e1 : (⟨s.toArray⟩ : ByteArray).size = s.length := rfl
    have e2 : (⟨u.toArray⟩ : ByteArray).size = u.length := rfl
    have e3 : IntKind.i64.max = 9223372036854775807 := by decide
    rw [e1, e2, e3]
    omega
  have h2 : bin P .add t ox oy (vs s) (vs u) = (pureRun? P (Op.stringOp .add ⟨s.toArray⟩ ⟨u.toArray⟩)).map cval := rfl
  rw [h2]
  unfold Op.stringOp
  simp only [if_neg h1, ba_app]
  rfl
theorem un_not : un P .not (vb x) = some (vb !x) := rfl
theorem un_neg : un P .neg (vi k a) = some (vi k (k.wrap (0 - a))) := by cases k <;> rfl
theorem un_xor : un P .xor (vi k a) = some (vi k (k.wrap ((BitVec.ofInt k.bits (if k.signed then -1 else k.max) ^^^ BitVec.ofInt k.bits a).toNat : Nat))) := by cases k <;> rfl
theorem wrap_i64 {n : Int} (h1 : -9223372036854775808 ≤ n) (h2 : n < 9223372036854775808) : IntKind.wrap .i64 n = n := by
  have e1 : (2 : Int) ^ (IntKind.i64.bits) = 18446744073709551616 := by decide
  have e2 : (2 : Int) ^ (IntKind.i64.bits - 1) = 9223372036854775808 := by decide
  have e3 : IntKind.i64.signed = true := rfl
  simp only [IntKind.wrap, e1, e2, e3, Bool.true_and, decide_eq_true_eq, ge_iff_le]
  split <;> omega
end ops
end Go.AL
