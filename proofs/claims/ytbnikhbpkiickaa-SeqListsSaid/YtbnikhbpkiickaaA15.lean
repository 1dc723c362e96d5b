/- A-logic, part 15: more words for running. -/
import Derived.Test.YtbnikhbpkiickaaA14
set_option linter.unusedSimpArgs false
set_option linter.unusedVariables false
namespace Go.AL
open Go.RowKit

section more
variable {P : Program} {ops rest : List Oper} {K : Fr → Store → Prop} {T : Fr} {σ : Store} {d : Option Tmp} {ty : TypeId} {ps : String} {af : Array Edge} {g : Option (Nat × Bool)} {t : TypeId} {x : AV}
def stp (P : Program) (t : TypeId) (p x : AV) (σ : Store) (k : Store → Prop) : Prop :=
  match p with
  | .v (.pointer (some ⟨l, off, none⟩)) =>
    match σ l with
    | some (.box Tb cells) => (x.word = true ∧ x.cells.all AV.one = true ∧ szOf P t = some x.cells.length ∧ off + x.cells.length ≤ cells.length) ∧ k (σ.set l (.box Tb (setRun cells off x.cells)))
    | _ => False
  | _ => False
theorem vc_st {p x : Operand} : vc P ⟨d, .store t p x, ty, ps, af, g⟩ K T σ = stp P t (aev T p) (aev T x) σ fun σ' => K (putT T d .junk) σ' := by
  unfold stp
  simp only [vc]
  generalize aev T p = q
  refine propext ⟨fun h => ?_, fun h => ?_⟩
  · split at h
    · obtain ⟨Tb, cells, h1, a, b, c, e, h⟩ := h
      simp only [h1]
      exact ⟨⟨a, b, c, e⟩, h⟩
    · exact h.elim
  · split at h
    · split at h
      · rename_i Tb cells h1
        obtain ⟨⟨a, b, c, e⟩, h⟩ := h
        exact ⟨Tb, cells, h1, a, b, c, e, h⟩
      · exact h.elim
    · exact h.elim
theorem stp_ptr {l off : Nat} {k : Store → Prop} : stp P t (.v (.pointer (some ⟨l, off, none⟩))) x σ k =
    match σ l with
    | some (.box Tb cells) => (x.word = true ∧ x.cells.all AV.one = true ∧ szOf P t = some x.cells.length ∧ off + x.cells.length ≤ cells.length) ∧ k (σ.set l (.box Tb (setRun cells off x.cells)))
    | _ => False := rfl
theorem ldp_ptr {l off : Nat} : ldp P t (.v (.pointer (some ⟨l, off, none⟩))) σ = match σ l with | some (.box _ cells) => ldc P t (cells.drop off) | _ => none := rfl
theorem addOff_ptr {l off n : Nat} : addOff (.v (.pointer (some ⟨l, off, none⟩))) n = some (.v (.pointer (some ⟨l, off + n, none⟩))) := rfl
theorem addOff_el {row : List AV} {off n : Nat} : addOff (.el row off) n = some (.el row (off + n)) := rfl
theorem vc_al {z : Value} (h : (P.info? t).bind (·.zero) = some z) : vc P ⟨d, .alloc t, ty, ps, af, g⟩ K T σ = ∀ l, σ l = none → K (putT T d (.v (.pointer (some ⟨l, 0, none⟩)))) (σ.set l (.box t (cval z).cells)) := by
  obtain ⟨i, h1, h2⟩ := Option.bind_eq_some_iff.1 h
  exact vc_alloc h1 h2
def bsl (P : Program) (t : TypeId) (n : Nat) (ps : List (Nat × AV)) (k : AV → Prop) : Prop :=
  ∃ e s rows, P.underlying t = some (.slice e) ∧ szOf P e = some s ∧ (∃ i z, P.info? e = some i ∧ i.zero = some z ∧ z.cells.size = s) ∧ 0 < s ∧ n * s ≤ 16777216 ∧ ps.length = n ∧ bslRows s 0 ps = some rows ∧ k (.sl .tight rows)
theorem vc_bsl {n : Nat} {pp : Array (Nat × Operand)} : vc P ⟨d, .buildSlice t n pp, ty, ps, af, g⟩ K T σ = bsl P t n (pp.toList.map fun p => (p.1, aev T p.2)) (kq K d T σ) := by
  simp [vc, bsl, kq]
theorem bsl_of {e s n : Nat} {ps : List (Nat × AV)} {rows : List (List AV)} {k : AV → Prop} (ht : ElemT P t e s) (hn : ps.length = n) (hb : n * s ≤ 16777216) (hr : bslRows s 0 ps = some rows) (h : k (.sl .tight rows)) : bsl P t n ps k := by
  obtain ⟨i, z, h1, h2, h3, h4, h5⟩ := ht.info
  exact ⟨e, s, rows, ht.under, ht.size, ⟨i, z, h1, h2, h4⟩, ht.pos, hb, hn, hr, h⟩
theorem bsl_eq {e s n : Nat} {ps : List (Nat × AV)} {rows : List (List AV)} {k : AV → Prop} (ht : ElemT P t e s) (hn : ps.length = n) (hb : n * s ≤ 16777216) (hr : bslRows s 0 ps = some rows) : bsl P t n ps k = k (.sl .tight rows) := by
  refine propext ⟨?_, bsl_of ht hn hb hr⟩
  rintro ⟨e', s', rows', h1, h2, _, _, _, _, h3, h4⟩
  rw [ht.under] at h1
  cases h1
  rw [ht.size] at h2
  cases h2
  rw [hr] at h3
  cases h3
  exact h4
end more
theorem w_agg {cs : List AV} : (AV.agg cs).word = true := rfl
theorem w_sl {o : Owner} {r : List (List AV)} : (AV.sl o r).word = true := rfl
theorem w_el {r : List AV} {n : Nat} : (AV.el r n).word = true := rfl
theorem w_vi {k : IntKind} {n : Int} : (AV.v (.int k n)).word = true := rfl
theorem w_vb {b : Bool} : (AV.v (.bool b)).word = true := rfl
theorem w_vs {b : ByteArray} : (AV.v (.string b)).word = true := rfl
theorem w_vp {a : Option Addr} : (AV.v (.pointer a)).word = true := rfl
theorem w_vf {f : Fn} {a b : Array Value} : (AV.v (.func f a b)).word = true := rfl
theorem w_vif {t : TypeId} {x : Value} : (AV.v (.iface t x)).word = true := rfl
theorem w_vm {r : Option Nat} : (AV.v (.map r)).word = true := rfl
theorem c_agg {cs : List AV} : (AV.agg cs).cells = cs := rfl
theorem c_sl {o : Owner} {r : List (List AV)} : (AV.sl o r).cells = [.sl o r] := rfl
theorem c_el {r : List AV} {n : Nat} : (AV.el r n).cells = [.el r n] := rfl
theorem c_v {x : Value} : (AV.v x).cells = [.v x] := rfl
theorem o_sl {o : Owner} {r : List (List AV)} : (AV.sl o r).one = true := rfl
theorem o_el {r : List AV} {n : Nat} : (AV.el r n).one = true := rfl
theorem o_vi {k : IntKind} {n : Int} : (AV.v (.int k n)).one = true := rfl
theorem o_vb {b : Bool} : (AV.v (.bool b)).one = true := rfl
theorem o_vs {b : ByteArray} : (AV.v (.string b)).one = true := rfl
theorem o_vp {a : Option Addr} : (AV.v (.pointer a)).one = true := rfl
theorem o_vf {f : Fn} {a b : Array Value} : (AV.v (.func f a b)).one = true := rfl
theorem o_vif {t : TypeId} {x : Value} : (AV.v (.iface t x)).one = true := rfl
theorem o_vm {r : Option Nat} : (AV.v (.map r)).one = true := rfl
theorem aev_const {T : Fr} {x : Value} : aev T (.const x) = cval x := rfl
theorem aev_func {T : Fr} {f : FuncId} : aev T (.func f) = .v (.func (.func f) #[] #[]) := rfl
theorem aev_global {T : Fr} {g : Nat} : aev T (.global g) = .v (.pointer (some ⟨g, 0, none⟩)) := rfl
theorem cval_int {k : IntKind} {n : Int} : cval (.int k n) = vi k n := rfl
theorem cval_bool {b : Bool} : cval (.bool b) = vb b := rfl
theorem cval_string {b : ByteArray} : cval (.string b) = .v (.string b) := rfl
theorem cval_nil : cval (.slice none 0 0) = .sl .nil [] := rfl
theorem cval_nilFunc : cval .nilFunc = .v .nilFunc := rfl
theorem cval_nilIface : cval .nilIface = .v .nilIface := rfl
theorem cval_map {r : Option Nat} : cval (.map r) = .v (.map r) := rfl
theorem cval_ptr {r : Option Addr} : cval (.pointer r) = .v (.pointer r) := rfl
theorem set_set {σ : Store} {l : Nat} {c c' : Cell} : (σ.set l c).set l c' = σ.set l c' := by
  funext k; simp only [Store.set]; split <;> rfl
theorem set_sub {σ : Store} {l : Nat} {c : Cell} (hl : σ l = none) : ∀ k c', σ k = some c' → (σ.set l c) k = some c' := by
  intro k c' h
  simp only [Store.set]
  rw [if_neg (by rintro rfl; rw [hl] at h; cases h)]
  exact h
theorem Owned.fresh {e : TypeId} {s n : Nat} {o : Owner} {σ0 σ : Store} (h : Owned e s σ0 o n σ) {l : Nat} {c : Cell} (hl : σ l = none) : Owned e s (σ0.set l c) o n (σ.set l c) := by
  obtain ⟨h1, rfl⟩ := h
  cases o with
  | own g =>
    have hne : g ≠ l := by
      rintro rfl
      simp [Store.give, Store.set] at hl
    refine ⟨?_, ?_⟩
    · show (σ0.set l c) g = none
      simp only [Store.set]; rw [if_neg hne]; exact h1
    · funext k
      simp only [Store.give, Store.set]
      by_cases h2 : k = l
      · subst h2; rw [if_pos rfl, if_neg (Ne.symm hne), if_pos rfl]
      · rw [if_neg h2]
        by_cases h3 : k = g
        · rw [if_pos h3, if_pos h3]
        · rw [if_neg h3, if_neg h3, if_neg h2]
  | nil => exact ⟨h1, rfl⟩
  | tight => exact ⟨trivial, rfl⟩
  | ro => exact h1.elim
theorem Owned.give_sub {e : TypeId} {s n : Nat} {o : Owner} {σ0 σ : Store} {l : Nat} {c : Cell} (h : Owned e s (σ0.set l c) o n σ) (hl : σ0 l = none) :
    Owned e s σ0 o n (σ0.give e s o n) ∧ ∀ k c', (σ0.give e s o n) k = some c' → σ k = some c' := by
  obtain ⟨h1, rfl⟩ := h
  have hok : OwnerOk σ0 o n := by
    cases o with
    | own g =>
      have : (σ0.set l c) g = none := h1
      simp only [Store.set] at this
      split at this
      · cases this
      · exact this
    | nil => exact h1
    | tight => exact h1
    | ro => exact h1
  refine ⟨⟨hok, rfl⟩, fun k c' hk => ?_⟩
  cases o with
  | own g =>
    simp only [Store.give, Store.set] at hk ⊢
    split at hk
    · rename_i e1; rw [if_pos e1]; exact hk
    · rename_i e1; rw [if_neg e1, if_neg (by rintro rfl; rw [hl] at hk; cases hk)]; exact hk
  | nil => exact set_sub hl k c' hk
  | tight => exact set_sub hl k c' hk
  | ro => exact set_sub hl k c' hk
theorem Owned.put {e : TypeId} {s n : Nat} {o : Owner} {σ0 σ : Store} (h : Owned e s σ0 o n σ) {l : Nat} {c c' : Cell} (hl : σ0 l = some c) : Owned e s (σ0.set l c') o n (σ.set l c') := by
  have e0 : σ0.set l c = σ0 := by
    funext k; simp only [Store.set]; split
    · rename_i e; subst e; exact hl.symm
    · rfl
  have := Owned.set (σ0 := σ0) (l := l) (c := c) (c' := c') (by rw [e0]; exact h)
  exact this
def Store.nil : Store := fun _ => none
theorem nil_join {τ : Store} : Store.nil.join τ = τ := by
  funext k; simp only [Store.join, Store.nil]; cases τ k <;> rfl
theorem nil_apart {τ : Store} : Apart Store.nil τ := fun _ _ _ => rfl
/-- A round, with the loop's cell under a name. -/
def RoundL (l : Nat) (lc : LoopState → Option Code → Cell) (R : AV → Store → Prop) : Exit → Fr → Store → Prop
  | .normal, _, σ => σ l = some (lc .busy none) ∧ R (.v (.bool true)) (σ.set l (lc .ready none))
  | .ret, _, σ => σ l = some (lc .busy none) ∧ R (.v (.bool false)) (σ.set l (lc .done (some .ret)))
  | .exit id, _, σ => σ l = some (lc .busy none) ∧ R (.v (.bool false)) (σ.set l (lc .done (some (.exit id))))
  | _, _, _ => False
def LoopIs (N : Nat) (T : Fr) (ps : Array Tmp) (assign body : Code) (lc : LoopState → Option Code → Cell) : Prop := ∀ st j, lc st j = .loop N T ps assign body st j
theorem AWP.rangeL {P : Program} {N : Nat} {σ : Store} {T : Fr} {g : Operand} {ps : Array Tmp} {assign body : Code} {Q : Exit → Fr → Store → Prop} {f : FuncId} {first caps : Array Value} (hN : Operand.inN N g = true) (hg : aev T g = .v (.func (.func f) first caps))
    (h : ∀ l lc, LoopIs N T ps assign body lc → σ l = none → ACalls P f (first.toList.map .v ++ [.v (.func (.yield l) #[] #[])] ++ caps.toList.map .v) (σ.set l (lc .ready none))
      (fun _ σ' => ∃ st jump, σ' l = some (lc st jump) ∧ st ≠ .busy ∧ ARest P N Q T (σ'.del l) jump)) : AWP P none N (.rangeFunc g ps assign body) Q T σ :=
  AWP.rangeFunc hN hg fun l hl => h l (.loop N T ps assign body) (fun _ _ => rfl) hl
theorem ayieldL {P : Program} {N : Nat} {σ : Store} {T : Fr} {l : Nat} {ps : Array Tmp} {assign body : Code} {lc : LoopState → Option Code → Cell} {args : List AV} {R : AV → Store → Prop} (hlc : LoopIs N T ps assign body lc) (hσ : σ l = some (lc .ready none)) (hlen : args.length = ps.size)
    (h : AWP P (some l) N assign (AThen (fun T1 σ1 => σ1 l = some (lc .ready none) ∧ AWP P (some l) N body (RoundL l lc R) T1 (σ1.set l (lc .busy none))) (fun _ _ _ => False)) (asgT T ps.toList args) σ) : ACallV P (.v (.func (.yield l) #[] #[])) args σ R := by
  have e : lc = .loop N T ps assign body := funext fun st => funext fun j => hlc st j
  subst e
  refine ayield hσ hlen (h.mono fun e T1 σ1 k => ?_)
  cases e with
  | normal =>
    refine ⟨rfl, k.1, k.2.mono fun e T2 σ2 q => ?_⟩
    cases e <;> exact q
  | _ => exact k.elim
theorem round_normal {l : Nat} {lc : LoopState → Option Code → Cell} {T : Fr} {R : AV → Store → Prop} {σ : Store} : RoundL l lc R .normal T σ = (σ l = some (lc .busy none) ∧ R (.v (.bool true)) (σ.set l (lc .ready none))) := rfl
theorem round_ret {l : Nat} {lc : LoopState → Option Code → Cell} {T : Fr} {R : AV → Store → Prop} {σ : Store} : RoundL l lc R .ret T σ = (σ l = some (lc .busy none) ∧ R (.v (.bool false)) (σ.set l (lc .done (some .ret)))) := rfl
theorem round_exit {l id : Nat} {lc : LoopState → Option Code → Cell} {T : Fr} {R : AV → Store → Prop} {σ : Store} : RoundL l lc R (.exit id) T σ = (σ l = some (lc .busy none) ∧ R (.v (.bool false)) (σ.set l (lc .done (some (.exit id))))) := rfl
theorem Apart.not {σ τ : Store} (h : Apart σ τ) {l : Nat} {c : Cell} (hl : σ l = some c) : τ l = none := by
  cases e : τ l with
  | none => rfl
  | some c2 => rw [h l c2 e] at hl; cases hl
theorem join_left {σ τ : Store} (h : Apart σ τ) {l : Nat} {c : Cell} (hl : σ l = some c) : (σ.join τ) l = some c := by simp [Store.join, h.not hl, hl]
def Sub (A B : Store) : Prop := ∀ q c, A q = some c → B q = some c
theorem Sub.refl {A : Store} : Sub A A := fun _ _ h => h
theorem Sub.trans {A B C : Store} (h : Sub A B) (k : Sub B C) : Sub A C := fun q c e => k q c (h q c e)
theorem Sub.del {A B : Store} {l : Nat} (h : Sub A B) (hl : A l = none) : Sub A (B.del l) := fun q c e => by
  simp only [store_del]
  rw [if_neg (by rintro rfl; rw [hl] at e; cases e)]
  exact h q c e
theorem Sub.joinL {A B τ : Store} (h : Sub A B) : Sub (A.join τ) (B.join τ) := fun q c e => by
  simp only [Store.join] at e ⊢
  cases e2 : τ q with
  | some c2 => rw [e2] at e; exact e
  | none => rw [e2] at e; exact h q c e
theorem Sub.joinR {σ τ τ' : Store} (h : Sub τ' τ) (ha : Apart σ τ) : Sub (σ.join τ') (σ.join τ) := join_sub h ha
theorem Sub.set {A B : Store} {l : Nat} {c : Cell} (h : Sub A B) (hl : A l = none) : Sub A (B.set l c) := fun q c' e => by
  simp only [store_at]
  rw [if_neg (by rintro rfl; rw [hl] at e; cases e)]
  exact h q c' e
theorem Sub.apart {σ τ τ' : Store} (h : Sub τ' τ) (ha : Apart σ τ) : Apart σ τ' := fun l c e => ha l c (h l c e)
theorem join_noneR {σ τ : Store} {l : Nat} (h1 : σ l = none) (h2 : τ l = none) : (σ.join τ) l = none := by simp [Store.join, h1, h2]
theorem Apart.set' {σ τ : Store} (h : Apart σ τ) {l : Nat} {c : Cell} (hl : σ l = none) : Apart σ (τ.set l c) := fun k c' e => by
  simp only [store_at] at e
  split at e
  · rename_i e1; subst e1; exact hl
  · exact h k c' e
theorem set_comm {σ : Store} {l k : Nat} {c c' : Cell} (h : l ≠ k) : (σ.set l c).set k c' = (σ.set k c').set l c := by
  funext q; simp only [Store.set]
  by_cases h1 : q = k
  · subst h1; simp [Ne.symm h]
  · simp [h1]
def have_b (x : Option Bool) (k : Bool → Prop) : Prop := ∃ b, x = some b ∧ k b
theorem have_b_some {b : Bool} {k : Bool → Prop} : have_b (some b) k = k b := by simp [have_b]
def gif (b want : Bool) (X Y : Prop) : Prop := if b = want then X else Y
theorem gif_tt {X Y : Prop} : gif true true X Y = X := by simp [gif]
theorem gif_tf {X Y : Prop} : gif true false X Y = Y := by simp [gif]
theorem gif_ft {X Y : Prop} : gif false true X Y = Y := by simp [gif]
theorem gif_ff {X Y : Prop} : gif false false X Y = X := by simp [gif]
@[congr] theorem gif_congr {b b' want : Bool} {X Y : Prop} (h : b = b') : gif b want X Y = gif b' want X Y := by rw [h]
theorem ite_and {b want : Bool} {X Y : Prop} : ((b = want → X) ∧ (b = !want → Y)) = gif b want X Y := by
  unfold gif
  cases b <;> cases want <;> simp
theorem vcs_if {P : Program} {ops rest : List Oper} {K : Fr → Store → Prop} {T : Fr} {σ : Store} {d : Option Tmp} {ty : TypeId} {ps : String} {af : Array Edge} {op : Op} {j : Nat} {want : Bool} : vcs P ops K (⟨d, op, ty, ps, af, some (j, want)⟩ :: rest) T σ =
    have_b (gslot ops T j) fun b => gif b want (vc P ⟨d, op, ty, ps, af, some (j, want)⟩ (vcs P ops K rest) T σ) (vcs P ops K rest (putT T d .junk) σ) := by
  show (∃ b, _ ∧ _ ∧ _) = _
  unfold have_b
  congr 1; funext b; congr 1
  exact ite_and
def gsl (T : Fr) : Option Nat → Option Bool
  | some d => match T d with | .v (.bool b) => some b | _ => none
  | none => none
theorem gslot_eq {ops : List Oper} {T : Fr} {j : Nat} : gslot ops T j = gsl T ((ops[j]?).bind (·.dst)) := by
  unfold gslot gsl
  cases (ops[j]?).bind (·.dst) <;> rfl
def asB : AV → Option Bool
  | .v (.bool b) => some b
  | _ => none
theorem gsl_some {T : Fr} {d : Nat} : gsl T (some d) = asB (T d) := by unfold gsl asB; rfl
theorem asB_vb {b : Bool} : asB (vb b) = some b := rfl
def pick_ (c a b : AV) : Option AV := match c with | .v (.bool t) => some (if t then a else b) | _ => none
theorem vc_pk {P : Program} {K : Fr → Store → Prop} {T : Fr} {σ : Store} {d : Option Tmp} {ty : TypeId} {ps : String} {af : Array Edge} {g : Option (Nat × Bool)} {c a b : Operand} : vc P ⟨d, .pick c a b, ty, ps, af, g⟩ K T σ = have_ (pick_ (aev T c) (aev T a) (aev T b)) (kq K d T σ) := by
  unfold have_ pick_ kq
  simp only [vc, pv]
  generalize aev T c = q
  rcases q with x | _ | _ | _ | _ | _ <;> first | rfl | (cases x <;> rfl)
theorem pick_vb {t a b : Bool} : pick_ (vb t) (vb a) (vb b) = some (vb (if t then a else b)) := by cases t <;> rfl
theorem pick_t {a b : AV} : pick_ (vb true) a b = some a := rfl
theorem pick_f {a b : AV} : pick_ (vb false) a b = some b := rfl
theorem Apart.symm {σ τ : Store} (h : Apart σ τ) : Apart τ σ := fun l c e => by
  cases e2 : τ l with
  | none => rfl
  | some c2 => rw [h l c2 e2] at e; cases e
theorem join_swap {σ τ : Store} (h : Apart σ τ) : σ.join τ = τ.join σ := by
  funext l
  simp only [Store.join]
  cases e : τ l with
  | some c => rw [h l c e]
  | none => cases σ l <;> rfl
theorem swap2 {σ β : Store} {l3 l : Nat} {a c : Cell} (h : Apart σ β) : σ.join ((β.set l3 a).set l c) = β.join ((σ.set l3 a).set l c) := by
  rw [← join_set, ← join_set, join_swap h, join_set, join_set]
/-! ### Filtering by number -/
def cnt (q : Nat → Bool) (k : Nat) : Nat := ((List.range k).filter q).length
theorem cnt_succ {q : Nat → Bool} {k : Nat} : cnt q (k + 1) = cnt q k + (if q k then 1 else 0) := by
  unfold cnt
  rw [List.range_succ, List.filter_append, List.length_append]
  congr 1
  cases h : q k <;> simp [List.filter, h]
def pass (q : Nat → Bool) (n : Nat) : List Nat := (List.range n).filter q
theorem pass_at {q : Nat → Bool} {n k : Nat} (hk : k < n) (hq : q k = true) : (pass q n)[cnt q k]? = some k := by
  unfold pass cnt
  obtain ⟨m, rfl⟩ : ∃ m, n = k + (m + 1) := ⟨n - k - 1, by omega⟩
  rw [List.range_add, List.filter_append, List.getElem?_append_right (Nat.le_refl _), Nat.sub_self, List.range_succ_eq_map]
  simp [List.filter, hq]
theorem callv_fn {P : Program} {f : FuncId} {args : List AV} {σ : Store} {R : AV → Store → Prop} (h : ACalls P f args σ R) : ACallV P (.v (.func (.func f) #[] #[])) args σ R := by
  refine .inl ?_
  simpa using h
theorem callv_clo {P : Program} {f : FuncId} {caps : Array Value} {args : List AV} {σ : Store} {R : AV → Store → Prop} (h : ACalls P f (args ++ caps.toList.map .v) σ R) : ACallV P (.v (.func (.func f) #[] caps)) args σ R := by
  refine .inl ?_
  simpa using h
theorem blt_min {P : Program} {ats : Array TypeId} {ty : TypeId} {cs : Array Bool} {k : IntKind} {a b : Int} {σ : Store} : blt P .min ats ty cs [vi k a, vi k b] σ = some (vi k (if b < a then b else a)) := rfl
theorem blt_max {P : Program} {ats : Array TypeId} {ty : TypeId} {cs : Array Bool} {k : IntKind} {a b : Int} {σ : Store} : blt P .max ats ty cs [vi k a, vi k b] σ = some (vi k (if b > a then b else a)) := rfl
theorem pass_true {n : Nat} : pass (fun _ => true) n = List.range n := List.filter_eq_self.2 fun _ _ => rfl
theorem join_nil {σ : Store} : σ.join Store.nil = σ := by funext k; simp [Store.join, Store.nil]
theorem join_one {Y : Store} {a : Nat} {x : Cell} : Y.join (Store.nil.set a x) = Y.set a x := by rw [← join_set, join_nil]
theorem join_two {Y : Store} {a b : Nat} {x y : Cell} : Y.join ((Store.nil.set a x).set b y) = (Y.set a x).set b y := by rw [← join_set, join_one]
theorem ACalls.at {P : Program} {f : FuncId} {args : List AV} {σ σ' : Store} {R : AV → Store → Prop} (e : σ = σ') (h : ACalls P f args σ' R) : ACalls P f args σ R := by rw [e]; exact h
theorem iad_bx {P : Program} {t e : TypeId} {s l off len c : Nat} {k : IntKind} {n : Int} (hu : P.underlying t = some (.slice e)) (he : szOf P e = some s) (h : 0 ≤ n ∧ n < len) :
    iad P t (.v (.slice (some ⟨l, off, none⟩) len c)) (vi k n) = some (.v (.pointer (some ⟨l, off + n.toNat * s, none⟩))) := by
  simp [iad, hu, he, h]
theorem len_bx {P : Program} {t e : TypeId} {a : Option Addr} {len c : Nat} {ty : TypeId} {cs : Array Bool} {σ : Store} (hu : P.underlying t = some (.slice e)) : blt P .len #[t] ty cs [.v (.slice a len c)] σ = some (vi .i64 len) := by
  simp [blt, concLL, conc, conc1, builtin, Builtin.len_, underlying, program, pureRun?, hu, Bind.bind, Sem.bind, Pure.pure, cval, goInt]
theorem appendB_of {P : Program} {t e : TypeId} {s : Nat} {o : Owner} {sv : AV} {ys : List (List AV)} {σ : Store} {R : AV → Store → Prop} (ht : ElemT P t e s) (h0 : emptyRow sv = true) (hys : rowsSz ys s = true) (hpos : 0 < ys.length) (hb : ys.length ≤ 1099511627776)
    (h : ∀ l c rest, σ l = none → ys.length ≤ c → rest.length = (c - ys.length) * s → R (.v (.slice (some ⟨l, 0, none⟩) ys.length c)) (σ.set l (.box e (ys.flatten ++ rest)))) : vcAppendB P t t sv (.sl o ys) σ R := by
  obtain ⟨i, z, h1, h2, h3, h4, h5⟩ := ht.info
  simp only [vcAppendB, ht.under, srcRows]
  refine ⟨h0, by simp [slOrStr, ht.under], i, z, s, h1, h2, h3, h4, ht.pos, hys, hpos, ?_, by omega, h⟩
  calc ys.length * i.bytes ≤ 1099511627776 * 128 := Nat.mul_le_mul hb h5
    _ ≤ 140737488355328 := by decide
@[congr] theorem have_congr {x x' : Option AV} {k : AV → Prop} (h : x = x') : have_ x k = have_ x' k := by rw [h]
@[congr] theorem have_b_congr {x x' : Option Bool} {k : Bool → Prop} (h : x = x') : have_b x k = have_b x' k := by rw [h]
theorem mkf_00 {fn : Fn} : mkf fn [] [] = some (.v (.func fn #[] #[])) := rfl
theorem mkf_01 {fn : Fn} {a : Value} : mkf fn [] [.v a] = some (.v (.func fn #[] #[a])) := rfl
theorem mkf_02 {fn : Fn} {a b : Value} : mkf fn [] [.v a, .v b] = some (.v (.func fn #[] #[a, b])) := rfl
theorem mkf_03 {fn : Fn} {a b c : Value} : mkf fn [] [.v a, .v b, .v c] = some (.v (.func fn #[] #[a, b, c])) := rfl
theorem setRun_one {a b : AV} : setRun [a] 0 [b] = [b] := rfl
theorem setRun_all {as bs : List AV} (h : bs.length = as.length) : setRun as 0 bs = bs := by simp [setRun, h]
end Go.AL
