/- A-logic, part 1: the abstract weakest precondition of code, its rules of control; contracts of functions. -/
import Derived.Test.YtbnikhbpkiickaaA0
import Derived.LoopNIn
import Derived.RangeFuncRecord
set_option linter.unusedSimpArgs false
set_option linter.unusedVariables false
namespace Go.AL
open Go.RowKit

def FR (ρ : Option Nat) : Fence := { Fence.wide with round := ρ }
theorem FR_none : FR none = Fence.wide := rfl
theorem FR_fn (ρ : Option Nat) (f : FuncId) : (FR ρ).fn f := trivial
theorem FR_depth (ρ : Option Nat) : (FR ρ).depth = none := rfl
theorem FR_room (ρ : Option Nat) (n : Nat) : (FR ρ).room n := fun _ h => by simp [FR, Fence.wide] at h

/-- What abstract ends say of concrete ones. -/
def Lft (B : Nat) (w0 : World) (Φ : Frm) (G : Gh) (N : Nat) (Q : Exit → Fr → Store → Prop) (e : Exit) (a : Act) (w : World) : Prop :=
  ∃ (D : List Nat) (G' : Gh) (T : Fr) (σ : Store), G.le G' ∧ St B w0 Φ D G' σ w ∧ RepT G' N T a.tmps ∧ a.defers = D.map mark ∧ Q e T σ

def AWP (P : Program) (ρ : Option Nat) (N : Nat) (c : Code) (Q : Exit → Fr → Store → Prop) (T : Fr) (σ : Store) : Prop :=
  ∀ (B : Nat) (w0 : World) (Φ : Frm) (D : List Nat) (G : Gh) (w : World) (a : Act), St B w0 Φ D G σ w → RepT G N T a.tmps → a.defers = D.map mark →
    c.wpIn (FR ρ) 0 P (Lft B w0 Φ G N Q) a w

theorem Lft.of {B : Nat} {w0 : World} {Φ : Frm} {D : List Nat} {G G' : Gh} {N : Nat} {Q : Exit → Fr → Store → Prop} {e : Exit} {a : Act} {w : World} {T : Fr} {σ : Store}
    (hG : G.le G') (hs : St B w0 Φ D G' σ w) (ht : RepT G' N T a.tmps) (hd : a.defers = D.map mark) (h : Q e T σ) : Lft B w0 Φ G N Q e a w := ⟨D, G', T, σ, hG, hs, ht, hd, h⟩
theorem Lft.lower {B : Nat} {w0 : World} {Φ : Frm} {G G' : Gh} {N : Nat} {Q : Exit → Fr → Store → Prop} {e : Exit} {a : Act} {w : World} (hG : G.le G')
    (h : Lft B w0 Φ G' N Q e a w) : Lft B w0 Φ G N Q e a w := let ⟨D, G'', T, σ, h1, h2⟩ := h; ⟨D, G'', T, σ, Gh.le_trans hG h1, h2⟩
theorem Lft.mono {B : Nat} {w0 : World} {Φ : Frm} {G : Gh} {N : Nat} {Q Q' : Exit → Fr → Store → Prop} {e : Exit} {a : Act} {w : World}
    (h : Lft B w0 Φ G N Q e a w) (hq : ∀ T σ, Q e T σ → Q' e T σ) : Lft B w0 Φ G N Q' e a w :=
  let ⟨D, G'', T, σ, h1, h2, h3, h4, h5⟩ := h; ⟨D, G'', T, σ, h1, h2, h3, h4, hq _ _ h5⟩

section rules
variable {P : Program} {ρ : Option Nat} {N : Nat} {Q : Exit → Fr → Store → Prop} {T : Fr} {σ : Store}

theorem AWP.mono {c : Code} {Q' : Exit → Fr → Store → Prop} (h : AWP P ρ N c Q T σ) (hq : ∀ e T σ, Q e T σ → Q' e T σ) : AWP P ρ N c Q' T σ :=
  fun B w0 Φ D G w a hs ht hd => wpIn_mono (h B w0 Φ D G w a hs ht hd) fun e _ _ k => k.mono (hq e)
theorem AWP.weaken {c : Code} {σ' : Store} (hw : ∀ l x, σ' l = some x → σ l = some x) (h : AWP P ρ N c Q T σ') : AWP P ρ N c Q T σ :=
  fun B w0 Φ D G w a hs ht hd => h B w0 Φ D G w a (hs.weaken hw) ht hd

theorem AWP.skip (h : Q .normal T σ) : AWP P ρ N .skip Q T σ := fun _ _ _ _ _ _ _ hs ht hd => wpIn_skip (Lft.of (Gh.le_refl _) hs ht hd h)
theorem AWP.label {l : Nat} (h : Q .normal T σ) : AWP P ρ N (.label l) Q T σ := fun _ _ _ _ _ _ _ hs ht hd => wpIn_label (Lft.of (Gh.le_refl _) hs ht hd h)
theorem AWP.exit {l : Nat} (h : Q (.exit l) T σ) : AWP P ρ N (.exit l) Q T σ := fun _ _ _ _ _ _ _ hs ht hd => wpIn_exit (Lft.of (Gh.le_refl _) hs ht hd h)
theorem AWP.ret (h : Q .ret T σ) : AWP P ρ N .ret Q T σ := fun _ _ _ _ _ _ _ hs ht hd => wpIn_ret (Lft.of (Gh.le_refl _) hs ht hd h)

def AThen (next : Fr → Store → Prop) (Q : Exit → Fr → Store → Prop) : Exit → Fr → Store → Prop
  | .normal, T, σ => next T σ
  | e, T, σ => Q e T σ
theorem AWP.seq {x y : Code} (h : AWP P ρ N x (AThen (AWP P ρ N y Q) Q) T σ) : AWP P ρ N (.seq x y) Q T σ := by
  intro B w0 Φ D G w a hs ht hd
  refine wpIn_seq (wpIn_mono (h B w0 Φ D G w a hs ht hd) ?_)
  rintro e a' w' ⟨D', G', T', σ', hG, hs', ht', hd', hq⟩
  cases e with
  | normal => exact wpIn_mono (hq B w0 Φ D' G' w' a' hs' ht' hd') fun _ _ _ k => k.lower hG
  | exit id => exact ⟨D', G', T', σ', hG, hs', ht', hd', hq⟩
  | goto l => exact ⟨D', G', T', σ', hG, hs', ht', hd', hq⟩
  | ret => exact ⟨D', G', T', σ', hG, hs', ht', hd', hq⟩
  | panic ch => exact ⟨D', G', T', σ', hG, hs', ht', hd', hq⟩
  | outgrown => exact ⟨D', G', T', σ', hG, hs', ht', hd', hq⟩

theorem AWP.cond {c : Operand} {x y : Code} {t : Bool} (hN : Operand.inN N c = true) (hc : aev T c = .v (.bool t))
    (ht : t = true → AWP P ρ N x Q T σ) (hf : t = false → AWP P ρ N y Q T σ) : AWP P ρ N (.cond c x y) Q T σ := by
  intro B w0 Φ D G w a hs hrt hd
  have hr := rep_aev hrt hN
  rw [hc] at hr
  have he : a.eval c = .bool t := by
    generalize a.eval c = z at hr
    cases hr
    rfl
  exact wpIn_cond_split he (fun e => ht e B w0 Φ D G w a hs hrt hd) (fun e => hf e B w0 Φ D G w a hs hrt hd)

def ABlock (id : Nat) (Q : Exit → Fr → Store → Prop) : Exit → Fr → Store → Prop
  | .exit id', T, σ => if id' = id then Q .normal T σ else Q (.exit id') T σ
  | e, T, σ => Q e T σ
theorem AWP.block {id : Nat} {c : Code} (h : AWP P ρ N c (ABlock id Q) T σ) : AWP P ρ N (.block id c) Q T σ := by
  intro B w0 Φ D G w a hs ht hd
  refine wpIn_block (wpIn_mono (h B w0 Φ D G w a hs ht hd) ?_)
  rintro e a' w' ⟨D', G', T', σ', hG, hs', ht', hd', hq⟩
  cases e with
  | exit id' =>
    simp only [Exit.inBlock]
    simp only [ABlock] at hq
    split
    · rename_i e; rw [if_pos e] at hq; exact ⟨D', G', T', σ', hG, hs', ht', hd', hq⟩
    · rename_i e; rw [if_neg e] at hq; exact ⟨D', G', T', σ', hG, hs', ht', hd', hq⟩
  | normal => exact ⟨D', G', T', σ', hG, hs', ht', hd', hq⟩
  | goto l => exact ⟨D', G', T', σ', hG, hs', ht', hd', hq⟩
  | ret => exact ⟨D', G', T', σ', hG, hs', ht', hd', hq⟩
  | panic ch => exact ⟨D', G', T', σ', hG, hs', ht', hd', hq⟩
  | outgrown => exact ⟨D', G', T', σ', hG, hs', ht', hd', hq⟩

/-- A loop: 'I n': what holds at a round's head with at most n rounds to come. -/
theorem AWP.loop {c : Code} (I : Nat → Fr → Store → Prop) (n : Nat) (h0 : I n T σ)
    (round : ∀ n T σ, I n T σ → AWP P ρ N c (AThen (fun T' σ' => ∃ m, m < n ∧ I m T' σ') Q) T σ) : AWP P ρ N (.loop c) Q T σ := by
  intro B w0 Φ D G w a hs ht hd
  have key : ∀ (m n : Nat), n < m → ∀ (T : Fr) (σ : Store) (D : List Nat) (G' : Gh) (w : World) (a : Act), G.le G' → I n T σ → St B w0 Φ D G' σ w → RepT G' N T a.tmps → a.defers = D.map mark →
      Code.roundsIn (FR ρ) 0 P c (Lft B w0 Φ G N Q) m a w := by
    intro m
    induction m with
    | zero => intro n hn; omega
    | succ m ih =>
      intro n hn T σ D G' w a hG hI hs ht hd
      refine wpIn_mono (round n T σ hI B w0 Φ D G' w a hs ht hd) ?_
      rintro e a' w' ⟨D', G'', T', σ', hG', hs', ht', hd', hq⟩
      cases e with
      | normal =>
        obtain ⟨k, hk, hI'⟩ := hq
        exact ih k (by omega) T' σ' D' G'' w' a' (Gh.le_trans hG hG') hI' hs' ht' hd'
      | exit id => exact ⟨D', G'', T', σ', Gh.le_trans hG hG', hs', ht', hd', hq⟩
      | goto l => exact ⟨D', G'', T', σ', Gh.le_trans hG hG', hs', ht', hd', hq⟩
      | ret => exact ⟨D', G'', T', σ', Gh.le_trans hG hG', hs', ht', hd', hq⟩
      | panic ch => exact ⟨D', G'', T', σ', Gh.le_trans hG hG', hs', ht', hd', hq⟩
      | outgrown => exact ⟨D', G'', T', σ', Gh.le_trans hG hG', hs', ht', hd', hq⟩
  exact wpIn_loop_rounds (n + 1) (key (n + 1) n (by omega) T σ D G w a (Gh.le_refl _) h0 hs ht hd)
end rules

/-- A call of this function enters it. -/
def Enters (P : Program) (f : FuncId) : Prop := ∀ (args : Array Value) (w : World), (callFunc f args).run P w = .ok (.enter f args) w
theorem enters_of_body {P : Program} {f : FuncId} {fn : Func} {c : Code} (hf : P.funcs[f]? = some fn) (hb : fn.body = some c) (hn : (fn.name == "runtime.NumGoroutine") = false) : Enters P f := by
  intro args w
  have hn' : ¬ fn.name = "runtime.NumGoroutine" := by simpa using hn
  simp [callFunc, program, Sem.run, hf, hn', hb]

/-- A function's contract. -/
def ACalls (P : Program) (f : FuncId) (args : List AV) (σ : Store) (R : AV → Store → Prop) : Prop :=
  Enters P f ∧ ∀ (B : Nat) (w0 : World) (Φ : Frm) (G : Gh) (w : World) (vs : List Value), St B w0 Φ [] G σ w → RepL G args vs →
    Calls P f vs.toArray w fun e w' => ∃ (v : Value) (r : AV) (G' : Gh) (σ' : Store), e = .returned v ∧ G.le G' ∧ St B w0 Φ [] G' σ' w' ∧ Rep G' r v ∧ R r σ'
theorem ACalls.mono {P : Program} {f : FuncId} {args : List AV} {σ : Store} {R R' : AV → Store → Prop} (h : ACalls P f args σ R) (hr : ∀ r σ', R r σ' → R' r σ') : ACalls P f args σ R' :=
  ⟨h.1, fun B w0 Φ G w vs hs hv => (h.2 B w0 Φ G w vs hs hv).mono fun _ _ ⟨v, r, G', σ', h1, h2, h3, h4, h5⟩ => ⟨v, r, G', σ', h1, h2, h3, h4, hr _ _ h5⟩⟩
theorem ACalls.weaken {P : Program} {f : FuncId} {args : List AV} {σ σ' : Store} {R : AV → Store → Prop} (hw : ∀ l x, σ' l = some x → σ l = some x) (h : ACalls P f args σ' R) : ACalls P f args σ R :=
  ⟨h.1, fun B w0 Φ G w vs hs hv => h.2 B w0 Φ G w vs (hs.weaken hw) hv⟩
/-- What was given back may be forgotten, in part. -/
theorem ACalls.forget {P : Program} {f : FuncId} {args : List AV} {σ : Store} {R : AV → Store → Prop}
    (h : ACalls P f args σ fun r σ' => ∃ σ'', (∀ l x, σ'' l = some x → σ' l = some x) ∧ R r σ'') : ACalls P f args σ R :=
  ⟨h.1, fun B w0 Φ G w vs hs hv => (h.2 B w0 Φ G w vs hs hv).mono fun _ _ ⟨v, r, G', σ', h1, h2, h3, h4, ⟨σ'', h5, h6⟩⟩ => ⟨v, r, G', σ'', h1, h2, h3.weaken h5, h4, h6⟩⟩
/-- There is an end, if there is a begin. -/
theorem ACalls.some_ {P : Program} {f : FuncId} {args : List AV} {σ : Store} {R : AV → Store → Prop} (h : ACalls P f args σ R) {B : Nat} {w0 : World} {Φ : Frm} {G : Gh} {w : World} {vs : List Value}
    (hs : St B w0 Φ [] G σ w) (hv : RepL G args vs) : ∃ r σ', R r σ' := by
  obtain ⟨e, w', fr, ⟨v, r, G', σ', _, _, _, _, h5⟩, _⟩ := h.2 B w0 Φ G w vs hs hv []
  exact ⟨r, σ', h5⟩

/-- How many cells a variable of a type has; is it a struct or an array? -/
def szAgg (P : Program) (t : TypeId) : Option (Nat × Bool) :=
  match P.underlying t, P.info? t with
  | some (.struct _), some i => some (i.size, true)
  | some (.array _ _), some i => some (i.size, true)
  | some _, some _ => some (1, false)
  | _, _ => none
def ldc (P : Program) (t : TypeId) (cs : List AV) : Option AV :=
  match szAgg P t with
  | some (n, true) => if n ≤ cs.length then some (.agg (cs.take n)) else none
  | some (_, false) => cs.head?
  | none => none
def ldp (P : Program) (t : TypeId) (p : AV) (σ : Store) : Option AV :=
  match p with
  | .v (.pointer (some ⟨l, off, none⟩)) => match σ l with | some (.box _ cells) => ldc P t (cells.drop off) | _ => none
  | .el row off => ldc P t (row.drop off)
  | _ => none

theorem run_isAgg (P : Program) (t : TypeId) (w : World) {n : Nat} {b : Bool} (h : szAgg P t = some (n, b)) : (isAgg t).run P w = .ok b w ∧ (b = true → (sizeOf t).run P w = .ok n w) := by
  unfold szAgg at h
  split at h
  · rename_i fs i e1 e2
    cases h
    simp [isAgg, run_underlying e1, sizeOf, typeInfo, e2]
  · rename_i m e i e1 e2
    cases h
    simp [isAgg, run_underlying e1, sizeOf, typeInfo, e2]
  · rename_i d i n1 n2 e1 e2
    cases h
    refine ⟨?_, by simp⟩
    cases d with
    | struct fs => exact absurd rfl (n1 fs)
    | array m e => exact absurd rfl (n2 m e)
    | _ => simp [isAgg, run_underlying e1]
  · cases h

theorem Addr.add_plain (b o n : Nat) : (⟨b, o, none⟩ : Addr).add n = ⟨b, o + n, none⟩ := by
  unfold Addr.add
  split
  · rename_i h; subst h; rfl
  · rfl

theorem run_loadCellsFrom (P : Program) (w : World) (b o : Nat) : ∀ (n i : Nat) (acc : Array Value) (cs : List Value), cs.length = n → (∀ j y, cs[j]? = some y → w.cell? ⟨b, o + (i + j), none⟩ = some y) →
    (loadCellsFrom ⟨b, o, none⟩ i n acc).run P w = .ok (acc ++ cs.toArray) w := by
  intro n
  induction n with
  | zero => intro i acc cs hl _; cases cs <;> simp_all [loadCellsFrom]
  | succ n ih =>
    intro i acc cs hl h
    cases cs with
    | nil => simp at hl
    | cons c cs =>
      have h0 : w.cell? ⟨b, o + i, none⟩ = some c := by simpa using h 0 c rfl
      have := ih (i + 1) (acc.push c) cs (by simpa using hl) (fun j y hj => by have := h (j + 1) y (by simpa using hj); rw [show i + 1 + j = i + (j + 1) from by omega]; exact this)
      simp [loadCellsFrom, load, Sem.run, Addr.add_plain, h0, this]
theorem run_loadVar_cells (P : Program) (w : World) (t : TypeId) (b o : Nat) {G : Gh} {cells : List AV} {x : AV} (h : ldc P t cells = some x)
    {cs : List Value} (hl : RepL G cells cs) (hc : ∀ j y, cs[j]? = some y → w.cell? ⟨b, o + j, none⟩ = some y) :
    ∃ v, (loadVar t ⟨b, o, none⟩).run P w = .ok v w ∧ Rep G x v := by
  unfold ldc at h
  split at h
  · rename_i n e
    obtain ⟨h1, h2⟩ := run_isAgg P t w e
    split at h
    · rename_i hle
      cases h
      have hlen : (cs.take n).length = n := by rw [List.length_take, hl.1]; omega
      have hr := run_loadCellsFrom P w b o n 0 #[] (cs.take n) hlen (fun j y hj => by
        rw [List.getElem?_take] at hj
        split at hj
        · simpa using hc j y hj
        · cases hj)
      refine ⟨.agg (cs.take n).toArray, ?_, .agg (by rw [hlen, List.length_take]; omega) (fun j x y hx hy => (hl.take n).2 j x y hx hy)⟩
      simp only [Array.empty_append] at hr
      simp [loadVar, h1, h2 rfl, loadCells, hr]
    · cases h
  · rename_i n e
    obtain ⟨h1, _⟩ := run_isAgg P t w e
    cases cells with
    | nil => simp at h
    | cons z zs =>
      simp only [List.head?_cons, Option.some.injEq] at h
      subst h
      obtain ⟨y, ys, rfl, hr, _⟩ := hl.head
      have h0 : w.cell? ⟨b, o, none⟩ = some y := by simpa using hc 0 y rfl
      exact ⟨y, by simp [loadVar, h1, load, Sem.run, h0], hr⟩
  · cases h

theorem cell_of_cells {w : World} {l : Nat} {cs : List Value} {T : TypeId} {fz : Nat × Nat} (h : w.heap[l]? = some (.cells cs.toArray T fz)) {j : Nat} {y : Value} (hj : cs[j]? = some y) : w.cell? ⟨l, j, none⟩ = some y := by
  rw [cell_of_row w l j _ _ _ h]
  simpa using hj

theorem run_ldp {P : Program} {B : Nat} {w0 : World} {Φ : Frm} {D : List Nat} {G : Gh} {σ : Store} {w : World} (hs : St B w0 Φ D G σ w) {t : TypeId} {p x : AV} {pv : Value} (h : ldp P t p σ = some x) (hp : Rep G p pv) :
    ∃ ad v, pv = .pointer (some ad) ∧ (loadVar t ad).run P w = .ok v w ∧ Rep G x v := by
  unfold ldp at h
  split at h
  · rename_i l off
    cases hp
    split at h
    · rename_i Tb cells e
      obtain ⟨_, cs, h1, h2, h3⟩ := hs.own l _ e
      obtain ⟨v, hv1, hv2⟩ := run_loadVar_cells P w t l off h (h2.drop off) (fun j y hj => cell_of_cells h1 (by simpa using hj))
      exact ⟨_, v, rfl, hv1, hv2⟩
    · cases h
  · rename_i row off
    cases hp with
    | el cs hcell hrep =>
      rename_i b bo
      obtain ⟨v, hv1, hv2⟩ := run_loadVar_cells P w t b (bo + off) (cells := row.drop off) (cs := (List.range' off (row.length - off)).map cs) h
        ⟨by simp, fun j x y hx hy => by
          rw [List.getElem?_drop] at hx
          have hj : j < row.length - off := by have := (List.getElem?_eq_some_iff.1 hx).1; omega
          rw [List.getElem?_map, List.getElem?_range' hj] at hy
          simp at hy
          subst hy
          exact hrep _ x hx⟩
        (fun j y hj => by
          have hlt : j < row.length - off := by have := (List.getElem?_eq_some_iff.1 hj).1; simpa using this
          rw [List.getElem?_map, List.getElem?_range' hlt] at hj
          simp at hj
          subst hj
          have := hs.imm _ _ _ (hcell (off + j) row[off + j] (List.getElem?_eq_getElem (by omega)))
          rw [Nat.add_assoc]
          exact this)
      exact ⟨_, v, rfl, hv1, hv2⟩
  · cases h

/-- The results. -/
def ares1 (P : Program) (N : Nat) (T : Fr) (σ : Store) : ResultVar → Option AV
  | .tmp t => if t < N then some (T t) else none
  | .cell a t => if a < N then ldp P t (T a) σ else none
def aresL (P : Program) (N : Nat) (T : Fr) (σ : Store) : List ResultVar → Option (List AV)
  | [] => some []
  | r :: rs => (ares1 P N T σ r).bind fun x => (aresL P N T σ rs).bind fun xs => some (x :: xs)
def ares (P : Program) (N : Nat) (rs : List ResultVar) (T : Fr) (σ : Store) : Option AV :=
  (aresL P N T σ rs).bind fun xs => match xs with | [x] => some x | xs => some (.tup xs)

def resSem (tmps : Array Value) : ResultVar → Sem Value
  | .tmp t => pure (tmps.getD t undef)
  | .cell a t => do loadVar t (← asAddr (tmps.getD a undef))
theorem results_eq (fn : Func) (tmps : Array Value) : results fn tmps = (do let vs ← fn.results.mapM (resSem tmps); pure (if h : vs.size = 1 then vs[0] else .tuple vs)) := by
  unfold results
  congr 1
theorem run_aresL {P : Program} {B : Nat} {w0 : World} {Φ : Frm} {D : List Nat} {G : Gh} {σ : Store} {w : World} (hs : St B w0 Φ D G σ w) {N : Nat} {T : Fr} {tmps : Array Value} (ht : RepT G N T tmps) :
    ∀ (rs : List ResultVar) (xs : List AV), aresL P N T σ rs = some xs →
      ∃ vs : List Value, (rs.mapM (resSem tmps)).run P w = .ok vs w ∧ RepL G xs vs := by
  intro rs
  induction rs with
  | nil => intro xs h; simp only [aresL, Option.some.injEq] at h; subst h; exact ⟨[], by simp, .nil⟩
  | cons r rs ih =>
    intro xs h
    simp only [aresL] at h
    obtain ⟨x, hx, h⟩ := Option.bind_eq_some_iff.1 h
    obtain ⟨xs', hxs, h⟩ := Option.bind_eq_some_iff.1 h
    simp only [Option.some.injEq] at h
    subst h
    obtain ⟨vs, h1, h2⟩ := ih xs' hxs
    have one : ∃ v, (resSem tmps r).run P w = .ok v w ∧ Rep G x v := by
      cases r with
      | tmp t =>
        simp only [ares1] at hx
        split at hx
        · rename_i hlt; cases hx; exact ⟨tmps.getD t undef, rfl, ht.rep t hlt⟩
        · cases hx
      | cell a t =>
        simp only [ares1] at hx
        split at hx
        · rename_i hlt
          obtain ⟨ad, v, e1, e2, e3⟩ := run_ldp hs hx (ht.rep a hlt)
          exact ⟨v, by simp [resSem, e1, asAddr, e2], e3⟩
        · cases hx
    obtain ⟨v, hv, hr⟩ := one
    refine ⟨v :: vs, ?_, .cons hr h2⟩
    simp only [List.mapM_cons, Sem.run_bind, hv, Result.andThen_ok, h1, Sem.run_pure]
theorem run_ares {P : Program} {B : Nat} {w0 : World} {Φ : Frm} {D : List Nat} {G : Gh} {σ : Store} {w : World} (hs : St B w0 Φ D G σ w) {fn : Func} {T : Fr} {tmps : Array Value} {N : Nat} (ht : RepT G N T tmps)
    {rs : List ResultVar} (hr : fn.results = rs.toArray) {x : AV} (h : ares P N rs T σ = some x) : ∃ v, (results fn tmps).run P w = .ok v w ∧ Rep G x v := by
  unfold ares at h
  obtain ⟨xs, hxs, h⟩ := Option.bind_eq_some_iff.1 h
  obtain ⟨vs, h1, h2⟩ := run_aresL hs ht rs xs hxs
  rw [results_eq, hr]
  simp only [List.mapM_toArray, Sem.run_bind, map_eq_pure_bind, h1, Result.andThen_ok, Sem.run_pure]
  have hl := h2.1
  split at h
  · rename_i y
    simp only [Option.some.injEq] at h
    subst h
    obtain ⟨v, vs', rfl, hv, h3⟩ := h2.head
    cases h3.nil_inv
    exact ⟨v, by simp, hv⟩
  · rename_i hne
    simp only [Option.some.injEq] at h
    subst h
    have : vs.length ≠ 1 := by
      intro e
      rw [e] at hl
      match xs, hl with
      | [y], _ => exact hne y rfl
    exact ⟨.tuple vs.toArray, by simp [this], .tup h2.1 h2.2⟩

/-! ### The end of a function -/
theorem St.imm_obj {B : Nat} {w0 : World} {Φ : Frm} {D : List Nat} {G : Gh} {σ : Store} {w : World} (h : St B w0 Φ D G σ w) {l : Nat} {ob : Obj} (hl : w.heap[l]? = some ob) (hc : ∀ c t f, ob ≠ .cells c t f) (o : Nat) : G.imm l o = none := by
  cases e : G.imm l o with
  | none => rfl
  | some x =>
    have := h.imm l o x e
    unfold World.cell? at this
    simp only [hl] at this
    cases ob <;> first | exact absurd rfl (hc _ _ _) | cases this
theorem St.putObj {B : Nat} {w0 : World} {Φ : Frm} {D D' : List Nat} {G : Gh} {σ σ' : Store} {w : World} (h : St B w0 Φ D G σ w) {l : Nat} {ob ob' : Obj} (hl : w.heap[l]? = some ob) (hB : B ≤ l) (hΦ : Φ l = none)
    (hc : ∀ c t f, ob ≠ .cells c t f) (hσ : ∀ k, k ≠ l → σ' k = σ k) (hn : ∀ c, σ' l = some c → Holds G (w.putObj l ob') l c) (hD : D'.Nodup) (hD' : ∀ r, r ∈ D' → r ∈ D ∧ r ≠ l) : St B w0 Φ D' G σ' (w.putObj l ob') := by
  have hold : ∀ k, k ≠ l → (w.putObj l ob').heap[k]? = w.heap[k]? := fun k hk => World.putObj_heap_other (w := w) hk
  have hi := h.imm_obj hl hc
  refine ⟨h.below.trans ⟨rfl, rfl, rfl, by simp, fun k hk => hold k (by omega)⟩, by simp; exact h.le, fun b o v e => ?_, fun b c e => by simp; exact h.cap b c e, fun k c e => ?_, fun k o e => ?_, hD, fun r hr => ?_⟩
  · have hb : b ≠ l := by rintro rfl; rw [hi o] at e; cases e
    rw [cell?_of_heap (hold b hb)]; exact h.imm b o v e
  · by_cases hk : k = l
    · subst hk; exact ⟨hB, hn c e⟩
    · rw [hσ k hk] at e
      obtain ⟨a, b⟩ := h.own k c e
      exact ⟨a, b.mono (Gh.le_refl _) (fun _ x => x) (hold k hk)⟩
  · obtain ⟨a, b, c⟩ := h.frame k o e
    have hk : k ≠ l := by rintro rfl; rw [hΦ] at e; cases e
    exact ⟨by rw [hσ k hk]; exact a, (hold k hk).trans b, c⟩
  · obtain ⟨h1, hk⟩ := hD' r hr
    obtain ⟨a, b, c, d⟩ := h.marks r h1
    exact ⟨a, by rw [hσ r hk]; exact b, c, (hold r hk).trans d⟩

def APost (P : Program) (N : Nat) (rs : List ResultVar) (R : AV → Store → Prop) : Exit → Fr → Store → Prop
  | .normal, T, σ | .ret, T, σ => ∃ r, ares P N rs T σ = some r ∧ R r σ
  | _, _, _ => False
def argT (args : List AV) : Fr := fun i => (args[i]?).getD (.v undef)

theorem leaves_marks {P : Program} {fn : Func} {tmps : Array Value} {R' : Ending → World → Prop} {B : Nat} {w0 : World} {Φ : Frm} {G : Gh} {σ : Store}
    (hR : ∀ w, St B w0 Φ [] G σ w → ∃ v, (results fn tmps).run P w = .ok v w ∧ R' (.returned v) w) : ∀ (D : List Nat) (w : World), St B w0 Φ D G σ w → LeavesInM Fence.wide 0 P fn tmps R' (D.map mark) .returning w := by
  intro D
  induction D with
  | nil => intro w hs; exact hR w hs
  | cons r D ih =>
    intro w hs
    obtain ⟨hB, hσ, hΦ, hw⟩ := hs.marks r (by simp)
    have hnd := List.nodup_cons.1 hs.nodup
    refine ⟨by simp, .inl ⟨r, w.putObj r (.deferred none), rfl, run_takeDeferred hw, ih _ ?_⟩⟩
    exact hs.putObj hw hB hΦ (fun _ _ _ => by simp) (fun _ _ => rfl) (fun c e => by rw [hσ] at e; cases e) hnd.2 (fun k hk => ⟨by simp [hk], fun e => hnd.1 (e ▸ hk)⟩)

theorem acalls_of_awp {P : Program} {f : FuncId} {fn : Func} {c : Code} {args : List AV} {σ : Store} {R : AV → Store → Prop} {N : Nat} {rs : List ResultVar}
    (hf : P.funcs[f]? = some fn) (hb : fn.body = some c) (hn : (fn.name == "runtime.NumGoroutine") = false) (hN : fn.ntmps = N) (hrs : fn.results = rs.toArray) (hle : args.length ≤ N)
    (h : AWP P none N c (APost P N rs R) (argT args) σ) : ACalls P f args σ R := by
  refine ⟨enters_of_body hf hb hn, fun B w0 Φ G w vs hs hv => ?_⟩
  refine callsIn_wide (n := 0) |>.1 (callsIn_of_wp_marks hf hb trivial ?_)
  have hsz : (vs.toArray ++ Array.replicate (fn.ntmps - vs.toArray.size) undef).size = N := by simp [hN, hv.1]; omega
  refine wpIn_mono (h B w0 Φ [] G w _ hs ⟨hsz, fun i hi => ?_⟩ rfl) ?_
  · simp only [argT, Array.getD_eq_getD_getElem?]
    by_cases hlt : i < vs.length
    · have h1 : args[i]? = some (args[i]'(by rw [← hv.1]; exact hlt)) := List.getElem?_eq_getElem _
      rw [h1, Array.getElem?_append_left (by simpa using hlt)]
      have h2 : vs[i]? = some vs[i] := List.getElem?_eq_getElem hlt
      simp only [List.getElem?_toArray, h2, Option.getD_some]
      exact hv.2 i _ _ h1 h2
    · have h1 : args[i]? = none := List.getElem?_eq_none (by rw [← hv.1]; omega)
      rw [h1, Array.getElem?_append_right (by simpa using hlt)]
      have : (Array.replicate (fn.ntmps - vs.toArray.size) undef)[i - vs.toArray.size]? = some undef := by
        rw [Array.getElem?_replicate, if_pos (by simp [hN]; omega)]
      rw [this]
      exact .v _
  · rintro e a' w' ⟨D, G', T, σ', hG, hs', ht', hd', hq⟩
    have fin : (∃ r, ares P N rs T σ' = some r ∧ R r σ') → LeavesInM Fence.wide 0 P fn a'.tmps (fun e w' => ∃ v r G' σ', e = .returned v ∧ G.le G' ∧ St B w0 Φ [] G' σ' w' ∧ Rep G' r v ∧ R r σ') a'.defers .returning w' := by
      rintro ⟨r, hr, hR⟩
      rw [hd']
      refine leaves_marks (fun w1 hs1 => ?_) D w' hs'
      obtain ⟨v, hv1, hv2⟩ := run_ares hs1 ht' hrs hr
      exact ⟨v, hv1, v, r, G', σ', rfl, hG, hs1, hv2, hR⟩
    cases e with
    | normal => exact fin hq
    | ret => exact fin hq
    | exit id => exact hq.elim
    | goto l => exact hq.elim
    | panic ch => exact hq.elim
    | outgrown => exact hq.elim

/-! ### A call within a function: its marks go into the frame -/
def hideD (Φ : Frm) (D : List Nat) : Frm := fun l => if l ∈ D then some (.deferred (some []), fun _ => none) else Φ l
theorem St.hide {B : Nat} {w0 : World} {Φ : Frm} {D : List Nat} {G : Gh} {σ : Store} {w : World} (h : St B w0 Φ D G σ w) : St B w0 (hideD Φ D) [] G σ w := by
  refine ⟨h.below, h.le, h.imm, h.cap, h.own, fun l o e => ?_, List.nodup_nil, fun r hr => by simp at hr⟩
  unfold hideD at e
  split at e
  · rename_i hm
    obtain ⟨a, b, c, d⟩ := h.marks l hm
    cases e
    exact ⟨b, d, funext fun o => h.imm_obj d (fun _ _ _ => by simp) o⟩
  · exact h.frame l o e
theorem St.unhide {B : Nat} {w0 : World} {Φ : Frm} {D : List Nat} {G G0 : Gh} {σ σ0 : Store} {w wa : World} (h0 : St B w0 Φ D G0 σ0 wa) (h : St B w0 (hideD Φ D) [] G σ w) : St B w0 Φ D G σ w := by
  have hΦ : ∀ l o, Φ l = some o → hideD Φ D l = some o := fun l o e => by
    unfold hideD
    rw [if_neg (fun hm => by rw [(h0.marks l hm).2.2.1] at e; cases e)]
    exact e
  refine ⟨h.below, h.le, h.imm, h.cap, h.own, fun l o e => h.frame l o (hΦ l o e), h0.nodup, fun r hr => ?_⟩
  obtain ⟨a, b, c, d⟩ := h0.marks r hr
  have := h.frame r (.deferred (some []), fun _ => none) (by unfold hideD; rw [if_pos hr])
  exact ⟨a, this.1, c, this.2.1⟩
/-! ### What the call does not know of stays -/
def Store.join (σ τ : Store) : Store := fun l => match τ l with | some c => some c | none => σ l
def Apart (σ τ : Store) : Prop := ∀ l c, τ l = some c → σ l = none
def frameIn (Φ : Frm) (G : Gh) (w : World) (τ : Store) : Frm := fun l => match τ l, w.heap[l]? with | some _, some ob => some (ob, G.imm l) | _, _ => Φ l
theorem St.part {B : Nat} {w0 : World} {Φ : Frm} {D : List Nat} {G : Gh} {σ τ : Store} {w : World} (h : St B w0 Φ D G (σ.join τ) w) (ha : Apart σ τ) : St B w0 (frameIn Φ G w τ) [] G σ w := by
  refine ⟨h.below, h.le, h.imm, h.cap, fun l c e => h.own l c ?_, fun l p e => ?_, List.nodup_nil, fun r hr => by simp at hr⟩
  · unfold Store.join
    cases e' : τ l with
    | none => exact e
    | some c' => rw [ha l c' e'] at e; cases e
  · unfold frameIn at e
    split at e
    · rename_i c ob e1 e2
      cases e
      exact ⟨ha l c e1, e2, rfl⟩
    · have := h.frame l p e
      refine ⟨?_, this.2⟩
      have h1 := this.1
      unfold Store.join at h1
      split at h1
      · cases h1
      · exact h1
theorem St.back {B : Nat} {w0 : World} {Φ : Frm} {G G' : Gh} {σ σ' τ : Store} {w w' : World} (h0 : St B w0 Φ [] G (σ.join τ) w) (hG : G.le G') (h : St B w0 (frameIn Φ G w τ) [] G' σ' w') :
    Apart σ' τ ∧ St B w0 Φ [] G' (σ'.join τ) w' := by
  have hτ : ∀ l c, τ l = some c → ∃ ob, w.heap[l]? = some ob ∧ frameIn Φ G w τ l = some (ob, G.imm l) := fun l c e => by
    have h1 := h0.own l c (by unfold Store.join; rw [e])
    have hl := h1.2.lt
    exact ⟨w.heap[l], Array.getElem?_eq_getElem hl, by unfold frameIn; rw [e, Array.getElem?_eq_getElem hl]⟩
  have hap : Apart σ' τ := fun l c e => by
    obtain ⟨ob, _, h2⟩ := hτ l c e
    exact (h.frame l _ h2).1
  refine ⟨hap, h.below, h.le, h.imm, h.cap, fun l c e => ?_, fun l p e => ?_, List.nodup_nil, fun r hr => by simp at hr⟩
  · unfold Store.join at e
    split at e
    · rename_i c' e'
      cases e
      obtain ⟨ob, g1, g2⟩ := hτ l c e'
      obtain ⟨_, g3, g4⟩ := h.frame l _ g2
      have h1 := h0.own l c (by unfold Store.join; rw [e'])
      exact ⟨h1.1, h1.2.mono hG (fun o x => by rw [show G'.imm l = G.imm l from g4]; exact x) (g3.trans g1.symm)⟩
    · exact h.own l c e
  · have hf := h0.frame l p e
    have hn : τ l = none := by
      have h1 := hf.1
      unfold Store.join at h1
      split at h1
      · cases h1
      · rename_i e1; exact e1
    have hΦ : frameIn Φ G w τ l = some p := by unfold frameIn; rw [hn]; exact e
    have := h.frame l p hΦ
    exact ⟨by unfold Store.join; rw [hn]; exact this.1, this.2⟩
def FrameR (τ : Store) (R : AV → Store → Prop) : AV → Store → Prop := fun r σ' => ∃ σ1, R r σ1 ∧ Apart σ1 τ ∧ σ' = σ1.join τ
theorem ACalls.frame {P : Program} {f : FuncId} {args : List AV} {σ τ : Store} {R : AV → Store → Prop} (h : ACalls P f args σ R) (ha : Apart σ τ) : ACalls P f args (σ.join τ) (FrameR τ R) := by
  refine ⟨h.1, fun B w0 Φ G w vs hs hv => (h.2 B w0 _ G w vs (hs.part ha) hv).mono ?_⟩
  rintro e w' ⟨v, r, G', σ', h1, h2, h3, h4, h5⟩
  obtain ⟨k1, k2⟩ := hs.back h2 h3
  exact ⟨v, r, G', _, h1, h2, k2, h4, σ', h5, k1, rfl⟩
/-- A call of yield: a round of the loop's body. -/
def AYield (P : Program) (l : Nat) (args : List AV) (σ : Store) (R : AV → Store → Prop) : Prop :=
  ∀ (B : Nat) (w0 : World) (Φ : Frm) (G : Gh) (w : World) (vs : List Value), St B w0 Φ [] G σ w → RepL G args vs →
    ∃ fn tmps assign body, (Instr.yield l vs.toArray).run P w = .ok (.round l fn tmps assign body) w ∧
      RoundIn Fence.wide 0 P l fn tmps assign body w fun e w' => ∃ (v : Value) (r : AV) (G' : Gh) (σ' : Store), e = .returned v ∧ G.le G' ∧ St B w0 Φ [] G' σ' w' ∧ Rep G' r v ∧ R r σ'
theorem AYield.mono {P : Program} {l : Nat} {args : List AV} {σ : Store} {R R' : AV → Store → Prop} (h : AYield P l args σ R) (hr : ∀ r σ', R r σ' → R' r σ') : AYield P l args σ R' := by
  intro B w0 Φ G w vs hs hv
  obtain ⟨fn, tmps, assign, body, h1, h2⟩ := h B w0 Φ G w vs hs hv
  exact ⟨fn, tmps, assign, body, h1, h2.mono fun e w' ⟨v, r, G', σ', k1, k2, k3, k4, k5⟩ => ⟨v, r, G', σ', k1, k2, k3, k4, hr _ _ k5⟩⟩
theorem AYield.frame {P : Program} {l : Nat} {args : List AV} {σ τ : Store} {R : AV → Store → Prop} (h : AYield P l args σ R) (ha : Apart σ τ) : AYield P l args (σ.join τ) (FrameR τ R) := by
  intro B w0 Φ G w vs hs hv
  obtain ⟨fn, tmps, assign, body, h1, h2⟩ := h B w0 _ G w vs (hs.part ha) hv
  refine ⟨fn, tmps, assign, body, h1, h2.mono ?_⟩
  rintro e w' ⟨v, r, G', σ', h1, h2, h3, h4, h5⟩
  obtain ⟨k1, k2⟩ := hs.back h2 h3
  exact ⟨v, r, G', _, h1, h2, k2, h4, σ', h5, k1, rfl⟩
end Go.AL
