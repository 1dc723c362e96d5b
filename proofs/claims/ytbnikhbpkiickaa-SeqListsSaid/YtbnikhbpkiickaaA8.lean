/- A-logic, part 8: regions, in the text's order and in any. -/
import Derived.Test.YtbnikhbpkiickaaA7
set_option linter.unusedSimpArgs false
set_option linter.unusedVariables false
namespace Go.AL
open Go.RowKit

/-! ### In the text's order -/
def gslot (ops : List Oper) (T : Fr) (j : Nat) : Option Bool :=
  match (ops[j]?).bind (·.dst) with
  | some d => match T d with | .v (.bool b) => some b | _ => none
  | none => none
def gvc (P : Program) (ops : List Oper) (o : Oper) (K : Fr → Store → Prop) (T : Fr) (σ : Store) : Prop :=
  match o.guard with
  | none => vc P o K T σ
  | some (j, want) => ∃ b, gslot ops T j = some b ∧ (b = want → vc P o K T σ) ∧ (b = !want → K (putT T o.dst .junk) σ)
def vcs (P : Program) (ops : List Oper) (K : Fr → Store → Prop) : List Oper → Fr → Store → Prop
  | [] => K
  | o :: rest => gvc P ops o (vcs P ops K rest)
def notDefer : Op → Bool
  | .defer _ => false
  | _ => true
def dstOk (N : Nat) : Option Nat → Bool
  | some d => d < N
  | none => true
def opsOk (N : Nat) (l : List Oper) : Bool := l.all fun o => opIn N o && dstOk N o.dst && notDefer o.op
theorem opsOk_spec {N : Nat} {l : List Oper} (h : opsOk N l = true) {o : Oper} (ho : o ∈ l) : opIn N o = true ∧ dstOk N o.dst = true ∧ ∀ c, o.op ≠ .defer c := by
  have := List.all_eq_true.1 h o ho
  simp only [Bool.and_eq_true] at this
  exact ⟨this.1.1, this.1.2, fun c e => by rw [e] at this; simp [notDefer] at this⟩

section sound
variable {P : Program} {ρ : Option Nat} {N : Nat} {B : Nat} {w0 : World} {Φ : Frm} {D : List Nat} {G : Gh} {σ : Store} {w : World} {T : Fr} {a : Act} {o : Oper}
  {K : Fr → Store → Prop} {Kc : Act → World → Prop} {Qc : Exit → Act → World → Prop}

theorem gslot_sound {l : List Oper} (hl : opsOk N l = true) (ht : RepT G N T a.tmps) {j : Nat} {b : Bool} (h : gslot l T j = some b) : yielded l.toArray a.tmps j = some b := by
  unfold gslot at h
  split at h
  · rename_i d hd
    obtain ⟨oj, ho, hd'⟩ := Option.bind_eq_some_iff.1 hd
    have hlt : d < N := by
      have := (opsOk_spec hl (List.mem_of_getElem? ho)).2.1
      rw [hd'] at this
      simpa [dstOk] using this
    split at h
    · rename_i b' e
      cases h
      have hr := ht.rep d hlt
      rw [e] at hr
      have hv : a.tmps.getD d undef = .bool b := by generalize a.tmps.getD d undef = q at hr; cases hr; rfl
      have hs : d < a.tmps.size := by rw [ht.size]; exact hlt
      have : a.tmps[d]? = some (.bool b) := by
        rw [Array.getD_eq_getD_getElem?, Array.getElem?_eq_getElem hs, Option.getD_some] at hv
        rw [Array.getElem?_eq_getElem hs, hv]
      simp [yielded, ho, hd', this]
    · cases h
  · cases h

/-- One operation, with its guard, at the concrete level. -/
def GOk (P : Program) (ρ : Option Nat) (N : Nat) (ops : List Oper) (o : Oper) (K : Fr → Store → Prop) (T : Fr) (σ : Store) : Prop :=
  ∀ (B : Nat) (w0 : World) (Φ : Frm) (D : List Nat) (G : Gh) (w : World) (a : Act), St B w0 Φ D G σ w → RepT G N T a.tmps →
    ∀ (Kc : Act → World → Prop) (Qc : Exit → Act → World → Prop),
      (∀ (G' : Gh) (T' : Fr) (σ' : Store) (a' : Act) (w' : World), G.le G' → St B w0 Φ D G' σ' w' → RepT G' N T' a'.tmps → a'.defers = a.defers → K T' σ' → Kc a' w') →
      if Region.wanted o (yielded ops.toArray a.tmps) then o.wpIn (FR ρ) 0 P a w Kc Qc else (∀ f, o.about P w a.eval = some f → (FR ρ).fn f) ∧ Kc (a.put o.dst undef) w
theorem gok_none {l : List Oper} (hg : o.guard = none) (h : OpOk P ρ N o K T σ) : GOk P ρ N l o K T σ := by
  intro B w0 Φ D G w a hs ht Kc Qc hK
  simp only [Region.wanted, hg, if_true]
  exact h B w0 Φ D G w a hs ht Kc Qc hK
theorem gok_some {l : List Oper} (hl : opsOk N l = true) {j : Nat} {want b : Bool} (hg : o.guard = some (j, want)) (hb : gslot l T j = some b) (h1 : b = want → OpOk P ρ N o K T σ) (h2 : b = !want → K (putT T o.dst .junk) σ) : GOk P ρ N l o K T σ := by
  intro B w0 Φ D G w a hs ht Kc Qc hK
  have hy := gslot_sound hl ht hb
  by_cases e : b = want
  · have : Region.wanted o (yielded l.toArray a.tmps) = true := by simp [Region.wanted, hg, hy, e]
    rw [if_pos this]
    exact h1 e B w0 Φ D G w a hs ht Kc Qc hK
  · have : Region.wanted o (yielded l.toArray a.tmps) = false := by simp [Region.wanted, hg, hy, e]
    rw [if_neg (by simp [this])]
    have hb' : b = !want := by cases b <;> cases want <;> simp_all
    exact ⟨fun _ _ => trivial, hK G _ σ _ w (Gh.le_refl _) hs (ht.put o.dst (.junk _)) (put_defers _ _) (h2 hb')⟩
theorem gvc_sound {l : List Oper} (hl : opsOk N l = true) (ho : o ∈ l) (h : gvc P l o K T σ) : GOk P ρ N l o K T σ := by
  obtain ⟨hin, _, hd⟩ := opsOk_spec hl ho
  unfold gvc at h
  split at h
  · rename_i hg; exact gok_none hg (vc_sound hin hd h)
  · rename_i j want hg
    obtain ⟨b, h1, h2, h3⟩ := h
    exact gok_some hl hg h1 (fun e => vc_sound hin hd (h2 e)) h3

theorem AWP.region {id : Nat} {l : List Oper} {Q : Exit → Fr → Store → Prop} (hl : opsOk N l = true) (h : vcs P l (Q .normal) l T σ) : AWP P ρ N (.region id l.toArray false) Q T σ := by
  intro B w0 Φ D G w a hs ht hd
  refine wpIn_region_lit ?_
  have key : ∀ (r : List Oper), (∀ o ∈ r, o ∈ l) → ∀ (G' : Gh) (T : Fr) (σ : Store) (w : World) (a : Act), G.le G' → St B w0 Φ D G' σ w → RepT G' N T a.tmps → a.defers = D.map mark → vcs P l (Q .normal) r T σ →
      wpListIn (FR ρ) 0 P l.toArray (Lft B w0 Φ G N Q) r a w := by
    intro r
    induction r with
    | nil => intro _ G' T σ w a hG hs ht hd h; exact wpListIn_nil ⟨D, G', T, σ, hG, hs, ht, hd, h⟩
    | cons o r ih =>
      intro hr G' T σ w a hG hs ht hd h
      refine wpListIn_step fun Kc hKc => ?_
      exact gvc_sound hl (hr o (by simp)) h B w0 Φ D G' w a hs ht Kc _ fun G'' T' σ' a' w' g1 g2 g3 g4 g5 =>
        hKc _ _ (ih (fun o ho => hr o (by simp [ho])) G'' T' σ' w' a' (Gh.le_trans hG g1) g2 g3 (g4.trans hd) g5)
  exact key l (fun _ h => h) G T σ w a (Gh.le_refl _) hs ht hd h
end sound

/-! ### In any order: quiet operations -/
def qv (P : Program) (o : Oper) (T : Fr) (σ : Store) : Option AV :=
  match o.op with
  | .buildSlice t n ps =>
    match P.underlying t with
    | some (.slice e) => (P.info? e).bind fun i => i.zero.bind fun z => if z.cells.size = i.size ∧ 0 < i.size ∧ n * i.size ≤ 16777216 ∧ ps.size = n then (bslRows i.size 0 (ps.toList.map fun p => (p.1, aev T p.2))).map (.sl .tight ·) else none
    | _ => none
  | .convert s d x =>
    match conv2 P s d, aev T x with
    | some (true, _), .sl _ rows => (concB rows).map fun bs => .v (.string ⟨bs.toArray⟩)
    | some (false, _), .v (.string b) => if b.size ≤ 4611686018427387904 then some (.sl .ro (b.data.toList.map encB)) else none
    | none, _ => pv P o T σ
    | _, _ => none
  | _ => pv P o T σ
def gq (P : Program) (ops : List Oper) (o : Oper) (K : Fr → Store → Prop) (T : Fr) (σ : Store) : Prop :=
  match o.guard with
  | none => ∃ x, qv P o T σ = some x ∧ K (putT T o.dst x) σ
  | some (j, want) => ∃ b, gslot ops T j = some b ∧ (b = want → ∃ x, qv P o T σ = some x ∧ K (putT T o.dst x) σ) ∧ (b = !want → K (putT T o.dst .junk) σ)
/-- The value that a quiet operation puts into its slot. -/
def QV (P : Program) (ops : List Oper) (o : Oper) (T : Fr) (σ : Store) (x : AV) : Prop :=
  match o.guard with
  | none => qv P o T σ = some x
  | some (j, want) => ∃ b, gslot ops T j = some b ∧ (b = want → qv P o T σ = some x) ∧ (b = !want → x = .junk)
theorem gq_QV {P : Program} {ops : List Oper} {o : Oper} {K : Fr → Store → Prop} {T : Fr} {σ : Store} (h : gq P ops o K T σ) : ∃ x, QV P ops o T σ x ∧ K (putT T o.dst x) σ := by
  unfold gq at h
  unfold QV
  split at h
  · exact h
  · rename_i j want e
    obtain ⟨b, h1, h2, h3⟩ := h
    by_cases hb : b = want
    · obtain ⟨x, hx, hk⟩ := h2 hb
      exact ⟨x, ⟨b, h1, fun _ => hx, fun e => by rw [hb] at e; cases want <;> cases e⟩, hk⟩
    · have hb' : b = !want := by cases b <;> cases want <;> simp_all
      exact ⟨.junk, ⟨b, h1, fun e => absurd e hb, fun _ => rfl⟩, h3 hb'⟩

section sound
variable {P : Program} {ρ : Option Nat} {N : Nat} {B : Nat} {w0 : World} {Φ : Frm} {D : List Nat} {G : Gh} {σ : Store} {w : World} {T : Fr} {a : Act} {o : Oper}
  {K : Fr → Store → Prop} {Kc : Act → World → Prop} {Qc : Exit → Act → World → Prop}
theorem rep_ro {ow : Owner} {rows : List (List AV)} {v : Value} (h : Rep G (.sl ow rows) v) : Rep G (.sl .ro rows) v := by
  cases h with
  | sl sz cs ho hc hsz hcell hrep => exact .sl sz cs trivial hc hsz hcell hrep
theorem pv_quiet {x : AV} (hin : opIn N o = true) (hd : ∀ c, o.op ≠ .defer c) (h : pv P o T σ = some x) : OpOk P ρ N o (fun T' σ' => T' = putT T o.dst x ∧ σ' = σ) T σ := pv_ok hin hd ⟨x, h, rfl, rfl⟩
theorem qv_sound {x : AV} (hin : opIn N o = true) (hd : ∀ c, o.op ≠ .defer c) (h : qv P o T σ = some x) : OpOk P ρ N o (fun T' σ' => T' = putT T o.dst x ∧ σ' = σ) T σ := by
  unfold qv at h
  split at h
  · rename_i t n ps ho
    split at h
    · rename_i e he
      obtain ⟨i, h1, h⟩ := Option.bind_eq_some_iff.1 h
      obtain ⟨z, h2, h⟩ := Option.bind_eq_some_iff.1 h
      split at h
      · rename_i hc
        obtain ⟨rows, h3, rfl⟩ := Option.map_eq_some_iff.1 h
        exact buildSlice_ok hin ho he (s := i.size) (by simp [szOf, h1]) ⟨i, z, h1, h2, hc.1⟩ hc.2.1 hc.2.2.1 hc.2.2.2 h3 ⟨rfl, rfl⟩
      · cases h
    · cases h
  · rename_i s d y ho
    split at h
    · rename_i e ow rows e1 e2
      obtain ⟨bs, h1, rfl⟩ := Option.map_eq_some_iff.1 h
      exact conv_b2s_ok hin ho e1 e2 h1 ⟨rfl, rfl⟩
    · rename_i e b e1 e2
      split at h
      · rename_i hb
        cases h
        have := conv_s2b_ok (ρ := ρ) (K := fun T' σ' => ∃ g, σ g = none ∧ T' = putT T o.dst (.sl (.own g) (b.data.toList.map encB)) ∧ σ' = σ.set g (.tip e 1 b.size)) hin ho e1 e2 hb (fun g hg => ⟨g, hg, rfl, rfl⟩)
        intro B w0 Φ D G w a hs ht Kc Qc hK
        refine this B w0 Φ D G w a hs ht Kc Qc ?_
        rintro G' T' σ' a' w' k1 k2 k3 k4 ⟨g, hg, rfl, rfl⟩
        refine hK G' _ σ a' w' k1 (k2.weaken fun l c hl => ?_) ?_ k4 ⟨rfl, rfl⟩
        · unfold Store.set
          rw [if_neg (by rintro rfl; rw [hg] at hl; cases hl)]
          exact hl
        · cases hdst : o.dst with
          | none => rw [hdst] at k3; exact k3
          | some d =>
            rw [hdst] at k3
            refine ⟨k3.size, fun i hi => ?_⟩
            have := k3.rep i hi
            simp only [putT, upd] at this ⊢
            split
            · rename_i e; rw [if_pos e] at this; exact rep_ro this
            · rename_i e; rw [if_neg e] at this; exact this
      · cases h
    · exact pv_quiet hin hd h
    · cases h
  · exact pv_quiet hin hd h
theorem QV_sound {l : List Oper} (hl : opsOk N l = true) (ho : o ∈ l) {x : AV} (h : QV P l o T σ x) : GOk P ρ N l o (fun T' σ' => T' = putT T o.dst x ∧ σ' = σ) T σ := by
  obtain ⟨hin, _, hd⟩ := opsOk_spec hl ho
  unfold QV at h
  split at h
  · rename_i hg; exact gok_none hg (qv_sound hin hd h)
  · rename_i j want hg
    obtain ⟨b, h1, h2, h3⟩ := h
    exact gok_some hl hg h1 (fun e => qv_sound hin hd (h2 e)) (fun e => ⟨by rw [h3 e], rfl⟩)
end sound
end Go.AL
