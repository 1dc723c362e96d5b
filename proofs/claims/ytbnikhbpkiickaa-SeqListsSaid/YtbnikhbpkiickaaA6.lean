/- A-logic, part 6: append, as a rule; maps; conversions. -/
import Derived.Test.YtbnikhbpkiickaaA5
set_option linter.unusedSimpArgs false
set_option linter.unusedVariables false
namespace Go.AL
open Go.RowKit
section sound
variable {P : Program} {ρ : Option Nat} {N : Nat} {B : Nat} {w0 : World} {Φ : Frm} {D : List Nat} {G : Gh} {σ : Store} {w : World} {T : Fr} {a : Act} {o : Oper}
  {K : Fr → Store → Prop} {Kc : Act → World → Prop} {Qc : Exit → Act → World → Prop}

theorem flat_len {rows : List (List AV)} {s : Nat} (h : ∀ r, r ∈ rows → r.length = s) : rows.flatten.length = rows.length * s := by
  induction rows with
  | nil => simp
  | cons r rs ih => simp [h r (by simp), ih (fun q hq => h q (by simp [hq])), Nat.add_mul]; omega
theorem flat_at {rows : List (List AV)} {s : Nat} (hsz : ∀ r, r ∈ rows → r.length = s) : ∀ {i : Nat} {r : List AV} {j : Nat} {x : AV}, rows[i]? = some r → r[j]? = some x → rows.flatten[i * s + j]? = some x := by
  induction rows with
  | nil => intro i r j x h; simp at h
  | cons r rs ih =>
    intro i q j x h1 h2
    have hr := hsz r (by simp)
    cases i with
    | zero =>
      simp only [List.getElem?_cons_zero, Option.some.injEq] at h1
      subst h1
      rw [List.flatten_cons, List.getElem?_append_left (by have := (List.getElem?_eq_some_iff.1 h2).1; omega)]
      simpa using h2
    | succ i =>
      rw [List.flatten_cons, List.getElem?_append_right (by rw [hr, Nat.add_mul]; omega)]
      have := ih (fun q hq => hsz q (by simp [hq])) (i := i) (r := q) (j := j) (x := x) (by simpa using h1) h2
      rw [show (i + 1) * s + j - r.length = i * s + j from by rw [hr, Nat.add_mul]; omega]
      exact this
theorem rep_of_flat {ow : Owner} {rows : List (List AV)} {s b off c : Nat} {cs : List Value} (hsz : ∀ r, r ∈ rows → r.length = s) (hr : RepL G rows.flatten cs) (hi : ∀ k y, cs[k]? = some y → G.imm b (off + k) = some y)
    (ho : OwnerAt G ow (some ⟨b, off, none⟩) rows.length c) (hc : rows.length ≤ c) : Rep G (.sl ow rows) (.slice (some ⟨b, off, none⟩) rows.length c) := by
  refine .sl s (fun i j => cs.getD (i * s + j) undef) ho hc (fun i r h => hsz r (List.mem_of_getElem? h)) (fun i r j x h1 h2 => ?_) (fun i r j x h1 h2 => ?_)
  · obtain ⟨y, hy, _⟩ := hr.at (flat_at hsz h1 h2)
    exact ⟨_, _, rfl, by rw [Nat.add_assoc, hi _ _ hy]; simp [List.getD_eq_getElem?_getD, hy]⟩
  · obtain ⟨y, hy, hrr⟩ := hr.at (flat_at hsz h1 h2)
    have : cs.getD (i * s + j) undef = y := by simp [List.getD_eq_getElem?_getD, hy]
    rw [this]; exact hrr

theorem drop_sub {ow : Owner} : ∀ l c, (σ.drop ow) l = some c → σ l = some c := by
  intro l c h
  cases ow <;> simp only [Store.drop, Store.del] at h <;> first | exact h | (split at h; · cases h
                                                                             · exact h)
theorem give_back {ow : Owner} {E : TypeId} {s n : Nat} (h : Appendable E s σ ow n) : ∀ l c, ((σ.drop ow).give E s ow n) l = some c → σ l = some c := by
  intro l c hl
  cases ow with
  | own g =>
    simp only [Store.drop, Store.give, Store.set, Store.del] at hl
    split at hl
    · rename_i e; cases hl; rw [e]; exact h
    · exact hl
  | nil => exact hl
  | ro => exact hl
  | tight => exact hl

theorem append_core (hs : St B w0 Φ D G σ w) {t t' ty e : TypeId} {i : TypeInfo} {z : Value} {s : Nat} (ht : P.underlying t = some (.slice e)) (ht' : (∃ e', P.underlying t' = some (.slice e')) ∨ P.underlying t' = some .string) (hi : P.info? e = some i) (hz : i.zero = some z)
    (hsi : i.size = s) (hzs : z.cells.size = s) (h0 : 0 < s) {ow : Owner} {rows ys : List (List AV)} {v x : Value} (hv : Rep G (.sl ow rows) v) (hrs : rowsSz rows s = true) (hys : ∀ r, r ∈ ys → r.length = s)
    {news : List Value} (hm : (Builtin.lenOf x).run P w = .ok ys.length w) (hx : ∀ W : World, (∀ b o y, G.imm b o = some y → W.cell? ⟨b, o, none⟩ = some y) → (Builtin.firstCells s ys.length x).run P W = .ok news.toArray W) (hn : RepL G ys.flatten news) (h1 : ∀ u ∈ news, u.oneCell' = true)
    (hb : (rows.length + ys.length) * i.bytes ≤ 140737488355328) (h63 : rows.length + ys.length ≤ 4611686018427387904) (ha : Appendable e s σ ow rows.length) :
    ∃ v' w' G' ow', (Builtin.append_ #[t, t'] ty #[v, x]).run P w = .ok v' w' ∧ G.le G' ∧ OwnerOk (σ.drop ow) ow' (rows ++ ys).length ∧ St B w0 Φ D G' ((σ.drop ow).give e s ow' (rows ++ ys).length) w' ∧ Rep G' (.sl ow' (rows ++ ys)) v' := by
  obtain ⟨A, c, cs, rfl, hoa, hnc, hcs, hfl, hrun, himm⟩ := slice_cells (P := P) hs hv hrs
  have hall : ∀ r, r ∈ rows → r.length = s := fun r hr => by simpa using List.all_eq_true.1 hrs r hr
  have hallu : ∀ r, r ∈ rows ++ ys → r.length = s := fun r hr => (List.mem_append.1 hr).elim (hall r) (hys r)
  have hxw := hx w hs.imm
  have hnl : news.length = ys.length * s := by rw [hn.1, flat_len hys]
  by_cases hm0 : ys.length = 0
  · have hy0 : ys = [] := List.eq_nil_of_length_eq_zero hm0
    subst hy0
    have hnews : news = [] := List.eq_nil_of_length_eq_zero (by simpa using hnl)
    subst hnews
    have hr := run_append_here (P := P) (w := w) (w' := w) (ty := ty) ht ht' hi (A := A) (n := rows.length) (c := c) (m := 0) (x := x) (news := []) hm (by rw [hsi]; exact hxw) (by simpa using hnc) (by cases A <;> simp [storeCells])
    refine ⟨_, _, G, ow, hr, Gh.le_refl _, ?_, hs.weaken ?_, by simpa using hv⟩
    · cases ow with
      | nil => simpa [OwnerOk, Appendable] using ha
      | ro => exact ha.elim
      | tight => trivial
      | own g => simp [OwnerOk, Store.drop, Store.del]
    · simpa using give_back ha
  · by_cases hroom : rows.length + ys.length ≤ c
    · cases ow with
      | nil => obtain ⟨_, rfl⟩ := hoa; omega
      | ro => exact ha.elim
      | tight => have hcn : c = rows.length := hoa; omega
      | own g =>
        obtain ⟨rfl, hcap⟩ := hoa
        obtain ⟨hBg, cur, cap, lo, hi', hh, hcap', hcur, hncap, hcm, hfz, hfree⟩ := hs.own g _ ha
        have : cap = c := by rw [hcap] at hcap'; cases hcap'; rfl
        subst this
        have hms : (rows.length + ys.length) * s ≤ cap * s := Nat.mul_le_mul_right _ hroom
        rw [Nat.add_mul] at hms
        have hhl : w.heap[g]? = some (.cells cur.toList.toArray e (lo, hi')) := by simpa using hh
        obtain ⟨w', hst, hw', hoa'⟩ := run_storeCells P g e lo hi' news (rows.length * s) 0 cur.toList w hhl (by simp [hnl, hcur]; omega) h1 (fun k a b => hfz k (by simpa using a) (by rw [hcur]; simp [hnl] at b; omega))
        simp only [Nat.add_zero] at hw'
        have hr := run_append_here (P := P) (w := w) (w' := w') (ty := ty) ht ht' hi (A := some ⟨g, 0, none⟩) (n := rows.length) (c := cap) (m := ys.length) (x := x) (news := news) hm (by rw [hsi]; exact hxw) hroom (by simp only [Addr.add_plain, hsi, Nat.zero_add]; exact hst)
        let G' : Gh := ⟨fun b o => if b = g ∧ rows.length * s ≤ o ∧ o < rows.length * s + news.length then news[o - rows.length * s]? else G.imm b o, G.cap⟩
        have hG : G.le G' := by
          refine ⟨fun b o u hvi => ?_, fun _ _ h => h⟩
          have hne : ¬ (b = g ∧ rows.length * s ≤ o ∧ o < rows.length * s + news.length) := by
            rintro ⟨e1, h2, _⟩
            rw [e1, hfree o h2] at hvi
            cases hvi
          simp only [G']
          rw [if_neg hne]
          exact hvi
        have hcell : ∀ o v, G'.imm g o = some v → w'.cell? ⟨g, o, none⟩ = some v := by
          intro o v hv
          simp only [G', true_and] at hv
          rw [cell_of_row w' g o _ _ _ hw']
          have hcl0 : cur.toList.length = cap * s := by simpa using hcur
          have htl : (cur.toList.take (rows.length * s)).length = rows.length * s := by
            rw [List.length_take, hcl0]
            omega
          split at hv
          · rename_i hr2
            simp only [List.getElem?_toArray]
            rw [List.append_assoc, List.getElem?_append_right (by rw [htl]; exact hr2.1), htl, List.getElem?_append_left (by omega)]
            exact hv
          · have hlt : o < rows.length * s := by
              rcases Nat.lt_or_ge o (rows.length * s) with h | h
              · exact h
              · rw [hfree o h] at hv; cases hv
            have hc0 := hs.imm g o v hv
            rw [cell_of_row w g o _ _ _ hh] at hc0
            simp only [List.getElem?_toArray]
            rw [List.append_assoc, List.getElem?_append_left (by rw [htl]; exact hlt), List.getElem?_take, if_pos hlt]
            simpa using hc0
        have hs' := hs.change (c' := .tip e s (rows ++ ys).length) ha hoa' hG (fun b o hb => by simp only [G']; rw [if_neg (fun h => hb h.1)]) (fun _ => rfl) hcell
          ⟨_, cap, lo, hi', hw', hcap', by
            simp only [List.size_toArray, List.length_append, List.length_take, List.length_drop, Array.length_toList]; omega, by simpa using hroom, hcm,
            fun o h1 h2 => hfz o (by rw [List.length_append, Nat.add_mul] at h1; omega) (by
              simp only [List.size_toArray, List.length_append, List.length_take, List.length_drop, Array.length_toList] at h2; omega),
            fun o ho => by
              rw [List.length_append, Nat.add_mul] at ho
              simp only [G']
              rw [if_neg (by omega)]
              exact hfree o (by omega)⟩
        refine ⟨_, w', G', .own g, hr, hG, by simp [OwnerOk, Store.drop, Store.del], hs'.weaken ?_, ?_⟩
        · intro l c h
          simp only [Store.drop, Store.give, Store.set, Store.del] at h ⊢
          split at h
          · rename_i e; rw [if_pos e]; exact h
          · rename_i e; rw [if_neg e]; exact h
        · have := rep_of_flat (G := G') (ow := .own g) (rows := rows ++ ys) (s := s) (b := g) (off := 0) (c := cap) (cs := cs ++ news) hallu
            (by rw [List.flatten_append]; exact (hcs.mono hG).app (hn.mono hG))
            (fun k y hk => by
              rw [List.getElem?_append] at hk
              have hcl : cs.length = rows.length * s := by rw [hcs.1, hfl]
              simp only [Nat.zero_add, G', true_and]
              split at hk
              · rename_i hlt
                rw [if_neg (by omega)]
                exact himm g rfl h0 k y hk
              · rename_i hge
                have := (List.getElem?_eq_some_iff.1 hk).1
                rw [if_pos (by omega), ← hcl]
                exact hk)
            ⟨rfl, hcap⟩ (by simpa using hroom)
          simpa using this
    · have hr := run_append_new (P := P) (w := w) (ty := ty) (i := i) (z := z) ht ht' hi hz (A := A) (n := rows.length) (c := c) (m := ys.length) (x := x) (olds := cs) (news := news) hm
        (by rw [hsi]; exact hrun w.drew hs.imm) (by rw [hsi]; exact hx w.drew hs.imm) (by omega) h63 hb
      have hge := grownCap_ge w (rows.length + ys.length) c e
      have hmx := grownCap_le_maxLen w (rows.length + ys.length) c e (by unfold maxLen; omega)
      obtain ⟨G', hG, hrep, hcapn, hs'⟩ := newRow_ok (c := grownCap w (rows.length + ys.length) c e) hs.drew e (rows := rows ++ ys) (s := s) (cs := cs ++ news) (by rw [List.flatten_append]; exact hcs.app hn) hallu h0
        (Builtin.zeroCells z.cells (grownCap w (rows.length + ys.length) c e - (rows.length + ys.length))).toList
        (by
          have hcl : cs.length = rows.length * s := by rw [hcs.1, hfl]
          simp only [List.length_append, Array.length_toList, size_zeroCells, hzs, hcl, hnl, ← Nat.add_mul]
          congr 1
          omega) hmx _ rfl
      refine ⟨_, _, G', .own w.heap.size, hr, hG, ?_, (show St B w0 Φ D G' (σ.set w.heap.size (.tip e s (rows ++ ys).length)) _ from hs').weaken ?_, by simpa using hrep (.own w.heap.size) ⟨rfl, hcapn⟩⟩
      · simp only [OwnerOk]
        cases hd : (σ.drop ow) w.heap.size with
        | none => rfl
        | some q => have := drop_sub _ _ hd; rw [hs.fresh] at this; cases this
      · intro l q h
        simp only [Store.give, Store.set] at h ⊢
        split at h
        · rename_i e2; rw [if_pos e2]; exact h
        · rename_i e2; rw [if_neg e2]; exact drop_sub _ _ h
end sound
end Go.AL
