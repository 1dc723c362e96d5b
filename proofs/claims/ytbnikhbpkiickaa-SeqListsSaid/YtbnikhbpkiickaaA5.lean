/- A-logic, part 5: append; maps; conversions between bytes and strings. -/
import Derived.Test.YtbnikhbpkiickaaA4
set_option linter.unusedSimpArgs false
set_option linter.unusedVariables false
namespace Go.AL
open Go.RowKit
section sound
variable {P : Program} {ρ : Option Nat} {N : Nat} {B : Nat} {w0 : World} {Φ : Frm} {D : List Nat} {G : Gh} {σ : Store} {w : World} {T : Fr} {a : Act} {o : Oper}
  {K : Fr → Store → Prop} {Kc : Act → World → Prop} {Qc : Exit → Act → World → Prop}

/-- The cells of a slice, flat. -/
theorem slice_cells (hs : St B w0 Φ D G σ w) {ow : Owner} {rows : List (List AV)} {v : Value} (h : Rep G (.sl ow rows) v) {s : Nat} (hsz : rowsSz rows s = true) :
    ∃ (A : Option Addr) (c : Nat) (cs : List Value), v = .slice A rows.length c ∧ OwnerAt G ow A rows.length c ∧ rows.length ≤ c ∧ RepL G rows.flatten cs ∧ rows.flatten.length = rows.length * s ∧
      (∀ W : World, (∀ b o x, G.imm b o = some x → W.cell? ⟨b, o, none⟩ = some x) → (Builtin.firstCells s rows.length v).run P W = .ok cs.toArray W) ∧
      (∀ g, A = some ⟨g, 0, none⟩ → 0 < s → ∀ j y, cs[j]? = some y → G.imm g j = some y) := by
  have hall : ∀ r, r ∈ rows → r.length = s := fun r hr => by simpa using List.all_eq_true.1 hsz r hr
  have hlen : rows.flatten.length = rows.length * s := by
    clear h hsz
    induction rows with
    | nil => simp
    | cons r rs ih => simp [hall r (by simp), ih (fun q hq => hall q (by simp [hq])), Nat.add_mul]; omega
  cases h with
  | sl sz cs ho hc hsz' hcell hrep =>
    rename_i A c
    have hat : ∀ k, k < rows.length * s → ∃ r x, rows[k / s]? = some r ∧ r[k % s]? = some x ∧ rows.flatten[k]? = some x := by
      intro k hk
      have h0 : 0 < s := Nat.pos_of_ne_zero (by rintro rfl; simp at hk)
      have hi : k / s < rows.length := (Nat.div_lt_iff_lt_mul h0).2 hk
      have hr := hall rows[k / s] (List.getElem_mem _)
      have hj : k % s < rows[k / s].length := by rw [hr]; exact Nat.mod_lt _ h0
      refine ⟨_, _, List.getElem?_eq_getElem hi, List.getElem?_eq_getElem hj, ?_⟩
      have key : ∀ (rs : List (List AV)) (i : Nat) (r : List AV) (j : Nat) (x : AV), (∀ q, q ∈ rs → q.length = s) → rs[i]? = some r → r[j]? = some x → rs.flatten[i * s + j]? = some x := by
        intro rs
        induction rs with
        | nil => intro i r j x _ h; simp at h
        | cons q qs ih =>
          intro i r j x hq h1 h2
          have hql := hq q (by simp)
          cases i with
          | zero =>
            simp only [List.getElem?_cons_zero, Option.some.injEq] at h1
            subst h1
            rw [List.flatten_cons, List.getElem?_append_left (by have := (List.getElem?_eq_some_iff.1 h2).1; omega)]
            simpa using h2
          | succ i =>
            rw [List.flatten_cons, List.getElem?_append_right (by rw [hql, Nat.add_mul]; omega)]
            have := ih i r j x (fun q' hq' => hq q' (by simp [hq'])) (by simpa using h1) h2
            rw [show (i + 1) * s + j - q.length = i * s + j from by rw [hql, Nat.add_mul]; omega]
            exact this
      have := key rows (k / s) _ (k % s) _ hall (List.getElem?_eq_getElem hi) (List.getElem?_eq_getElem hj)
      rwa [Nat.mul_comm, Nat.div_add_mod] at this
    have hss : ∀ k, k < rows.length * s → sz = s := fun k hk => by
      obtain ⟨r, x, h1, _, _⟩ := hat k hk
      rw [← hsz' _ r h1, hall r (List.mem_of_getElem? h1)]
    have hcs : ∀ k, k < rows.length * s → ∃ x b off, rows.flatten[k]? = some x ∧ A = some ⟨b, off, none⟩ ∧ G.imm b (off + k) = some (cs (k / s) (k % s)) ∧ Rep G x (cs (k / s) (k % s)) := by
      intro k hk
      obtain ⟨r, x, h1, h2, h3⟩ := hat k hk
      obtain ⟨b, off, e, hh⟩ := hcell _ r _ x h1 h2
      refine ⟨x, b, off, h3, e, ?_, hrep _ r _ x h1 h2⟩
      rw [hss k hk] at hh
      rwa [Nat.add_assoc, Nat.mul_comm, Nat.div_add_mod] at hh
    refine ⟨A, c, (List.range (rows.length * s)).map fun k => cs (k / s) (k % s), rfl, ho, hc, ⟨by simp [hlen], fun j x y hx hy => ?_⟩, hlen, fun W hW => ?_, fun g hA h0 j y hj => ?_⟩
    · have hk : j < rows.length * s := by have := (List.getElem?_eq_some_iff.1 hx).1; omega
      obtain ⟨x', b, off, h1, _, _, h4⟩ := hcs j hk
      rw [h1] at hx
      cases hx
      rw [List.getElem?_map, List.getElem?_range hk] at hy
      simp at hy
      subst hy
      exact h4
    · by_cases hz : rows.length * s = 0
      · rcases A with _ | ad
        · simp [Builtin.firstCells, hz]
        · simp [Builtin.firstCells, hz, loadCells, loadCellsFrom]
      · obtain ⟨x, b, off, _, rfl, _, _⟩ := hcs 0 (by omega)
        simp only [Builtin.firstCells, loadCells]
        have := run_loadCellsFrom P W b off (rows.length * s) 0 #[] ((List.range (rows.length * s)).map fun k => cs (k / s) (k % s)) (by simp) (fun j y hj => by
          have hk : j < rows.length * s := by have := (List.getElem?_eq_some_iff.1 hj).1; simpa using this
          rw [List.getElem?_map, List.getElem?_range hk] at hj
          simp at hj
          subst hj
          obtain ⟨x', b', off', _, e, h3, _⟩ := hcs j hk
          cases e
          simpa using hW _ _ _ h3)
        simpa using this
    · have hk : j < rows.length * s := by have := (List.getElem?_eq_some_iff.1 hj).1; simpa using this
      rw [List.getElem?_map, List.getElem?_range hk] at hj
      simp at hj
      subst hj
      obtain ⟨x', b', off', _, e, h3, _⟩ := hcs j hk
      rw [hA] at e
      cases e
      simpa using h3

/-- append that must make a new row. -/
theorem run_append_new {t t' ty e : TypeId} {i : TypeInfo} {z : Value} (ht : P.underlying t = some (.slice e)) (ht' : (∃ e', P.underlying t' = some (.slice e')) ∨ P.underlying t' = some .string) (hi : P.info? e = some i) (hz : i.zero = some z)
    {A : Option Addr} {n c m : Nat} {x : Value} {olds news : List Value} (hm : (Builtin.lenOf x).run P w = .ok m w)
    (ho : (Builtin.firstCells i.size n (.slice A n c)).run P w.drew = .ok olds.toArray w.drew) (hx : (Builtin.firstCells i.size m x).run P w.drew = .ok news.toArray w.drew)
    (hc : c < n + m) (h63 : n + m ≤ 4611686018427387904) (hb : (n + m) * i.bytes ≤ 140737488355328) :
    (Builtin.append_ #[t, t'] ty #[.slice A n c, x]).run P w = .ok (.slice (some ⟨w.heap.size, 0, none⟩) (n + m) (grownCap w (n + m) c e))
      (w.drew.alloc (.cells (olds ++ news ++ (Builtin.zeroCells z.cells (grownCap w (n + m) c e - (n + m))).toList).toArray e)) := by
  have hn : ¬ (n + m ≤ c) := by omega
  have h63' : ¬ (9223372036854775807 < ((n : Int) + (m : Int))) := by omega
  have h48' : ¬ (281474976710656 < Builtin.nextslicecap (n + m) c * i.bytes) := by have := growslice_fits hc hb; omega
  rcases ht' with ⟨e', hd⟩ | hd
  · simp [Builtin.append_, run_underlying ht, run_underlying hd, sizeOf, typeInfo, zeroValue, hi, hz, hm, hn, h63', h48', Question.forced, ho, hx, newRow, grownCap]
    congr 2
    apply Array.toList_inj.1
    simp
  · simp [Builtin.append_, run_underlying ht, run_underlying hd, sizeOf, typeInfo, zeroValue, hi, hz, hm, hn, h63', h48', Question.forced, ho, hx, newRow, grownCap]
    congr 2
    apply Array.toList_inj.1
    simp
/-- append in its place. -/
theorem run_append_here {t t' ty e : TypeId} {i : TypeInfo} (ht : P.underlying t = some (.slice e)) (ht' : (∃ e', P.underlying t' = some (.slice e')) ∨ P.underlying t' = some .string) (hi : P.info? e = some i)
    {A : Option Addr} {n c m : Nat} {x : Value} {news : List Value} {w' : World} (hm : (Builtin.lenOf x).run P w = .ok m w)
    (hx : (Builtin.firstCells i.size m x).run P w = .ok news.toArray w) (hc : n + m ≤ c)
    (hst : (match A with | some ad => (storeCells (ad.add (n * i.size)) news).run P w = .ok () w' | none => w' = w)) :
    (Builtin.append_ #[t, t'] ty #[.slice A n c, x]).run P w = .ok (.slice A (n + m) c) w' := by
  rcases ht' with ⟨e', hd⟩ | hd
  · cases A with
    | none => cases hst; simp [Builtin.append_, run_underlying ht, run_underlying hd, sizeOf, typeInfo, hi, hm, hc, hx]
    | some ad => simp only at hst; simp [Builtin.append_, run_underlying ht, run_underlying hd, sizeOf, typeInfo, hi, hm, hc, hx, hst]
  · cases A with
    | none => cases hst; simp [Builtin.append_, run_underlying ht, run_underlying hd, sizeOf, typeInfo, hi, hm, hc, hx]
    | some ad => simp only at hst; simp [Builtin.append_, run_underlying ht, run_underlying hd, sizeOf, typeInfo, hi, hm, hc, hx, hst]

end sound
end Go.AL
