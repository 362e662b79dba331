/-
  ROWS, 0: a world's whole heap; an argument that is a list of lists of bytes.
-/
import Derived.Test.YtblghgacokoklaaDoorT9
import Derived.ChangeSlices
import Derived.Below
set_option linter.unusedSimpArgs false
set_option linter.unusedVariables false
namespace Go.Eng.YtblghgacokoklaaDoor
open Go.ChangeShapes Go.WideShapes Go.RowKit
/-- All that a world's memory holds. -/
def wh (W : World) : Hp := fun b => W.heap[b]?
theorem own_wh (W : World) : Own (fun _ => none) (wh W) W := ⟨fun _ _ h => h, fun _ _ h => (by cases h), fun _ => .inr rfl⟩
theorem below_of {W W' : World} {h' : Hp} (hw : Wr W W') (ho : Own (fun _ => none) h' W') (K : Keep (wh W) h') : Below W.heap.size W W' := by
  refine ⟨hw.os, hw.tape, hw.output, hw.size, fun k hk => ?_⟩
  have h1 : wh W k = some W.heap[k] := by unfold wh; exact Array.getElem?_eq_getElem hk
  have h2 := ho.hh k _ (K k _ h1)
  rw [h2, Array.getElem?_eq_getElem hk]
theorem cell_at {W : World} {b o : Nat} {v : Value} (h : W.cell? ⟨b, o, none⟩ = some v) : (wh W).at b o = some v := by
  unfold World.cell? at h
  unfold Hp.at wh
  cases hb : W.heap[b]? with
  | none => rw [hb] at h; cases h
  | some x =>
    rw [hb] at h
    cases x with
    | cells c t f => simpa using h
    | _ => cases h
theorem spot_none {W : World} {a : Addr} {v : Value} (h : W.cell? (a.add 0) = some v) : a = ⟨a.block, a.off, none⟩ := by
  obtain ⟨b, o, p⟩ := a
  cases p with
  | none => rfl
  | some p =>
    exfalso
    unfold World.cell? at h
    simp only [Addr.add, if_pos] at h
    cases hb : W.heap[b]? with
    | none => rw [hb] at h; cases h
    | some x =>
      rw [hb] at h
      cases x with
      | cells c t f => simp at h
      | _ => cases h
/-- Cells from an address on are a row. -/
theorem row_of_cells {W : World} {a : Addr} {n : Nat} {vs : List Value} (hl : vs.length = n) (h : ∀ i, (hi : i < n) → W.cell? (a.add i) = vs[i]?) : (wh W).row (some a) n vs := by
  refine ⟨hl, ?_⟩
  by_cases h0 : n = 0
  · exact .inl h0
  right
  have hz := h 0 (by omega)
  rw [List.getElem?_eq_getElem (by omega)] at hz
  have ha := spot_none hz
  refine ⟨a.block, a.off, by rw [← ha], fun j hj => ?_⟩
  have hj' := h j hj
  rw [List.getElem?_eq_getElem (by omega)] at hj' ⊢
  rw [ha, addr_add] at hj'
  exact cell_at hj'
theorem wf_u8 {n : Int} (h : (Lit.int .u8 n).wf = true) : 0 ≤ n ∧ n < 256 := by
  simp [Lit.wf, IntKind.min, IntKind.max, IntKind.signed, IntKind.bits] at h
  omega
section
variable {H : Type} {enc : TypeId × Value → H} {P : Program} {W : World} {base : Nat} {held : Bool}
theorem open_bytes {t e : TypeId} {fuel : Nat} {s : Sl} {x : DataW H × List MemPlace} (ht : P.underlying t = some (.slice e)) (he : P.underlying e = some (.int .u8)) (hc : P.cellsOf e = 1)
    (h : DataW.trod enc P W base (fun _ => true) held fuel t [.slice s.a s.n s.c] = some x) : ∃ r : List Int, (wh W).row s.a s.n (bv r) ∧ s.n ≤ s.c ∧ s.c ≤ maxLen ∧ ∀ c ∈ r, 0 ≤ c ∧ c < 256 := by
  rcases open_ints ht he hc h with ⟨hcs, _⟩ | ⟨a, n, c, zs, hcs, _, hl, hm, hz, _, hcell, hwf⟩
  · simp only [List.cons.injEq, Value.slice.injEq, and_true] at hcs
    obtain ⟨h1, h2, h3⟩ := hcs
    exact ⟨[], by rw [h1, h2]; exact ⟨rfl, .inl rfl⟩, by omega, by omega, fun c hc => (by cases hc)⟩
  · simp only [List.cons.injEq, Value.slice.injEq, and_true] at hcs
    obtain ⟨h1, h2, h3⟩ := hcs
    simp only [if_true] at hz
    refine ⟨zs.take n, ?_, by omega, by omega, fun c hc => wf_u8 (hwf c (List.mem_of_mem_take hc))⟩
    rw [h1, h2]
    refine row_of_cells (by rw [bv_length, List.length_take]; omega) fun i hi => ?_
    rw [hcell i (by omega)]
    have : i < zs.length := by omega
    simp [bv, hi, this, List.getD]
theorem open_rows {t e f : TypeId} {a : Option Addr} {len cap : Nat} {d : DataW H} {ps : List MemPlace} (ht : P.underlying t = some (.slice e)) (he : P.underlying e = some (.slice f)) (hf : P.underlying f = some (.int .u8)) (hce : P.cellsOf e = 1) (hcf : P.cellsOf f = 1)
    (h : DataW.Trod enc P W base (fun _ => true) held t (.slice a len cap) d ps) :
    len ≤ cap ∧ ∃ (ss : List Sl) (recs : List (List Int)), (wh W).row a len (slV ss) ∧ Rows (wh W) ss recs ∧ (∀ s ∈ ss, s.n ≤ s.c) ∧ (∀ s ∈ ss, s.n ≤ 9223372036854775807) ∧ ∀ r ∈ recs, ∀ c ∈ r, 0 ≤ c ∧ c < 256 := by
  obtain ⟨fuel, hf0⟩ := h
  rcases DataW.trod_slice ht hf0 with ⟨hcs, _⟩ | ⟨x, l, c, elems, rest, n, _, hcs, _, hb, hl, hm, hlen, hel, _, _⟩
  · simp [Value.cells] at hcs
    obtain ⟨rfl, rfl, rfl⟩ := hcs
    exact ⟨Nat.le_refl _, [], [], ⟨rfl, .inl rfl⟩, ⟨rfl, fun i hi => absurd hi (Nat.not_lt_zero i)⟩, fun s hs => (by cases hs), fun s hs => (by cases hs), fun s hs => (by cases hs)⟩
  · simp [Value.cells] at hcs
    obtain ⟨rfl, rfl, rfl⟩ := hcs
    have each : ∀ i : Fin len, ∃ sr : Sl × List Int, W.cell? (x.add i.1) = some (.slice sr.1.a sr.1.n sr.1.c) ∧ (wh W).row sr.1.a sr.1.n (bv sr.2) ∧ sr.1.n ≤ sr.1.c ∧ sr.1.c ≤ maxLen ∧ ∀ c ∈ sr.2, 0 ≤ c ∧ c < 256 := by
      rintro ⟨i, hi⟩
      have h1 := hel i hi
      rw [hce, Nat.mul_one, List.getElem?_eq_getElem (by omega), Option.bind_eq_some_iff] at h1
      obtain ⟨cs', hcs', hy⟩ := h1
      rcases DataW.trod_slice he hy with ⟨rfl, _⟩ | ⟨a', n', c', _, _, _, _, rfl, _, _, _, _, _, _, _, _⟩
      · obtain ⟨r, h2, h3, h4, h5⟩ := open_bytes (s := ⟨none, 0, 0⟩) he hf hcf hy
        exact ⟨(⟨none, 0, 0⟩, r), cell_of_cells?_one hcs', h2, h3, h4, h5⟩
      · obtain ⟨r, h2, h3, h4, h5⟩ := open_bytes (s := ⟨some a', n', c'⟩) he hf hcf hy
        exact ⟨(⟨some a', n', c'⟩, r), cell_of_cells?_one hcs', h2, h3, h4, h5⟩
    obtain ⟨g, hg⟩ := Classical.axiomOfChoice each
    refine ⟨hl, List.ofFn fun i => (g i).1, List.ofFn fun i => (g i).2, ?_, ⟨by simp, fun i hi hj => ?_⟩, fun s hs => ?_, fun s hs => ?_, fun r hr c hc => ?_⟩
    · refine row_of_cells (by rw [slV_length]; simp) fun i hi => ?_
      have := (hg ⟨i, hi⟩).1
      rw [this]
      simp [slV, hi]
    · have hi' : i < len := by simpa using hi
      have := (hg ⟨i, hi'⟩).2.1
      simpa using this
    · obtain ⟨i, rfl⟩ := (List.mem_ofFn ..).1 hs
      exact (hg i).2.2.1
    · obtain ⟨i, rfl⟩ := (List.mem_ofFn ..).1 hs
      have h1 := (hg i).2.2.1
      have h2 := (hg i).2.2.2.1
      have h3 : maxLen = 9223372036854775807 := by decide
      omega
    · obtain ⟨i, rfl⟩ := (List.mem_ofFn ..).1 hr
      exact (hg i).2.2.2.2 c hc
end
end Go.Eng.YtblghgacokoklaaDoor
