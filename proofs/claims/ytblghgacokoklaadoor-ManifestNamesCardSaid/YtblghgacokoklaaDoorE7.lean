/-
  THE ENGINE, 8: slices and structs that are made; append; conversions; least and greatest.
-/
import Derived.Test.YtblghgacokoklaaDoorE6
set_option linter.unusedSimpArgs false
set_option linter.unusedVariables false
namespace Go.Eng
section
variable {P : Program} {lo : List Nat} {fr : Hp} {g : Nat → Nat} {L : List LE} {h : Hp} {w : World} {K : KO}

/-! ### 1. Rows of cells -/
theorem row_run (H : HO fr g L h w) {A : Option Addr} {size n c k : Nat} {vs : List Value} (hr : h.row A k vs) (hk : k = n * size) (w1 : World) (hw : w1.heap = w.heap) :
    (Builtin.firstCells size n (.slice A c c)).run P w1 = .ok vs.toArray w1 ∧ ∀ m d, (Builtin.firstCells size n (.slice A m d)).run P w1 = .ok vs.toArray w1 := by
  have key : ∀ m d, (Builtin.firstCells size n (.slice A m d)).run P w1 = .ok vs.toArray w1 := by
    intro m d
    obtain ⟨hl, h0⟩ := hr
    subst hk
    rcases h0 with h0 | ⟨b, o, rfl, hat⟩
    · have hvs : vs = [] := List.eq_nil_of_length_eq_zero (by omega)
      subst hvs
      cases A with
      | none => simp [Builtin.firstCells]
      | some a => simp [Builtin.firstCells, h0, loadCells, loadCellsFrom]
    · simp only [Builtin.firstCells]
      rw [← hl]
      refine run_loadAgg (fun i v hv => ?_)
      have hil : i < vs.length := (List.getElem?_eq_some_iff.1 hv).1
      have := cell_of H.hh ((hat i (by omega)).trans hv)
      simpa [World.cell?, hw] using this
  exact ⟨key _ _, key⟩
/-- One part laid into cells. -/
theorem lay_eq : ∀ (vs : List Value) (c : Array Value) (o j : Nat), o + j + vs.length ≤ c.size →
    (vs.zipIdx j).foldl (fun cs (x : Value × Nat) => cs.setIfInBounds (o + x.2) x.1) c = (setL c.toList (o + j) vs).toArray
  | [], c, o, j, _ => by simp [setL]
  | v :: vs, c, o, j, h => by
    simp only [List.length_cons] at h
    simp only [List.zipIdx_cons, List.foldl_cons]
    rw [lay_eq vs _ o (j + 1) (by simp; omega)]
    simp [setL, Nat.add_assoc]
theorem fill_cons {place : Nat → Option (Nat × Nat)} {i off size : Nat} {v : Value} {rest : List (Nat × Value)} {c : Array Value} (hp : place i = some (off, size)) (hs : v.cells.size = size) (hb : off + size ≤ c.size) :
    Instr.fill place c ((i, v) :: rest) = Instr.fill place (setL c.toList off v.cells.toList).toArray rest := by
  simp only [Instr.fill, hp]
  rw [if_neg (by simp [hs]; omega)]
  congr 1
  rw [← Array.foldl_toList, Array.toList_zipIdx]
  have := lay_eq v.cells.toList c off 0 (by simp [hs]; omega)
  simpa using this
/-- Slots' cells and cells in step. -/
def inStep (g : Nat → Nat) (xs : List AV) (us : List Value) : Prop := us.length = xs.length ∧ ∀ i, i < xs.length → (getN xs i).is g (us.getD i undef)
theorem inStep.lay {xs ys : List AV} {us vs : List Value} {o : Nat} (h : inStep g xs us) (k : inStep g ys vs) (hb : o + ys.length ≤ xs.length) : inStep g (setLA xs o ys) (setL us o vs) := by
  refine ⟨by rw [setL_length, setLA_length]; exact h.1, fun i hi => ?_⟩
  rw [setLA_length] at hi
  rw [getN_eq, setLA_get _ _ _ _ hb, List.getD_eq_getElem?_getD, setL_get _ _ _ _ (by rw [k.1, h.1]; exact hb), k.1]
  by_cases hin : o ≤ i ∧ i < o + ys.length
  · rw [if_pos hin, if_pos hin]
    have := k.2 (i - o) (by omega)
    rw [getN_eq, List.getD_eq_getElem?_getD] at this
    exact this
  · rw [if_neg hin, if_neg hin]
    have := h.2 i hi
    rw [getN_eq, List.getD_eq_getElem?_getD] at this
    exact this
def partsIs (g : Nat → Nat) : List (Nat × AV) → List (Nat × Value) → Prop
  | [], [] => True
  | (i, x) :: ps, (j, v) :: qs => i = j ∧ x.is g v ∧ partsIs g ps qs
  | _, _ => False
theorem fillP_ok {e size : Nat} : ∀ {ps : List (Nat × AV)} {qs : List (Nat × Value)} {cs : List AV} {us : List Value} {K' : List AV → Prop}, fillP P e size ps cs K' → partsIs g ps qs → inStep g cs us →
    ∃ cs' us', Instr.fill (fun i => some (i * size, size)) us.toArray qs = some us'.toArray ∧ inStep g cs' us' ∧ cs'.length = cs.length ∧ K' cs'
  | [], [], cs, us, K', hk, _, hs => ⟨cs, us, rfl, hs, rfl, hk⟩
  | [], _ :: _, _, _, _, _, hp, _ => False.elim hp
  | _ :: _, [], _, _, _, _, hp, _ => by cases hp
  | (i, x) :: ps, (j, v) :: qs, cs, us, K', hk, hp, hs => by
    obtain ⟨rfl, hx, hp⟩ := hp
    obtain ⟨ys, hyl, hys, hk⟩ := cellsV_spec hk hx
    have hq := grd_spec hk
    clear hk
    obtain ⟨hb, hk⟩ := hq
    simp only [Bool.and_eq_true, lenB, beq_iff_eq, Nat.ble_eq] at hb
    have hvs : v.cells.size = size := by rw [← hb.1, ← hyl, Array.length_toList]
    have hstep : inStep g (setLA cs (i * size) ys) (setL us (i * size) v.cells.toList) := inStep.lay hs ⟨hyl, hys⟩ (by omega)
    obtain ⟨cs', us', hf, hst, hl, hK⟩ := fillP_ok hk hp hstep
    refine ⟨cs', us', ?_, hst, hl.trans (setLA_length _ _ _), hK⟩
    rw [fill_cons (off := i * size) (size := size) rfl hvs (by simp; rw [hs.1]; omega)]
    exact hf
theorem fillS_ok {fs : Array Field} {places : Array (Nat × Nat)} (hpl : ∀ (i : Nat) (f : Field), fs[i]? = some f → places[i]? = some (f.offset, P.cellsOf f.type)) : ∀ {ps : List (Nat × AV)} {qs : List (Nat × Value)} {cs : List AV} {us : List Value} {K' : List AV → Prop}, fillS P fs ps cs K' → partsIs g ps qs → inStep g cs us →
    ∃ cs' us', Instr.fill (places[·]?) us.toArray qs = some us'.toArray ∧ inStep g cs' us' ∧ cs'.length = cs.length ∧ K' cs'
  | [], [], cs, us, K', hk, _, hs => ⟨cs, us, rfl, hs, rfl, hk⟩
  | [], _ :: _, _, _, _, _, hp, _ => False.elim hp
  | _ :: _, [], _, _, _, _, hp, _ => by cases hp
  | (i, x) :: ps, (j, v) :: qs, cs, us, K', hk, hp, hs => by
    obtain ⟨rfl, hx, hp⟩ := hp
    unfold fillS at hk
    cases hf : fs[i]? with
    | none => rw [hf] at hk; exact False.elim hk
    | some f =>
      rw [hf] at hk
      dsimp only at hk
      obtain ⟨ys, hyl, hys, hk⟩ := cellsV_spec hk hx
      have hq := grd_spec hk
      clear hk
      obtain ⟨hb, hk⟩ := hq
      simp only [Bool.and_eq_true, lenB, beq_iff_eq, Nat.ble_eq] at hb
      have hvs : v.cells.size = P.cellsOf f.type := by rw [← hb.1.2, ← hyl, Array.length_toList]
      have hstep : inStep g (setLA cs f.offset ys) (setL us f.offset v.cells.toList) := inStep.lay hs ⟨hyl, hys⟩ hb.2
      obtain ⟨cs', us', hff, hst, hl, hK⟩ := fillS_ok hpl hk hp hstep
      refine ⟨cs', us', ?_, hst, hl.trans (setLA_length _ _ _), hK⟩
      rw [fill_cons (off := f.offset) (size := P.cellsOf f.type) (hpl i f hf) hvs (by simp; rw [hs.1]; omega)]
      exact hff
theorem inStep_map (us : List Value) : inStep g (us.map AV.v) us := by
  refine ⟨by simp, fun i hi => ?_⟩
  have hi' : i < us.length := by simpa using hi
  rw [getN_eq, List.getElem?_map, List.getElem?_eq_getElem hi']
  show _ = _
  simp [List.getD_eq_getElem?_getD, List.getElem?_eq_getElem hi']
/-- Zero cells again and again. -/
def replV (n : Nat) (l : List Value) : List Value :=
  match n with
  | 0 => []
  | n + 1 => l ++ replV n l
theorem replA_map (n : Nat) (z : List Value) : replA n (z.map AV.v) = (replV n z).map AV.v := by
  induction n with
  | zero => rfl
  | succ n ih => simp [replA, replV, ih]
theorem replV_length (n : Nat) (z : List Value) : (replV n z).length = n * z.length := by
  induction n with
  | zero => simp [replV]
  | succ n ih => simp [replV, ih, Nat.succ_mul, Nat.add_comm]
theorem replV_get (n : Nat) (z : List Value) : ∀ i, i < n * z.length → (replV n z)[i]? = z[i % z.length]? := by
  induction n with
  | zero => intro i hi; omega
  | succ n ih =>
    intro i hi
    simp only [replV]
    by_cases h : i < z.length
    · rw [List.getElem?_append_left h, Nat.mod_eq_of_lt h]
    · rw [List.getElem?_append_right (by omega), ih (i - z.length) (by rw [Nat.succ_mul] at hi; omega)]
      congr 1
      rw [Nat.mod_eq_sub_mod (by omega : i ≥ z.length)]
theorem range_zero {z : List Value} (n : Nat) (hz : 0 < z.length) : (Array.range (n * z.length)).map (fun x => z.toArray[x % z.toArray.size]!) = (replV n z).toArray := by
  apply Array.ext'
  apply List.ext_getElem?
  intro i
  by_cases hi : i < n * z.length
  · have hm : i % z.length < z.length := Nat.mod_lt _ hz
    simp [hi, replV_get n z i hi, hm]
  · have h1 : (replV n z).length ≤ i := by rw [replV_length]; omega
    simp [hi, List.getElem?_eq_none h1]
end
end Go.Eng
