/-
  SPECS, 4: may an edit be written?
-/
import Derived.Test.YtblghgacokoklaaDoorT3
set_option linter.unusedSimpArgs false
set_option linter.unusedVariables false
namespace Go.Eng.YtblghgacokoklaaDoor
def Place.told (p : Place) : Bool := decide (0 ≤ p.lv ∧ p.lv < 5)
def Placed.told (p : Placed) : Bool := decide (0 ≤ p.lv ∧ p.lv < 5 ∧ 0 ≤ p.weight ∧ 0 ≤ p.bytes ∧ 0 ≤ p.entries ∧ p.least.size ≤ 64 ∧ p.greatest.size ≤ 64)
def Edit.told (e : Edit) : Bool := e.out.all Place.told && (e.inn.all Placed.told && (e.ptr.all (fun s => decide (s.size ≤ 64)) && decide (e.ptr.length ≤ 5)))
theorem all_at {α : Type} (f : α → Bool) (l : List α) (k : Nat) (hk : k < l.length) (h0 : (l.take k).all f = true) : (l.take (k + 1)).all f = f l[k] := by
  rw [List.take_succ_eq_append_getElem hk, List.all_append, h0]
  simp
theorem all_not {α : Type} (f : α → Bool) (l : List α) (k : Nat) (hk : k < l.length) (h : f l[k] = false) : l.all f = false := by
  rw [List.all_eq_false]
  exact ⟨l[k], List.getElem_mem hk, by simp [h]⟩
theorem next_i {k n : Nat} (hk : k < n) (hn : n < 9223372036854775807) : IntKind.wrap .i64 ((k : Int) + 1) = ((k + 1 : Nat) : Int) := by rw [wrap_i64 (by omega) (by omega)]; omega
theorem tells_spec {h : Hp} {e : Edit} {l l1 l2 : Sl} {Q : Value → Hp → Prop} (E : EdAt h e l l1 l2) (n1 : e.out.length < 9223372036854775807) (n2 : e.inn.length < 9223372036854775807) (n3 : e.ptr.length < 9223372036854775807)
    (hQ : Q (.bool e.told) h) : F62.T e.log e.next e.seq l l1 l2 h Q := by
  have bad1 : e.out.all Place.told = false → Q (.bool false) h := fun hb => by
    have : e.told = false := by unfold Edit.told; rw [hb]; rfl
    rw [this] at hQ; exact hQ
  refine ⟨fun i h1 => ∃ k : Nat, i = (k : Int) ∧ k ≤ e.out.length ∧ h1 = h ∧ (e.out.take k).all Place.told = true, fun i _ => e.out.length - i.toNat, ⟨0, rfl, Nat.zero_le _, rfl, rfl⟩, ?_⟩
  rintro i h1 ⟨k, rfl, hk, rfl, ht⟩
  refine ⟨fun hlt => ?_, fun hge => ?_⟩
  · have hk1 : k < e.out.length := by have := E.nout; omega
    obtain ⟨b, o, ha, hat⟩ := row_get E.out (i := k * 2) (by have := E.nout; omega)
    have cc : ∀ j, j < 2 → h1.at b ((o + k * 2) + j) = (Place.cells e.out[k])[j]? := fun j hj => by
      rw [Nat.add_assoc, hat _ (by have := E.nout; omega)]
      exact flat_get Place.cells 2 (fun _ => rfl) e.out k j hk1 hj
    refine ⟨b, o, ha, ⟨by omega, hlt⟩, e.out[k].lv, ?_, e.out[k].num, ?_, ⟨fun hb => ?_, fun hb => ⟨fun hc => ?_, fun hc => ⟨⟨k + 1, next_i hk1 n1, hk1, rfl, ?_⟩, ?_⟩⟩⟩⟩
    · rw [Int.toNat_natCast]; exact cc 0 (by decide)
    · rw [Int.toNat_natCast]; exact cc 1 (by decide)
    · exact bad1 (all_not _ _ k hk1 (by unfold Place.told; rw [decide_eq_false]; omega))
    · exact bad1 (all_not _ _ k hk1 (by unfold Place.told; rw [decide_eq_false]; omega))
    · rw [all_at _ _ k hk1 ht]; unfold Place.told; rw [decide_eq_true]; omega
    · rw [next_i hk1 n1]
      show e.out.length - ((k + 1 : Nat) : Int).toNat < e.out.length - (k : Int).toNat
      omega
  have hkn : k = e.out.length := by have := E.nout; omega
  subst hkn
  rw [List.take_length] at ht
  have bad2 : e.inn.all Placed.told = false → Q (.bool false) h1 := fun hb => by
    have : e.told = false := by unfold Edit.told; rw [hb]; simp
    rw [this] at hQ; exact hQ
  refine ⟨fun i h2 => ∃ k : Nat, i = (k : Int) ∧ k ≤ e.inn.length ∧ h2 = h1 ∧ (e.inn.take k).all Placed.told = true, fun i _ => e.inn.length - i.toNat, ⟨0, rfl, Nat.zero_le _, rfl, rfl⟩, ?_⟩
  rintro i h2 ⟨k, rfl, hk, rfl, ht2⟩
  refine ⟨fun hlt => ?_, fun hge => ?_⟩
  · have hk1 : k < e.inn.length := by have := E.ninn; omega
    obtain ⟨b, o, ha, hat⟩ := row_get E.inn (i := k * 7) (by have := E.ninn; omega)
    have cc : ∀ j, j < 7 → h2.at b ((o + k * 7) + j) = (Placed.cells e.inn[k])[j]? := fun j hj => by
      rw [Nat.add_assoc, hat _ (by have := E.ninn; omega)]
      exact flat_get Placed.cells 7 (fun _ => rfl) e.inn k j hk1 hj
    have hbad : ¬ (0 ≤ e.inn[k].lv ∧ e.inn[k].lv < 5 ∧ 0 ≤ e.inn[k].weight ∧ 0 ≤ e.inn[k].bytes ∧ 0 ≤ e.inn[k].entries ∧ e.inn[k].least.size ≤ 64 ∧ e.inn[k].greatest.size ≤ 64) → Q (.bool false) h2 := fun hb => bad2 (all_not _ _ k hk1 (by unfold Placed.told; rw [decide_eq_false hb]))
    refine ⟨b, o, ha, ⟨by omega, hlt⟩, e.inn[k].lv, ?_, e.inn[k].num, ?_, e.inn[k].weight, ?_, e.inn[k].bytes, ?_, e.inn[k].entries, ?_, e.inn[k].least, ?_, e.inn[k].greatest, ?_, ⟨fun hb => hbad (by omega), fun hb => ⟨fun hc => hbad (by omega), fun hc => ⟨fun hd => hbad ?_, fun hd => ⟨fun hf => hbad ?_, fun hf => ⟨⟨k + 1, next_i hk1 n2, hk1, rfl, ?_⟩, ?_⟩⟩⟩⟩⟩⟩
    · rw [Int.toNat_natCast]; exact cc 0 (by decide)
    · rw [Int.toNat_natCast]; exact cc 1 (by decide)
    · rw [Int.toNat_natCast]; exact cc 2 (by decide)
    · rw [Int.toNat_natCast]; exact cc 3 (by decide)
    · rw [Int.toNat_natCast]; exact cc 4 (by decide)
    · rw [Int.toNat_natCast]; exact cc 5 (by decide)
    · rw [Int.toNat_natCast]; exact cc 6 (by decide)
    · unfold iMin at hd; repeat (split at hd) <;> omega
    · unfold iMax at hf; split at hf <;> omega
    · rw [all_at _ _ k hk1 ht2]
      unfold Placed.told
      rw [decide_eq_true]
      unfold iMin at hd
      unfold iMax at hf
      refine ⟨by omega, by omega, ?_, ?_, ?_, ?_, ?_⟩
      · split at hd <;> (try split at hd) <;> omega
      · split at hd <;> (try split at hd) <;> omega
      · split at hd <;> (try split at hd) <;> omega
      · split at hf <;> omega
      · split at hf <;> omega
    · rw [next_i hk1 n2]
      show e.inn.length - ((k + 1 : Nat) : Int).toNat < e.inn.length - (k : Int).toNat
      omega
  have hkn : k = e.inn.length := by have := E.ninn; omega
  subst hkn
  rw [List.take_length] at ht2
  have bad3 : e.ptr.all (fun s => decide (s.size ≤ 64)) = false → Q (.bool false) h2 := fun hb => by
    have : e.told = false := by unfold Edit.told; rw [hb]; simp
    rw [this] at hQ; exact hQ
  refine ⟨fun i h3 => ∃ k : Nat, i = (k : Int) ∧ k ≤ e.ptr.length ∧ h3 = h2 ∧ (e.ptr.take k).all (fun s => decide (s.size ≤ 64)) = true, fun i _ => e.ptr.length - i.toNat, ⟨0, rfl, Nat.zero_le _, rfl, rfl⟩, ?_⟩
  rintro i h3 ⟨k, rfl, hk, rfl, ht3⟩
  refine ⟨fun hlt => ?_, fun hge => ?_⟩
  · have hk1 : k < e.ptr.length := by have := E.nptr; omega
    obtain ⟨b, o, ha, hat⟩ := row_get E.ptr (i := k) (by have := E.nptr; omega)
    refine ⟨b, o, ha, ⟨by omega, hlt⟩, e.ptr[k], ?_, ⟨fun hb => ?_, fun hb => ⟨⟨k + 1, next_i hk1 n3, hk1, rfl, ?_⟩, ?_⟩⟩⟩
    · rw [Int.toNat_natCast, hat _ (by have := E.nptr; omega)]; simp [ptrV, hk1]
    · exact bad3 (all_not _ _ k hk1 (by rw [decide_eq_false]; omega))
    · rw [all_at _ _ k hk1 ht3, decide_eq_true]; omega
    · rw [next_i hk1 n3]
      show e.ptr.length - ((k + 1 : Nat) : Int).toNat < e.ptr.length - (k : Int).toNat
      omega
  have hkn : k = e.ptr.length := by have := E.nptr; omega
  subst hkn
  rw [List.take_length] at ht3
  have hn := E.nptr
  have htold : e.told = decide (e.ptr.length ≤ 5) := by unfold Edit.told; rw [ht, ht2, ht3]; simp
  rw [htold] at hQ
  refine ⟨fun hle => ?_, fun hgt => ?_⟩
  · rw [decide_eq_true (by omega)] at hQ; exact hQ
  · rw [decide_eq_false (by omega)] at hQ; exact hQ
end Go.Eng.YtblghgacokoklaaDoor
