/-
  SPECS, 6: Put.
-/
import Derived.Test.YtblghgacokoklaaDoorT5
set_option linter.unusedSimpArgs false
set_option linter.unusedVariables false
namespace Go.Eng.YtblghgacokoklaaDoor
/-- Whole numbers of an edit lie where their kinds let them. -/
structure Edit.valid (e : Edit) : Prop where
  log : okU e.log
  next : okU e.next
  seq : okU e.seq
  out : ∀ p ∈ e.out, p.lv < 9223372036854775808 ∧ okU p.num
  inn : ∀ p ∈ e.inn, p.lv < 9223372036854775808 ∧ okU p.num ∧ p.weight < 9223372036854775808 ∧ p.bytes < 9223372036854775808 ∧ p.entries < 9223372036854775808
structure Told (e : Edit) : Prop where
  out : ∀ p ∈ e.out, p.ok
  inn : ∀ p ∈ e.inn, p.ok
  ptr : ∀ p ∈ e.ptr, p.size ≤ 64
  n : e.ptr.length ≤ 5
theorem told_spec {e : Edit} (V : e.valid) (h : e.told = true) : Told e := by
  unfold Edit.told at h
  simp only [Bool.and_eq_true, List.all_eq_true, decide_eq_true_eq] at h
  obtain ⟨h1, h2, h3, h4⟩ := h
  refine ⟨fun p hp => ?_, fun p hp => ?_, h3, h4⟩
  · have := h1 p hp
    unfold Place.told at this
    rw [decide_eq_true_eq] at this
    exact ⟨⟨this.1, (V.out p hp).1⟩, (V.out p hp).2⟩
  · have := h2 p hp
    unfold Placed.told at this
    rw [decide_eq_true_eq] at this
    have v := V.inn p hp
    exact ⟨⟨this.1, v.1⟩, v.2.1, ⟨this.2.2.1, v.2.2.1⟩, ⟨this.2.2.2.1, v.2.2.2.1⟩, ⟨this.2.2.2.2.1, v.2.2.2.2⟩, this.2.2.2.2.2.1, this.2.2.2.2.2.2⟩
theorem flat_take {α : Type} (f : α → List Value) (n : Nat) (hf : ∀ x, (f x).length = n) : ∀ (l : List α) (k : Nat), (l.flatMap f).take (k * n) = (l.take k).flatMap f
  | [], k => by simp
  | x :: l, 0 => by simp
  | x :: l, k + 1 => by
    simp only [List.flatMap_cons, List.take_succ_cons]
    rw [Nat.add_mul, Nat.one_mul, Nat.add_comm, List.take_append, hf, List.take_of_length_le (by rw [hf]; omega), Nat.add_sub_cancel_left, flat_take f n hf l k]
theorem flat_drop {α : Type} (f : α → List Value) (n : Nat) (hf : ∀ x, (f x).length = n) : ∀ (l : List α) (k : Nat), (l.flatMap f).drop (k * n) = (l.drop k).flatMap f
  | [], k => by simp
  | x :: l, 0 => by simp
  | x :: l, k + 1 => by
    simp only [List.flatMap_cons, List.drop_succ_cons]
    rw [Nat.add_mul, Nat.one_mul, Nat.add_comm, List.drop_append, hf, List.drop_of_length_le (by rw [hf]; omega), Nat.add_sub_cancel_left, List.nil_append, flat_drop f n hf l k]
theorem take_min {α : Type} (l : List α) (k : Nat) : l.take (min l.length k) = l.take k := by
  rcases Nat.le_total l.length k with h | h
  · rw [Nat.min_eq_left h, List.take_length, List.take_of_length_le h]
  · rw [Nat.min_eq_right h]
theorem drop_min {α : Type} (l : List α) (k : Nat) : l.drop (min l.length k) = l.drop k := by
  rcases Nat.le_total l.length k with h | h
  · rw [Nat.min_eq_left h, List.drop_length, List.drop_of_length_le h]
  · rw [Nat.min_eq_right h]
/-- The first part and what is behind it, in memory. -/
theorem ed_front {h : Hp} {e : Edit} {l l1 l2 : Sl} (E : EdAt h e l l1 l2) :
    EdAt h (front e) (Sl.cut l 2 0 ((min l.n 256 : Nat) : Int) ((min l.n 256 : Nat) : Int)) (Sl.cut l1 7 0 ((min l1.n (256 - min l.n 256) : Nat) : Int) ((min l1.n (256 - min l.n 256) : Nat) : Int)) l2 := by
  have h1 := cut_front E.out (k := min l.n 256) (Nat.min_le_left _ _)
  have h2 := cut_front E.inn (k := min l1.n (256 - min l.n 256)) (Nat.min_le_left _ _)
  refine ⟨?_, ?_, E.ptr⟩
  · have : outV (front e).out = (outV e.out).take (min l.n 256 * 2) := by
      unfold outV
      rw [flat_take Place.cells 2 (fun _ => rfl), E.nout, take_min]
      rfl
    rw [this]; exact h1
  · have : inV (front e).inn = (inV e.inn).take (min l1.n (256 - min l.n 256) * 7) := by
      unfold inV
      rw [flat_take Placed.cells 7 (fun _ => rfl), E.ninn, E.nout, take_min]
      rfl
    rw [this]; exact h2
theorem ed_behind {h : Hp} {e : Edit} {l l1 l2 : Sl} (E : EdAt h e l l1 l2) (c1 : l.n ≤ l.c) (c2 : l1.n ≤ l1.c) :
    EdAt h (behind e) (Sl.cut l 2 ((min l.n 256 : Nat) : Int) (l.n : Int) (l.c : Int)) (Sl.cut l1 7 ((min l1.n (256 - min l.n 256) : Nat) : Int) (l1.n : Int) (l1.c : Int)) l2 := by
  have h1 := cut_back E.out (k := min l.n 256) (Nat.min_le_left _ _) c1
  have h2 := cut_back E.inn (k := min l1.n (256 - min l.n 256)) (Nat.min_le_left _ _) c2
  refine ⟨?_, ?_, E.ptr⟩
  · have : outV (behind e).out = (outV e.out).drop (min l.n 256 * 2) := by
      unfold outV
      rw [flat_drop Place.cells 2 (fun _ => rfl), E.nout, drop_min]
      rfl
    rw [this]; exact h1
  · have : inV (behind e).inn = (inV e.inn).drop (min l1.n (256 - min l.n 256) * 7) := by
      unfold inV
      rw [flat_drop Placed.cells 7 (fun _ => rfl), E.ninn, E.nout, drop_min]
      rfl
    rw [this]; exact h2
theorem iMin_nat (a b : Nat) : iMin (a : Int) (b : Int) = ((min a b : Nat) : Int) := by
  unfold iMin
  split <;> omega
theorem Told.behind {e : Edit} (T : Told e) : Told (behind e) := ⟨fun p hp => T.out p (List.mem_of_mem_drop hp), fun p hp => T.inn p (List.mem_of_mem_drop hp), T.ptr, T.n⟩
theorem Told.small {e : Edit} (T : Told e) (h1 : okU e.log) (h2 : okU e.next) (h3 : okU e.seq) : (front e).small :=
  ⟨h1, h2, h3, fun p hp => T.out p (List.mem_of_mem_take hp), fun p hp => T.inn p (List.mem_of_mem_take hp), T.ptr,
    by have := List.length_take_le 256 e.out; show (e.out.take 256).length ≤ 1000; omega,
    by have := List.length_take_le (256 - min e.out.length 256) e.inn; show (e.inn.take (256 - min e.out.length 256)).length ≤ 1000; omega, by have := T.n; show e.ptr.length ≤ 1000; omega⟩
theorem Edit.small.noptr {e : Edit} (S : e.small) : ({ e with ptr := [] } : Edit).small := ⟨S.log, S.next, S.seq, S.out, S.inn, fun p hp => (by cases hp), S.nout, S.ninn, Nat.zero_le _⟩
/-- PUT TELLS THE RECORDS OF AN EDIT. -/
theorem put_spec {h : Hp} {e : Edit} {l l1 l2 : Sl} {Q : Value → Hp → Prop} (E : EdAt h e l l1 l2) (c1 : l.n ≤ l.c) (c2 : l1.n ≤ l1.c) (V : e.valid) (n1 : e.out.length + e.inn.length ≤ 1000000000000) (n3 : e.ptr.length < 9223372036854775807)
    (hQ : ∀ r h' ss, Buf h' r 1 23 (slV ss) → RowsAt h' ss (putS e) → Keep h h' → (r.a = none ∨ New h r) → Q (.slice r.a r.n r.c) h') : F21.T e.log e.next e.seq l l1 l2 h Q := by
  unfold F21.T
  refine tells_spec E (by omega) (by omega) n3 ⟨e.told, rfl, fun ht => ?_, fun hf => ?_⟩
  · have T := told_spec V ht
    refine ⟨fun l3 x y z l4 l5 l6 h2 => x = e.log ∧ y = e.next ∧ z = e.seq ∧ l6 = l2 ∧ ∃ f e' ss done, e'.log = e.log ∧ e'.next = e.next ∧ e'.seq = e.seq ∧ e'.ptr = e.ptr ∧ Told e' ∧ EdAt h e' l4 l5 l2 ∧ l4.n ≤ l4.c ∧ l5.n ≤ l5.c ∧ Buf h2 l3 1 23 (slV ss) ∧ RowsAt h2 ss done ∧ done ++ putF f e' = putS e ∧ e'.out.length + e'.inn.length < f ∧ Keep h h2 ∧ (l3.a = none ∨ New h l3) ∧ done.length + (e'.out.length + e'.inn.length) ≤ e.out.length + e.inn.length,
      fun _ _ _ _ l4 l5 _ _ => l4.n + l5.n, ⟨rfl, rfl, rfl, rfl, e.out.length + e.inn.length + 1, e, [], [], rfl, rfl, rfl, rfl, T, E, c1, c2, Buf.nil h 1 23, RowsAt.nil h, by unfold putS; rw [if_pos ht]; rfl, by omega, Keep.refl h, .inl rfl, by simp⟩, ?_⟩
    rintro l3 x y z l4 l5 l6 h2 ⟨rfl, rfl, rfl, rfl, f, e', ss, done, g1, g2, g3, g4, T', E', d1, d2, B, R, hput, hfuel, K, hN, hcnt⟩
    have k1 : iMin (l4.n : Int) 256 = ((min l4.n 256 : Nat) : Int) := iMin_nat l4.n 256
    have kw : IntKind.wrap .i64 (256 - ((min l4.n 256 : Nat) : Int)) = ((256 - min l4.n 256 : Nat) : Int) := by rw [wrap_i64 (by omega) (by omega)]; omega
    have k2 : iMin (l5.n : Int) ((256 - min l4.n 256 : Nat) : Int) = ((min l5.n (256 - min l4.n 256) : Nat) : Int) := iMin_nat _ _
    rw [k1, kw, k2]
    have Ef := ed_front E'
    have Eb := ed_behind E' d1 d2
    have no := Eb.nout
    have ni := Eb.ninn
    have n4 := E'.nout
    have n5 := E'.ninn
    have q4 : (Sl.cut l4 2 ((min l4.n 256 : Nat) : Int) (l4.n : Int) (l4.c : Int)).n = l4.n - min l4.n 256 := by simp [Sl.cut]
    have q5 : (Sl.cut l5 7 ((min l5.n (256 - min l4.n 256) : Nat) : Int) (l5.n : Int) (l5.c : Int)).n = l5.n - min l5.n (256 - min l4.n 256) := by simp [Sl.cut]
    have p4 : (Sl.cut l4 2 ((min l4.n 256 : Nat) : Int) (l4.n : Int) (l4.c : Int)).c = l4.c - min l4.n 256 := by simp [Sl.cut]
    have p5 : (Sl.cut l5 7 ((min l5.n (256 - min l4.n 256) : Nat) : Int) (l5.n : Int) (l5.c : Int)).c = l5.c - min l5.n (256 - min l4.n 256) := by simp [Sl.cut]
    have S := T'.small (by rw [g1]; exact V.log) (by rw [g2]; exact V.next) (by rw [g3]; exact V.seq)
    obtain ⟨f, rfl⟩ : ∃ g, f = g + 1 := ⟨f - 1, by omega⟩
    have hss : l3.n = ss.length := by have := B.len; rw [slV_length] at this; omega
    have hdn : ss.length = done.length := R.1
    refine ⟨⟨by omega, by omega, by omega, by omega⟩, ⟨by omega, by omega, by omega, by omega⟩, ⟨by omega, by omega, by omega, by omega⟩, ⟨by omega, by omega, by omega, by omega⟩, fun hz => ?_, fun hz => ?_⟩
    · have hz' : (behind e').out.length + (behind e').inn.length = 0 := by
        rw [wrap_i64 (by omega) (by omega)] at hz
        omega
      refine record_t' (e := front e') g1 g2 g3 (Ef.keep K) S fun r h3 B3 K3 N3 => ⟨r, rfl, ?_⟩
      refine append_buf (B.keep K3) rfl rfl (by omega) fun s' h4 B4 hn4 U4 => ?_
      obtain ⟨K4, N4⟩ := keep_grow (K.trans K3) hN U4
      refine hQ s' h4 (ss ++ [r]) (by simpa [slV] using B4) ?_ K4 N4
      rw [← hput]
      unfold putF
      rw [if_pos hz']
      exact RowsAt.snoc ((R.keep K3).upd U4 (B.keep K3) (by decide)) (B3.upd U4 (buf_off B3 (B.keep K3) (by decide)))
    · have hz' : ¬ (behind e').out.length + (behind e').inn.length = 0 := by
        rw [wrap_i64 (by omega) (by omega)] at hz
        omega
      refine record_f' (e := { front e' with ptr := [] }) g1 g2 g3 (EdAt.keep K ⟨Ef.out, Ef.inn, ⟨rfl, .inl rfl⟩⟩) S.noptr fun r h3 B3 K3 N3 => ⟨r, rfl, ?_⟩
      refine append_buf (B.keep K3) rfl rfl (by omega) fun s' h4 B4 hn4 U4 => ?_
      obtain ⟨K4, N4⟩ := keep_grow (K.trans K3) hN U4
      refine ⟨⟨rfl, rfl, rfl, rfl, f, behind e', ss ++ [r], done ++ [recB { front e' with ptr := [] } false], g1, g2, g3, g4, T'.behind, Eb, by omega, by omega, by simpa [slV] using B4, ?_, ?_, by omega, K4, N4, ?_⟩, by dsimp only; omega⟩
      · exact RowsAt.snoc ((R.keep K3).upd U4 (B.keep K3) (by decide)) (B3.upd U4 (buf_off B3 (B.keep K3) (by decide)))
      · rw [← hput]
        conv => rhs; unfold putF
        rw [if_neg hz', List.append_assoc]
        rfl
      · rw [List.length_append, List.length_singleton]; omega
  · refine hQ ⟨none, 0, 0⟩ h [] (Buf.nil h 1 23) ?_ (Keep.refl h) (.inl rfl)
    have : putS e = [] := by unfold putS; rw [if_neg (by rw [hf]; decide)]
    rw [this]
    exact RowsAt.nil h
end Go.Eng.YtblghgacokoklaaDoor
