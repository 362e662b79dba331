/-
  SPECS OF THE NAMES, 6: the document's frames; what current points to; the same bytes.
-/
import Derived.Test.YtblghgacokoklaaDoorD5
set_option linter.unusedSimpArgs false
set_option linter.unusedVariables false
namespace Go.Eng.YtblghgacokoklaaDoor
theorem bI_toB' {l : List Int} (h : okB8 l) : bI (toB l) = l := by
  have h1 := toB_V h
  rw [bytesV_bI] at h1
  have : ∀ (a b : List Int), bv a = bv b → a = b := by
    intro a
    induction a with
    | nil => intro b h; cases b with
      | nil => rfl
      | cons _ _ => simp [bv] at h
    | cons x a ih => intro b h; cases b with
      | nil => simp [bv] at h
      | cons y b =>
        simp only [bv, List.map_cons, List.cons.injEq, Value.int.injEq, true_and] at h
        rw [h.1, ih b h.2]
  exact this _ _ h1
theorem eq_step {α : Type} {a b : List α} {i : Nat} (ha : i < a.length) (hb : i < b.length) (h : a.take i = b.take i) (he : a[i] = b[i]) : a.take (i + 1) = b.take (i + 1) := by
  rw [List.take_succ_eq_append_getElem ha, List.take_succ_eq_append_getElem hb, h, he]
theorem unframe_doc {h : Hp} {l : Sl} {bs : List Int} {Q : Value → Hp → Prop} (hr : h.row l.a l.n (bv bs)) (hc : l.n ≤ l.c) (hok : okB8 bs) (hs : bs.length + 20 ≤ 140737488355328)
    (hQ : ∀ (l' : Sl) (h' : Hp), h'.row l'.a l'.n (bv (unF bs).1) → Keep h h' → Q (.tuple ⟨[.slice l'.a l'.n l'.c, .int .i64 ((unF bs).2.1 : Int), .int .i64 (unF bs).2.2]⟩) h') : F43.T l h Q := by
  have hln : l.n = bs.length := by have := hr.1; rw [bv_length] at this; exact this.symm
  have none_ : ∀ (e : Int) h', unF bs = ([], 0, e) → Keep h h' → Q (.tuple ⟨[.slice none 0 0, .int .i64 0, .int .i64 e]⟩) h' := fun e h' he K => by
    have := hQ ⟨none, 0, 0⟩ h'
    rw [he] at this
    exact this ⟨rfl, .inl rfl⟩ K
  refine uint2_spec hr hok ⟨_, _, _, rfl, fun h0 => ⟨fun hbig => ?_, fun hbig => ⟨fun hsh => ?_, fun hsh => ?_⟩⟩, fun h0 => ?_⟩
  · exact none_ 22 h (by unfold unF; rw [if_pos h0, if_pos hbig]) (Keep.refl h)
  all_goals have hu := uR_ok bs 0 0
  rotate_right
  · exact none_ _ h (by unfold unF; rw [if_neg h0]) (Keep.refl h)
  all_goals
    have hk := uR_take bs 0 0 h0
    obtain ⟨n, hn⟩ : ∃ n : Nat, (uR 0 0 bs).1 = (n : Int) := ⟨(uR 0 0 bs).1.toNat, by have := hu.1; omega⟩
    generalize hkk : (uR 0 0 bs).2.1 = k at *
    have hn1 : n ≤ 262144 := by rw [hn] at hbig; omega
    have w3 : IntKind.wrap .i64 ((k : Int) + IntKind.wrap .i64 (uR 0 0 bs).1) = ((k + n : Nat) : Int) := by rw [hn, wrap_i64 (n := (n : Int)) (by omega) (by omega), wrap_i64 (by omega) (by omega)]; omega
    have w4 : IntKind.wrap .i64 (((k + n : Nat) : Int) + 4) = ((k + n + 4 : Nat) : Int) := by rw [wrap_i64 (by omega) (by omega)]; omega
    rw [w3, w4] at hsh
  · exact none_ 20 h (by unfold unF; rw [if_pos h0, if_neg hbig, hkk, hn, Int.toNat_natCast, if_pos (by omega)]) (Keep.refl h)
  · have hle : k + n + 4 ≤ bs.length := by omega
    rw [w3, w4]
    obtain ⟨c1, c1n, c1c⟩ := cut1 hr (i := 0) (j := k + n) (m := l.c) (by omega) (by omega) (by omega)
    obtain ⟨c3, c3n, _⟩ := cut1 hr (i := k) (j := k + n) (m := l.c) (by omega) (by omega) (by omega)
    have e1 : ((bv bs).drop 0).take (k + n - 0) = bv (bs.take (k + n)) := by unfold bv; rw [List.drop_zero, Nat.sub_zero, List.map_take]
    have e3 : ((bv bs).drop k).take (k + n - k) = bv ((bs.drop k).take n) := by
      unfold bv; rw [List.map_take, List.map_drop, Nat.add_sub_cancel_left]
    rw [e1] at c1; rw [e3] at c3
    generalize hsum : sumB (bs.take (k + n)) = sm
    refine ⟨⟨by omega, by omega, by omega, by omega⟩, sum_of c1 (ok_take hok _) (by rw [List.length_take]; omega) ⟨_, rfl, ?_⟩⟩
    rw [hsum]
    refine four_of fun l1 h3 B1 K1 N1 => ⟨l1, rfl, ?_⟩
    have l1n : l1.n = 4 := by have := B1.len; rw [bv_length] at this; simp [fourB] at this; omega
    have r1 := B1.row
    rw [Nat.mul_one] at r1
    have hr3 := K1.row hr
    generalize hfour : fourB sm = four at r1
    have f4 : four.length = 4 := by rw [← hfour]; rfl
    generalize hrest : (bs.drop (k + n)).take 4 = rest
    have rl : rest.length = 4 := by rw [← hrest, List.length_take, List.length_drop]; omega
    have rat : ∀ i, (hi : i < 4) → bs[k + n + i]'(by omega) = rest[i]'(by omega) := fun i hi => by simp [← hrest]
    have fin : four ≠ rest → Q (.tuple ⟨[.slice none 0 0, .int .i64 0, .int .i64 23]⟩) h3 := fun hne => none_ 23 h3 (by unfold unF; rw [if_pos h0, if_neg hbig, hkk, hn, Int.toNat_natCast, if_neg (by omega), hsum, hfour, hrest, if_neg hne]) K1
    refine ⟨fun n4 h4 => h4 = h3 ∧ ∃ i : Nat, n4 = (i : Int) ∧ i ≤ 4 ∧ four.take i = rest.take i, fun n4 _ => 4 - n4.toNat, ⟨rfl, 0, rfl, Nat.zero_le _, by simp⟩, ?_⟩
    rintro n4 h4 ⟨rfl, i, rfl, hi, ht⟩
    refine ⟨fun hlt => ?_, fun hge => ?_⟩
    · have hi1 : i < 4 := by omega
      have w5 : IntKind.wrap .i64 (((k + n : Nat) : Int) + (i : Int)) = ((k + n + i : Nat) : Int) := by rw [wrap_i64 (by omega) (by omega)]; omega
      rw [w5]
      obtain ⟨b0, o0, ha0, hat0⟩ := row_get hr3 (i := k + n + i) (by omega)
      obtain ⟨b1, o1, ha1, hat1⟩ := row_get r1 (i := i) (by omega)
      have v0 : (bv bs)[k + n + i]? = some (Value.int .u8 rest[i]) := by rw [← rat i hi1]; simp [bv, show k + n + i < bs.length by omega]
      have v1 : (bv four)[i]? = some (Value.int .u8 four[i]) := by simp [bv, show i < four.length by omega]
      refine ⟨b0, o0, ha0, ⟨by omega, by omega⟩, _, by rw [Int.toNat_natCast, hat0 _ (by omega), v0], b1, o1, ha1, ⟨by omega, by omega⟩, _, by rw [Int.toNat_natCast, hat1 _ (by omega), v1], fun he => ?_, fun hne => fin fun q => hne ?_⟩
      · rw [next_b (n := 4) hi1 (by decide)]
        exact ⟨⟨rfl, i + 1, rfl, hi1, eq_step (by omega) (by omega) ht he.symm⟩, by dsimp only; omega⟩
      · have h1 : i < four.length := by omega
        have h2 : i < rest.length := by omega
        have : four[i] = rest[i] := by simp only [q]
        exact this.symm
    · have hi4 : i = 4 := by omega
      subst hi4
      rw [List.take_of_length_le (by omega), List.take_of_length_le (by omega)] at ht
      have he : unF bs = ((bs.drop k).take n, k + n + 4, 0) := by
        unfold unF; rw [if_pos h0, if_neg hbig, hkk, hn, Int.toNat_natCast, if_neg (by omega), hsum, hfour, hrest, if_pos ht]
      have hnl : ((bs.drop k).take n).length = n := by rw [List.length_take, List.length_drop]; omega
      refine ⟨⟨by omega, by omega, by omega, by omega⟩, bv ((bs.drop k).take n), by rw [Nat.mul_one]; exact K1.row c3, bv_one _, ?_⟩
      refine append_buf (Buf.nil h4 1 5) rfl (by rw [bv_length, hnl]; omega) (by show (0 + _) * 1 ≤ _; omega) fun l2 h5 B2 hn2 U2 => ?_
      have r2 := B2.row
      rw [Nat.mul_one, List.nil_append] at r2
      have := hQ l2 h5
      rw [he] at this
      exact this r2 (K1.trans (U2.keepNil rfl))
/-- What current's bytes point to. -/
def ptS (bs : List Int) : ByteArray × Int :=
  if (unF bs).2.2 = 0 ∧ ((unF bs).2.1 : Int) = (bs.length : Int) ∧ (numL (unF bs).1).2.2 = true ∧ (numL (unF bs).1).1 = 109 then (toB (unF bs).1, 0) else (⟨#[]⟩, 140)
def ptV (bs : List Int) : Value := .tuple ⟨[.string (ptS bs).1, .int .i64 (ptS bs).2]⟩
theorem ptV_bad {bs : List Int} (h : ¬ ((unF bs).2.2 = 0 ∧ ((unF bs).2.1 : Int) = (bs.length : Int) ∧ (numL (unF bs).1).2.2 = true ∧ (numL (unF bs).1).1 = 109)) : ptV bs = .tuple ⟨[.string ⟨#[]⟩, .int .i64 140]⟩ := by
  unfold ptV ptS; rw [if_neg h]
theorem ptV_good {bs : List Int} (h : (unF bs).2.2 = 0 ∧ ((unF bs).2.1 : Int) = (bs.length : Int) ∧ (numL (unF bs).1).2.2 = true ∧ (numL (unF bs).1).1 = 109) : ptV bs = .tuple ⟨[.string (toB (unF bs).1), .int .i64 0]⟩ := by
  unfold ptV ptS; rw [if_pos h]
theorem points_of {h : Hp} {l : Sl} {bs : List Int} {Q : Value → Hp → Prop} (T : Tab h) (hr : h.row l.a l.n (bv bs)) (hc : l.n ≤ l.c) (hok : okB8 bs) (hs : bs.length + 20 ≤ 140737488355328)
    (hQ : ∀ h', Keep h h' → Q (ptV bs) h') : F14.T l h Q := by
  have hln : l.n = bs.length := by have := hr.1; rw [bv_length] at this; exact this.symm
  refine unframe_of T hr hc hok hs fun l1 h1 r1 K1 => ⟨l1, _, _, rfl, toB (unF bs).1, by rw [toB_V (unF_ok hok)]; exact r1, number_of fun h2 K2 => ?_⟩
  rw [bI_toB' (unF_ok hok)]
  have K := K1.trans K2
  have bad : ¬ ((unF bs).2.2 = 0 ∧ ((unF bs).2.1 : Int) = (bs.length : Int) ∧ (numL (unF bs).1).2.2 = true ∧ (numL (unF bs).1).1 = 109) → Q (.tuple ⟨[.string (ByteArray.mk #[]), .int .i64 140]⟩) h2 := fun hb => by
    have := hQ h2 K; rw [ptV_bad hb] at this; exact this
  refine ⟨(numL (unF bs).1).1, (numL (unF bs).1).2.1, (numL (unF bs).1).2.2, fun ht => ⟨by unfold numV; rw [ht], fun h0 => ⟨fun hn => ⟨fun hk => ?_, fun hk => bad fun q => hk q.2.2.2⟩, fun hn => bad fun q => hn (by omega)⟩, fun h0 => bad fun q => h0 q.1⟩,
    fun hf => ⟨by unfold numV; rw [hf], fun h0 => ⟨fun hn => bad fun q => (by rw [q.2.2.1] at hf; cases hf), fun hn => bad fun q => hn (by omega)⟩, fun h0 => bad fun q => h0 q.1⟩⟩
  refine ⟨toB (unF bs).1, by rw [toB_V (unF_ok hok)]; exact K2.row r1, ?_⟩
  have := hQ h2 K
  rw [ptV_good ⟨h0, by omega, ht, hk⟩] at this
  exact this
theorem points_doc {h : Hp} {l : Sl} {bs : List Int} {Q : Value → Hp → Prop} (hr : h.row l.a l.n (bv bs)) (hc : l.n ≤ l.c) (hok : okB8 bs) (hs : bs.length + 20 ≤ 140737488355328)
    (hQ : ∀ h', Keep h h' → Q (ptV bs) h') : F15.T l h Q := by
  have hln : l.n = bs.length := by have := hr.1; rw [bv_length] at this; exact this.symm
  refine unframe_doc hr hc hok hs fun l1 h1 r1 K1 => ⟨l1, _, _, rfl, fun h0 => ⟨fun hn => ⟨toB (unF bs).1, by rw [toB_V (unF_ok hok)]; exact r1, number_of' ?_⟩, fun hn => ?_⟩, fun h0 => ?_⟩
  · rw [bI_toB' (unF_ok hok)]
    refine ⟨(numL (unF bs).1).1, (numL (unF bs).1).2.1, (numL (unF bs).1).2.2, fun ht => ⟨by unfold numV; rw [ht], fun hk => ?_, fun hk => ?_⟩, fun hf => ⟨by unfold numV; rw [hf], ?_⟩⟩
    · refine ⟨toB (unF bs).1, by rw [toB_V (unF_ok hok)]; exact r1, ?_⟩
      have := hQ h1 K1
      rw [ptV_good ⟨h0, by omega, ht, hk⟩] at this
      exact this
    · have := hQ h1 K1; rw [ptV_bad fun q => hk q.2.2.2] at this; exact this
    · have := hQ h1 K1; rw [ptV_bad fun q => by rw [q.2.2.1] at hf; cases hf] at this; exact this
  · have := hQ h1 K1; rw [ptV_bad fun q => hn (by omega)] at this; exact this
  · have := hQ h1 K1; rw [ptV_bad fun q => h0 q.1] at this; exact this
theorem same_of {h : Hp} {l l1 : Sl} {a : List Int} {Q : Value → Hp → Prop} (ha : h.row l.a l.n (bv a)) (hb : h.row l1.a l1.n (bv a)) (hs : a.length ≤ 4611686018427387904) (hT : Q (.bool true) h) : F10.T l l1 h Q := by
  have hla : l.n = a.length := by have := ha.1; rw [bv_length] at this; exact this.symm
  have hlb : l1.n = a.length := by have := hb.1; rw [bv_length] at this; exact this.symm
  refine ⟨fun he => ?_, fun hne => absurd (by omega) hne⟩
  refine ⟨fun n h1 => h1 = h ∧ ∃ i : Nat, n = (i : Int) ∧ i ≤ a.length, fun n _ => a.length - n.toNat, ⟨rfl, 0, rfl, Nat.zero_le _⟩, ?_⟩
  rintro n h1 ⟨rfl, i, rfl, hi⟩
  refine ⟨fun hlt => ?_, fun hge => hT⟩
  have ia : i < a.length := by omega
  obtain ⟨b0, o0, ha0, hat⟩ := row_get ha (i := i) (by omega)
  obtain ⟨b1, o1, hb1, hbt⟩ := row_get hb (i := i) (by omega)
  have v0 : (bv a)[i]? = some (Value.int .u8 a[i]) := by simp [bv, ia]
  refine ⟨b0, o0, ha0, ⟨by omega, hlt⟩, a[i], by rw [Int.toNat_natCast, hat i (by omega), v0], b1, o1, hb1, ⟨by omega, by omega⟩, a[i], by rw [Int.toNat_natCast, hbt i (by omega), v0], fun e => ?_, fun e => absurd rfl e⟩
  rw [next_b ia hs]
  exact ⟨⟨rfl, i + 1, rfl, ia⟩, by dsimp only; omega⟩
end Go.Eng.YtblghgacokoklaaDoor
