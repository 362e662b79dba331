/-
  SPECS OF THE NAMES, 3: a file's name by its kind and number.
-/
import Derived.Test.YtblghgacokoklaaDoorD2
set_option linter.unusedSimpArgs false
set_option linter.unusedVariables false
namespace Go.Eng.YtblghgacokoklaaDoor
/-- The last i digits. -/
def dl : Nat → Nat → List Int
  | 0, _ => []
  | i + 1, m => ((48 + m / 10 ^ i % 10 : Nat) : Int) :: dl i m
theorem dl_len : ∀ i m, (dl i m).length = i
  | 0, m => rfl
  | i + 1, m => by simp [dl, dl_len i m]
theorem dl_ok : ∀ i m, okB8 (dl i m)
  | 0, m => fun c hc => by cases hc
  | i + 1, m => fun c hc => by
    rcases List.mem_cons.1 hc with rfl | hc
    · have := Nat.mod_lt (m / 10 ^ i) (y := 10) (by decide)
      omega
    · exact dl_ok i m c hc
def nameB (k : Int) (m : Nat) : ByteArray := if kdB k = true ∧ m < 1000000000000 then toB (k :: 45 :: dl 12 m) else ⟨#[]⟩
theorem kd_ok {k : Int} (h : kdB k = true) : 0 ≤ k ∧ k < 256 := by
  simp [kdB] at h
  omega
theorem toB_append (a b : List Int) : toB (a ++ b) = toB a ++ toB b := by
  unfold toB
  apply ByteArray.ext
  rw [ByteArray.data_append]
  apply Array.ext'
  simp
theorem digit8 (m : Nat) : IntKind.wrap .u8 (48 + IntKind.wrap .u8 (Int.tmod (m : Int) 10)) = ((48 + m % 10 : Nat) : Int) := by
  rw [Int.tmod_eq_emod_of_nonneg (by omega)]
  simp only [IntKind.wrap_u8]
  omega
theorem div10 (m : Nat) (h : m < 18446744073709551616) : IntKind.wrap .u64 (Int.tdiv (m : Int) 10) = ((m / 10 : Nat) : Int) := by
  rw [Int.tdiv_eq_ediv_of_nonneg (by omega), wrap_u64 (by omega) (by omega)]
  omega
theorem div_pow (m i : Nat) : m / 10 ^ i / 10 = m / 10 ^ (i + 1) := by rw [Nat.pow_succ, Nat.div_div_eq_div_mul]
theorem name_of' {h : Hp} {k : Int} {m : Nat} {Q : Value → Hp → Prop} (hm : m < 18446744073709551616) (hQ : ∀ h', Keep h h' → Q (.string (nameB k m)) h') : F9.T k (m : Int) h Q := by
  have bad : ¬ (kdB k = true ∧ m < 1000000000000) → Q (.string (ByteArray.mk #[])) h := fun hb => by
    have := hQ h (Keep.refl h)
    unfold nameB at this
    rw [if_neg hb] at this
    exact this
  have big : ((1000000000000 : Int) ≤ (m : Int)) → Q (.string (ByteArray.mk #[])) h := fun hb => bad fun q => by omega
  refine ⟨fun h1 => h1 = h ∧ kdB k = true ∧ m < 1000000000000, ?_, ?_⟩
  · rintro h1 ⟨rfl, hk, hlt⟩
    refine ⟨fun n2 s n3 h2 => ∃ i : Nat, n3 = (i : Int) ∧ i ≤ 12 ∧ n2 = ((m / 10 ^ i : Nat) : Int) ∧ s = toB (dl i m) ∧ Keep h1 h2, fun _ _ n3 _ => 12 - n3.toNat, ⟨0, rfl, by decide, by simp, rfl, Keep.refl _⟩, ?_⟩
    rintro n2 s n3 h2 ⟨i, rfl, hi, rfl, rfl, K⟩
    have hdm : m / 10 ^ i < 18446744073709551616 := Nat.lt_of_le_of_lt (Nat.div_le_self _ _) hm
    refine ⟨fun hc => ⟨by decide, fun b hb => ?_⟩, fun hc b hb => ?_⟩
    · have hi1 : i < 12 := by omega
      rw [digit8]
      have ok1 : okB8 [((48 + m / 10 ^ i % 10 : Nat) : Int)] := fun c hc => by
        simp only [List.mem_singleton] at hc
        have := Nat.mod_lt (m / 10 ^ i) (y := 10) (by decide)
        omega
      refine ⟨toB [((48 + m / 10 ^ i % 10 : Nat) : Int)], by rw [toB_V ok1]; exact row_new _ _ _ _ _ rfl, ?_, by decide, ?_⟩
      · rw [toB_size, toB_size, dl_len]; simp only [List.length_singleton]; omega
      · rw [next_b (n := 12) hi1 (by decide), div10 _ hdm]
        exact ⟨⟨i + 1, rfl, hi1, by rw [div_pow], by rw [← toB_append]; rfl, K.trans (Keep.new hb _)⟩, by dsimp only; omega⟩
    · have hi2 : i = 12 := by omega
      subst hi2
      have ok2 : okB8 [k, 45] := fun c hc => by
        have := kd_ok hk
        simp only [List.mem_cons, List.not_mem_nil, or_false] at hc
        omega
      refine ⟨toB [k, 45], by rw [toB_V ok2]; exact row_new _ _ _ _ _ rfl, ?_, ?_⟩
      · rw [toB_size, toB_size, dl_len]; simp only [List.length_cons, List.length_nil]; omega
      · rw [← toB_append]
        have := hQ _ (K.trans (Keep.new hb (.cells ⟨[.int .u8 k, .int .u8 45]⟩ 5 (0, 0))))
        unfold nameB at this
        rw [if_pos ⟨hk, hlt⟩] at this
        exact this
  · have good : kdB k = true → ¬ ((1000000000000 : Int) ≤ (m : Int)) → h = h ∧ kdB k = true ∧ m < 1000000000000 := fun a b => ⟨rfl, a, by omega⟩
    exact ⟨fun e => ⟨big, good (by simp [kdB, e])⟩, fun n1 => ⟨fun e => ⟨big, good (by simp [kdB, e])⟩, fun n2 => ⟨fun e => ⟨big, good (by simp [kdB, e])⟩, fun n3 => bad fun q => by have := q.1; simp [kdB, n1, n2, n3] at this⟩⟩⟩
/-- The bytes of a name that is being made. -/
def nmC (k : Int) (m i : Nat) : List Int := k :: 45 :: (List.replicate (12 - i) 48 ++ dl i m)
theorem nmC_len (k : Int) (m i : Nat) (hi : i ≤ 12) : (nmC k m i).length = 14 := by
  simp only [nmC, List.length_cons, List.length_append, List.length_replicate, dl_len]
  omega
theorem nmC_at (k : Int) (m i : Nat) (hi : i < 12) : (bv (nmC k m i))[13 - i]? = some (.int .u8 48) := by
  obtain ⟨j, hj⟩ : ∃ j, 12 - i = j + 1 := ⟨11 - i, by omega⟩
  have e : 13 - i = j + 1 + 1 := by omega
  unfold bv nmC
  rw [List.getElem?_map, e, List.getElem?_cons_succ, List.getElem?_cons_succ, List.getElem?_append_left (by rw [List.length_replicate]; omega), List.getElem?_replicate, if_pos (by omega)]
  rfl
theorem nmC_set (k : Int) (m i : Nat) (hi : i < 12) : (bv (nmC k m i)).set (13 - i) (.int .u8 ((48 + m / 10 ^ i % 10 : Nat) : Int)) = bv (nmC k m (i + 1)) := by
  obtain ⟨j, hj⟩ : ∃ j, 12 - i = j + 1 := ⟨11 - i, by omega⟩
  have e : 13 - i = j + 1 + 1 := by omega
  have e2 : 12 - (i + 1) = j := by omega
  unfold bv nmC
  rw [e, e2, hj, ← List.map_set, List.set_cons_succ, List.set_cons_succ, List.replicate_succ', List.append_assoc, List.set_append_right _ _ (by rw [List.length_replicate]; omega), List.length_replicate, Nat.sub_self]
  rfl
theorem dl_zero (m : Nat) : ∀ j i, m / 10 ^ i = 0 → dl (i + j) m = List.replicate j 48 ++ dl i m
  | 0, i, h => rfl
  | j + 1, i, h => by
    show dl (i + j + 1) m = _
    rw [dl, dl_zero m j i h, List.replicate_succ, List.cons_append]
    have : m / 10 ^ (i + j) = 0 := by
      rw [Nat.pow_add, ← Nat.div_div_eq_div_mul, h, Nat.zero_div]
    rw [this]
    rfl
theorem nmC_end (k : Int) (m i : Nat) (hi : i ≤ 12) (h : m / 10 ^ i = 0) : nmC k m i = k :: 45 :: dl 12 m := by
  unfold nmC
  have := dl_zero m (12 - i) i h
  rw [show i + (12 - i) = 12 by omega] at this
  rw [this]
theorem nmC_ok {k : Int} (hk : kdB k = true) (m i : Nat) : okB8 (nmC k m i) := by
  intro c hc
  rcases List.mem_cons.1 hc with rfl | hc
  · exact kd_ok hk
  rcases List.mem_cons.1 hc with rfl | hc
  · omega
  rcases List.mem_append.1 hc with hc | hc
  · have := (List.mem_replicate.1 hc).2
    omega
  · exact dl_ok i m c hc
theorem name_of {h : Hp} {k : Int} {m : Nat} {Q : Value → Hp → Prop} (hm : m < 18446744073709551616) (hQ : ∀ h', Keep h h' → Q (.string (nameB k m)) h') : F8.T k (m : Int) h Q := by
  have bad : ¬ (kdB k = true ∧ m < 1000000000000) → Q (.string (ByteArray.mk #[])) h := fun hb => by
    have := hQ h (Keep.refl h)
    unfold nameB at this
    rw [if_neg hb] at this
    exact this
  refine kinded_spec ⟨_, rfl, fun hk => ⟨fun hb => bad fun q => by omega, fun hb b1 hb1 => ?_⟩, fun hk => bad fun q => by rw [q.1] at hk; cases hk⟩
  have hlt : m < 1000000000000 := by omega
  generalize hO : (Obj.cells ⟨[.int .u8 63, .int .u8 45, .int .u8 48, .int .u8 48, .int .u8 48, .int .u8 48, .int .u8 48, .int .u8 48, .int .u8 48, .int .u8 48, .int .u8 48, .int .u8 48, .int .u8 48, .int .u8 48]⟩ 5 (0, 0)) = O
  have h0 : (h.new b1 O) b1 = some O := by unfold Hp.new; rw [if_pos rfl]
  refine ⟨_, _, by rw [h0, ← hO], b1, 0, rfl, ⟨by decide, by decide⟩, ?_⟩
  have h1 : ((h.new b1 O).new b1 (.cells ⟨[.int .u8 63, .int .u8 45, .int .u8 48, .int .u8 48, .int .u8 48, .int .u8 48, .int .u8 48, .int .u8 48, .int .u8 48, .int .u8 48, .int .u8 48, .int .u8 48, .int .u8 48, .int .u8 48]⟩ 5 (14, 15))) b1 = some (.cells ⟨[.int .u8 63, .int .u8 45, .int .u8 48, .int .u8 48, .int .u8 48, .int .u8 48, .int .u8 48, .int .u8 48, .int .u8 48, .int .u8 48, .int .u8 48, .int .u8 48, .int .u8 48, .int .u8 48]⟩ 5 (14, 15)) := by
    generalize (h.new b1 O) = h9
    unfold Hp.new; rw [if_pos rfl]
  have K1 : Keep h ((h.new b1 O).new b1 (.cells ⟨[.int .u8 63, .int .u8 45, .int .u8 48, .int .u8 48, .int .u8 48, .int .u8 48, .int .u8 48, .int .u8 48, .int .u8 48, .int .u8 48, .int .u8 48, .int .u8 48, .int .u8 48, .int .u8 48]⟩ 5 (14, 15))) := by
    intro x o hx
    have hne : x ≠ b1 := fun e => by rw [e, hb1] at hx; cases hx
    unfold Hp.new
    rw [if_neg hne, if_neg hne]
    exact hx
  have frz : ∀ (c : Array Value) (hp : Hp), hp b1 = some (.cells c 5 (14, 15)) → c.size = 14 → ∀ j, j < 14 → hp.canW b1 j 1 := fun c hp e hs j hj =>
    ⟨c, 5, (14, 15), e, by omega, fun i h1 h2 h3 => by have := h3.1; simp only at this; omega⟩
  refine ⟨frz _ _ h1 rfl 0 (by decide), ?_⟩
  have K2 : ∀ (hp : Hp) (o : Nat) (vs : List Value), Keep h hp → Keep h (hp.wr b1 o vs) := by
    intro hp o vs K x ob hx
    have hne : x ≠ b1 := fun e => by rw [e, hb1] at hx; cases hx
    unfold Hp.wr
    rw [if_neg hne]
    exact K x ob hx
  refine ⟨fun n2 n3 h2 => ∃ i : Nat, i ≤ 12 ∧ n2 = ((m / 10 ^ i : Nat) : Int) ∧ n3 = 13 - (i : Int) ∧ Keep h h2 ∧ h2 b1 = some (.cells ⟨bv (nmC k m i)⟩ 5 (14, 15)), fun n2 _ _ => n2.toNat, ⟨0, by decide, by simp, by decide, K2 _ _ _ K1, ?_⟩, ?_⟩
  · exact (wr_at h1).trans rfl
  rintro n2 n3 h2 ⟨i, hi, rfl, rfl, K, hc⟩
  have hdm : m / 10 ^ i < 18446744073709551616 := Nat.lt_of_le_of_lt (Nat.div_le_self _ _) hm
  refine ⟨fun hpos => ?_, fun hz => ?_⟩
  · have hi1 : i < 12 := by
      apply Classical.byContradiction
      intro hn
      have : i = 12 := by omega
      subst this
      rw [Nat.div_eq_of_lt (by omega)] at hpos
      exact absurd hpos (by decide)
    have hidx : ((13 : Int) - (i : Int)).toNat = 13 - i := by omega
    have ha : h2.at b1 (0 + ((13 : Int) - (i : Int)).toNat) = some (.int .u8 48) := by
      rw [hidx, Nat.zero_add]
      unfold Hp.at
      rw [hc]
      show (List.toArray _)[13 - i]? = _
      rw [List.getElem?_toArray]
      exact nmC_at k m i hi1
    refine ⟨b1, 0, rfl, ⟨by omega, by omega⟩, 48, ha, by decide, b1, 0, rfl, ⟨by omega, by omega⟩, ?_, by decide, ?_⟩
    · rw [hidx, Nat.zero_add]
      exact frz _ _ hc (by show (bv (nmC k m i)).length = 14; rw [bv_length, nmC_len k m i hi]) _ (by omega)
    · rw [digit8, div10 _ hdm, hidx, Nat.zero_add]
      have hw : IntKind.wrap .i64 (13 - (i : Int) - 1) = 13 - ((i + 1 : Nat) : Int) := by rw [wrap_i64 (by omega) (by omega)]; omega
      rw [hw]
      refine ⟨⟨i + 1, hi1, by rw [div_pow], rfl, K2 _ _ _ K, ?_⟩, by dsimp only; omega⟩
      rw [wr_at hc]
      show some (Obj.cells (List.toArray ((bv (nmC k m i)).set (13 - i) _)) 5 (14, 15)) = _
      rw [nmC_set k m i hi1]
  · have hz0 : m / 10 ^ i = 0 := Nat.eq_zero_of_not_pos fun q => hz (Int.natCast_pos.2 q)
    have e := nmC_end k m i hi hz0
    rw [e] at hc
    have hname : nameB k m = toB (k :: 45 :: dl 12 m) := by unfold nameB; rw [if_pos ⟨hk, hlt⟩]
    refine ⟨nameB k m, ?_, hQ h2 K⟩
    rw [hname, toB_V (by rw [← e]; exact nmC_ok hk m i)]
    refine ⟨by rw [bv_length]; simp [dl_len], .inr ⟨b1, 0, rfl, fun j hj => ?_⟩⟩
    rw [Nat.zero_add]
    unfold Hp.at
    rw [hc]
    exact List.getElem?_toArray ..
end Go.Eng.YtblghgacokoklaaDoor
