/-
  SPECS OF THE NAMES, 4: the document's numbers, sums and frames.
-/
import Derived.Test.YtblghgacokoklaaDoorD3
set_option linter.unusedSimpArgs false
set_option linter.unusedVariables false
namespace Go.Eng.YtblghgacokoklaaDoor
theorem and127d (c : Nat) (h : c < 256) : bitsI .and .u8 (c : Int) 127 = ((c % 128 : Nat) : Int) := by
  have key : ∀ x : Fin 256, bitsI .and .u8 ((x.val : Nat) : Int) 127 = ((x.val % 128 : Nat) : Int) := by decide +kernel
  exact key ⟨c, h⟩
theorem tmod128d (c : Int) (h0 : 0 ≤ c) (h1 : c < 256) : Int.tmod c 128 = bitsI .and .u8 c 127 := by
  obtain ⟨m, rfl⟩ : ∃ m : Nat, c = (m : Int) := ⟨c.toNat, by omega⟩
  rw [and127d m (by omega), Int.tmod_eq_emod_of_nonneg h0]
  omega
theorem uint2_spec {h : Hp} {l : Sl} {bs : List Int} {Q : Value → Hp → Prop} (hr : h.row l.a l.n (bv bs)) (hok : ∀ c ∈ bs, 0 ≤ c ∧ c < 256)
    (hQ : Q (.tuple ⟨[.int .u64 (uR 0 0 bs).1, .int .i64 ((uR 0 0 bs).2.1 : Int), .int .i64 (uR 0 0 bs).2.2]⟩) h) : F89.T l h Q := by
  have hln : l.n = bs.length := by have := hr.1; rw [bv_length] at this; exact this.symm
  refine ⟨fun n n1 h1 => h1 = h ∧ ∃ i : Nat, n1 = (i : Int) ∧ i ≤ bs.length ∧ i ≤ 9 ∧ uR i n (bs.drop i) = uR 0 0 bs, fun _ n1 _ => bs.length - n1.toNat, ⟨rfl, 0, rfl, Nat.zero_le _, by decide, rfl⟩, ?_⟩
  rintro n n1 h1 ⟨rfl, i, rfl, hi, hi9, hu⟩
  refine ⟨fun hlt => ?_, fun hge => ?_⟩
  · have hi1 : i < bs.length := by omega
    have hb := hok _ (List.getElem_mem hi1)
    obtain ⟨b, o, ha, hat⟩ := row_get hr (i := i) (by omega)
    have hv : (bv bs)[i]? = some (Value.int .u8 bs[i]) := by simp [bv, hi1]
    have hw : IntKind.wrap .u64 (IntKind.wrap .i64 (7 * (i : Int))) = 7 * (i : Int) := by rw [wrap_i64 (by omega) (by omega), wrap_u64 (by omega) (by omega)]
    have hw1 : IntKind.wrap .i64 ((i : Int) + 1) = ((i + 1 : Nat) : Int) := by rw [wrap_i64 (by omega) (by omega)]; omega
    rw [List.drop_eq_getElem_cons hi1, uR] at hu
    have bad : ((bs[i] = 0 ∧ 0 < i) ∨ (i = 9 ∧ bs[i] ≠ 1)) → Q (.tuple ⟨[.int .u64 0, .int .i64 0, .int .i64 21]⟩) h1 := fun hb => by
      rw [if_pos hb] at hu; rw [← hu] at hQ; exact hQ
    refine ⟨b, o, ha, ⟨by omega, hlt⟩, bs[i], by rw [Int.toNat_natCast, hat i (by omega), hv], fun h2 => h2 = h1 ∧ ¬ ((bs[i] = 0 ∧ 0 < i) ∨ (i = 9 ∧ bs[i] ≠ 1)), ?_, ?_⟩
    · rintro h2 ⟨rfl, hn⟩
      rw [if_neg hn] at hu
      rw [hw, hw1, tmod128d _ hb.1 hb.2]
      refine ⟨by decide, by omega, fun hc => ?_, fun hc => ⟨⟨rfl, i + 1, rfl, hi1, ?_, ?_⟩, ?_⟩⟩
      · rw [if_pos hc] at hu; rw [← hu] at hQ; exact hQ
      · by_cases h9 : i = 9
        · exact absurd (.inr ⟨h9, fun h1 => hc (by rw [h1]; decide)⟩) hn
        · omega
      · rw [if_neg hc] at hu; exact hu
      · show bs.length - ((i + 1 : Nat) : Int).toNat < bs.length - (i : Int).toNat
        omega
    · refine ⟨fun hi0 => ⟨fun h0 => bad (.inl ⟨h0, by omega⟩), fun h0 => ⟨fun h9 => ⟨fun h1 => ⟨rfl, by omega⟩, fun h1 => bad (.inr ⟨by omega, h1⟩)⟩, fun h9 => ⟨rfl, by omega⟩⟩⟩, fun hi0 => ⟨fun h9 => ⟨fun h1 => ⟨rfl, by omega⟩, fun h1 => bad (.inr ⟨by omega, h1⟩)⟩, fun h9 => ⟨rfl, by omega⟩⟩⟩
  · have hi2 : bs.length ≤ i := by omega
    rw [List.drop_of_length_le hi2, uR] at hu
    rw [← hu] at hQ
    exact hQ

/-! ### The document's sum -/
def bsN : Nat → Nat → Nat
  | 0, x => x
  | j + 1, x => bs1 (bsN j x)
theorem bsN_lt : ∀ j {x : Nat}, x < 4294967296 → bsN j x < 4294967296
  | 0, x, h => h
  | j + 1, x, h => bs1_lt (bsN_lt j h)
theorem half (x : Nat) (h : x < 4294967296) : IntKind.wrap .u32 (Int.tdiv (x : Int) 2) = ((x / 2 : Nat) : Int) := by
  rw [Int.tdiv_eq_ediv_of_nonneg (by omega), IntKind.wrap_u32]
  omega
theorem sum_of {h : Hp} {l : Sl} {bs : List Int} {Q : Value → Hp → Prop} (hr : h.row l.a l.n (bv bs)) (hok : okB8 bs) (hs : bs.length ≤ 4611686018427387904)
    (hQ : Q (.int .u32 ((sumB bs : Nat) : Int)) h) : F84.T l h Q := by
  have hln : l.n = bs.length := by have := hr.1; rw [bv_length] at this; exact this.symm
  refine ⟨fun n n1 h1 => h1 = h ∧ ∃ i : Nat, n1 = (i : Int) ∧ i ≤ bs.length ∧ ∃ x : Nat, n = (x : Int) ∧ x < 4294967296 ∧ sumN x (nat (bs.drop i)) = sumN 4294967295 (nat bs), fun _ n1 _ => bs.length - n1.toNat, ⟨rfl, 0, rfl, Nat.zero_le _, 4294967295, rfl, by decide, rfl⟩, ?_⟩
  rintro n n1 h1 ⟨rfl, i, rfl, hi, x, rfl, hx, hu⟩
  refine ⟨fun hlt => ?_, fun hge => ?_⟩
  · have hi1 : i < bs.length := by omega
    have hb := hok _ (List.getElem_mem hi1)
    obtain ⟨b, o, ha, hat⟩ := row_get hr (i := i) (by omega)
    obtain ⟨m, hm⟩ : ∃ m : Nat, bs[i] = (m : Int) := ⟨bs[i].toNat, by omega⟩
    have hv : (bv bs)[i]? = some (Value.int .u8 (m : Int)) := by simp [bv, hi1, hm]
    obtain ⟨e1, hy⟩ := xor_step hx (m := m) (by omega)
    refine ⟨b, o, ha, ⟨by omega, hlt⟩, (m : Int), by rw [Int.toNat_natCast, hat i (by omega), hv], ?_⟩
    rw [e1]
    refine ⟨fun n3 n4 h2 => h2 = h1 ∧ ∃ j : Nat, n4 = (j : Int) ∧ j ≤ 8 ∧ n3 = ((bsN j (x ^^^ m) : Nat) : Int), fun _ n4 _ => 8 - n4.toNat, ⟨rfl, 0, rfl, Nat.zero_le _, rfl⟩, ?_⟩
    rintro n3 n4 h2 ⟨rfl, j, rfl, hj, rfl⟩
    have hz := bsN_lt j hy
    refine ⟨fun hlt8 => ⟨by decide, fun odd => ⟨by decide, ?_⟩, fun even => ⟨by decide, ?_⟩⟩, fun hge8 => ?_⟩
    · have hj1 : j < 8 := by omega
      have ho : bsN j (x ^^^ m) % 2 = 1 := by
        rw [Int.tmod_eq_emod_of_nonneg (by omega)] at odd
        omega
      have e : bitsI .xor .u32 (IntKind.wrap .u32 (Int.tdiv ((bsN j (x ^^^ m) : Nat) : Int) 2)) 2197175160 = ((bsN (j + 1) (x ^^^ m) : Nat) : Int) := by
        rw [half _ hz, show (2197175160 : Int) = ((2197175160 : Nat) : Int) from rfl, xor32 _ _ (by omega) (by decide)]
        show _ = ((bs1 (bsN j (x ^^^ m)) : Nat) : Int)
        unfold bs1
        rw [if_pos ho]
      rw [e, next_b (n := 8) hj1 (by decide)]
      exact ⟨⟨rfl, j + 1, rfl, hj1, rfl⟩, by dsimp only; omega⟩
    · have hj1 : j < 8 := by omega
      have ho : ¬ bsN j (x ^^^ m) % 2 = 1 := by
        rw [Int.tmod_eq_emod_of_nonneg (by omega)] at even
        omega
      have e : IntKind.wrap .u32 (Int.tdiv ((bsN j (x ^^^ m) : Nat) : Int) 2) = ((bsN (j + 1) (x ^^^ m) : Nat) : Int) := by
        rw [half _ hz]
        show _ = ((bs1 (bsN j (x ^^^ m)) : Nat) : Int)
        unfold bs1
        rw [if_neg ho, Nat.xor_zero]
      rw [e, next_b (n := 8) hj1 (by decide)]
      exact ⟨⟨rfl, j + 1, rfl, hj1, rfl⟩, by dsimp only; omega⟩
    · have hj8 : j = 8 := by omega
      subst hj8
      rw [next_b hi1 hs]
      refine ⟨⟨rfl, i + 1, rfl, hi1, _, rfl, hz, ?_⟩, by dsimp only; omega⟩
      rw [← hu, List.drop_eq_getElem_cons hi1]
      show _ = sumN (by1 x bs[i].toNat) (nat (bs.drop (i + 1)))
      rw [hm]
      rfl
  · have hi2 : bs.length ≤ i := by omega
    rw [List.drop_of_length_le hi2] at hu
    have e : bitsI .xor .u32 (x : Int) 4294967295 = ((sumB bs : Nat) : Int) := by
      rw [show (4294967295 : Int) = ((4294967295 : Nat) : Int) from rfl, xor32 _ _ hx (by decide)]
      unfold sumB crc
      rw [← hu]
      rfl
    rw [e]
    exact hQ
theorem four_of {h : Hp} {x : Nat} {Q : Value → Hp → Prop} (hQ : ∀ l' h', Buf h' l' 1 5 (bv (fourB x)) → Keep h h' → New h l' → Q (.slice l'.a l'.n l'.c) h') : F83.T (x : Int) h Q := by
  refine ⟨by decide, by decide, by decide, fun b hb => ?_⟩
  rw [four_cells]
  exact hQ ⟨some ⟨b, 0, none⟩, 4, 4⟩ _ ⟨rfl, Nat.le_refl _, .inr ⟨b, _, (0, 0), rfl, by unfold Hp.new; rw [if_pos rfl], by show 4 * 1 ≤ (bv (fourB x)).length; rw [bv_length]; exact Nat.le_refl 4, fun j _ => by simp, by rfl⟩⟩ (Keep.new hb _) ⟨b, rfl, hb⟩
theorem number_doc {h : Hp} {m : Nat} {Q : Value → Hp → Prop} (h1 : m < 18446744073709551616)
    (hQ : ∀ l' h', Buf h' l' 1 5 (bv (encU m)) → Keep h h' → (l'.a = none ∨ New h l') → Q (.slice l'.a l'.n l'.c) h') : F82.T (m : Int) h Q := by
  refine ⟨fun n1 l1 h1 => ∃ f ys, f ≤ 10 ∧ ys.length + f = 10 ∧ Buf h1 l1 1 5 (bv ys) ∧ Keep h h1 ∧ (l1.a = none ∨ New h l1) ∧ 0 ≤ n1 ∧ n1 < 18446744073709551616 ∧ n1.toNat < 128 ^ f ∧ 0 < f ∧ encU m = ys ++ encF f n1.toNat, fun n1 _ _ => n1.toNat,
    ⟨10, [], Nat.le_refl _, rfl, by simpa [bv] using Buf.nil h 1 5, Keep.refl _, .inl rfl, by omega, by omega, by rw [Int.toNat_natCast]; omega, by decide, rfl⟩, ?_⟩
  rintro n1 l1 h1 ⟨f, ys, hf, hys, B1, K1, N1, hn1, hn2, hlt, hf0, he⟩
  have hln : l1.n = ys.length := by have e1 := B1.len; rw [bv_length] at e1; omega
  obtain ⟨f, rfl⟩ : ∃ g, f = g + 1 := ⟨f - 1, by omega⟩
  obtain ⟨q, rfl⟩ : ∃ q : Nat, n1 = (q : Int) := ⟨n1.toNat, by omega⟩
  rw [Int.toNat_natCast] at hlt he
  refine ⟨fun hge => ⟨by decide, ?_⟩, fun hlt2 => ?_⟩
  · have hnn : ¬ q < 128 := by omega
    have hf1 : 0 < f := by
      rcases Nat.eq_zero_or_pos f with rfl | h
      · simp at hlt; omega
      · exact h
    have e8 : IntKind.wrap .u8 (IntKind.wrap .u8 (Int.tmod (q : Int) 128) + 128) = ((q % 128 + 128 : Nat) : Int) := by
      rw [Int.tmod_eq_emod_of_nonneg (by omega)]
      simp only [IntKind.wrap_u8]
      omega
    have e7 : IntKind.wrap .u64 (Int.tdiv (q : Int) 128) = ((q / 128 : Nat) : Int) := by
      rw [Int.tdiv_eq_ediv_of_nonneg (by omega), wrap_u64 (by omega) (by omega)]
      omega
    rw [e8, e7]
    refine append_buf B1 rfl rfl (by omega) fun l2 h2 B2 hn2 U2 => ⟨by decide, ⟨f, ys ++ [((q % 128 + 128 : Nat) : Int)], by omega, by simp; omega, ?_, (keep_grow K1 N1 U2).1, (keep_grow K1 N1 U2).2, by omega, by omega, ?_, hf1, ?_⟩, ?_⟩
    · rw [bv_append]; exact B2
    · rw [Int.toNat_natCast]
      rw [Nat.pow_succ] at hlt
      omega
    · rw [Int.toNat_natCast, he]
      simp only [encF, if_neg hnn, List.append_assoc, List.singleton_append]
    · dsimp only; omega
  · have hnn : q < 128 := by omega
    have hw : IntKind.wrap .u8 (q : Int) = (q : Int) := by rw [IntKind.wrap_u8]; omega
    rw [hw]
    refine append_buf B1 rfl rfl (by omega) fun l2 h2 B2 hn2 U2 => hQ l2 h2 ?_ (keep_grow K1 N1 U2).1 (keep_grow K1 N1 U2).2
    rw [he, bv_append]
    simp only [encF, if_pos hnn]
    exact B2
theorem frame_doc {h : Hp} {l : Sl} {bs : List Int} {Q : Value → Hp → Prop} (hr : h.row l.a l.n (bv bs)) (hok : okB8 bs) (hs : bs.length + 20 ≤ 140737488355328)
    (hQ : ∀ l' h', Buf h' l' 1 5 (bv (frameB bs)) → Keep h h' → (l'.a = none ∨ New h l') → Q (.slice l'.a l'.n l'.c) h') : F40.T l h Q := by
  have hln : l.n = bs.length := by have := hr.1; rw [bv_length] at this; exact this.symm
  have hw2 : IntKind.wrap .u64 (l.n : Int) = ((bs.length : Nat) : Int) := by rw [wrap_u64 (by omega) (by omega), hln]
  unfold F40.T
  rw [hw2]
  refine number_doc (by omega) fun l1 h1 B1 K1 N1 => ?_
  have l1n : l1.n = (encU bs.length).length := by have := B1.len; rw [bv_length] at this; omega
  have := encU_len bs.length
  refine ⟨l1, rfl, bv bs, by rw [Nat.mul_one]; exact K1.row hr, bv_one bs, ?_⟩
  refine append_buf B1 rfl (by rw [bv_length]; omega) (by omega) fun l2 h2 B2 hn2 U2 => ?_
  rw [← bv_append] at B2
  obtain ⟨K2, N2⟩ := keep_grow K1 N1 U2
  have l2n : l2.n = (encU bs.length ++ bs).length := by have := B2.len; rw [bv_length] at this; omega
  have r2 := B2.row
  rw [Nat.mul_one] at r2
  refine sum_of r2 (okB8_app (encU_ok _) hok) (by rw [List.length_append]; omega) ⟨_, rfl, four_of fun l3 h3 B3 K3 N3 => ?_⟩
  have r3 := B3.row
  have l3n : l3.n = 4 := by have := B3.len; rw [bv_length] at this; simp [fourB] at this; omega
  refine ⟨l3, rfl, bv (fourB (sumB (encU bs.length ++ bs))), r3, bv_one _, ?_⟩
  refine append_buf (B2.keep K3) rfl (by rw [bv_length, l3n]; rfl) (by rw [l3n]; rw [List.length_append] at l2n; omega) fun l4 h4 B4 hn4 U4 => ?_
  rw [← bv_append] at B4
  have K23 := K2.trans K3
  exact hQ l4 h4 B4 (keep_grow K23 N2 U4).1 (keep_grow K23 N2 U4).2
/-! ### The file current -/
theorem str_row {h : Hp} {b c : Nat} {s : ByteArray} (hb : h b = none) : (h.new b (.cells ⟨bytesV s ++ List.replicate (c - s.size) (.int .u8 0)⟩ 5 (c, c + 1))).row (some ⟨b, 0, none⟩) s.size (bv (bI s)) := by
  refine ⟨by rw [bv_length, bI_length], .inr ⟨b, 0, rfl, fun j hj => ?_⟩⟩
  rw [Nat.zero_add, at_new, bytesV_bI, List.getElem?_toArray, List.getElem?_append_left (by rw [bv_length, bI_length]; exact hj)]
theorem current_of {h : Hp} {s : ByteArray} {Q : Value → Hp → Prop} (T : Tab h) (hs : s.size + 20 ≤ 140737488355328)
    (hQ : ∀ l' h', Buf h' l' 1 5 (bv (frameB (bI s))) → Keep h h' → New h l' → Q (.slice l'.a l'.n l'.c) h') : F11.T s h Q := by
  intro b c hb hc
  have k0 := Keep.new hb (.cells ⟨bytesV s ++ List.replicate (c - s.size) (.int .u8 0)⟩ 5 (c, c + 1))
  refine frame_spec (T.keep k0) (str_row hb) (bI_ok s) (by rw [bI_length]; exact hs) fun l1 h1 B1 K1 N1 => ⟨l1, rfl, hQ l1 h1 B1 (k0.trans K1) ?_⟩
  obtain ⟨b1, e1, hn⟩ := N1
  exact ⟨b1, e1, k0.dom _ hn⟩
theorem current_doc {h : Hp} {s : ByteArray} {Q : Value → Hp → Prop} (hs : s.size + 20 ≤ 140737488355328)
    (hQ : ∀ l' h', Buf h' l' 1 5 (bv (frameB (bI s))) → Keep h h' → Q (.slice l'.a l'.n l'.c) h') : F12.T s h Q := by
  intro b c hb hc
  have k0 := Keep.new hb (.cells ⟨bytesV s ++ List.replicate (c - s.size) (.int .u8 0)⟩ 5 (c, c + 1))
  exact frame_doc (str_row hb) (bI_ok s) (by rw [bI_length]; exact hs) fun l1 h1 B1 K1 N1 => ⟨l1, rfl, hQ l1 h1 B1 (k0.trans K1)⟩
end Go.Eng.YtblghgacokoklaaDoor
