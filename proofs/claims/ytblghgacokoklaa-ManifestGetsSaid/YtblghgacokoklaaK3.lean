/-
  TEXTS OF MINE, JOINED: S7 S8 S9 S10 S11 S12 S13 S14 S20 S21 S22.
-/
import Derived.Test.YtblghgacokoklaaK2
section
/-
  SPECS, 7: reading numbers and texts.
-/
set_option linter.unusedSimpArgs false
set_option linter.unusedVariables false
namespace Go.Eng.Ytblghgacokoklaa
/-- A number, and one more byte of it. -/
def nx (i : Nat) (n c : Int) : Int := bitsI .or .u64 n (shlI .u64 (IntKind.wrap .u64 (bitsI .and .u8 c 127)) (7 * (i : Int)))
/-- Reading a number: it, how many bytes it takes, the error. -/
def uR : Nat → Int → List Int → Int × Nat × Int
  | _, _, [] => (0, 0, 20)
  | i, n, c :: l =>
    if (c = 0 ∧ 0 < i) ∨ (i = 9 ∧ c ≠ 1) then (0, 0, 21)
    else if c < 128 then (nx i n c, i + 1, 0) else uR (i + 1) (nx i n c) l
theorem wrapU_ok (n : Int) : okU (IntKind.wrap .u64 n) := by
  unfold okU
  simp only [IntKind.wrap, IntKind.signed, IntKind.bits]
  have h1 := Int.emod_nonneg n (b := 2 ^ 64) (by decide)
  have h2 := Int.emod_lt_of_pos n (b := 2 ^ 64) (by decide)
  constructor
  · simpa using h1
  · simpa using h2
theorem nx_ok (i : Nat) (n c : Int) : okU (nx i n c) := by
  unfold nx bitsI
  exact wrapU_ok _
theorem uR_ok : ∀ (l : List Int) (i : Nat) (n : Int), okU (uR i n l).1
  | [], i, n => by unfold uR; exact ⟨by decide, by decide⟩
  | c :: l, i, n => by
    unfold uR
    split
    · exact ⟨by decide, by decide⟩
    · split
      · exact nx_ok _ _ _
      · exact uR_ok l _ _
theorem uR_take : ∀ (l : List Int) (i : Nat) (n : Int), (uR i n l).2.2 = 0 → i < (uR i n l).2.1 ∧ (uR i n l).2.1 ≤ i + l.length
  | [], i, n => by unfold uR; intro h; exact absurd h (by decide)
  | c :: l, i, n => by
    unfold uR
    split
    · intro h; exact absurd h (by decide)
    · split
      · intro _
        simp only [List.length_cons]
        omega
      · intro h
        have := uR_take l (i + 1) _ h
        simp only [List.length_cons]
        omega
theorem uint_spec {h : Hp} {l : Sl} {bs : List Int} {Q : Value → Hp → Prop} (hr : h.row l.a l.n (bv bs))
    (hQ : Q (.tuple ⟨[.int .u64 (uR 0 0 bs).1, .int .i64 ((uR 0 0 bs).2.1 : Int), .int .i64 (uR 0 0 bs).2.2]⟩) h) : F92.T l h Q := by
  have hln : l.n = bs.length := by have := hr.1; rw [bv_length] at this; exact this.symm
  refine ⟨fun n n1 h1 => h1 = h ∧ ∃ i : Nat, n1 = (i : Int) ∧ i ≤ bs.length ∧ i ≤ 9 ∧ uR i n (bs.drop i) = uR 0 0 bs, fun _ n1 _ => bs.length - n1.toNat, ⟨rfl, 0, rfl, Nat.zero_le _, by decide, rfl⟩, ?_⟩
  rintro n n1 h1 ⟨rfl, i, rfl, hi, hi9, hu⟩
  refine ⟨fun hlt => ?_, fun hge => ?_⟩
  · have hi1 : i < bs.length := by omega
    obtain ⟨b, o, ha, hat⟩ := row_get hr (i := i) (by omega)
    have hv : (bv bs)[i]? = some (Value.int .u8 bs[i]) := by simp [bv, hi1]
    have hw : IntKind.wrap .i64 (7 * (i : Int)) = 7 * (i : Int) := wrap_i64 (by omega) (by omega)
    have hw1 : IntKind.wrap .i64 ((i : Int) + 1) = ((i + 1 : Nat) : Int) := by rw [wrap_i64 (by omega) (by omega)]; omega
    rw [List.drop_eq_getElem_cons hi1, uR] at hu
    have bad : ((bs[i] = 0 ∧ 0 < i) ∨ (i = 9 ∧ bs[i] ≠ 1)) → Q (.tuple ⟨[.int .u64 0, .int .i64 0, .int .i64 21]⟩) h1 := fun hb => by
      rw [if_pos hb] at hu; rw [← hu] at hQ; exact hQ
    refine ⟨b, o, ha, ⟨by omega, hlt⟩, bs[i], by rw [Int.toNat_natCast, hat i (by omega), hv], fun h2 => h2 = h1 ∧ ¬ ((bs[i] = 0 ∧ 0 < i) ∨ (i = 9 ∧ bs[i] ≠ 1)), ?_, ?_⟩
    · rintro h2 ⟨rfl, hn⟩
      rw [if_neg hn] at hu
      rw [hw, hw1]
      refine ⟨by omega, fun hc => ?_, fun hc => ⟨⟨rfl, i + 1, rfl, hi1, ?_, ?_⟩, ?_⟩⟩
      · rw [if_pos hc] at hu; rw [← hu] at hQ; exact hQ
      · by_cases h9 : i = 9
        · exact absurd (.inr ⟨h9, fun h1 => hc (by rw [h1]; decide)⟩) hn
        · omega
      · rw [if_neg hc] at hu; exact hu
      · show bs.length - ((i + 1 : Nat) : Int).toNat < bs.length - (i : Int).toNat
        omega
    · refine ⟨fun h0 => ⟨fun hi0 => bad (.inl ⟨h0, by omega⟩), fun hi0 => ⟨fun h9 => ⟨fun h1 => ⟨rfl, by omega⟩, fun h1 => bad (.inr ⟨by omega, h1⟩)⟩, fun h9 => ⟨rfl, by omega⟩⟩⟩, fun h0 => ⟨fun h9 => ⟨fun h1 => ⟨rfl, by omega⟩, fun h1 => bad (.inr ⟨by omega, h1⟩)⟩, fun h9 => ⟨rfl, by omega⟩⟩⟩
  · have hi2 : bs.length ≤ i := by omega
    rw [List.drop_of_length_le hi2, uR] at hu
    rw [← hu] at hQ
    exact hQ
/-! ### The reader -/
structure RS where
  b : List Int
  bad : Bool
def RS.skip (s : RS) (k : Nat) (e : Int) : RS := if e = 0 then ⟨s.b.drop k, s.bad⟩ else ⟨[], true⟩
def rU (s : RS) : Int × RS := ((uR 0 0 s.b).1, s.skip (uR 0 0 s.b).2.1 (uR 0 0 s.b).2.2)
def rW (m : Int) (s : RS) : Int × RS := if m < (rU s).1 then (0, ⟨(rU s).2.b, true⟩) else rU s
def toB (l : List Int) : ByteArray := ⟨(l.map fun n => UInt8.ofNat n.toNat).toArray⟩
def tR (l : List Int) : ByteArray × Nat × Int :=
  if (uR 0 0 l).2.2 = 0 then
    (if 64 < (uR 0 0 l).1 then (⟨#[]⟩, 0, 22)
    else if ((l.length - (uR 0 0 l).2.1 : Nat) : Int) < (uR 0 0 l).1 then (⟨#[]⟩, 0, 20)
    else (toB ((l.drop (uR 0 0 l).2.1).take (uR 0 0 l).1.toNat), (uR 0 0 l).2.1 + (uR 0 0 l).1.toNat, 0))
  else (⟨#[]⟩, 0, (uR 0 0 l).2.2)
def rT (s : RS) : ByteArray × RS := ((tR s.b).1, s.skip (tR s.b).2.1 (tR s.b).2.2)
theorem skip_le (s : RS) (k : Nat) (e : Int) : (s.skip k e).b.length ≤ s.b.length := by
  unfold RS.skip
  split
  · simp
  · simp
theorem skip_len {s : RS} {k : Nat} {e : Int} (hk : e = 0 → 0 < k ∧ k ≤ s.b.length) (h : (s.skip k e).bad = false) : s.bad = false ∧ (s.skip k e).b.length + 1 ≤ s.b.length := by
  unfold RS.skip at h ⊢
  split
  · rename_i h0
    rw [if_pos h0] at h
    have := hk h0
    refine ⟨h, ?_⟩
    simp only [List.length_drop]
    omega
  · rename_i h0
    rw [if_neg h0] at h
    cases h
theorem rU_ok (s : RS) : okU (rU s).1 := uR_ok _ _ _
theorem rU_le (s : RS) : (rU s).2.b.length ≤ s.b.length := skip_le _ _ _
theorem rU_take (s : RS) (h : (uR 0 0 s.b).2.2 = 0) : 0 < (uR 0 0 s.b).2.1 ∧ (uR 0 0 s.b).2.1 ≤ s.b.length := by
  have := uR_take s.b 0 0 h
  omega
theorem rU_len {s : RS} (h : (rU s).2.bad = false) : s.bad = false ∧ (rU s).2.b.length + 1 ≤ s.b.length := skip_len (rU_take s) h
theorem rW_ok (m : Int) (s : RS) (hm : 0 ≤ m) : 0 ≤ (rW m s).1 ∧ (rW m s).1 ≤ m := by
  unfold rW
  split
  · exact ⟨Int.le_refl 0, hm⟩
  · have := (rU_ok s).1
    omega
theorem rW_le (m : Int) (s : RS) : (rW m s).2.b.length ≤ s.b.length := by
  unfold rW
  split
  · exact rU_le s
  · exact rU_le s
theorem rW_len {m : Int} {s : RS} (h : (rW m s).2.bad = false) : s.bad = false ∧ (rW m s).2.b.length + 1 ≤ s.b.length := by
  unfold rW at h ⊢
  split
  · rename_i h0
    rw [if_pos h0] at h; cases h
  · rename_i h0
    rw [if_neg h0] at h; exact rU_len h
theorem tR_take (l : List Int) (h : (tR l).2.2 = 0) : 0 < (tR l).2.1 ∧ (tR l).2.1 ≤ l.length := by
  unfold tR at h ⊢
  split
  · rename_i h0
    rw [if_pos h0] at h
    have h1 := uR_take l 0 0 h0
    have h2 := uR_ok l 0 0
    split
    · rename_i h3; rw [if_pos h3] at h; exact absurd h (by decide)
    · rename_i h3
      rw [if_neg h3] at h
      split
      · rename_i h4; rw [if_pos h4] at h; exact absurd h (by decide)
      · rename_i h4
        have := h2.1
        simp only
        omega
  · rename_i h0
    rw [if_neg h0] at h
    exact absurd h h0
theorem rT_le (s : RS) : (rT s).2.b.length ≤ s.b.length := skip_le _ _ _
theorem rT_len {s : RS} (h : (rT s).2.bad = false) : s.bad = false ∧ (rT s).2.b.length + 1 ≤ s.b.length := skip_len (tR_take s.b) h
theorem toB_size (l : List Int) : (toB l).size = l.length := by
  show (l.map fun n => UInt8.ofNat n.toNat).toArray.size = l.length
  simp
theorem toB_V {l : List Int} (h : ∀ c ∈ l, 0 ≤ c ∧ c < 256) : bytesV (toB l) = bv l := by
  unfold toB bytesV bv
  simp only [List.map_map, List.toList_toArray]
  refine List.map_congr_left fun c hc => ?_
  have := h c hc
  simp only [Function.comp]
  congr 1
  have h1 : (UInt8.ofNat c.toNat).toNat = c.toNat := by
    rw [UInt8.toNat_ofNat']
    omega
  rw [h1]
  omega
theorem rT_size (s : RS) : (rT s).1.size ≤ 64 := by
  unfold rT tR
  have h2 := uR_ok s.b 0 0
  simp only
  split
  · split
    · exact Nat.zero_le _
    · split
      · exact Nat.zero_le _
      · rename_i h3 _
        simp only
        rw [toB_size]
        have := List.length_take_le (uR 0 0 s.b).1.toNat (s.b.drop (uR 0 0 s.b).2.1)
        omega
  · exact Nat.zero_le _
/-- A part of a row. -/
theorem cut_mid {h : Hp} {s : Sl} {vs : List Value} (hr : h.row s.a s.n vs) {i j m : Nat} (hi : i ≤ j) (hj : j ≤ s.n) (hm : s.n ≤ m) : h.row (Sl.cut s 1 (i : Int) (j : Int) (m : Int)).a (Sl.cut s 1 (i : Int) (j : Int) (m : Int)).n ((vs.drop i).take (j - i)) := by
  have h1 := row_take (row_drop hr (Nat.le_trans hi hj)) (k := j - i) (by omega)
  have hn : (Sl.cut s 1 (i : Int) (j : Int) (m : Int)).n = j - i := by simp [Sl.cut]
  rw [hn]
  refine row_congr h1 ?_
  unfold Sl.cut
  simp only [Int.toNat_natCast, Nat.mul_one]
  by_cases hk : m = i
  · left; omega
  · right; rw [if_neg hk]
theorem codec_text_spec {h : Hp} {l : Sl} {bs : List Int} {Q : Value → Hp → Prop} (hr : h.row l.a l.n (bv bs)) (hc : l.n ≤ l.c) (hok : ∀ c ∈ bs, 0 ≤ c ∧ c < 256) (hs : bs.length ≤ 1000000000000)
    (hQ : Q (.tuple ⟨[.string (tR bs).1, .int .i64 ((tR bs).2.1 : Int), .int .i64 (tR bs).2.2]⟩) h) : F94.T l 64 h Q := by
  have hln : l.n = bs.length := by have := hr.1; rw [bv_length] at this; exact this.symm
  have h2 := uR_ok bs 0 0
  refine uint_spec hr ⟨_, _, _, rfl, fun h0 => ⟨fun hb => absurd hb (by decide), fun _ => ⟨fun h3 => ?_, fun h3 => ⟨fun h4 => ?_, fun h4 => ?_⟩⟩⟩, fun h0 => ?_⟩
  · have h3' : 64 < (uR 0 0 bs).1 := by
      rw [wrap_u64 (by decide) (by decide)] at h3; exact h3
    unfold tR at hQ
    rw [if_pos h0, if_pos h3'] at hQ
    exact hQ
  · have h1 := uR_take bs 0 0 h0
    have h3' : ¬ 64 < (uR 0 0 bs).1 := by
      rw [wrap_u64 (by decide) (by decide)] at h3; exact h3
    have h4' : ((bs.length - (uR 0 0 bs).2.1 : Nat) : Int) < (uR 0 0 bs).1 := by
      rw [wrap_i64 (by omega) (by omega), wrap_u64 (by omega) (by omega)] at h4
      omega
    unfold tR at hQ
    rw [if_pos h0, if_neg h3', if_pos h4'] at hQ
    exact hQ
  · have h1 := uR_take bs 0 0 h0
    have h3' : ¬ 64 < (uR 0 0 bs).1 := by
      rw [wrap_u64 (by decide) (by decide)] at h3; exact h3
    have h4' : ¬ ((bs.length - (uR 0 0 bs).2.1 : Nat) : Int) < (uR 0 0 bs).1 := by
      rw [wrap_i64 (by omega) (by omega), wrap_u64 (by omega) (by omega)] at h4
      omega
    have hn := h2.1
    have w1 : IntKind.wrap .i64 (uR 0 0 bs).1 = (uR 0 0 bs).1 := wrap_i64 (by omega) (by omega)
    have w2 : IntKind.wrap .i64 (((uR 0 0 bs).2.1 : Int) + (uR 0 0 bs).1) = (((uR 0 0 bs).2.1 + (uR 0 0 bs).1.toNat : Nat) : Int) := by rw [wrap_i64 (by omega) (by omega)]; omega
    rw [w1, w2]
    unfold tR at hQ
    rw [if_pos h0, if_neg h3', if_neg h4'] at hQ
    refine ⟨⟨by omega, by omega, by omega, by omega⟩, _, ?_, hQ⟩
    have hm := cut_mid hr (i := (uR 0 0 bs).2.1) (j := (uR 0 0 bs).2.1 + (uR 0 0 bs).1.toNat) (m := l.c) (by omega) (by omega) hc
    rw [toB_V (fun c hc => hok c (List.mem_of_mem_drop (List.mem_of_mem_take hc)))]
    have e : bv ((bs.drop (uR 0 0 bs).2.1).take (uR 0 0 bs).1.toNat) = ((bv bs).drop (uR 0 0 bs).2.1).take ((uR 0 0 bs).2.1 + (uR 0 0 bs).1.toNat - (uR 0 0 bs).2.1) := by
      rw [Nat.add_sub_cancel_left]
      unfold bv
      rw [List.map_take, List.map_drop]
    rw [e]
    exact hm
  · unfold tR at hQ
    rw [if_neg h0] at hQ
    exact hQ
/-- The reader's box. -/
def rb (b : Nat) : Sl := ⟨some ⟨b, 0, none⟩, 1, 1⟩
structure RdAt (h0 h : Hp) (b : Nat) (s : RS) : Prop where
  cell : ∃ l : Sl, h b = some (.cells ⟨[.slice l.a l.n l.c, .bool s.bad]⟩ 125 (0, 0)) ∧ h0.row l.a l.n (bv s.b) ∧ l.n ≤ l.c
  new : h0 b = none
  keep : Keep h0 h
  ok : ∀ c ∈ s.b, 0 ≤ c ∧ c < 256
  small : s.b.length ≤ 1000000000000
theorem wr_at {h : Hp} {b o t : Nat} {c : Array Value} {f : Nat × Nat} {vs : List Value} (hb : h b = some (.cells c t f)) : (h.wr b o vs) b = some (.cells (setL c.toList o vs).toArray t f) := by
  unfold Hp.wr; rw [if_pos rfl, hb]
theorem upd_wr {h : Hp} {b o t : Nat} {c : Array Value} {f : Nat × Nat} {vs : List Value} (hb : h b = some (.cells c t f)) : Upd h (h.wr b o vs) (rb b) (rb b) := by
  refine ⟨fun k x hk e => ?_, .inl rfl, fun k e => ?_⟩
  · have hkb : k ≠ b := fun q => hk 0 (by rw [q]; rfl)
    unfold Hp.wr
    rw [if_neg hkb]
    exact e
  · unfold Hp.wr at e
    by_cases hkb : k = b
    · rw [if_pos hkb, hb] at e; cases e
    · rw [if_neg hkb] at e; exact e
theorem rb_new {h0 : Hp} {b : Nat} (hb : h0 b = none) : New h0 (rb b) := ⟨b, rfl, hb⟩
theorem RdAt.wr {h0 h : Hp} {b : Nat} {s s' : RS} (R : RdAt h0 h b s) {l : Sl} {h' : Hp} (U : Upd h h' (rb b) (rb b)) (hc : h' b = some (.cells ⟨[.slice l.a l.n l.c, .bool s'.bad]⟩ 125 (0, 0))) (hr : h0.row l.a l.n (bv s'.b)) (hl : l.n ≤ l.c) (hs : ∀ c ∈ s'.b, c ∈ s.b) (hle : s'.b.length ≤ s.b.length) : RdAt h0 h' b s' :=
  ⟨⟨l, hc, hr, hl⟩, R.new, (keep_grow R.keep (.inr (rb_new R.new)) U).1, fun c hc => R.ok c (hs c hc), Nat.le_trans hle R.small⟩
theorem RdAt.buf {h0 h : Hp} {b : Nat} {s : RS} (R : RdAt h0 h b s) : ∃ vs, Buf h (rb b) 2 125 vs := by
  obtain ⟨l, hb, _, _⟩ := R.cell
  exact ⟨[.slice l.a l.n l.c, .bool s.bad], rfl, Nat.le_refl _, .inr ⟨b, _, (0, 0), rfl, hb, Nat.le_refl _, fun j _ => by simp, rfl⟩⟩
/-- A list of another type does not lie in the reader's box. -/
theorem RdAt.off {h0 h : Hp} {b : Nat} {s : RS} (R : RdAt h0 h b s) {l : Sl} {sz t : Nat} {vs : List Value} (B : Buf h l sz t vs) (ht : t ≠ 125) : Off l (rb b) := by
  obtain ⟨us, B2⟩ := R.buf
  exact buf_off B B2 ht
/-- A list of another type grows. -/
theorem RdAt.grow {h0 h h' : Hp} {b : Nat} {s : RS} (R : RdAt h0 h b s) {l l' : Sl} {sz t : Nat} {vs : List Value} (B : Buf h l sz t vs) (ht : t ≠ 125) (N : l.a = none ∨ New h0 l) (U : Upd h h' l l') : RdAt h0 h' b s := by
  obtain ⟨us, B2⟩ := R.buf
  obtain ⟨r, hb, hr, hl⟩ := R.cell
  have ho := buf_off B2 B (Ne.symm ht)
  exact ⟨⟨r, U.keep b _ (fun o => ho b 0 o rfl) hb, hr, hl⟩, R.new, (keep_grow R.keep N U).1, R.ok, R.small⟩
theorem skip_spec {h0 h : Hp} {b : Nat} {s : RS} {n e : Int} {Q : Value → Hp → Prop} (R : RdAt h0 h b s) (hn : e = 0 → 0 ≤ n ∧ n.toNat ≤ s.b.length)
    (hQ : ∀ h', Upd h h' (rb b) (rb b) → RdAt h0 h' b (s.skip n.toNat e) → Q (.tuple ⟨[]⟩) h') : F93.T (some ⟨b, 0, none⟩) n e h Q := by
  obtain ⟨l, hb, hr, hlc⟩ := R.cell
  have hln : l.n = s.b.length := by have := hr.1; rw [bv_length] at this; exact this.symm
  have a0 : h.at b 0 = some (.slice l.a l.n l.c) := by unfold Hp.at; rw [hb]; rfl
  unfold F93.T
  refine ⟨fun h0' => ?_, fun h0' => ?_⟩
  · obtain ⟨n0, n1⟩ := hn h0'
    obtain ⟨k, rfl⟩ : ∃ k : Nat, n = (k : Int) := ⟨n.toNat, by omega⟩
    rw [Int.toNat_natCast] at n1 hQ
    have hs : s.skip k e = ⟨s.b.drop k, s.bad⟩ := by unfold RS.skip; rw [if_pos h0']
    rw [hs] at hQ
    refine ⟨b, 0, rfl, l, a0, b, 0, rfl, l, a0, b, 0, rfl, l, a0, ⟨by omega, by omega, by omega, by omega⟩, b, 0, rfl, ⟨_, _, _, hb, Nat.le_of_ble_eq_true rfl, fun j _ _ => by simp⟩, ?_⟩
    refine hQ _ (upd_wr hb) (R.wr (l := Sl.cut l 1 (k : Int) (l.n : Int) (l.n : Int)) (upd_wr hb) (wr_at hb) ?_ ?_ (fun c hc => List.mem_of_mem_drop hc) (by simp))
    · have := cut_mid hr (i := k) (j := l.n) (m := l.n) (by omega) (Nat.le_refl _) (Nat.le_refl _)
      have e : bv (s.b.drop k) = ((bv s.b).drop k).take (l.n - k) := by
        rw [List.take_of_length_le (by rw [List.length_drop, bv_length]; omega)]
        unfold bv
        rw [List.map_drop]
      show h0.row _ _ (bv (s.b.drop k))
      rw [e]; exact this
    · simp [Sl.cut]
  · have hs : s.skip n.toNat e = ⟨[], true⟩ := by unfold RS.skip; rw [if_neg h0']
    rw [hs] at hQ
    have hb2 : (h.wr b (0 + 1) [.bool true]) b = some (.cells ⟨[.slice l.a l.n l.c, .bool true]⟩ 125 (0, 0)) := wr_at hb
    have a2 : (h.wr b (0 + 1) [.bool true]).at b 0 = some (.slice l.a l.n l.c) := by unfold Hp.at; rw [hb2]; rfl
    refine ⟨b, 0, rfl, l, a0, b, 0, rfl, ⟨_, _, _, hb, Nat.le_of_ble_eq_true rfl, fun j _ _ => by simp⟩, b, 0, rfl, l, a2, b, 0, rfl, l, a2, b, 0, rfl, l, a2, ⟨by omega, by omega, by omega, by omega⟩, b, 0, rfl, ⟨_, _, _, hb2, Nat.le_of_ble_eq_true rfl, fun j _ _ => by simp⟩, ?_⟩
    refine hQ _ ((upd_wr hb).trans (upd_wr hb2)) (R.wr (l := Sl.cut l 1 (l.n : Int) (l.n : Int) (l.n : Int)) ((upd_wr hb).trans (upd_wr hb2)) (wr_at hb2) ?_ ?_ (fun c hc => by cases hc) (Nat.zero_le _))
    · refine ⟨by simp [Sl.cut, bv], .inl (by simp [Sl.cut])⟩
    · simp [Sl.cut]
theorem uint_r {h0 h : Hp} {b : Nat} {s : RS} {Q : Value → Hp → Prop} (R : RdAt h0 h b s)
    (hQ : ∀ h', Upd h h' (rb b) (rb b) → RdAt h0 h' b (rU s).2 → Q (.int .u64 (rU s).1) h') : F72.T (some ⟨b, 0, none⟩) h Q := by
  obtain ⟨l, hb, hr, hlc⟩ := R.cell
  have a0 : h.at b 0 = some (.slice l.a l.n l.c) := by unfold Hp.at; rw [hb]; rfl
  refine ⟨b, 0, rfl, l, a0, uint_spec (R.keep.row hr) ⟨_, _, _, rfl, skip_spec R (fun h0' => ⟨by omega, ?_⟩) fun h' U R' => hQ h' U R'⟩⟩
  rw [Int.toNat_natCast]
  exact (rU_take s h0').2
theorem within_r {h0 h : Hp} {b : Nat} {s : RS} {m : Int} {Q : Value → Hp → Prop} (R : RdAt h0 h b s) (hm : m < 9223372036854775808)
    (hQ : ∀ h', Upd h h' (rb b) (rb b) → RdAt h0 h' b (rW m s).2 → Q (.int .i64 (rW m s).1) h') : F73.T (some ⟨b, 0, none⟩) m h Q := by
  refine uint_r R fun h1 U1 R1 => ⟨_, rfl, fun hlt => ?_, fun hge => ?_⟩
  · have hw : rW m s = (0, ⟨(rU s).2.b, true⟩) := by unfold rW; rw [if_pos hlt]
    rw [hw] at hQ
    obtain ⟨l, hb, hr, hlc⟩ := R1.cell
    refine ⟨b, 0, rfl, ⟨_, _, _, hb, Nat.le_of_ble_eq_true rfl, fun j _ _ => by simp⟩, ?_⟩
    exact hQ _ (U1.trans (upd_wr hb)) (R1.wr (l := l) (upd_wr hb) (wr_at hb) hr hlc (fun c hc => hc) (Nat.le_refl _))
  · have hw : rW m s = rU s := by unfold rW; rw [if_neg hge]
    rw [hw] at hQ
    rw [wrap_i64 (by have := (rU_ok s).1; omega) (by omega)]
    exact hQ h1 U1 R1
theorem text_r {h0 h : Hp} {b : Nat} {s : RS} {Q : Value → Hp → Prop} (R : RdAt h0 h b s)
    (hQ : ∀ h', Upd h h' (rb b) (rb b) → RdAt h0 h' b (rT s).2 → Q (.string (rT s).1) h') : F74.T (some ⟨b, 0, none⟩) h Q := by
  obtain ⟨l, hb, hr, hlc⟩ := R.cell
  have a0 : h.at b 0 = some (.slice l.a l.n l.c) := by unfold Hp.at; rw [hb]; rfl
  refine ⟨b, 0, rfl, l, a0, codec_text_spec (R.keep.row hr) hlc R.ok R.small ⟨_, _, _, rfl, skip_spec R (fun h0' => ⟨by omega, ?_⟩) fun h' U R' => hQ h' U R'⟩⟩
  rw [Int.toNat_natCast]
  exact (tR_take s.b h0').2
end Go.Eng.Ytblghgacokoklaa
end
section
/-
  SPECS, 8: reading a record.
-/
set_option linter.unusedSimpArgs false
set_option linter.unusedVariables false
namespace Go.Eng.Ytblghgacokoklaa
def maxI : Int := 9223372036854775807
def outR : Nat → List Place → RS → Option (List Place × RS)
  | 0, acc, s => some (acc, s)
  | f + 1, acc, s => if (rU (rW 4 s).2).2.bad = true then none else outR f (acc ++ [⟨(rW 4 s).1, (rU (rW 4 s).2).1⟩]) (rU (rW 4 s).2).2
def plS (s : RS) : Placed × RS :=
  let a := rW 4 s
  let b := rU a.2
  let c := rW 9223372036854775807 b.2
  let d := rW 9223372036854775807 c.2
  let e := rW 9223372036854775807 d.2
  let x := rT e.2
  let y := rT x.2
  (⟨a.1, b.1, c.1, d.1, e.1, x.1, y.1⟩, y.2)
def inR : Nat → List Placed → RS → Option (List Placed × RS)
  | 0, acc, s => some (acc, s)
  | f + 1, acc, s => if (plS s).2.bad = true then none else inR f (acc ++ [(plS s).1]) (plS s).2
def ptR : Nat → List ByteArray → RS → Option (List ByteArray × RS)
  | 0, acc, s => some (acc, s)
  | f + 1, acc, s => if (rT s).2.bad = true then none else ptR f (acc ++ [(rT s).1]) (rT s).2
def rdP (c a b d : Int) (o : List Place) (i : List Placed) (s : RS) : Option (Edit × Bool) :=
  match ptR (rU s).1.toNat [] (rU s).2 with
  | none => none
  | some x => if x.2.bad = true then none else if x.2.b.length = 0 then some (⟨a, b, d, o, i, x.1⟩, decide (c = 1)) else none
def rdI (c a b d : Int) (o : List Place) (s : RS) : Option (Edit × Bool) :=
  match inR (rU s).1.toNat [] (rU s).2 with
  | none => none
  | some x => rdP c a b d o x.1 x.2
def rdO (c a b d : Int) (s : RS) : Option (Edit × Bool) :=
  match outR (rU s).1.toNat [] (rU s).2 with
  | none => none
  | some x => rdI c a b d x.1 x.2
/-- What a record tells. -/
def rd : List Int → Option (Edit × Bool)
  | [] => none
  | c :: l => if 1 < c then none else rdO c (rU ⟨l, false⟩).1 (rU (rU ⟨l, false⟩).2).1 (rU (rU (rU ⟨l, false⟩).2).2).1 (rU (rU (rU ⟨l, false⟩).2).2).2
theorem rd_cons (c : Int) (l : List Int) : rd (c :: l) = if 1 < c then none else rdO c (rU ⟨l, false⟩).1 (rU (rU ⟨l, false⟩).2).1 (rU (rU (rU ⟨l, false⟩).2).2).1 (rU (rU (rU ⟨l, false⟩).2).2).2 := rfl
def Place.val (p : Place) : Prop := p.lv < 9223372036854775808 ∧ okU p.num
def Placed.val (p : Placed) : Prop := p.lv < 9223372036854775808 ∧ okU p.num ∧ p.weight < 9223372036854775808 ∧ p.bytes < 9223372036854775808 ∧ p.entries < 9223372036854775808
/-- A reader and the lists that it has told so far. -/
structure St (h0 h : Hp) (b : Nat) (s : RS) (l1 l2 l3 : Sl) (o : List Place) (i : List Placed) (p : List ByteArray) (N : Nat) : Prop where
  rd : RdAt h0 h b s
  out : Buf h l1 2 89 (outV o)
  inn : Buf h l2 7 87 (inV i)
  ptr : Buf h l3 1 9 (ptrV p)
  n1 : l1.a = none ∨ New h0 l1
  n2 : l2.a = none ∨ New h0 l2
  n3 : l3.a = none ∨ New h0 l3
  room : o.length + i.length + p.length + s.b.length ≤ N
  vo : ∀ x ∈ o, x.val
  vi : ∀ x ∈ i, x.val
theorem out_n {h : Hp} {l : Sl} {o : List Place} (B : Buf h l 2 89 (outV o)) : l.n = o.length := by
  have h1 := B.len
  unfold outV at h1
  rw [flat_length Place.cells 2 (fun _ => rfl)] at h1
  omega
theorem in_n {h : Hp} {l : Sl} {o : List Placed} (B : Buf h l 7 87 (inV o)) : l.n = o.length := by
  have h1 := B.len
  unfold inV at h1
  rw [flat_length Placed.cells 7 (fun _ => rfl)] at h1
  omega
theorem pt_n {h : Hp} {l : Sl} {o : List ByteArray} (B : Buf h l 1 9 (ptrV o)) : l.n = o.length := by
  have h1 := B.len
  unfold ptrV at h1
  rw [List.length_map] at h1
  omega
theorem St.step {h0 h h' : Hp} {b : Nat} {s s' : RS} {l1 l2 l3 : Sl} {o : List Place} {i : List Placed} {p : List ByteArray} {N : Nat} (S : St h0 h b s l1 l2 l3 o i p N) (U : Upd h h' (rb b) (rb b)) (R : RdAt h0 h' b s') (hle : s'.b.length ≤ s.b.length) : St h0 h' b s' l1 l2 l3 o i p N :=
  ⟨R, S.out.upd U (S.rd.off S.out (by decide)), S.inn.upd U (S.rd.off S.inn (by decide)), S.ptr.upd U (S.rd.off S.ptr (by decide)), S.n1, S.n2, S.n3, by have := S.room; omega, S.vo, S.vi⟩
theorem RdAt.bad_at {h0 h : Hp} {b : Nat} {s : RS} (R : RdAt h0 h b s) : h.at b 1 = some (.bool s.bad) := by
  obtain ⟨l, hb, _, _⟩ := R.cell
  unfold Hp.at; rw [hb]; rfl
theorem RdAt.b_at {h0 h : Hp} {b : Nat} {s : RS} (R : RdAt h0 h b s) : ∃ l : Sl, h.at b 0 = some (.slice l.a l.n l.c) ∧ l.n = s.b.length := by
  obtain ⟨l, hb, hr, _⟩ := R.cell
  refine ⟨l, by unfold Hp.at; rw [hb]; rfl, ?_⟩
  have := hr.1
  rw [bv_length] at this
  exact this.symm
theorem St.addO {h0 h h' : Hp} {b : Nat} {s : RS} {l1 l1' l2 l3 : Sl} {o : List Place} {i : List Placed} {p : List ByteArray} {N : Nat} (S : St h0 h b s l1 l2 l3 o i p N) (U : Upd h h' l1 l1') {x : Place} (B : Buf h' l1' 2 89 (outV o ++ x.cells)) (hx : x.val) (hr : o.length + i.length + p.length + s.b.length + 1 ≤ N) : St h0 h' b s l1' l2 l3 (o ++ [x]) i p N :=
  ⟨S.rd.grow S.out (by decide) S.n1 U, by simpa [outV] using B, S.inn.upd U (buf_off S.inn S.out (by decide)), S.ptr.upd U (buf_off S.ptr S.out (by decide)), (keep_grow S.rd.keep S.n1 U).2, S.n2, S.n3,
    by rw [List.length_append, List.length_singleton]; omega, fun y hy => by rcases List.mem_append.1 hy with h | h; exact S.vo y h; rw [List.mem_singleton] at h; rw [h]; exact hx, S.vi⟩
theorem St.addI {h0 h h' : Hp} {b : Nat} {s : RS} {l1 l2 l2' l3 : Sl} {o : List Place} {i : List Placed} {p : List ByteArray} {N : Nat} (S : St h0 h b s l1 l2 l3 o i p N) (U : Upd h h' l2 l2') {x : Placed} (B : Buf h' l2' 7 87 (inV i ++ x.cells)) (hx : x.val) (hr : o.length + i.length + p.length + s.b.length + 1 ≤ N) : St h0 h' b s l1 l2' l3 o (i ++ [x]) p N :=
  ⟨S.rd.grow S.inn (by decide) S.n2 U, S.out.upd U (buf_off S.out S.inn (by decide)), by simpa [inV] using B, S.ptr.upd U (buf_off S.ptr S.inn (by decide)), S.n1, (keep_grow S.rd.keep S.n2 U).2, S.n3,
    by rw [List.length_append, List.length_singleton]; omega, S.vo, fun y hy => by rcases List.mem_append.1 hy with h | h; exact S.vi y h; rw [List.mem_singleton] at h; rw [h]; exact hx⟩
theorem St.addP {h0 h h' : Hp} {b : Nat} {s : RS} {l1 l2 l3 l3' : Sl} {o : List Place} {i : List Placed} {p : List ByteArray} {N : Nat} (S : St h0 h b s l1 l2 l3 o i p N) (U : Upd h h' l3 l3') {x : ByteArray} (B : Buf h' l3' 1 9 (ptrV p ++ [.string x])) (hr : o.length + i.length + p.length + s.b.length + 1 ≤ N) : St h0 h' b s l1 l2 l3' o i (p ++ [x]) N :=
  ⟨S.rd.grow S.ptr (by decide) S.n3 U, S.out.upd U (buf_off S.out S.ptr (by decide)), S.inn.upd U (buf_off S.inn S.ptr (by decide)), by simpa [ptrV] using B, S.n1, S.n2, (keep_grow S.rd.keep S.n3 U).2,
    by rw [List.length_append, List.length_singleton]; omega, S.vo, S.vi⟩
@[reducible] def noneV : Value := .tuple ⟨[.agg ⟨[.int .u64 0, .int .u64 0, .int .u64 0, .slice none 0 0, .slice none 0 0, .slice none 0 0]⟩, .bool false, .bool false]⟩
theorem rd_out {h0 h : Hp} {b1 : Nat} {s : RS} {l1 l2 l3 : Sl} {N : Nat} {n a c d : Int} {Q : Value → Hp → Prop} {R : Int → Int → Int → Int → Sl → Sl → Sl → Hp → Prop} (S : St h0 h b1 s l1 l2 l3 [] [] [] N) (hN : N ≤ 1000000000000) (hn : okU n)
    (hB : ∀ h', Keep h0 h' → outR n.toNat [] s = none → Q noneV h')
    (hR : ∀ n5 l1' o s' h', outR n.toNat [] s = some (o, s') → St h0 h' b1 s' l1' l2 l3 o [] [] N → R n5 a c d l1' l2 l3 h') :
    ∃ (I : Int → Int → Int → Int → Sl → Sl → Sl → Hp → Prop) (m : Int → Int → Int → Int → Sl → Sl → Sl → Hp → Nat), I n a c d l1 l2 l3 h ∧ (∀ n5 : Int, ∀ n6 : Int, ∀ n7 : Int, ∀ n8 : Int, ∀ l1 : Sl, ∀ l2 : Sl, ∀ l3 : Sl, ∀ h5 : Hp, I n5 n6 n7 n8 l1 l2 l3 h5 → par ((0 : Int) < n5) (F73.T (some ⟨b1, 0, none⟩) 4 h5 fun r4 h6 => ∃ n9 : Int, r4 = .int .i64 n9 ∧ F72.T (some ⟨b1, 0, none⟩) h6 fun r5 h7 => ∃ n10 : Int, r5 = .int .u64 n10 ∧ appendD l1 89 2 16 [.int .i64 0, .int .u64 0] 1 [.int .i64 n9, .int .u64 n10] h7 fun l4 h8 => ∃ b2 : Bool, h8.at b1 1 = some (.bool b2) ∧ parB b2 (Q noneV h8) (I (IntKind.wrap .u64 (n5 - 1)) n6 n7 n8 l4 l2 l3 h8 ∧ m (IntKind.wrap .u64 (n5 - 1)) n6 n7 n8 l4 l2 l3 h8 < m n5 n6 n7 n8 l1 l2 l3 h5)) (R n5 n6 n7 n8 l1 l2 l3 h5)) := by
  refine ⟨fun n5 x y z k1 k2 k3 h5 => x = a ∧ y = c ∧ z = d ∧ k2 = l2 ∧ k3 = l3 ∧ okU n5 ∧ ∃ o s', outR n5.toNat o s' = outR n.toNat [] s ∧ St h0 h5 b1 s' k1 l2 l3 o [] [] N, fun n5 _ _ _ _ _ _ _ => n5.toNat, ⟨rfl, rfl, rfl, rfl, rfl, hn, [], s, rfl, S⟩, ?_⟩
  rintro n5 x y z k1 k2 k3 h5 ⟨rfl, rfl, rfl, rfl, rfl, hn5, o, s', hE, S'⟩
  refine ⟨fun hpos => ?_, fun hz => ?_⟩
  · obtain ⟨f, hf⟩ : ∃ f, n5.toNat = f + 1 := ⟨n5.toNat - 1, by omega⟩
    have hf' : (n5 - 1).toNat = f := by omega
    have hn52 := hn5.2
    rw [hf, outR] at hE
    have hw : IntKind.wrap .u64 (n5 - 1) = n5 - 1 := wrap_u64 (by omega) (by omega)
    refine within_r S'.rd (by decide) fun h6 U6 R6 => ⟨_, rfl, ?_⟩
    have S6 := S'.step U6 R6 (rW_le _ _)
    refine uint_r S6.rd fun h7 U7 R7 => ⟨_, rfl, ?_⟩
    have S7 := S6.step U7 R7 (rU_le _)
    have r7 := S7.room
    have m7 := out_n S7.out
    refine append_buf S7.out rfl rfl (by omega) fun l4 h8 B8 hn8 U8 => ⟨_, (S7.rd.grow S7.out (by decide) S7.n1 U8).bad_at, fun hb => ?_, fun hb => ?_⟩
    · rw [if_pos hb] at hE
      exact hB h8 (S7.rd.grow S7.out (by decide) S7.n1 U8).keep hE.symm
    · rw [if_neg (by rw [hb]; decide)] at hE
      rw [hw]
      have q1 := rU_len hb
      have q2 := rW_len q1.1
      have r0 := S'.room
      have v1 := rW_ok 4 s' (by decide)
      refine ⟨⟨rfl, rfl, rfl, rfl, rfl, ⟨by omega, by omega⟩, o ++ [⟨(rW 4 s').1, (rU (rW 4 s').2).1⟩], (rU (rW 4 s').2).2, by rw [hf']; exact hE, ?_⟩, by dsimp only; omega⟩
      refine S7.addO U8 (x := ⟨(rW 4 s').1, (rU (rW 4 s').2).1⟩) B8 ⟨by show (rW 4 s').1 < _; omega, rU_ok _⟩ (by omega)
  · have h0' : n5.toNat = 0 := by omega
    rw [h0', outR] at hE
    exact hR _ _ _ _ _ hE.symm S'
theorem rd_in {h0 h : Hp} {b1 : Nat} {s : RS} {l1 l2 l3 : Sl} {N : Nat} {n a c d : Int} {o : List Place} {Q : Value → Hp → Prop} {R : Int → Int → Int → Int → Sl → Sl → Sl → Hp → Prop} (S : St h0 h b1 s l1 l2 l3 o [] [] N) (hN : N ≤ 1000000000000) (hn : okU n)
    (hB : ∀ h', Keep h0 h' → inR n.toNat [] s = none → Q noneV h')
    (hR : ∀ n5 l2' i s' h', inR n.toNat [] s = some (i, s') → St h0 h' b1 s' l1 l2' l3 o i [] N → R n5 a c d l1 l2' l3 h') :
    ∃ (I1 : Int → Int → Int → Int → Sl → Sl → Sl → Hp → Prop) (m1 : Int → Int → Int → Int → Sl → Sl → Sl → Hp → Nat), I1 n a c d l1 l2 l3 h ∧ (∀ n12 : Int, ∀ n13 : Int, ∀ n14 : Int, ∀ n15 : Int, ∀ l5 : Sl, ∀ l6 : Sl, ∀ l7 : Sl, ∀ h10 : Hp, I1 n12 n13 n14 n15 l5 l6 l7 h10 → par ((0 : Int) < n12) (F73.T (some ⟨b1, 0, none⟩) 4 h10 fun r7 h11 => ∃ n16 : Int, r7 = .int .i64 n16 ∧ F72.T (some ⟨b1, 0, none⟩) h11 fun r8 h12 => ∃ n17 : Int, r8 = .int .u64 n17 ∧ F73.T (some ⟨b1, 0, none⟩) 9223372036854775807 h12 fun r9 h13 => ∃ n18 : Int, r9 = .int .i64 n18 ∧ F73.T (some ⟨b1, 0, none⟩) 9223372036854775807 h13 fun r10 h14 => ∃ n19 : Int, r10 = .int .i64 n19 ∧ F73.T (some ⟨b1, 0, none⟩) 9223372036854775807 h14 fun r11 h15 => ∃ n20 : Int, r11 = .int .i64 n20 ∧ F74.T (some ⟨b1, 0, none⟩) h15 fun r12 h16 => ∃ s : ByteArray, r12 = .string s ∧ F74.T (some ⟨b1, 0, none⟩) h16 fun r13 h17 => ∃ s1 : ByteArray, r13 = .string s1 ∧ appendD l6 87 7 72 [.int .i64 0, .int .u64 0, .int .i64 0, .int .i64 0, .int .i64 0, .string (ByteArray.mk #[]), .string (ByteArray.mk #[])] 1 [.int .i64 n16, .int .u64 n17, .int .i64 n18, .int .i64 n19, .int .i64 n20, .string s, .string s1] h17 fun l8 h18 => ∃ b3 : Bool, h18.at b1 1 = some (.bool b3) ∧ parB b3 (Q noneV h18) (I1 (IntKind.wrap .u64 (n12 - 1)) n13 n14 n15 l5 l8 l7 h18 ∧ m1 (IntKind.wrap .u64 (n12 - 1)) n13 n14 n15 l5 l8 l7 h18 < m1 n12 n13 n14 n15 l5 l6 l7 h10)) (R n12 n13 n14 n15 l5 l6 l7 h10)) := by
  refine ⟨fun n5 x y z k1 k2 k3 h5 => x = a ∧ y = c ∧ z = d ∧ k1 = l1 ∧ k3 = l3 ∧ okU n5 ∧ ∃ i s', inR n5.toNat i s' = inR n.toNat [] s ∧ St h0 h5 b1 s' l1 k2 l3 o i [] N, fun n5 _ _ _ _ _ _ _ => n5.toNat, ⟨rfl, rfl, rfl, rfl, rfl, hn, [], s, rfl, S⟩, ?_⟩
  rintro n5 x y z k1 k2 k3 h5 ⟨rfl, rfl, rfl, rfl, rfl, hn5, i, s', hE, S'⟩
  refine ⟨fun hpos => ?_, fun hz => ?_⟩
  · obtain ⟨f, hf⟩ : ∃ f, n5.toNat = f + 1 := ⟨n5.toNat - 1, by omega⟩
    have hf' : (n5 - 1).toNat = f := by omega
    have hn52 := hn5.2
    rw [hf, inR] at hE
    have hx : plS s' = (⟨(rW 4 s').1, (rU (rW 4 s').2).1, (rW 9223372036854775807 (rU (rW 4 s').2).2).1, (rW 9223372036854775807 (rW 9223372036854775807 (rU (rW 4 s').2).2).2).1, (rW 9223372036854775807 (rW 9223372036854775807 (rW 9223372036854775807 (rU (rW 4 s').2).2).2).2).1, (rT (rW 9223372036854775807 (rW 9223372036854775807 (rW 9223372036854775807 (rU (rW 4 s').2).2).2).2).2).1, (rT (rT (rW 9223372036854775807 (rW 9223372036854775807 (rW 9223372036854775807 (rU (rW 4 s').2).2).2).2).2).2).1⟩, (rT (rT (rW 9223372036854775807 (rW 9223372036854775807 (rW 9223372036854775807 (rU (rW 4 s').2).2).2).2).2).2).2) := rfl
    have hw : IntKind.wrap .u64 (n5 - 1) = n5 - 1 := wrap_u64 (by omega) (by omega)
    refine within_r S'.rd (by decide) fun h6 U6 R6 => ⟨_, rfl, ?_⟩
    have S6 := S'.step U6 R6 (rW_le _ _)
    refine uint_r S6.rd fun h7 U7 R7 => ⟨_, rfl, ?_⟩
    have S7 := S6.step U7 R7 (rU_le _)
    refine within_r S7.rd (by decide) fun h8 U8 R8 => ⟨_, rfl, ?_⟩
    have S8 := S7.step U8 R8 (rW_le _ _)
    refine within_r S8.rd (by decide) fun h9 U9 R9 => ⟨_, rfl, ?_⟩
    have S9 := S8.step U9 R9 (rW_le _ _)
    refine within_r S9.rd (by decide) fun h10 U10 R10 => ⟨_, rfl, ?_⟩
    have S10 := S9.step U10 R10 (rW_le _ _)
    refine text_r S10.rd fun h11 U11 R11 => ⟨_, rfl, ?_⟩
    have S11 := S10.step U11 R11 (rT_le _)
    refine text_r S11.rd fun h12 U12 R12 => ⟨_, rfl, ?_⟩
    have S12 := S11.step U12 R12 (rT_le _)
    have r7 := S12.room
    have m7 := in_n S12.inn
    refine append_buf S12.inn rfl rfl (by omega) fun l4 h13 B8 hn8 U8 => ⟨_, (S12.rd.grow S12.inn (by decide) S12.n2 U8).bad_at, fun hb => ?_, fun hb => ?_⟩
    · rw [hx] at hE
      simp only at hE
      rw [if_pos hb] at hE
      exact hB h13 (S12.rd.grow S12.inn (by decide) S12.n2 U8).keep hE.symm
    · rw [hx] at hE
      simp only at hE
      rw [if_neg (by rw [hb]; decide)] at hE
      rw [hw]
      have q1 := rT_len hb
      have q2 := rT_len q1.1
      have q3 := rW_len q2.1
      have q4 := rW_len q3.1
      have q5 := rW_len q4.1
      have q6 := rU_len q5.1
      have q7 := rW_len q6.1
      have r0 := S'.room
      have v1 := rW_ok 4 s' (by decide)
      have v2 := rW_ok 9223372036854775807 (rU (rW 4 s').2).2 (by decide)
      have v3 := rW_ok 9223372036854775807 (rW 9223372036854775807 (rU (rW 4 s').2).2).2 (by decide)
      have v4 := rW_ok 9223372036854775807 (rW 9223372036854775807 (rW 9223372036854775807 (rU (rW 4 s').2).2).2).2 (by decide)
      refine ⟨⟨rfl, rfl, rfl, rfl, rfl, ⟨by omega, by omega⟩, i ++ [⟨(rW 4 s').1, (rU (rW 4 s').2).1, (rW 9223372036854775807 (rU (rW 4 s').2).2).1, (rW 9223372036854775807 (rW 9223372036854775807 (rU (rW 4 s').2).2).2).1, (rW 9223372036854775807 (rW 9223372036854775807 (rW 9223372036854775807 (rU (rW 4 s').2).2).2).2).1, (rT (rW 9223372036854775807 (rW 9223372036854775807 (rW 9223372036854775807 (rU (rW 4 s').2).2).2).2).2).1, (rT (rT (rW 9223372036854775807 (rW 9223372036854775807 (rW 9223372036854775807 (rU (rW 4 s').2).2).2).2).2).2).1⟩], (rT (rT (rW 9223372036854775807 (rW 9223372036854775807 (rW 9223372036854775807 (rU (rW 4 s').2).2).2).2).2).2).2, by rw [hf']; exact hE, ?_⟩, by dsimp only; omega⟩
      refine S12.addI U8 (x := ⟨(rW 4 s').1, (rU (rW 4 s').2).1, (rW 9223372036854775807 (rU (rW 4 s').2).2).1, (rW 9223372036854775807 (rW 9223372036854775807 (rU (rW 4 s').2).2).2).1, (rW 9223372036854775807 (rW 9223372036854775807 (rW 9223372036854775807 (rU (rW 4 s').2).2).2).2).1, (rT (rW 9223372036854775807 (rW 9223372036854775807 (rW 9223372036854775807 (rU (rW 4 s').2).2).2).2).2).1, (rT (rT (rW 9223372036854775807 (rW 9223372036854775807 (rW 9223372036854775807 (rU (rW 4 s').2).2).2).2).2).2).1⟩) (by simp only [Placed.cells]; exact B8) ?_ (by omega)
      simp only [Placed.val]
      exact ⟨by omega, rU_ok _, by omega, by omega, by omega⟩
  · have h0' : n5.toNat = 0 := by omega
    rw [h0', inR] at hE
    exact hR _ _ _ _ _ hE.symm S'
theorem rd_ptr {h0 h : Hp} {b1 : Nat} {s : RS} {l1 l2 l3 : Sl} {N : Nat} {n a c d : Int} {o : List Place} {i : List Placed} {Q : Value → Hp → Prop} {R : Int → Int → Int → Int → Sl → Sl → Sl → Hp → Prop} (S : St h0 h b1 s l1 l2 l3 o i [] N) (hN : N ≤ 1000000000000) (hn : okU n)
    (hB : ∀ h', Keep h0 h' → ptR n.toNat [] s = none → Q noneV h')
    (hR : ∀ n5 l3' p s' h', ptR n.toNat [] s = some (p, s') → St h0 h' b1 s' l1 l2 l3' o i p N → R n5 a c d l1 l2 l3' h') :
    ∃ (I2 : Int → Int → Int → Int → Sl → Sl → Sl → Hp → Prop) (m2 : Int → Int → Int → Int → Sl → Sl → Sl → Hp → Nat), I2 n a c d l1 l2 l3 h ∧ (∀ n22 : Int, ∀ n23 : Int, ∀ n24 : Int, ∀ n25 : Int, ∀ l9 : Sl, ∀ l10 : Sl, ∀ l11 : Sl, ∀ h20 : Hp, I2 n22 n23 n24 n25 l9 l10 l11 h20 → par ((0 : Int) < n22) (F74.T (some ⟨b1, 0, none⟩) h20 fun r15 h21 => ∃ s2 : ByteArray, r15 = .string s2 ∧ appendD l11 9 1 16 [.string (ByteArray.mk #[])] 1 [.string s2] h21 fun l12 h22 => ∃ b4 : Bool, h22.at b1 1 = some (.bool b4) ∧ parB b4 (Q noneV h22) (I2 (IntKind.wrap .u64 (n22 - 1)) n23 n24 n25 l9 l10 l12 h22 ∧ m2 (IntKind.wrap .u64 (n22 - 1)) n23 n24 n25 l9 l10 l12 h22 < m2 n22 n23 n24 n25 l9 l10 l11 h20)) (R n22 n23 n24 n25 l9 l10 l11 h20)) := by
  refine ⟨fun n5 x y z k1 k2 k3 h5 => x = a ∧ y = c ∧ z = d ∧ k1 = l1 ∧ k2 = l2 ∧ okU n5 ∧ ∃ p s', ptR n5.toNat p s' = ptR n.toNat [] s ∧ St h0 h5 b1 s' l1 l2 k3 o i p N, fun n5 _ _ _ _ _ _ _ => n5.toNat, ⟨rfl, rfl, rfl, rfl, rfl, hn, [], s, rfl, S⟩, ?_⟩
  rintro n5 x y z k1 k2 k3 h5 ⟨rfl, rfl, rfl, rfl, rfl, hn5, p, s', hE, S'⟩
  refine ⟨fun hpos => ?_, fun hz => ?_⟩
  · obtain ⟨f, hf⟩ : ∃ f, n5.toNat = f + 1 := ⟨n5.toNat - 1, by omega⟩
    have hf' : (n5 - 1).toNat = f := by omega
    have hn52 := hn5.2
    rw [hf, ptR] at hE
    have hw : IntKind.wrap .u64 (n5 - 1) = n5 - 1 := wrap_u64 (by omega) (by omega)
    refine text_r S'.rd fun h6 U6 R6 => ⟨_, rfl, ?_⟩
    have S6 := S'.step U6 R6 (rT_le _)
    have r7 := S6.room
    have m7 := pt_n S6.ptr
    refine append_buf S6.ptr rfl rfl (by omega) fun l4 h8 B8 hn8 U8 => ⟨_, (S6.rd.grow S6.ptr (by decide) S6.n3 U8).bad_at, fun hb => ?_, fun hb => ?_⟩
    · rw [if_pos hb] at hE
      exact hB h8 (S6.rd.grow S6.ptr (by decide) S6.n3 U8).keep hE.symm
    · rw [if_neg (by rw [hb]; decide)] at hE
      rw [hw]
      have q1 := rT_len hb
      have r0 := S'.room
      refine ⟨⟨rfl, rfl, rfl, rfl, rfl, ⟨by omega, by omega⟩, p ++ [(rT s').1], (rT s').2, by rw [hf']; exact hE, ?_⟩, by dsimp only; omega⟩
      exact S6.addP U8 B8 (by omega)
  · have h0' : n5.toNat = 0 := by omega
    rw [h0', ptR] at hE
    exact hR _ _ _ _ _ hE.symm S'
/-- The lists of an edit, each in a block of its own that was not in h0. -/
structure EdB (h0 h : Hp) (e : Edit) (l1 l2 l3 : Sl) : Prop where
  out : Buf h l1 2 89 (outV e.out)
  inn : Buf h l2 7 87 (inV e.inn)
  ptr : Buf h l3 1 9 (ptrV e.ptr)
  n1 : l1.a = none ∨ New h0 l1
  n2 : l2.a = none ∨ New h0 l2
  n3 : l3.a = none ∨ New h0 l3
theorem read_spec {h : Hp} {l : Sl} {bs : List Int} {Q : Value → Hp → Prop} (hr : h.row l.a l.n (bv bs)) (hc : l.n ≤ l.c) (hok : ∀ c ∈ bs, 0 ≤ c ∧ c < 256) (hs : bs.length ≤ 1000000000)
    (hN : ∀ h', Keep h h' → rd bs = none → Q noneV h')
    (hS : ∀ h' e last l1 l2 l3, rd bs = some (e, last) → Keep h h' → EdB h h' e l1 l2 l3 → e.valid → e.out.length + e.inn.length + e.ptr.length ≤ bs.length →
      Q (.tuple ⟨[.agg ⟨[.int .u64 e.log, .int .u64 e.next, .int .u64 e.seq, .slice l1.a l1.n l1.c, .slice l2.a l2.n l2.c, .slice l3.a l3.n l3.c]⟩, .bool last, .bool true]⟩) h') : F31.T l h Q := by
  have hln : l.n = bs.length := by have := hr.1; rw [bv_length] at this; exact this.symm
  unfold F31.T
  rcases bs with _ | ⟨c, rest⟩
  · simp only [List.length_nil] at hln
    exact ⟨fun _ => hN h (Keep.refl h) rfl, fun h0 => absurd (by omega) h0⟩
  simp only [List.length_cons] at hln hs
  obtain ⟨b, o, ha, hat⟩ := row_get hr (i := 0) (by omega)
  have a0 : h.at b (o + (0 : Int).toNat) = some (.int .u8 c) := hat 0 (by omega)
  refine ⟨fun h0 => absurd h0 (by omega), fun _ => ⟨b, o, ha, ⟨by decide, by omega⟩, c, a0, fun hc1 => hN h (Keep.refl h) (by rw [rd_cons, if_pos hc1]), fun hc1 => ⟨⟨by decide, by omega, by omega, by omega⟩, fun b1 hb1 => ?_⟩⟩⟩
  have hb2 : (h.new b1 (.cells ⟨[.slice (Sl.cut l 1 1 (l.n : Int) (l.c : Int)).a (Sl.cut l 1 1 (l.n : Int) (l.c : Int)).n (Sl.cut l 1 1 (l.n : Int) (l.c : Int)).c, .bool false]⟩ 125 (0, 0))) b1 = some (.cells ⟨[.slice (Sl.cut l 1 1 (l.n : Int) (l.c : Int)).a (Sl.cut l 1 1 (l.n : Int) (l.c : Int)).n (Sl.cut l 1 1 (l.n : Int) (l.c : Int)).c, .bool false]⟩ 125 (0, 0)) := by unfold Hp.new; rw [if_pos rfl]
  have hrow := cut_mid hr (i := 1) (j := l.n) (m := l.c) (by omega) (Nat.le_refl _) hc
  have hrow' : h.row (Sl.cut l 1 1 (l.n : Int) (l.c : Int)).a (Sl.cut l 1 1 (l.n : Int) (l.c : Int)).n (bv rest) := by
    rw [List.take_of_length_le (by rw [List.length_drop, bv_length, List.length_cons]; omega)] at hrow
    exact hrow
  have S0 : St h (h.new b1 (.cells ⟨[.slice (Sl.cut l 1 1 (l.n : Int) (l.c : Int)).a (Sl.cut l 1 1 (l.n : Int) (l.c : Int)).n (Sl.cut l 1 1 (l.n : Int) (l.c : Int)).c, .bool false]⟩ 125 (0, 0))) b1 ⟨rest, false⟩ ⟨none, 0, 0⟩ ⟨none, 0, 0⟩ ⟨none, 0, 0⟩ [] [] [] rest.length :=
    ⟨⟨⟨_, hb2, hrow', by simp [Sl.cut]; omega⟩, hb1, Keep.new hb1 _, fun x hx => hok x (List.mem_cons_of_mem _ hx), by show rest.length ≤ _; omega⟩, Buf.nil _ 2 89, Buf.nil _ 7 87, Buf.nil _ 1 9, .inl rfl, .inl rfl, .inl rfl, by simp, fun x hx => (by cases hx), fun x hx => (by cases hx)⟩
  refine uint_r S0.rd fun h1 U1 R1 => ⟨_, rfl, ?_⟩
  have S1 := S0.step U1 R1 (rU_le _)
  refine uint_r S1.rd fun h2 U2 R2 => ⟨_, rfl, ?_⟩
  have S2 := S1.step U2 R2 (rU_le _)
  refine uint_r S2.rd fun h3 U3 R3 => ⟨_, rfl, ?_⟩
  have S3 := S2.step U3 R3 (rU_le _)
  refine uint_r S3.rd fun h4 U4 R4 => ⟨_, rfl, ?_⟩
  have S4 := S3.step U4 R4 (rU_le _)
  refine rd_out S4 (by omega) (rU_ok _) (fun h' K hno => hN h' K ?_) (fun n5 l1 o1 s5 h5 hso S5 => ?_)
  · rw [rd_cons, if_neg hc1]; unfold rdO; rw [hno]
  refine uint_r S5.rd fun h6 U6 R6 => ⟨_, rfl, ?_⟩
  have S6 := S5.step U6 R6 (rU_le _)
  refine rd_in S6 (by omega) (rU_ok _) (fun h' K hno => hN h' K ?_) (fun n7 l2 i1 s7 h7 hsi S7 => ?_)
  · rw [rd_cons, if_neg hc1]; unfold rdO; rw [hso]; show rdI _ _ _ _ _ _ = none; unfold rdI; rw [hno]
  refine uint_r S7.rd fun h8 U8 R8 => ⟨_, rfl, ?_⟩
  have S8 := S7.step U8 R8 (rU_le _)
  have hrd : rd (c :: rest) = rdP c (rU ⟨rest, false⟩).1 (rU (rU ⟨rest, false⟩).2).1 (rU (rU (rU ⟨rest, false⟩).2).2).1 o1 i1 s7 := by
    rw [rd_cons, if_neg hc1]; unfold rdO; rw [hso]; show rdI _ _ _ _ _ _ = _; unfold rdI; rw [hsi]
  refine rd_ptr S8 (by omega) (rU_ok _) (fun h' K hno => hN h' K ?_) (fun n9 l3 p1 s9 h9 hsp S9 => ?_)
  · rw [hrd]; unfold rdP; rw [hno]
  have hrd2 : rd (c :: rest) = if s9.bad = true then none else if s9.b.length = 0 then some (⟨(rU ⟨rest, false⟩).1, (rU (rU ⟨rest, false⟩).2).1, (rU (rU (rU ⟨rest, false⟩).2).2).1, o1, i1, p1⟩, decide (c = 1)) else none := by
    rw [hrd]; unfold rdP; rw [hsp]
  have K9 := S9.rd.keep
  refine ⟨_, S9.rd.bad_at, fun hb => hN h9 K9 (by rw [hrd2, if_pos hb]), fun hb => ?_⟩
  rw [if_neg (by rw [hb]; decide)] at hrd2
  obtain ⟨q, hq, hqn⟩ := S9.rd.b_at
  refine ⟨q, hq, fun h0 => ?_, fun h0 => hN h9 K9 (by rw [hrd2, if_neg (by omega)])⟩
  rw [if_pos (by omega)] at hrd2
  have room := S9.room
  have hE : EdB h h9 ⟨(rU ⟨rest, false⟩).1, (rU (rU ⟨rest, false⟩).2).1, (rU (rU (rU ⟨rest, false⟩).2).2).1, o1, i1, p1⟩ l1 l2 l3 := ⟨S9.out, S9.inn, S9.ptr, S9.n1, S9.n2, S9.n3⟩
  refine ⟨b, o, ha, ⟨by decide, by omega⟩, c, K9.at a0, fun h1 => ⟨K9.at a0, ?_⟩, fun h1 => ⟨K9.at a0, ?_⟩⟩
  · refine hS h9 _ true l1 l2 l3 ?_ K9 hE ⟨rU_ok _, rU_ok _, rU_ok _, S9.vo, S9.vi⟩ ?_
    · rw [hrd2, decide_eq_true h1]
    · show o1.length + i1.length + p1.length ≤ rest.length + 1; omega
  · refine hS h9 _ false l1 l2 l3 ?_ K9 hE ⟨rU_ok _, rU_ok _, rU_ok _, S9.vo, S9.vi⟩ ?_
    · rw [hrd2, decide_eq_false h1]
    · show o1.length + i1.length + p1.length ≤ rest.length + 1; omega
end Go.Eng.Ytblghgacokoklaa
end
section
/-
  SPECS, 9: are rows of bytes alike; same.
-/
set_option linter.unusedSimpArgs false
set_option linter.unusedVariables false
namespace Go.Eng.Ytblghgacokoklaa
theorem take_step {α : Type} {a b : List α} {i : Nat} (ha : i < a.length) (hb : i < b.length) (h : a.take i = b.take i) (he : a[i] = b[i]) : a.take (i + 1) = b.take (i + 1) := by
  rw [List.take_succ_eq_append_getElem ha, List.take_succ_eq_append_getElem hb, h, he]
theorem ne_at {α : Type} {a b : List α} {i : Nat} (ha : i < a.length) (hb : i < b.length) (he : a[i] ≠ b[i]) : a ≠ b := by
  intro h
  subst h
  exact he rfl
theorem all_take {α : Type} {a b : List α} (hl : a.length = b.length) (h : a.take a.length = b.take a.length) : a = b := by
  rw [List.take_length] at h
  rw [hl, List.take_length] at h
  exact h
theorem all_take2 {α : Type} {a b : List α} {i : Nat} (hl : a.length = b.length) (hi : i = a.length) (h : a.take i = b.take i) : a = b := by
  subst hi
  exact all_take hl h
theorem bytes_eq {h : Hp} {l l1 : Sl} {a b : List Int} {Q : Value → Hp → Prop} (ha : h.row l.a l.n (bv a)) (hb : h.row l1.a l1.n (bv b)) (hs : b.length ≤ 1000000000000)
    (hT : a = b → Q (.bool true) h) (hF : a ≠ b → Q (.bool false) h) : F76.T l l1 h Q := by
  have hla : l.n = a.length := by have := ha.1; rw [bv_length] at this; exact this.symm
  have hlb : l1.n = b.length := by have := hb.1; rw [bv_length] at this; exact this.symm
  unfold F76.T
  refine ⟨fun he => ?_, fun hne => hF fun e => hne (by rw [hla, hlb, e])⟩
  have hl : a.length = b.length := by omega
  refine ⟨fun n h1 => h1 = h ∧ ∃ i : Nat, n = (i : Int) ∧ i ≤ a.length ∧ a.take i = b.take i, fun n _ => a.length - n.toNat, ⟨rfl, 0, rfl, Nat.zero_le _, by simp⟩, ?_⟩
  rintro n h1 ⟨rfl, i, rfl, hi, ht⟩
  refine ⟨fun hlt => ?_, fun hge => hT (all_take2 hl (by omega) ht)⟩
  have ia : i < a.length := by omega
  have ib : i < b.length := by omega
  obtain ⟨b0, o0, ha0, hat⟩ := row_get ha (i := i) (by omega)
  obtain ⟨b1, o1, hb1, hbt⟩ := row_get hb (i := i) (by omega)
  refine ⟨b0, o0, ha0, ⟨by omega, hlt⟩, a[i], ?_, b1, o1, hb1, ⟨by omega, by omega⟩, b[i], ?_, fun e => ⟨⟨rfl, i + 1, next_i ia (by omega), ia, take_step ia ib ht e⟩, ?_⟩, fun e => hF (ne_at ia ib e)⟩
  · rw [Int.toNat_natCast, hat i (by omega)]; simp [bv, ia]
  · rw [Int.toNat_natCast, hbt i (by omega)]; simp [bv, ib]
  · rw [next_i ia (by omega)]
    show a.length - ((i + 1 : Nat) : Int).toNat < a.length - (i : Int).toNat
    omega
theorem sameBytes_eq {h : Hp} {l l1 : Sl} {a b : List Int} {Q : Value → Hp → Prop} (ha : h.row l.a l.n (bv a)) (hb : h.row l1.a l1.n (bv b)) (hs : b.length ≤ 1000000000000)
    (hT : a = b → Q (.bool true) h) (hF : a ≠ b → Q (.bool false) h) : F20.T l l1 h Q := bytes_eq ha hb hs hT hF
/-- Rows of bytes, behind a row of slices (read alone). -/
def Rows (h : Hp) (ss : List Sl) (bs : List (List Int)) : Prop := ss.length = bs.length ∧ ∀ (i : Nat) (hi : i < ss.length) (hj : i < bs.length), h.row ss[i].a ss[i].n (bv bs[i])
theorem RowsAt.rows {h : Hp} {ss : List Sl} {bs : List (List Int)} (R : RowsAt h ss bs) : Rows h ss bs := ⟨R.1, fun i hi hj => by have := (R.2 i hi hj).row; rw [Nat.mul_one] at this; exact this⟩
theorem Rows.keep {h h' : Hp} (k : Keep h h') {ss : List Sl} {bs : List (List Int)} (R : Rows h ss bs) : Rows h' ss bs := ⟨R.1, fun i hi hj => k.row (R.2 i hi hj)⟩
theorem Rows.mid {h : Hp} {ss : List Sl} {bs : List (List Int)} (R : Rows h ss bs) (i k : Nat) : Rows h ((ss.drop i).take k) ((bs.drop i).take k) := by
  refine ⟨by simp [R.1], fun j hj hk => ?_⟩
  simp only [List.length_take, List.length_drop] at hj hk
  have := R.2 (i + j) (by omega) (by omega)
  simpa using this
theorem eqF_spec {h : Hp} {l l1 : Sl} {ss ts : List Sl} {xs ys : List (List Int)} {Q : Value → Hp → Prop} (hl : h.row l.a l.n (slV ss)) (R1 : Rows h ss xs) (hl1 : h.row l1.a l1.n (slV ts)) (R2 : Rows h ts ys) (hs : ys.length ≤ 1000000000000) (hy : ∀ y ∈ ys, y.length ≤ 1000000000000)
    (hT : xs = ys → Q (.bool true) h) (hF : xs ≠ ys → Q (.bool false) h) : F75.T l l1 h Q := by
  have n1 : l.n = xs.length := by have := hl.1; rw [slV_length, R1.1] at this; exact this.symm
  have n2 : l1.n = ys.length := by have := hl1.1; rw [slV_length, R2.1] at this; exact this.symm
  have s1 : ss.length = xs.length := R1.1
  have s2 : ts.length = ys.length := R2.1
  unfold F75.T
  refine ⟨fun he => ?_, fun hne => hF fun e => hne (by rw [n1, n2, e])⟩
  have hl2 : xs.length = ys.length := by omega
  refine ⟨fun n h1 => h1 = h ∧ ∃ i : Nat, n = (i : Int) ∧ i ≤ xs.length ∧ xs.take i = ys.take i, fun n _ => xs.length - n.toNat, ⟨rfl, 0, rfl, Nat.zero_le _, by simp⟩, ?_⟩
  rintro n h1 ⟨rfl, i, rfl, hi, ht⟩
  refine ⟨fun hlt => ?_, fun hge => hT (all_take2 hl2 (by omega) ht)⟩
  have ia : i < xs.length := by omega
  have ib : i < ys.length := by omega
  obtain ⟨b0, o0, ha0, hat⟩ := row_get hl (i := i) (by omega)
  obtain ⟨b1, o1, hb1, hbt⟩ := row_get hl1 (i := i) (by omega)
  refine ⟨b0, o0, ha0, ⟨by omega, hlt⟩, ss[i], ?_, b1, o1, hb1, ⟨by omega, by omega⟩, ts[i], ?_, ?_⟩
  · rw [Int.toNat_natCast, hat i (by omega)]; simp [slV, s1, ia]
  · rw [Int.toNat_natCast, hbt i (by omega)]; simp [slV, s2, ib]
  refine bytes_eq (R1.2 i (by omega) ia) (R2.2 i (by omega) ib) (hy _ (List.getElem_mem ib)) (fun e => ⟨true, rfl, fun _ => ⟨⟨rfl, i + 1, next_i ia (by omega), ia, take_step ia ib ht e⟩, ?_⟩, fun h0 => (by cases h0)⟩) (fun e => ⟨false, rfl, fun h0 => (by cases h0), fun _ => hF (ne_at ia ib e)⟩)
  rw [next_i ia (by omega)]
  show xs.length - ((i + 1 : Nat) : Int).toNat < xs.length - (i : Int).toNat
  omega
/-- Are these just the first records of an edit? -/
def sameP (e : Edit) (recs : List (List Int)) (whole : Bool) : Bool :=
  if (putS e).length < recs.length then false else if whole = true ∧ (putS e).length ≠ recs.length then false else decide ((putS e).take recs.length = recs)
theorem cut_row {h : Hp} {l : Sl} {ss : List Sl} (hr : h.row l.a l.n (slV ss)) {i j m : Nat} (hi : i ≤ j) (hj : j ≤ l.n) (hm : l.n ≤ m) : h.row (Sl.cut l 1 (i : Int) (j : Int) (m : Int)).a (Sl.cut l 1 (i : Int) (j : Int) (m : Int)).n (slV ((ss.drop i).take (j - i))) := by
  have := cut_mid hr hi hj hm
  have e : slV ((ss.drop i).take (j - i)) = ((slV ss).drop i).take (j - i) := by unfold slV; rw [List.map_take, List.map_drop]
  rw [e]; exact this
theorem same_end {h : Hp} {e : Edit} {l3 l4 : Sl} {ss ts : List Sl} {recs : List (List Int)} {Q : Value → Hp → Prop} {w : Bool} (B : Buf h l4 1 25 (slV ts)) (R4 : RowsAt h ts (putS e)) (hl : h.row l3.a l3.n (slV ss)) (R : Rows h ss recs) (hs : recs.length ≤ 1000000000000) (hy : ∀ y ∈ recs, y.length ≤ 1000000000000)
    (h1 : ¬ (putS e).length < recs.length) (h2 : w = true → (putS e).length = recs.length) (hQ : Q (.bool (sameP e recs w)) h) :
    Sl.okCut l4 0 (l3.n : Int) (l4.c : Int) ∧ F75.T (Sl.cut l4 1 0 (l3.n : Int) (l4.c : Int)) l3 h fun r1 h2 => ∃ b : Bool, r1 = .bool b ∧ parB b (Q (.bool true) h2) (Q (.bool false) h2) := by
  have n3 : l3.n = recs.length := by have := hl.1; rw [slV_length, R.1] at this; exact this.symm
  have n4 : l4.n = (putS e).length := by have := B.len; rw [slV_length, R4.1] at this; omega
  have hc := B.cap
  have hp : sameP e recs w = decide ((putS e).take recs.length = recs) := by
    unfold sameP
    rw [if_neg h1, if_neg (fun hh => hh.2 (h2 hh.1))]
  rw [hp] at hQ
  have hB := B.row
  rw [Nat.mul_one] at hB
  have hrow := cut_row hB (i := 0) (j := l3.n) (m := l4.c) (Nat.zero_le _) (by omega) hc
  have hR : Rows h ((ts.drop 0).take (l3.n - 0)) ((putS e).take recs.length) := by
    have := R4.rows.mid 0 (l3.n - 0)
    rw [n3] at this ⊢
    exact this
  refine ⟨⟨by decide, by omega, by omega, by omega⟩, ?_⟩
  refine eqF_spec hrow hR hl R hs hy (fun he => ⟨true, rfl, fun _ => ?_, fun h0 => (by cases h0)⟩) (fun he => ⟨false, rfl, fun h0 => (by cases h0), fun _ => ?_⟩)
  · rw [decide_eq_true he] at hQ; exact hQ
  · rw [decide_eq_false he] at hQ; exact hQ
theorem same_t {h : Hp} {e : Edit} {l l1 l2 l3 : Sl} {ss : List Sl} {recs : List (List Int)} {Q : Value → Hp → Prop} (E : EdAt h e l l1 l2) (c1 : l.n ≤ l.c) (c2 : l1.n ≤ l1.c) (V : e.valid) (n1 : e.out.length + e.inn.length ≤ 1000000000000) (n3 : e.ptr.length < 9223372036854775807)
    (hl : h.row l3.a l3.n (slV ss)) (R : Rows h ss recs) (hs : recs.length ≤ 1000000000000) (hy : ∀ y ∈ recs, y.length ≤ 1000000000000) (hQ : ∀ h', Keep h h' → Q (.bool (sameP e recs true)) h') : F32.Tt e.log e.next e.seq l l1 l2 l3 h Q := by
  unfold F32.Tt
  have m3 : l3.n = recs.length := by have := hl.1; rw [slV_length, R.1] at this; exact this.symm
  refine put_spec E c1 c2 V n1 n3 fun l4 h1 ts B R4 K N => ⟨l4, rfl, fun hlt => ?_, fun hge => ⟨fun heq => ?_, fun hne => ?_⟩⟩
  all_goals have n4 : l4.n = (putS e).length := by have := B.len; rw [slV_length, R4.1] at this; omega
  · have := hQ h1 K
    unfold sameP at this
    rw [if_pos (by omega)] at this
    exact this
  · exact same_end B R4 (K.row hl) (R.keep K) hs hy (by omega) (fun _ => by omega) (hQ h1 K)
  · have := hQ h1 K
    unfold sameP at this
    rw [if_neg (by omega), if_pos ⟨rfl, by omega⟩] at this
    exact this
theorem same_f {h : Hp} {e : Edit} {l l1 l2 l3 : Sl} {ss : List Sl} {recs : List (List Int)} {Q : Value → Hp → Prop} (E : EdAt h e l l1 l2) (c1 : l.n ≤ l.c) (c2 : l1.n ≤ l1.c) (V : e.valid) (n1 : e.out.length + e.inn.length ≤ 1000000000000) (n3 : e.ptr.length < 9223372036854775807)
    (hl : h.row l3.a l3.n (slV ss)) (R : Rows h ss recs) (hs : recs.length ≤ 1000000000000) (hy : ∀ y ∈ recs, y.length ≤ 1000000000000) (hQ : ∀ h', Keep h h' → Q (.bool (sameP e recs false)) h') : F32.Tf e.log e.next e.seq l l1 l2 l3 h Q := by
  unfold F32.Tf
  have m3 : l3.n = recs.length := by have := hl.1; rw [slV_length, R.1] at this; exact this.symm
  refine put_spec E c1 c2 V n1 n3 fun l4 h1 ts B R4 K N => ⟨l4, rfl, fun hlt => ?_, fun hge => ?_⟩
  all_goals have n4 : l4.n = (putS e).length := by have := B.len; rw [slV_length, R4.1] at this; omega
  · have := hQ h1 K
    unfold sameP at this
    rw [if_pos (by omega)] at this
    exact this
  · exact same_end B R4 (K.row hl) (R.keep K) hs hy (by omega) (fun h0 => by cases h0) (hQ h1 K)
end Go.Eng.Ytblghgacokoklaa
end
section
/-
  SPECS, 10: Get.
-/
set_option linter.unusedSimpArgs false
set_option linter.unusedVariables false
namespace Go.Eng.Ytblghgacokoklaa
def zE : Edit := ⟨0, 0, 0, [], [], []⟩
def pl0 : Placed := ⟨0, 0, 0, 0, 0, ⟨#[]⟩, ⟨#[]⟩⟩
def joinE (cur x : Edit) (part : List (List Int)) : Edit := if part.length = 0 then x else ⟨x.log, x.next, x.seq, cur.out ++ x.out, cur.inn ++ x.inn, x.ptr⟩
def withP (e : Edit) : Edit := ⟨e.log, e.next, e.seq, e.out, e.inn ++ [pl0], e.ptr⟩
/-- What Get tells: of the records that are left; the edits so far, the edit that is read, its records. -/
def getR : List (List Int) → List Edit → Edit → List (List Int) → Option (List Edit)
  | [], acc, cur, part => if part.length = 0 then some acc else if sameP (withP cur) part false = true then some acc else none
  | r :: rs, acc, cur, part =>
    match rd r with
    | none => none
    | some x => if x.2 = true then (if sameP (joinE cur x.1 part) (part ++ [r]) true = true then getR rs (acc ++ [joinE cur x.1 part]) zE [] else none) else getR rs acc (joinE cur x.1 part) (part ++ [r])
theorem getR_none {r : List Int} {rs part : List (List Int)} {acc : List Edit} {cur : Edit} (h : rd r = none) : getR (r :: rs) acc cur part = none := by
  unfold getR; rw [h]
theorem getR_some {r : List Int} {rs part : List (List Int)} {acc : List Edit} {cur : Edit} {x : Edit × Bool} (h : rd r = some x) : getR (r :: rs) acc cur part = if x.2 = true then (if sameP (joinE cur x.1 part) (part ++ [r]) true = true then getR rs (acc ++ [joinE cur x.1 part]) zE [] else none) else getR rs acc (joinE cur x.1 part) (part ++ [r]) := by
  conv => lhs; unfold getR
  rw [h]
/-- How much records hold. -/
def tot (l : List (List Int)) : Nat := (l.map fun r => r.length + 1).sum
theorem tot_append (a b : List (List Int)) : tot (a ++ b) = tot a + tot b := by simp [tot]
theorem tot_take_succ {l : List (List Int)} {i : Nat} (h : i < l.length) : tot (l.take (i + 1)) = tot (l.take i) + (l[i].length + 1) := by
  rw [List.take_succ_eq_append_getElem h, tot_append]
  simp [tot]
theorem tot_mem {l : List (List Int)} {r : List Int} (h : r ∈ l) : r.length + 1 ≤ tot l := by
  induction l with
  | nil => cases h
  | cons a l ih =>
    have e : tot (a :: l) = a.length + 1 + tot l := by simp [tot]
    rcases List.mem_cons.1 h with rfl | h
    · omega
    · have := ih h; omega
theorem tot_len (l : List (List Int)) : l.length ≤ tot l := by
  induction l with
  | nil => simp
  | cons a l ih =>
    have e : tot (a :: l) = a.length + 1 + tot l := by simp [tot]
    rw [e, List.length_cons]; omega
theorem tot_take (l : List (List Int)) (i : Nat) : tot (l.take i) ≤ tot l := by
  have := tot_append (l.take i) (l.drop i)
  rw [List.take_append_drop] at this
  omega
/-- An edit and where its lists lie. -/
structure EdS where
  e : Edit
  a : Sl
  b : Sl
  c : Sl
def EdS.cells (x : EdS) : List Value := [.int .u64 x.e.log, .int .u64 x.e.next, .int .u64 x.e.seq, .slice x.a.a x.a.n x.a.c, .slice x.b.a x.b.n x.b.c, .slice x.c.a x.c.n x.c.c]
def edV (l : List EdS) : List Value := l.flatMap EdS.cells
theorem ed_n {h : Hp} {l : Sl} {t : Nat} {o : List EdS} (B : Buf h l 6 t (edV o)) : l.n = o.length := by
  have h1 := B.len
  unfold edV at h1
  rw [flat_length EdS.cells 6 (fun _ => rfl)] at h1
  omega
structure EdOk (h : Hp) (x : EdS) : Prop where
  out : Buf h x.a 2 89 (outV x.e.out)
  inn : Buf h x.b 7 87 (inV x.e.inn)
  ptr : Buf h x.c 1 9 (ptrV x.e.ptr)
  val : x.e.valid
  size : x.e.out.length + x.e.inn.length ≤ 400000000000
  nptr : x.e.ptr.length ≤ 1000000000
theorem EdOk.at {h : Hp} {x : EdS} (E : EdOk h x) : EdAt h x.e x.a x.b x.c := ⟨E.out.row, E.inn.row, by have := E.ptr.row; rw [Nat.mul_one] at this; exact this⟩
theorem EdOk.keep {h h' : Hp} (k : Keep h h') {x : EdS} (E : EdOk h x) : EdOk h' x := ⟨E.out.keep k, E.inn.keep k, E.ptr.keep k, E.val, E.size, E.nptr⟩
theorem EdOk.upd {h h' : Hp} {s s' : Sl} {sz t : Nat} {vs : List Value} (U : Upd h h' s s') (B : Buf h s sz t vs) (t1 : 89 ≠ t) (t2 : 87 ≠ t) (t3 : 9 ≠ t) {x : EdS} (E : EdOk h x) : EdOk h' x :=
  ⟨E.out.upd U (buf_off E.out B t1), E.inn.upd U (buf_off E.inn B t2), E.ptr.upd U (buf_off E.ptr B t3), E.val, E.size, E.nptr⟩
theorem EdB.at {h0 h : Hp} {e : Edit} {l1 l2 l3 : Sl} (E : EdB h0 h e l1 l2 l3) : EdAt h e l1 l2 l3 := ⟨E.out.row, E.inn.row, by have := E.ptr.row; rw [Nat.mul_one] at this; exact this⟩
theorem EdB.keep {h0 h h' : Hp} (k : Keep h h') {e : Edit} {l1 l2 l3 : Sl} (E : EdB h0 h e l1 l2 l3) : EdB h0 h' e l1 l2 l3 := ⟨E.out.keep k, E.inn.keep k, E.ptr.keep k, E.n1, E.n2, E.n3⟩
theorem EdB.upd {h0 h h' : Hp} {s s' : Sl} {sz t : Nat} {vs : List Value} (U : Upd h h' s s') (B : Buf h s sz t vs) (t1 : 89 ≠ t) (t2 : 87 ≠ t) (t3 : 9 ≠ t) {e : Edit} {l1 l2 l3 : Sl} (E : EdB h0 h e l1 l2 l3) : EdB h0 h' e l1 l2 l3 :=
  ⟨E.out.upd U (buf_off E.out B t1), E.inn.upd U (buf_off E.inn B t2), E.ptr.upd U (buf_off E.ptr B t3), E.n1, E.n2, E.n3⟩
theorem new_mono {h h1 : Hp} (k : Keep h h1) {s : Sl} (N : s.a = none ∨ New h1 s) : s.a = none ∨ New h s := by
  rcases N with h0 | ⟨b, hb, hn⟩
  · exact .inl h0
  · exact .inr ⟨b, hb, k.dom b hn⟩
theorem EdB.mono {h0 h1 h : Hp} (k : Keep h0 h1) {e : Edit} {l1 l2 l3 : Sl} (E : EdB h1 h e l1 l2 l3) : EdB h0 h e l1 l2 l3 := ⟨E.out, E.inn, E.ptr, new_mono k E.n1, new_mono k E.n2, new_mono k E.n3⟩
theorem zE_b (h : Hp) : EdB h h zE ⟨none, 0, 0⟩ ⟨none, 0, 0⟩ ⟨none, 0, 0⟩ := ⟨Buf.nil h 2 89, Buf.nil h 7 87, Buf.nil h 1 9, .inl rfl, .inl rfl, .inl rfl⟩
theorem zE_valid : zE.valid := ⟨⟨by decide, by decide⟩, ⟨by decide, by decide⟩, ⟨by decide, by decide⟩, fun p hp => (by cases hp), fun p hp => (by cases hp)⟩
theorem out_one (o : List Place) : ∀ v ∈ outV o, Value.oneCell' v = true := by
  intro v hv
  obtain ⟨p, _, hp⟩ := List.mem_flatMap.1 hv
  simp only [Place.cells, List.mem_cons, List.not_mem_nil, or_false] at hp
  rcases hp with rfl | rfl <;> rfl
theorem in_one (o : List Placed) : ∀ v ∈ inV o, Value.oneCell' v = true := by
  intro v hv
  obtain ⟨p, _, hp⟩ := List.mem_flatMap.1 hv
  simp only [Placed.cells, List.mem_cons, List.not_mem_nil, or_false] at hp
  rcases hp with rfl | rfl | rfl | rfl | rfl | rfl | rfl <;> rfl
theorem outV_append (a b : List Place) : outV (a ++ b) = outV a ++ outV b := by simp [outV]
theorem inV_append (a b : List Placed) : inV (a ++ b) = inV a ++ inV b := by simp [inV]
theorem part_succ {α : Type} {l : List α} {f i : Nat} (hf : f ≤ i) (hi : i < l.length) : (l.drop f).take (i + 1 - f) = (l.drop f).take (i - f) ++ [l[i]] := by
  have h1 : i - f < (l.drop f).length := by rw [List.length_drop]; omega
  rw [show i + 1 - f = (i - f) + 1 by omega, List.take_succ_eq_append_getElem h1]
  congr 2
  rw [List.getElem_drop]
  congr 1
  omega
/-- The records that Get is given. -/
structure Recs (h : Hp) (l : Sl) (ss : List Sl) (recs : List (List Int)) : Prop where
  row : h.row l.a l.n (slV ss)
  cap : l.n ≤ l.c
  rows : Rows h ss recs
  caps : ∀ s ∈ ss, s.n ≤ s.c
  ok : ∀ r ∈ recs, ∀ c ∈ r, 0 ≤ c ∧ c < 256
  each : ∀ r ∈ recs, r.length ≤ 1000000000
  tot : tot recs ≤ 200000000000
theorem get_spec {h : Hp} {l : Sl} {ss : List Sl} {recs : List (List Int)} {Q : Value → Hp → Prop} (A : Recs h l ss recs)
    (hN : ∀ h', Keep h h' → getR recs [] zE [] = none → Q (.tuple ⟨[.slice none 0 0, .int .i64 140]⟩) h')
    (hS : ∀ h' l1 (L : List EdS), Keep h h' → getR recs [] zE [] = some (L.map EdS.e) → Buf h' l1 6 60 (edV L) → (∀ x ∈ L, EdOk h' x) → (l1.a = none ∨ New h l1) → L.length ≤ 200000000000 → Q (.tuple ⟨[.slice l1.a l1.n l1.c, .int .i64 0]⟩) h') : F11.T l h Q := by
  have hss : ss.length = recs.length := A.rows.1
  have hln : l.n = recs.length := by have := A.row.1; rw [slV_length, hss] at this; exact this.symm
  have hrl := tot_len recs
  have htot := A.tot
  have hy : ∀ y ∈ recs, y.length ≤ 1000000000000 := fun y hy => by have := tot_mem hy; omega
  have hcap := A.cap
  unfold F11.T
  refine ⟨fun l1 n n1 n2 n3 n4 l2 l3 l4 h1 => ∃ (i f : Nat) (L : List EdS) (cur : Edit) (hs : Hp), n = (f : Int) ∧ n1 = (i : Int) ∧ f ≤ i ∧ i ≤ recs.length ∧ n2 = cur.log ∧ n3 = cur.next ∧ n4 = cur.seq ∧ Keep h hs ∧ Keep hs h1 ∧ (l1.a = none ∨ New h l1) ∧ Buf h1 l1 6 60 (edV L) ∧ (∀ x ∈ L, EdOk hs x) ∧ EdB hs h1 cur l2 l3 l4 ∧ cur.valid ∧ cur.out.length + cur.inn.length ≤ tot (recs.take i) ∧ cur.ptr.length ≤ 1000000000 ∧ L.length ≤ i ∧ getR (recs.drop i) (L.map EdS.e) cur ((recs.drop f).take (i - f)) = getR recs [] zE [],
    fun _ _ n1 _ _ _ _ _ _ _ => recs.length - n1.toNat, ⟨0, 0, [], zE, h, rfl, rfl, Nat.le_refl _, Nat.zero_le _, rfl, rfl, rfl, Keep.refl h, Keep.refl h, .inl rfl, Buf.nil h 6 60, fun x hx => (by cases hx), zE_b h, zE_valid, Nat.zero_le _, Nat.zero_le _, Nat.zero_le _, rfl⟩, ?_⟩
  rintro l1 n n1 n2 n3 n4 l2 l3 l4 h1 ⟨i, f, L, cur, hs, rfl, rfl, hfi, hi, rfl, rfl, rfl, K0, K1, N1, B1, hL, E, V, hsz, hpt, hLn, hG⟩
  refine ⟨fun hlt => ?_, fun hge => ?_⟩
  · have hi1 : i < recs.length := by omega
    have hi2 : i < ss.length := by omega
    obtain ⟨b, o, ha, hat⟩ := row_get ((K0.trans K1).row A.row) (i := i) (by omega)
    have hv : (slV ss)[i]? = some (.slice ss[i].a ss[i].n ss[i].c) := by simp [slV, hi2]
    refine ⟨b, o, ha, ⟨by omega, hlt⟩, ss[i], by rw [Int.toNat_natCast, hat i (by omega), hv], ?_⟩
    have hrow := (K0.trans K1).row (A.rows.2 i hi2 hi1)
    have hri := List.getElem_mem hi1
    have hrm := tot_mem hri
    have hre := A.each _ hri
    have hti := tot_take_succ hi1
    have htl := tot_take recs (i + 1)
    have hpart := part_succ hfi hi1
    have hplen : ((recs.drop f).take (i - f)).length = i - f := by rw [List.length_take, List.length_drop]; omega
    rw [List.drop_eq_getElem_cons hi1] at hG
    refine read_spec hrow (A.caps _ (List.getElem_mem hi2)) (A.ok _ hri) (by omega) (fun h2 K2 hno => ?_) (fun h2 x last k1 k2 k3 hso K2 E2 V2 hx => ?_)
    · rw [getR_none hno] at hG
      exact ⟨0, 0, 0, ⟨none, 0, 0⟩, ⟨none, 0, 0⟩, ⟨none, 0, 0⟩, false, fun h0 => (by cases h0), fun _ => ⟨false, fun h0 => (by cases h0), fun _ => ⟨rfl, hN h2 ((K0.trans K1).trans K2) hG.symm⟩⟩⟩
    rw [getR_some hso] at hG
    simp only at hG
    have hw : IntKind.wrap .i64 ((i : Int) + 1) = ((i + 1 : Nat) : Int) := next_i hi1 (by omega)
    have next : ∀ h4 q1 q2 J, J = joinE cur x ((recs.drop f).take (i - f)) → Keep hs h4 → Buf h4 l1 6 60 (edV L) → EdB hs h4 J q1 q2 k3 → J.valid → J.log = x.log → J.next = x.next → J.seq = x.seq → J.ptr = x.ptr → J.out.length + J.inn.length ≤ tot (recs.take (i + 1)) →
        (last = false → (∃ (i' f' : Nat) (L' : List EdS) (cur : Edit) (hs : Hp), (f : Int) = (f' : Int) ∧ ((i + 1 : Nat) : Int) = (i' : Int) ∧ f' ≤ i' ∧ i' ≤ recs.length ∧ x.log = cur.log ∧ x.next = cur.next ∧ x.seq = cur.seq ∧ Keep h hs ∧ Keep hs h4 ∧ (l1.a = none ∨ New h l1) ∧ Buf h4 l1 6 60 (edV L') ∧ (∀ x ∈ L', EdOk hs x) ∧ EdB hs h4 cur q1 q2 k3 ∧ cur.valid ∧ cur.out.length + cur.inn.length ≤ tot (recs.take i') ∧ cur.ptr.length ≤ 1000000000 ∧ L'.length ≤ i' ∧ getR (recs.drop i') (L'.map EdS.e) cur ((recs.drop f').take (i' - f')) = getR recs [] zE []) ∧ recs.length - (((i + 1 : Nat) : Int)).toNat < recs.length - ((i : Int)).toNat) ∧
        (last = true → Sl.okCut l (f : Int) ((i + 1 : Nat) : Int) (l.c : Int) ∧ F32.Tt x.log x.next x.seq q1 q2 k3 (Sl.cut l 1 (f : Int) ((i + 1 : Nat) : Int) (l.c : Int)) h4 fun r1 h5 => ∃ b3 : Bool, r1 = .bool b3 ∧ parB b3 (appendD l1 60 6 96 [.int .u64 0, .int .u64 0, .int .u64 0, .slice none 0 0, .slice none 0 0, .slice none 0 0] 1 [.int .u64 x.log, .int .u64 x.next, .int .u64 x.seq, .slice q1.a q1.n q1.c, .slice q2.a q2.n q2.c, .slice k3.a k3.n k3.c] h5 fun l11 h6 => (∃ (i' f' : Nat) (L' : List EdS) (cur : Edit) (hs : Hp), ((i + 1 : Nat) : Int) = (f' : Int) ∧ ((i + 1 : Nat) : Int) = (i' : Int) ∧ f' ≤ i' ∧ i' ≤ recs.length ∧ (0 : Int) = cur.log ∧ (0 : Int) = cur.next ∧ (0 : Int) = cur.seq ∧ Keep h hs ∧ Keep hs h6 ∧ (l11.a = none ∨ New h l11) ∧ Buf h6 l11 6 60 (edV L') ∧ (∀ x ∈ L', EdOk hs x) ∧ EdB hs h6 cur ⟨none, 0, 0⟩ ⟨none, 0, 0⟩ ⟨none, 0, 0⟩ ∧ cur.valid ∧ cur.out.length + cur.inn.length ≤ tot (recs.take i') ∧ cur.ptr.length ≤ 1000000000 ∧ L'.length ≤ i' ∧ getR (recs.drop i') (L'.map EdS.e) cur ((recs.drop f').take (i' - f')) = getR recs [] zE []) ∧ recs.length - (((i + 1 : Nat) : Int)).toNat < recs.length - ((i : Int)).toNat) (Q (.tuple ⟨[.slice none 0 0, .int .i64 140]⟩) h5)) := by
      intro h4 q1 q2 J hJ K4 B4 EJ VJ j1 j2 j3 j4 hJs
      have hm : recs.length - (((i + 1 : Nat) : Int)).toNat < recs.length - ((i : Int)).toNat := by omega
      have hJp : J.ptr.length ≤ 1000000000 := by rw [j4]; omega
      refine ⟨fun hl0 => ⟨⟨i + 1, f, L, J, hs, rfl, rfl, by omega, hi1, j1.symm, j2.symm, j3.symm, K0, K4, N1, B4, hL, EJ, VJ, hJs, hJp, by omega, ?_⟩, hm⟩, fun hl1 => ?_⟩
      · rw [hl0, if_neg (by decide), ← hJ] at hG
        rw [hpart]; exact hG
      · rw [hl1, if_pos rfl, ← hJ] at hG
        refine ⟨⟨by omega, by omega, by omega, by omega⟩, ?_⟩
        have hcut := cut_row A.row (i := f) (j := i + 1) (m := l.c) (by omega) (by omega) hcap
        have hR := A.rows.mid f (i + 1 - f)
        rw [← j1, ← j2, ← j3]
        refine same_t EJ.at EJ.out.cap EJ.inn.cap VJ (by omega) (by omega) ((K0.trans K4).row hcut) (hR.keep (K0.trans K4)) (by rw [List.length_take, List.length_drop]; omega) (fun y hym => hy y (List.mem_of_mem_drop (List.mem_of_mem_take hym))) fun h5 K5 => ⟨_, rfl, fun hT => ?_, fun hF => ?_⟩
        · rw [hpart] at hT
          rw [if_pos hT] at hG
          have hLl := ed_n B4
          refine append_buf (B4.keep K5) rfl rfl (by omega) fun l11 h6 B6 hn6 U6 => ⟨⟨i + 1, i + 1, L ++ [⟨J, q1, q2, k3⟩], zE, h6, rfl, rfl, Nat.le_refl _, hi1, rfl, rfl, rfl, ?_, Keep.refl h6, ?_, ?_, ?_, zE_b h6, zE_valid, Nat.zero_le _, Nat.zero_le _, ?_, ?_⟩, hm⟩
          · exact (keep_grow ((K0.trans K4).trans K5) N1 U6).1
          · exact (keep_grow ((K0.trans K4).trans K5) N1 U6).2
          · unfold edV at B6 ⊢
            rw [List.flatMap_append]
            simpa [EdS.cells] using B6
          · intro y hym
            rcases List.mem_append.1 hym with hym | hym
            · exact ((hL y hym).keep (K4.trans K5)).upd U6 (B4.keep K5) (by decide) (by decide) (by decide)
            · rw [List.mem_singleton] at hym
              subst hym
              have EJ' := (EJ.keep K5).upd U6 (B4.keep K5) (by decide) (by decide) (by decide)
              exact ⟨EJ'.out, EJ'.inn, EJ'.ptr, VJ, by show J.out.length + J.inn.length ≤ 400000000000; omega, by show J.ptr.length ≤ 1000000000; omega⟩
          · rw [List.length_append, List.length_singleton]; omega
          · rw [List.map_append, Nat.sub_self, List.take_zero]
            exact hG
        · rw [hpart] at hF
          rw [if_neg (by rw [hF]; decide)] at hG
          exact hN h5 ((K0.trans K4).trans K5) hG.symm
    have go : ∀ Kf : Sl → Sl → Hp → Prop, (∀ h4 q1 q2 J, J = joinE cur x ((recs.drop f).take (i - f)) → Keep hs h4 → Buf h4 l1 6 60 (edV L) → EdB hs h4 J q1 q2 k3 → J.valid → J.log = x.log → J.next = x.next → J.seq = x.seq → J.ptr = x.ptr → J.out.length + J.inn.length ≤ tot (recs.take (i + 1)) → Kf q1 q2 h4) →
        par ((f : Int) < (i : Int)) (∃ vs, h2.row k1.a (k1.n * 2) vs ∧ (∀ v ∈ vs, Value.oneCell' v = true) ∧ appendD l2 89 2 16 [.int .i64 0, .int .u64 0] k1.n vs h2 fun l9 h3 => ∃ vs1, h3.row k2.a (k2.n * 7) vs1 ∧ (∀ v ∈ vs1, Value.oneCell' v = true) ∧ appendD l3 87 7 72 [.int .i64 0, .int .u64 0, .int .i64 0, .int .i64 0, .int .i64 0, .string (ByteArray.mk #[]), .string (ByteArray.mk #[])] k2.n vs1 h3 fun l10 h4 => Kf l9 l10 h4) (Kf k1 k2 h2) := by
      intro Kf next
      refine ⟨fun hlt2 => ?_, fun hge2 => ?_⟩
      · have hpn : ¬ ((recs.drop f).take (i - f)).length = 0 := by omega
        refine ⟨_, E2.out.row, out_one _, ?_⟩
        have o2 := out_n E2.out
        have o1 := out_n E.out
        have p1 := in_n E.inn
        have p2 := in_n E2.inn
        have Ek := E.keep K2
        refine append_buf Ek.out rfl E2.out.len (by omega) fun l9 h3 B3 hn3 U3 => ?_
        have E3 := (EdOk.mk (x := ⟨x, k1, k2, k3⟩) E2.out E2.inn E2.ptr V2 (by show x.out.length + x.inn.length ≤ 400000000000; omega) (by show x.ptr.length ≤ 1000000000; omega))
        have i3 : Buf h3 k2 7 87 (inV x.inn) := E2.inn.upd U3 (buf_off E2.inn Ek.out (by decide))
        have q3 : Buf h3 k3 1 9 (ptrV x.ptr) := E2.ptr.upd U3 (buf_off E2.ptr Ek.out (by decide))
        have ci3 : Buf h3 l3 7 87 (inV cur.inn) := Ek.inn.upd U3 (buf_off Ek.inn Ek.out (by decide))
        have b3 : Buf h3 l1 6 60 (edV L) := (B1.keep K2).upd U3 (buf_off (B1.keep K2) Ek.out (by decide))
        obtain ⟨K3, N3⟩ := keep_grow (K1.trans K2) E.n1 U3
        refine ⟨_, i3.row, in_one _, ?_⟩
        refine append_buf ci3 rfl i3.len (by omega) fun l10 h4 B4 hn4 U4 => ?_
        have o4 : Buf h4 l9 2 89 (outV cur.out ++ outV x.out) := B3.upd U4 (buf_off B3 ci3 (by decide))
        have q4 : Buf h4 k3 1 9 (ptrV x.ptr) := q3.upd U4 (buf_off q3 ci3 (by decide))
        have b4 : Buf h4 l1 6 60 (edV L) := b3.upd U4 (buf_off b3 ci3 (by decide))
        obtain ⟨K4, N4⟩ := keep_grow K3 E.n2 U4
        have nn := next h4 l9 l10 (joinE cur x ((recs.drop f).take (i - f))) rfl K4 b4
        have hJe : joinE cur x ((recs.drop f).take (i - f)) = ⟨x.log, x.next, x.seq, cur.out ++ x.out, cur.inn ++ x.inn, x.ptr⟩ := by unfold joinE; rw [if_neg hpn]
        rw [hJe] at nn
        have nn := nn ⟨by rw [outV_append]; exact o4, by rw [inV_append]; exact B4, q4, N3, N4, new_mono K1 E2.n3⟩
          ⟨V2.log, V2.next, V2.seq, fun p hp => by rcases List.mem_append.1 hp with hp | hp; exact V.out p hp; exact V2.out p hp, fun p hp => by rcases List.mem_append.1 hp with hp | hp; exact V.inn p hp; exact V2.inn p hp⟩ rfl rfl rfl rfl
          (by show (cur.out ++ x.out).length + (cur.inn ++ x.inn).length ≤ _; simp only [List.length_append]; omega)
        exact nn
      · have hpn : ((recs.drop f).take (i - f)).length = 0 := by omega
        have hJe : joinE cur x ((recs.drop f).take (i - f)) = x := by unfold joinE; rw [if_pos hpn]
        have nn := next h2 k1 k2 (joinE cur x ((recs.drop f).take (i - f))) rfl (K1.trans K2) (B1.keep K2)
        rw [hJe] at nn
        have nn := nn (E2.mono K1) V2 rfl rfl rfl rfl (by omega)
        exact nn
    refine ⟨x.log, x.next, x.seq, k1, k2, k3, last, fun hl => ⟨true, fun _ => ⟨by rw [hl], ?_⟩, fun h0 => (by cases h0)⟩, fun hl => ⟨true, fun _ => ⟨by rw [hl], ?_⟩, fun h0 => (by cases h0)⟩⟩
    · rw [hw]
      exact go _ (fun h4 q1 q2 J a1 a2 a3 a4 a5 a6 a7 a8 a9 a10 => (next h4 q1 q2 J a1 a2 a3 a4 a5 a6 a7 a8 a9 a10).2 hl)
    · rw [hw]
      exact go _ (fun h4 q1 q2 J a1 a2 a3 a4 a5 a6 a7 a8 a9 a10 => (next h4 q1 q2 J a1 a2 a3 a4 a5 a6 a7 a8 a9 a10).1 hl)
  · have hie : i = recs.length := by omega
    subst hie
    rw [List.drop_length, getR] at hG
    have hplen : ((recs.drop f).take (recs.length - f)).length = recs.length - f := by rw [List.length_take, List.length_drop]; omega
    rw [hplen] at hG
    have p1 := in_n E.inn
    have htl := tot_take recs recs.length
    refine append_buf E.inn rfl rfl (by omega) fun l13 h9 B9 hn9 U9 => ?_
    obtain ⟨K9, N9⟩ := keep_grow K1 E.n2 U9
    have o9 : Buf h9 l2 2 89 (outV cur.out) := E.out.upd U9 (buf_off E.out E.inn (by decide))
    have q9 : Buf h9 l4 1 9 (ptrV cur.ptr) := E.ptr.upd U9 (buf_off E.ptr E.inn (by decide))
    have b9 : Buf h9 l1 6 60 (edV L) := B1.upd U9 (buf_off B1 E.inn (by decide))
    have fin : ∀ h', Keep h9 h' → getR recs [] zE [] = some (L.map EdS.e) → Q (.tuple ⟨[.slice l1.a l1.n l1.c, .int .i64 0]⟩) h' := fun h' K' hg =>
      hS h' l1 L ((K0.trans K9).trans K') hg (b9.keep K') (fun x hx => (hL x hx).keep (K9.trans K')) N1 (by omega)
    refine ⟨fun hlt => ⟨⟨by omega, by omega, by omega, by omega⟩, ?_⟩, fun hge2 => fin h9 (Keep.refl h9) ?_⟩
    · have hcut := cut_row A.row (i := f) (j := l.n) (m := l.c) (by omega) (Nat.le_refl _) hcap
      have hR := A.rows.mid f (l.n - f)
      rw [if_neg (by omega)] at hG
      have hpv : ∀ p ∈ (withP cur).inn, p.lv < 9223372036854775808 ∧ okU p.num ∧ p.weight < 9223372036854775808 ∧ p.bytes < 9223372036854775808 ∧ p.entries < 9223372036854775808 := fun p hp => by
        rcases List.mem_append.1 hp with hp | hp
        · exact V.inn p hp
        · rw [List.mem_singleton] at hp
          subst hp
          exact ⟨by decide, ⟨by decide, by decide⟩, by decide, by decide, by decide⟩
      have EW : EdB hs h9 (withP cur) l2 l13 l4 := ⟨o9, by show Buf h9 l13 7 87 (inV (cur.inn ++ [pl0])); rw [inV_append]; exact B9, q9, E.n1, N9, E.n3⟩
      refine same_f (e := withP cur) EW.at EW.out.cap EW.inn.cap ⟨V.log, V.next, V.seq, V.out, hpv⟩ ?_ (by show cur.ptr.length < _; omega) ((K0.trans K9).row hcut) (hR.keep (K0.trans K9)) (by rw [List.length_take, List.length_drop]; omega) (fun y hym => hy y (List.mem_of_mem_drop (List.mem_of_mem_take hym))) fun h5 K5 => ⟨_, rfl, fun hT => ?_, fun hF => ?_⟩
      · show cur.out.length + (cur.inn ++ [pl0]).length ≤ 1000000000000
        rw [List.length_append, List.length_singleton]; omega
      · rw [hln] at hT
        rw [if_pos hT] at hG
        exact fin h5 K5 hG.symm
      · rw [hln] at hF
        rw [if_neg (by rw [hF]; decide)] at hG
        exact hN h5 ((K0.trans K9).trans K5) hG.symm
    · rw [if_pos (by omega)] at hG
      exact hG.symm
end Go.Eng.Ytblghgacokoklaa
end
section
/-
  SPECS, 11: are edits alike; a name; the chapter's example; are there few enough.
-/
set_option linter.unusedSimpArgs false
set_option linter.unusedVariables false
namespace Go.Eng.Ytblghgacokoklaa
theorem texts_eq {h : Hp} {l l1 : Sl} {a b : List ByteArray} {Q : Value → Hp → Prop} (ha : h.row l.a l.n (ptrV a)) (hb : h.row l1.a l1.n (ptrV b)) (hs : b.length ≤ 1000000000000)
    (hT : a = b → Q (.bool true) h) (hF : a ≠ b → Q (.bool false) h) : F60.T l l1 h Q := by
  have hla : l.n = a.length := by have := ha.1; unfold ptrV at this; rw [List.length_map] at this; exact this.symm
  have hlb : l1.n = b.length := by have := hb.1; unfold ptrV at this; rw [List.length_map] at this; exact this.symm
  unfold F60.T
  refine ⟨fun he => ?_, fun hne => hF fun e => hne (by rw [hla, hlb, e])⟩
  have hl : a.length = b.length := by omega
  refine ⟨fun n h1 => h1 = h ∧ ∃ i : Nat, n = (i : Int) ∧ i ≤ a.length ∧ a.take i = b.take i, fun n _ => a.length - n.toNat, ⟨rfl, 0, rfl, Nat.zero_le _, by simp⟩, ?_⟩
  rintro n h1 ⟨rfl, i, rfl, hi, ht⟩
  refine ⟨fun hlt => ?_, fun hge => hT (all_take2 hl (by omega) ht)⟩
  have ia : i < a.length := by omega
  have ib : i < b.length := by omega
  obtain ⟨b0, o0, ha0, hat⟩ := row_get ha (i := i) (by omega)
  obtain ⟨b1, o1, hb1, hbt⟩ := row_get hb (i := i) (by omega)
  refine ⟨b0, o0, ha0, ⟨by omega, hlt⟩, a[i], ?_, b1, o1, hb1, ⟨by omega, by omega⟩, b[i], ?_, fun e => ⟨⟨rfl, i + 1, next_i ia (by omega), ia, take_step ia ib ht e⟩, ?_⟩, fun e => hF (ne_at ia ib e)⟩
  · rw [Int.toNat_natCast, hat i (by omega)]; simp [ptrV, ia]
  · rw [Int.toNat_natCast, hbt i (by omega)]; simp [ptrV, ib]
  · rw [next_i ia (by omega)]
    show a.length - ((i + 1 : Nat) : Int).toNat < a.length - (i : Int).toNat
    omega
theorem place_inj {p q : Place} (h : p.cells = q.cells) : p = q := by
  cases p; cases q
  simp only [Place.cells, List.cons.injEq, Value.int.injEq, true_and, and_true] at h
  rw [h.1, h.2]
theorem placed_inj {p q : Placed} (h : p.cells = q.cells) : p = q := by
  cases p; cases q
  simp only [Placed.cells, List.cons.injEq, Value.int.injEq, Value.string.injEq, true_and, and_true] at h
  obtain ⟨h1, h2, h3, h4, h5, h6, h7⟩ := h
  rw [h1, h2, h3, h4, h5, h6, h7]
theorem edit_eq {h : Hp} {e g : Edit} {l l1 l2 m m1 m2 : Sl} {Q : Value → Hp → Prop} (E : EdAt h e l l1 l2) (G : EdAt h g m m1 m2) (n1 : g.out.length ≤ 1000000000000) (n2 : g.inn.length ≤ 1000000000000) (n3 : g.ptr.length ≤ 1000000000000)
    (hT : e = g → Q (.bool true) h) (hF : e ≠ g → Q (.bool false) h) : F23.T e.log e.next e.seq l l1 l2 g.log g.next g.seq m m1 m2 h Q := by
  have e1 := E.nout; have e2 := E.ninn; have g1 := G.nout; have g2 := G.ninn
  unfold F23.T
  refine ⟨fun h1 => ⟨fun h2 => ⟨fun h3 => ⟨fun h4 => ⟨fun h5 => ?_, fun h5 => hF fun q => h5 (by rw [e2, g2, q])⟩, fun h4 => hF fun q => h4 (by rw [e1, g1, q])⟩, fun h3 => hF fun q => h3 (by rw [q])⟩, fun h2 => hF fun q => h2 (by rw [q])⟩, fun h1 => hF fun q => h1 (by rw [q])⟩
  refine texts_eq E.ptr G.ptr n3 (fun hp => ⟨true, rfl, fun _ => ?_, fun h0 => (by cases h0)⟩) (fun hp => ⟨false, rfl, fun h0 => (by cases h0), fun _ => hF fun q => hp (by rw [q])⟩)
  have lo : e.out.length = g.out.length := by omega
  have li : e.inn.length = g.inn.length := by omega
  refine ⟨fun n h1 => h1 = h ∧ ∃ i : Nat, n = (i : Int) ∧ i ≤ e.out.length ∧ e.out.take i = g.out.take i, fun n _ => e.out.length - n.toNat, ⟨rfl, 0, rfl, Nat.zero_le _, by simp⟩, ?_⟩
  rintro n h1 ⟨rfl, i, rfl, hi, ht⟩
  refine ⟨fun hlt => ?_, fun hge => ?_⟩
  · have ia : i < e.out.length := by omega
    have ib : i < g.out.length := by omega
    obtain ⟨b0, o0, ha0, hat⟩ := row_get E.out (i := i * 2) (by omega)
    obtain ⟨b1, o1, hb1, hbt⟩ := row_get G.out (i := i * 2) (by omega)
    have cc : ∀ j, j < 2 → h1.at b0 ((o0 + i * 2) + j) = (Place.cells e.out[i])[j]? := fun j hj => by
      rw [Nat.add_assoc, hat _ (by omega)]
      exact flat_get Place.cells 2 (fun _ => rfl) e.out i j ia hj
    have dd : ∀ j, j < 2 → h1.at b1 ((o1 + i * 2) + j) = (Place.cells g.out[i])[j]? := fun j hj => by
      rw [Nat.add_assoc, hbt _ (by omega)]
      exact flat_get Place.cells 2 (fun _ => rfl) g.out i j ib hj
    rw [Int.toNat_natCast, next_i ia (by omega)]
    refine ⟨b0, o0, ha0, ⟨by omega, hlt⟩, e.out[i].lv, cc 0 (by decide), e.out[i].num, cc 1 (by decide), b1, o1, hb1, ⟨by omega, by omega⟩, g.out[i].lv, dd 0 (by decide), g.out[i].num, dd 1 (by decide), fun q => ⟨⟨rfl, i + 1, rfl, ia, take_step ia ib ht (place_inj q)⟩, by dsimp only; omega⟩, fun q => hF fun r => ?_⟩
    have hne : e.out[i] ≠ g.out[i] := fun t => q (show Place.cells e.out[i] = Place.cells g.out[i] by rw [t])
    exact ne_at ia ib hne (by rw [r])
  have heo : e.out = g.out := all_take2 lo (by omega) ht
  refine ⟨fun n h2 => h2 = h1 ∧ ∃ i : Nat, n = (i : Int) ∧ i ≤ e.inn.length ∧ e.inn.take i = g.inn.take i, fun n _ => e.inn.length - n.toNat, ⟨rfl, 0, rfl, Nat.zero_le _, by simp⟩, ?_⟩
  rintro n h2 ⟨rfl, i, rfl, hi, ht⟩
  refine ⟨fun hlt => ?_, fun hge => ?_⟩
  · have ia : i < e.inn.length := by omega
    have ib : i < g.inn.length := by omega
    obtain ⟨b0, o0, ha0, hat⟩ := row_get E.inn (i := i * 7) (by omega)
    obtain ⟨b1, o1, hb1, hbt⟩ := row_get G.inn (i := i * 7) (by omega)
    have cc : ∀ j, j < 7 → h2.at b0 ((o0 + i * 7) + j) = (Placed.cells e.inn[i])[j]? := fun j hj => by
      rw [Nat.add_assoc, hat _ (by omega)]
      exact flat_get Placed.cells 7 (fun _ => rfl) e.inn i j ia hj
    have dd : ∀ j, j < 7 → h2.at b1 ((o1 + i * 7) + j) = (Placed.cells g.inn[i])[j]? := fun j hj => by
      rw [Nat.add_assoc, hbt _ (by omega)]
      exact flat_get Placed.cells 7 (fun _ => rfl) g.inn i j ib hj
    rw [Int.toNat_natCast, next_i ia (by omega)]
    refine ⟨b0, o0, ha0, ⟨by omega, hlt⟩, _, cc 0 (by decide), _, cc 1 (by decide), _, cc 2 (by decide), _, cc 3 (by decide), _, cc 4 (by decide), _, cc 5 (by decide), _, cc 6 (by decide), b1, o1, hb1, ⟨by omega, by omega⟩, _, dd 0 (by decide), _, dd 1 (by decide), _, dd 2 (by decide), _, dd 3 (by decide), _, dd 4 (by decide), _, dd 5 (by decide), _, dd 6 (by decide), fun q => ⟨⟨rfl, i + 1, rfl, ia, take_step ia ib ht (placed_inj q)⟩, by dsimp only; omega⟩, fun q => hF fun r => ?_⟩
    have hne : e.inn[i] ≠ g.inn[i] := fun t => q (show Placed.cells e.inn[i] = Placed.cells g.inn[i] by rw [t])
    exact ne_at ia ib hne (by rw [r])
  have hei : e.inn = g.inn := all_take2 li (by omega) ht
  refine hT ?_
  cases e; cases g
  simp only at h1 h2 h3 hp heo hei
  rw [h1, h2, h3, hp, heo, hei]
theorem keep_wr_new {h h1 : Hp} {b : Nat} (hb : h b = none) (K : Keep h h1) (o : Nat) (vs : List Value) : Keep h (h1.wr b o vs) := by
  intro k x e
  unfold Hp.wr
  by_cases hk : k = b
  · rw [hk, hb] at e; cases e
  · rw [if_neg hk]; exact K k x e
theorem new_self (h : Hp) (b : Nat) (o : Obj) : (h.new b o) b = some o := by unfold Hp.new; rw [if_pos rfl]
theorem name_known {h : Hp} {Q : Value → Hp → Prop} (hQ : ∀ h', Keep h h' → Q (.string ⟨#[116, 45, 48, 48, 48, 48, 48, 48, 48, 48, 48, 48, 48, 55]⟩) h') : F47.T 116 7 h Q := by
  unfold F47.T
  have f78 : ∀ Q' : Value → Hp → Prop, Q' (.bool true) h → F78.T 116 h Q' := fun Q' hq => ⟨fun _ => hq, fun _ => ⟨fun _ => hq, fun _ => ⟨fun _ => hq, fun h0 => absurd rfl h0⟩⟩⟩
  refine f78 _ ⟨true, rfl, fun _ => ⟨fun h0 => absurd h0 (by decide), fun _ b1 hb1 => ?_⟩, fun h0 => (by cases h0)⟩
  have K0 : Keep h (h.new b1 (.cells ⟨[.int .u8 63, .int .u8 45, .int .u8 48, .int .u8 48, .int .u8 48, .int .u8 48, .int .u8 48, .int .u8 48, .int .u8 48, .int .u8 48, .int .u8 48, .int .u8 48, .int .u8 48, .int .u8 48]⟩ 5 (0, 0))) := Keep.new hb1 _
  refine ⟨_, _, new_self _ _ _, b1, 0, rfl, by decide, ⟨_, _, _, new_self _ _ _, Nat.le_of_ble_eq_true rfl, ?_⟩, ?_⟩
  · intro j h1 h2 h3
    have h4 : (14 : Nat) ≤ j := h3.1
    have h5 : j < 1 := h2
    omega
  have hc : (((h.new b1 (.cells ⟨[.int .u8 63, .int .u8 45, .int .u8 48, .int .u8 48, .int .u8 48, .int .u8 48, .int .u8 48, .int .u8 48, .int .u8 48, .int .u8 48, .int .u8 48, .int .u8 48, .int .u8 48, .int .u8 48]⟩ 5 (0, 0))).new b1 (.cells ⟨[.int .u8 63, .int .u8 45, .int .u8 48, .int .u8 48, .int .u8 48, .int .u8 48, .int .u8 48, .int .u8 48, .int .u8 48, .int .u8 48, .int .u8 48, .int .u8 48, .int .u8 48, .int .u8 48]⟩ 5 (14, 15))).wr b1 (0 + (0 : Int).toNat) [.int .u8 116]) b1 = some (.cells ⟨[.int .u8 116, .int .u8 45, .int .u8 48, .int .u8 48, .int .u8 48, .int .u8 48, .int .u8 48, .int .u8 48, .int .u8 48, .int .u8 48, .int .u8 48, .int .u8 48, .int .u8 48, .int .u8 48]⟩ 5 (14, 15)) := wr_at (new_self _ _ _)
  have hk : Keep h (((h.new b1 (.cells ⟨[.int .u8 63, .int .u8 45, .int .u8 48, .int .u8 48, .int .u8 48, .int .u8 48, .int .u8 48, .int .u8 48, .int .u8 48, .int .u8 48, .int .u8 48, .int .u8 48, .int .u8 48, .int .u8 48]⟩ 5 (0, 0))).new b1 (.cells ⟨[.int .u8 63, .int .u8 45, .int .u8 48, .int .u8 48, .int .u8 48, .int .u8 48, .int .u8 48, .int .u8 48, .int .u8 48, .int .u8 48, .int .u8 48, .int .u8 48, .int .u8 48, .int .u8 48]⟩ 5 (14, 15))).wr b1 (0 + (0 : Int).toNat) [.int .u8 116]) := by
    refine keep_wr_new hb1 ?_ _ _
    intro k x e
    have hkb : k ≠ b1 := fun q => by rw [q, hb1] at e; cases e
    unfold Hp.new
    rw [if_neg hkb, if_neg hkb]
    exact e
  refine ⟨fun n2 n3 h2 => Keep h h2 ∧ ((n2 = 7 ∧ n3 = 13 ∧ h2 b1 = some (.cells ⟨[.int .u8 116, .int .u8 45, .int .u8 48, .int .u8 48, .int .u8 48, .int .u8 48, .int .u8 48, .int .u8 48, .int .u8 48, .int .u8 48, .int .u8 48, .int .u8 48, .int .u8 48, .int .u8 48]⟩ 5 (14, 15))) ∨ (n2 = 0 ∧ n3 = 12 ∧ h2 b1 = some (.cells ⟨[.int .u8 116, .int .u8 45, .int .u8 48, .int .u8 48, .int .u8 48, .int .u8 48, .int .u8 48, .int .u8 48, .int .u8 48, .int .u8 48, .int .u8 48, .int .u8 48, .int .u8 48, .int .u8 55]⟩ 5 (14, 15)))), fun n2 _ _ => n2.toNat, ⟨hk, .inl ⟨rfl, by decide, hc⟩⟩, ?_⟩
  rintro n2 n3 h2 ⟨K2, ⟨rfl, rfl, hc2⟩ | ⟨rfl, rfl, hc2⟩⟩
  · refine ⟨fun _ => ?_, fun h0 => absurd (by decide) h0⟩
    refine ⟨b1, 0, rfl, by decide, 48, by unfold Hp.at; rw [hc2]; rfl, by decide, b1, 0, rfl, by decide, ⟨_, _, _, hc2, Nat.le_of_ble_eq_true rfl, ?_⟩, by decide, ⟨keep_wr_new hb1 K2 _ _, .inr ⟨by decide, by decide, ?_⟩⟩, (by decide : (IntKind.wrap .u64 (Int.tdiv 7 10)).toNat < (7 : Int).toNat)⟩
    · intro j h1 h2 h3
      have h4 : (14 : Nat) ≤ j := h3.1
      have h5 : j < 14 := h2
      omega
    · exact wr_at hc2
  · refine ⟨fun h0 => absurd h0 (by decide), fun _ => ⟨⟨#[116, 45, 48, 48, 48, 48, 48, 48, 48, 48, 48, 48, 48, 55]⟩, ⟨rfl, .inr ⟨b1, 0, rfl, fun j hj => ?_⟩⟩, hQ h2 K2⟩⟩
    unfold Hp.at
    rw [hc2, Nat.zero_add]
    have e : bytesV ⟨#[116, 45, 48, 48, 48, 48, 48, 48, 48, 48, 48, 48, 48, 55]⟩ = [.int .u8 116, .int .u8 45, .int .u8 48, .int .u8 48, .int .u8 48, .int .u8 48, .int .u8 48, .int .u8 48, .int .u8 48, .int .u8 48, .int .u8 48, .int .u8 48, .int .u8 48, .int .u8 55] := rfl
    rw [e]
    simp
/-! ### Few enough -/
def totS (l : List Sl) : Nat := (l.map fun s => s.n + 1).sum
theorem totS_take_succ {l : List Sl} {i : Nat} (h : i < l.length) : totS (l.take (i + 1)) = totS (l.take i) + (l[i].n + 1) := by
  rw [List.take_succ_eq_append_getElem h]
  unfold totS
  rw [List.map_append, List.sum_append]
  simp only [List.map_cons, List.map_nil, List.sum_cons, List.sum_nil, Nat.add_zero]
theorem totS_len (l : List Sl) : l.length ≤ totS l := by
  induction l with
  | nil => simp
  | cons a l ih =>
    have e : totS (a :: l) = a.n + 1 + totS l := by simp [totS]
    rw [e, List.length_cons]; omega
theorem ok_q {h : Hp} {b : Nat} {c : Int} {Q : Value → Hp → Prop} (hb : h b = some (.cells ⟨[.int .i64 c]⟩ 113 (0, 0))) (hT : 0 ≤ c → Q (.bool true) h) (hF : ¬ 0 ≤ c → Q (.bool false) h) : F28.T (some ⟨b, 0, none⟩) h Q :=
  ⟨b, 0, rfl, c, by unfold Hp.at; rw [hb]; rfl, hT, hF⟩
theorem chunks_q {h0 h : Hp} {l : Sl} {ss : List Sl} {b : Nat} {Q : Value → Hp → Prop} (hr : h0.row l.a l.n (slV ss)) (hn : ∀ s ∈ ss, s.n ≤ 9223372036854775807) (hb0 : h0 b = none) (K : Keep h0 h) (hb : h b = some (.cells ⟨[.int .i64 400000]⟩ 113 (0, 0)))
    (hQ : ∀ h' c, Keep h0 h' → h' b = some (.cells ⟨[.int .i64 c]⟩ 113 (0, 0)) → (0 ≤ c → totS ss ≤ 400000) → Q (.tuple ⟨[]⟩) h') : F27.T (some ⟨b, 0, none⟩) l h Q := by
  have hln : l.n = ss.length := by have := hr.1; rw [slV_length] at this; exact this.symm
  unfold F27.T
  refine ⟨fun n h1 => ∃ (i : Nat) (c : Int), n = (i : Int) ∧ i ≤ ss.length ∧ Keep h0 h1 ∧ h1 b = some (.cells ⟨[.int .i64 c]⟩ 113 (0, 0)) ∧ c + (totS (ss.take i) : Nat) = 400000, fun n _ => ss.length - n.toNat, ⟨0, 400000, rfl, Nat.zero_le _, K, hb, rfl⟩, ?_⟩
  rintro n h1 ⟨i, c, rfl, hi, K1, hb1, hsum⟩
  refine ⟨fun hlt => ?_, fun hge => ?_⟩
  · have ia : i < ss.length := by omega
    refine ok_q hb1 (fun hc => ⟨true, rfl, fun _ => ?_, fun h0 => (by cases h0)⟩) (fun hc => ⟨false, rfl, fun h0 => (by cases h0), fun _ => hQ h1 c K1 hb1 (fun h0 => absurd h0 hc)⟩)
    obtain ⟨b0, o0, ha0, hat⟩ := row_get (K1.row hr) (i := i) (by omega)
    have hv : (slV ss)[i]? = some (.slice ss[i].a ss[i].n ss[i].c) := by simp [slV, ia]
    have hs := hn _ (List.getElem_mem ia)
    have hst := totS_take_succ ia
    have hil := totS_len (ss.take i)
    rw [List.length_take, Nat.min_eq_left hi] at hil
    have w2 : IntKind.wrap .i64 (c - IntKind.wrap .i64 (1 + (ss[i].n : Int))) = c - (1 + (ss[i].n : Int)) := by
      have hc4 : c ≤ 400000 := by omega
      simp [IntKind.wrap, IntKind.signed, IntKind.bits]
      omega
    have w3 : IntKind.wrap .i64 ((i : Int) + 1) = ((i + 1 : Nat) : Int) := by rw [wrap_i64 (by omega) (by omega)]; omega
    refine ⟨b0, o0, ha0, ⟨by omega, hlt⟩, ss[i], by rw [Int.toNat_natCast, hat i (by omega), hv], ?_⟩
    rw [w3]
    have hat2 : h1.at b 0 = some (.int .i64 c) := by unfold Hp.at; rw [hb1]; rfl
    refine ⟨b, 0, rfl, c, hat2, fun _ => ⟨b, 0, rfl, c, hat2, ?_⟩, fun h0 => absurd hc h0⟩
    rw [w2]
    have hw := wr_at (o := 0) (vs := [.int .i64 (c - (1 + (ss[i].n : Int)))]) hb1
    have kw := keep_wr_new hb0 K1 0 [.int .i64 (c - (1 + (ss[i].n : Int)))]
    have fin : (∃ (i' : Nat) (c' : Int), ((i + 1 : Nat) : Int) = (i' : Int) ∧ i' ≤ ss.length ∧ Keep h0 (h1.wr b 0 [.int .i64 (c - (1 + (ss[i].n : Int)))]) ∧ (h1.wr b 0 [.int .i64 (c - (1 + (ss[i].n : Int)))]) b = some (.cells ⟨[.int .i64 c']⟩ 113 (0, 0)) ∧ c' + (totS (ss.take i') : Nat) = 400000) ∧ ss.length - (((i + 1 : Nat) : Int)).toNat < ss.length - ((i : Int)).toNat :=
      ⟨⟨i + 1, c - (1 + (ss[i].n : Int)), rfl, ia, kw, hw, by rw [hst]; omega⟩, by omega⟩
    refine ⟨b, 0, rfl, ⟨_, _, _, hb1, Nat.le_of_ble_eq_true rfl, fun j _ _ => by simp⟩, b, 0, rfl, c - (1 + (ss[i].n : Int)), by unfold Hp.at; rw [hw]; rfl, fun _ => ⟨true, rfl, fun _ => fin, fun h0 => (by cases h0)⟩, fun _ => ⟨false, rfl, fun h0 => (by cases h0), fun _ => fin⟩⟩
  · have hie : i = ss.length := by omega
    subst hie
    rw [List.take_length] at hsum
    exact hQ h1 c K1 hb1 (fun h0 => by omega)
theorem fewer_spec {h : Hp} {l : Sl} {ss : List Sl} {Q : Value → Hp → Prop} (hr : h.row l.a l.n (slV ss)) (hn : ∀ s ∈ ss, s.n ≤ 9223372036854775807)
    (hT : ∀ h', Keep h h' → totS ss ≤ 400000 → Q (.bool true) h') (hF : ∀ h', Keep h h' → Q (.bool false) h') : F8.T l h Q := by
  intro b hb
  refine ⟨some ⟨b, 0, none⟩, rfl, ?_⟩
  refine chunks_q hr hn hb (Keep.new hb _) (by unfold Hp.new; rw [if_pos rfl]) fun h' c K' hc ht => ?_
  exact ok_q hc (fun h0 => ⟨true, rfl, fun _ => hT h' K' (ht h0), fun h1 => (by cases h1)⟩) (fun h0 => ⟨false, rfl, fun h1 => (by cases h1), fun _ => hF h' K'⟩)
end Go.Eng.Ytblghgacokoklaa
end
section
/-
  SPECS, 12: the chapter's example; what Get takes is what Put writes.
-/
set_option linter.unusedSimpArgs false
set_option linter.unusedVariables false
namespace Go.Eng.Ytblghgacokoklaa
def eK : Edit := ⟨2, 9, 300, [⟨0, 4⟩], [⟨1, 8, 455, 90, 1, ⟨#[97]⟩, ⟨#[97]⟩⟩], []⟩
def rK : List Int := [1, 2, 9, 172, 2, 1, 0, 4, 1, 1, 8, 199, 3, 90, 1, 1, 97, 1, 97, 0]
theorem put_K : putS eK = [rK] := by kernel_rfl
theorem get_K : getR [rK] [] zE [] = some [eK] := by kernel_rfl
theorem okK : eK.valid := ⟨⟨by decide, by decide⟩, ⟨by decide, by decide⟩, ⟨by decide, by decide⟩, fun p hp => by
    simp only [eK, List.mem_cons, List.not_mem_nil, or_false] at hp
    subst hp
    exact ⟨by decide, by decide, by decide⟩, fun p hp => by
    simp only [eK, List.mem_cons, List.not_mem_nil, or_false] at hp
    subst hp
    exact ⟨by decide, ⟨by decide, by decide⟩, by decide, by decide, by decide⟩⟩
theorem known_spec {h : Hp} {Q : Value → Hp → Prop} (hQ : ∀ h', Keep h h' → Q (.bool true) h') : F15.T h Q := by
  intro b hb b1 hb1
  have K0 := Keep.new hb (.cells ⟨[.int .i64 0, .int .u64 4]⟩ 89 (0, 0))
  have K1 := Keep.new hb1 (.cells ⟨[.int .i64 1, .int .u64 8, .int .i64 455, .int .i64 90, .int .i64 1, .string (ByteArray.mk #[97]), .string (ByteArray.mk #[97])]⟩ 87 (0, 0))
  have E : EdAt ((h.new b (.cells ⟨[.int .i64 0, .int .u64 4]⟩ 89 (0, 0))).new b1 (.cells ⟨[.int .i64 1, .int .u64 8, .int .i64 455, .int .i64 90, .int .i64 1, .string (ByteArray.mk #[97]), .string (ByteArray.mk #[97])]⟩ 87 (0, 0))) eK ⟨some ⟨b, 0, none⟩, 1, 1⟩ ⟨some ⟨b1, 0, none⟩, 1, 1⟩ ⟨none, 0, 0⟩ :=
    ⟨K1.row (row_new h b 89 (outV eK.out) 2 rfl), row_new _ b1 87 (inV eK.inn) 7 rfl, ⟨rfl, .inl rfl⟩⟩
  refine put_spec (e := eK) E (Nat.le_refl _) (Nat.le_refl _) okK (by decide) (by decide) fun l h1 ss B R K N => ⟨l, rfl, ?_⟩
  rw [put_K] at R
  obtain ⟨s0, rfl⟩ : ∃ s0, ss = [s0] := List.length_eq_one_iff.1 R.1
  have B0 : Buf h1 s0 1 5 (bv rK) := R.2 0 (Nat.zero_lt_one) (Nat.zero_lt_one)
  have hl1 : l.n = 1 := by have := B.len; rw [slV_length] at this; simp only [List.length_singleton] at this; omega
  have hrow := B.row
  rw [Nat.mul_one] at hrow
  have KK := (K0.trans K1).trans K
  have A : Recs h1 l [s0] [rK] := ⟨hrow, B.cap, R.rows, fun s hs => by rw [List.mem_singleton] at hs; subst hs; exact B0.cap, fun r hr => by
    rw [List.mem_singleton] at hr; subst hr; decide, fun r hr => by
    rw [List.mem_singleton] at hr; subst hr; decide, by decide⟩
  refine get_spec A (fun h2 K2 hno => ?_) (fun h2 l1 L K2 hso BL hL NL hn => ?_)
  · rw [get_K] at hno; cases hno
  rw [get_K] at hso
  obtain ⟨x, rfl, hx⟩ : ∃ x, L = [x] ∧ x.e = eK := by
    have hsm : L.map EdS.e = [eK] := (Option.some.inj hso).symm
    rcases L with _ | ⟨x, _ | ⟨y, L⟩⟩
    · cases hsm
    · exact ⟨x, rfl, by simpa using hsm⟩
    · simp at hsm
  have hn1 : l1.n = 1 := ed_n BL
  have X := hL x List.mem_cons_self
  obtain ⟨b2, o, ha, hat⟩ := row_get (K2.row hrow) (i := 0) (by omega)
  have hat0 : h2.at b2 (o + (0 : Int).toNat) = some (.slice s0.a s0.n s0.c) := hat 0 (by omega)
  refine ⟨l1, 0, rfl, fun _ => ⟨b2, o, ha, ⟨by decide, by omega⟩, s0, hat0, fun b3 hb3 => ?_⟩, fun h0 => absurd (by omega) h0⟩
  have K3 := Keep.new hb3 (.cells ⟨bv rK⟩ 5 (0, 0))
  refine ⟨K3.at hat0, ?_⟩
  have r0 := B0.row
  rw [Nat.mul_one] at r0
  refine sameBytes_eq (K3.row (K2.row r0)) (row_new h2 b3 5 (bv rK) 20 rfl) (by decide) (fun _ => ⟨true, rfl, fun _ => ⟨fun _ => ⟨fun _ => ?_, fun h0 => absurd (by omega) h0⟩, fun h0 => absurd rfl h0⟩, fun h0 => (by cases h0)⟩) (fun h0 => absurd rfl h0)
  obtain ⟨b5, o1, ha5, hat5⟩ := row_get (K3.row BL.row) (i := 0) (by omega)
  have cc : ∀ j, j < 6 → (h2.new b3 (.cells ⟨bv rK⟩ 5 (0, 0))).at b5 ((o1 + (0 : Int).toNat * 6) + j) = (EdS.cells x)[j]? := fun j hj => by
    have h7 := hat5 j (by omega)
    have h8 : (edV [x])[j]? = (EdS.cells x)[j]? := by simp [edV]
    rw [← h8, ← h7]
    simp
  refine ⟨b5, o1, ha5, ⟨by decide, by omega⟩, x.e.log, cc 0 (by decide), x.e.next, cc 1 (by decide), x.e.seq, cc 2 (by decide), x.a, cc 3 (by decide), x.b, cc 4 (by decide), x.c, cc 5 (by decide), ?_⟩
  refine edit_eq (g := eK) ((X.at).keep K3) ((E.keep K).keep (K2.trans K3)) (by decide) (by decide) (by decide) (fun _ => ⟨true, rfl, fun _ => ?_, fun h0 => (by cases h0)⟩) (fun h0 => absurd hx h0)
  refine name_known fun h5 K5 => ⟨_, rfl, fun _ => hQ h5 (((KK.trans K2).trans K3).trans K5), fun h0 => absurd rfl h0⟩
/-! ### The law -/
theorem sameP_t {e : Edit} {recs : List (List Int)} (h : sameP e recs true = true) : putS e = recs := by
  unfold sameP at h
  by_cases h1 : (putS e).length < recs.length
  · rw [if_pos h1] at h; cases h
  · rw [if_neg h1] at h
    by_cases h2 : (putS e).length = recs.length
    · rw [if_neg (fun hh => hh.2 h2), decide_eq_true_eq] at h
      rw [← h2, List.take_length] at h
      exact h
    · rw [if_pos ⟨rfl, h2⟩] at h; cases h
theorem getR_law : ∀ (rs : List (List Int)) (acc : List Edit) (cur : Edit) (part : List (List Int)) (es : List Edit), getR rs acc cur part = some es → ∃ rest, acc.flatMap putS ++ part ++ rs = es.flatMap putS ++ rest
  | [], acc, cur, part, es, h => by
    unfold getR at h
    have : acc = es := by
      split at h
      · exact Option.some.inj h
      · split at h
        · exact Option.some.inj h
        · cases h
    exact ⟨part, by rw [this, List.append_nil]⟩
  | r :: rs, acc, cur, part, es, h => by
    cases hr : rd r with
    | none => rw [getR_none hr] at h; cases h
    | some x =>
      rw [getR_some hr] at h
      by_cases hx : x.2 = true
      · rw [if_pos hx] at h
        by_cases hs : sameP (joinE cur x.1 part) (part ++ [r]) true = true
        · rw [if_pos hs] at h
          obtain ⟨rest, hrest⟩ := getR_law rs _ _ _ es h
          refine ⟨rest, ?_⟩
          rw [← hrest, List.flatMap_append]
          simp [sameP_t hs]
        · rw [if_neg hs] at h; cases h
      · rw [if_neg hx] at h
        obtain ⟨rest, hrest⟩ := getR_law rs _ _ _ es h
        exact ⟨rest, by rw [← hrest]; simp⟩
theorem slV_get {ss : List Sl} {k : Nat} (h : k < ss.length) : (slV ss)[k]? = some (.slice ss[k].a ss[k].n ss[k].c) := by
  simp [slV, h]
theorem put_at {es : List Edit} {rest recs : List (List Int)} (h : recs = es.flatMap putS ++ rest) {i : Nat} (hi : i < es.length) :
    (((es.take i).flatMap putS).length + (putS es[i]).length = ((es.take (i + 1)).flatMap putS).length) ∧ ((es.take (i + 1)).flatMap putS).length ≤ recs.length ∧ ∀ k, k < (putS es[i]).length → recs[((es.take i).flatMap putS).length + k]? = (putS es[i])[k]? := by
  have h1 : (es.take (i + 1)).flatMap putS = (es.take i).flatMap putS ++ putS es[i] := by
    rw [List.take_succ_eq_append_getElem hi, List.flatMap_append]; simp
  have h2 : es.flatMap putS = (es.take (i + 1)).flatMap putS ++ (es.drop (i + 1)).flatMap putS := by
    rw [← List.flatMap_append, List.take_append_drop]
  refine ⟨by rw [h1, List.length_append], by rw [h, h2]; simp only [List.length_append]; omega, fun k hk => ?_⟩
  rw [h, h2, h1]
  simp only [List.append_assoc]
  rw [List.getElem?_append_right (Nat.le_add_right _ _), Nat.add_sub_cancel_left, List.getElem?_append_left hk]
/-- The law ManifestForm: it answers true. -/
theorem form_spec {h : Hp} {l : Sl} {ss : List Sl} {recs : List (List Int)} {Q : Value → Hp → Prop} (hrow : h.row l.a l.n (slV ss)) (hcap : l.n ≤ l.c) (R : Rows h ss recs) (hcaps : ∀ s ∈ ss, s.n ≤ s.c) (hok : ∀ r ∈ recs, ∀ c ∈ r, 0 ≤ c ∧ c < 256) (hsm : ∀ s ∈ ss, s.n ≤ 9223372036854775807)
    (hQ : ∀ h', Keep h h' → Q (.bool true) h') : F6.T l h Q := by
  refine known_spec fun h1 K1 => ⟨true, rfl, fun _ => ?_, fun h0 => (by cases h0)⟩
  refine fewer_spec (K1.row hrow) hsm (fun h2 K2 ht => ⟨true, rfl, fun _ => ?_, fun h0 => (by cases h0)⟩) (fun h2 K2 => ⟨false, rfl, fun h0 => (by cases h0), fun _ => hQ h2 (K1.trans K2)⟩)
  have K12 := K1.trans K2
  have htot : tot recs = totS ss := by
    unfold tot totS
    have e : recs.map (fun r => r.length + 1) = ss.map (fun s => s.n + 1) := by
      apply List.ext_getElem (by simp [R.1])
      intro i hi hj
      simp only [List.length_map] at hi hj
      simp only [List.getElem_map]
      have := (R.2 i hj hi).1
      rw [bv_length] at this
      rw [this]
    rw [e]
  have A : Recs h2 l ss recs := ⟨K12.row hrow, hcap, R.keep K12, hcaps, hok, fun r hr => by have := tot_mem hr; omega, by omega⟩
  have hln : l.n = recs.length := by have := hrow.1; rw [slV_length, R.1] at this; exact this.symm
  have hss : ss.length = recs.length := R.1
  have hrl := tot_len recs
  refine get_spec A (fun h3 K3 hno => ⟨⟨none, 0, 0⟩, 140, rfl, fun h0 => absurd h0 (by decide), fun _ => ⟨fun _ => ⟨fun _ => hQ h3 (K12.trans K3), fun h0 => absurd (by decide) h0⟩, fun h0 => absurd rfl h0⟩⟩) (fun h3 l1 L K3 hso BL hL NL hn => ⟨l1, 0, rfl, fun _ => ?_, fun h0 => absurd rfl h0⟩)
  obtain ⟨rest, hrest⟩ := getR_law recs [] zE [] _ hso
  simp only [List.flatMap_nil, List.nil_append] at hrest
  have K13 := K12.trans K3
  have hn1 : l1.n = L.length := ed_n BL
  have hlen : ∀ i, ((L.map EdS.e).take i).length ≤ L.length := fun i => by rw [List.length_take, List.length_map]; omega
  refine ⟨fun n1 n2 h4 => ∃ i : Nat, n2 = (i : Int) ∧ i ≤ L.length ∧ n1 = ((((L.map EdS.e).take i).flatMap putS).length : Int) ∧ Keep h3 h4, fun _ n2 _ => L.length - n2.toNat, ⟨0, rfl, Nat.zero_le _, by simp, Keep.refl h3⟩, ?_⟩
  rintro n1 n2 h4 ⟨i, rfl, hi, rfl, K4⟩
  refine ⟨fun hlt => ?_, fun hge => ⟨fun _ => hQ h4 (K13.trans K4), fun h0 => absurd ?_ h0⟩⟩
  · have ia : i < L.length := by omega
    have ib : i < (L.map EdS.e).length := by rw [List.length_map]; exact ia
    have hib : (L.map EdS.e)[i] = L[i].e := by simp
    obtain ⟨p1, p2, p3⟩ := put_at hrest ib
    rw [hib] at p1 p3
    have X := (hL _ (List.getElem_mem ia)).keep K4
    obtain ⟨b2, o, ha, hat⟩ := row_get (K4.row BL.row) (i := i * 6) (by omega)
    have cc : ∀ j, j < 6 → h4.at b2 ((o + i * 6) + j) = (EdS.cells L[i])[j]? := fun j hj => by
      rw [Nat.add_assoc, hat _ (by omega)]
      exact flat_get EdS.cells 6 (fun _ => rfl) L i j ia hj
    rw [Int.toNat_natCast, next_i ia (by omega)]
    refine ⟨b2, o, ha, ⟨by omega, hlt⟩, _, cc 0 (by decide), _, cc 1 (by decide), _, cc 2 (by decide), _, cc 3 (by decide), _, cc 4 (by decide), _, cc 5 (by decide), ?_⟩
    have xs := X.size
    have xp := X.nptr
    refine put_spec X.at X.out.cap X.inn.cap X.val (by omega) (by omega) fun l5 h5 ts B5 R5 K5 N5 => ⟨l5, rfl, ?_⟩
    have K15 := (K13.trans K4).trans K5
    have n5 : l5.n = (putS L[i].e).length := by have := B5.len; rw [slV_length, R5.1] at this; omega
    have t5 : ts.length = (putS L[i].e).length := R5.1
    refine ⟨fun n6 n7 h6 => h6 = h5 ∧ ∃ k : Nat, n7 = (k : Int) ∧ k ≤ (putS L[i].e).length ∧ n6 = ((((L.map EdS.e).take i).flatMap putS).length + k : Nat), fun _ n7 _ => (putS L[i].e).length - n7.toNat, ⟨rfl, 0, rfl, Nat.zero_le _, by simp⟩, ?_⟩
    rintro n6 n7 h6 ⟨rfl, k, rfl, hk, rfl⟩
    refine ⟨fun hlt2 => ⟨fun h0 => absurd h0 (by omega), fun _ => ?_⟩, fun hge2 => ?_⟩
    · have ka : k < (putS L[i].e).length := by omega
      have kb : (((L.map EdS.e).take i).flatMap putS).length + k < recs.length := by omega
      have kc : (((L.map EdS.e).take i).flatMap putS).length + k < ss.length := by omega
      have kd : k < ts.length := by omega
      obtain ⟨b3, o1, ha3, hat3⟩ := row_get (K15.row hrow) (i := (((L.map EdS.e).take i).flatMap putS).length + k) (by omega)
      have r5 := B5.row
      rw [Nat.mul_one] at r5
      obtain ⟨b4, o2, ha4, hat4⟩ := row_get r5 (i := k) (by omega)
      have w6 : IntKind.wrap .i64 (((((L.map EdS.e).take i).flatMap putS).length + k : Nat) + 1 : Int) = ((((L.map EdS.e).take i).flatMap putS).length + (k + 1) : Nat) := by
        rw [wrap_i64 (by omega) (by omega)]; omega
      refine ⟨b3, o1, ha3, ⟨by omega, by omega⟩, ss[(((L.map EdS.e).take i).flatMap putS).length + k], ?_, b4, o2, ha4, ⟨by omega, hlt2⟩, ts[k], ?_, ?_⟩
      · rw [Int.toNat_natCast, hat3 _ (by omega)]; exact slV_get kc
      · rw [Int.toNat_natCast, hat4 _ (by omega)]; exact slV_get kd
      have hpk := p3 k ka
      rw [List.getElem?_eq_getElem kb, List.getElem?_eq_getElem ka] at hpk
      have hrk := (R5.rows).2 k kd ka
      have hre := Option.some.inj hpk
      have hlr : ((putS L[i].e)[k]).length ≤ 1000000000000 := by
        rw [← hre]
        have := tot_mem (List.getElem_mem kb)
        omega
      refine sameBytes_eq ((R.keep K15).2 _ kc kb) hrk hlr (fun _ => ⟨true, rfl, fun _ => ?_, fun h0 => (by cases h0)⟩) (fun h0 => absurd hre h0)
      rw [w6, next_i ka (by omega)]
      exact ⟨⟨rfl, k + 1, rfl, ka, rfl⟩, by dsimp only; omega⟩
    · have hke : k = (putS L[i].e).length := by omega
      subst hke
      exact ⟨⟨i + 1, rfl, ia, by omega, K4.trans K5⟩, by dsimp only; omega⟩
  · have hie : i = L.length := by omega
    have hle : (((L.map EdS.e).take i).flatMap putS).length ≤ recs.length := by
      rw [List.take_of_length_le (by rw [List.length_map]; omega)]
      have := congrArg List.length hrest
      rw [List.length_append] at this
      omega
    omega
end Go.Eng.Ytblghgacokoklaa
end
section
/-
  SPECS, 13: what is written is read again.
-/
set_option linter.unusedSimpArgs false
set_option linter.unusedVariables false
namespace Go.Eng.Ytblghgacokoklaa
theorem and127 (c : Nat) (h : c < 256) : bitsI .and .u8 (c : Int) 127 = ((c % 128 : Nat) : Int) := by
  have key : ∀ x : Fin 256, bitsI .and .u8 ((x.val : Nat) : Int) 127 = ((x.val % 128 : Nat) : Int) := by decide +kernel
  exact key ⟨c, h⟩
theorem or_disj (a y i : Nat) (ha : a < 2 ^ i) (hb : a + 2 ^ i * y < 2 ^ 64) : bitsI .or .u64 (a : Int) ((2 ^ i * y : Nat) : Int) = ((a + 2 ^ i * y : Nat) : Int) := by
  have h1 : (BitVec.ofInt 64 (a : Int)).toNat = a := by rw [BitVec.ofInt_natCast, BitVec.toNat_ofNat]; exact Nat.mod_eq_of_lt (by omega)
  have h2 : (BitVec.ofInt 64 ((2 ^ i * y : Nat) : Int)).toNat = 2 ^ i * y := by rw [BitVec.ofInt_natCast, BitVec.toNat_ofNat]; exact Nat.mod_eq_of_lt (by omega)
  show IntKind.wrap .u64 ((BitVec.ofInt 64 (a : Int) ||| BitVec.ofInt 64 ((2 ^ i * y : Nat) : Int)).toNat : Int) = _
  rw [BitVec.toNat_or, h1, h2, Nat.or_comm, ← Nat.two_pow_add_eq_or_of_lt ha y, Nat.add_comm]
  exact wrap_u64 (by omega) (by omega)
theorem nx_enc (i acc c : Nat) (hi : i ≤ 9) (hc : c < 256) (ha : acc < 128 ^ i) (hb : acc + 128 ^ i * (c % 128) < 2 ^ 64) : nx i (acc : Int) (c : Int) = ((acc + 128 ^ i * (c % 128) : Nat) : Int) := by
  have hp : 128 ^ i = 2 ^ (7 * i) := by rw [Nat.pow_mul]
  rw [hp] at ha hb ⊢
  unfold nx
  have h64 : (2 : Nat) ^ 64 = 18446744073709551616 := by decide
  rw [and127 c hc, wrap_u64 (by omega) (by omega)]
  unfold shlI
  have e1 : (7 * (i : Int)).toNat = 7 * i := by omega
  have e2 : min (7 * (i : Int)).toNat (IntKind.bits .u64) = 7 * i := by rw [e1]; show min (7 * i) 64 = 7 * i; omega
  rw [e2]
  have e3 : ((c % 128 : Nat) : Int) * 2 ^ (7 * i) = ((2 ^ (7 * i) * (c % 128) : Nat) : Int) := by
    rw [Int.natCast_mul, Int.natCast_pow]; exact Int.mul_comm _ _
  rw [e3, wrap_u64 (by omega) (by omega)]
  exact or_disj acc (c % 128) (7 * i) ha hb
theorem uR_enc : ∀ (f i n acc : Nat) (rest : List Int), 0 < f → f + i = 10 → n < 128 ^ f → (0 < i → 0 < n) → acc < 128 ^ i → acc + 128 ^ i * n < 2 ^ 64 → uR i (acc : Int) (encF f n ++ rest) = (((acc + 128 ^ i * n : Nat) : Int), i + (encF f n).length, 0)
  | 0, _, _, _, _, h, _, _, _, _, _ => absurd h (Nat.lt_irrefl 0)
  | f + 1, i, n, acc, rest, _, hfi, hn, hpos, hacc, hb => by
    have h64 : (2 : Nat) ^ 64 = 18446744073709551616 := by decide
    unfold encF
    by_cases h1 : n < 128
    · rw [if_pos h1]
      show uR i (acc : Int) ((n : Int) :: rest) = _
      have h9 : i = 9 → n = 1 := by
        intro h
        subst h
        have : (128 : Nat) ^ 9 = 9223372036854775808 := by decide
        rw [this] at hb
        have := hpos (by decide)
        omega
      unfold uR
      rw [if_neg (by omega), if_pos (by omega)]
      have := nx_enc i acc n (by omega) (by omega) hacc (by rw [Nat.mod_eq_of_lt h1]; exact hb)
      rw [Nat.mod_eq_of_lt h1] at this
      rw [this]
      rfl
    · rw [if_neg h1]
      have hf : 0 < f := by
        rcases Nat.eq_zero_or_pos f with rfl | h
        · simp at hn; omega
        · exact h
      show uR i (acc : Int) (((n % 128 + 128 : Nat) : Int) :: (encF f (n / 128) ++ rest)) = _
      unfold uR
      rw [if_neg (by omega), if_neg (by omega)]
      have hd : n = 128 * (n / 128) + n % 128 := (Nat.div_add_mod n 128).symm
      have hmul : 128 ^ i * n = 128 ^ i * (128 * (n / 128)) + 128 ^ i * (n % 128) := by
        conv => lhs; rw [hd]
        rw [Nat.mul_add]
      have hmul2 : 128 ^ (i + 1) * (n / 128) = 128 ^ i * (128 * (n / 128)) := by rw [Nat.pow_succ, Nat.mul_assoc]
      have hm : (n % 128 + 128) % 128 = n % 128 := by omega
      have hle : 128 ^ i * (n % 128) ≤ 128 ^ i * 127 := Nat.mul_le_mul_left _ (by omega)
      have hx := nx_enc i acc (n % 128 + 128) (by omega) (by omega) hacc (by rw [hm]; omega)
      rw [hm] at hx
      rw [hx]
      have ih := uR_enc f (i + 1) (n / 128) (acc + 128 ^ i * (n % 128)) rest hf (by omega) (by rw [Nat.pow_succ] at hn; omega) (fun _ => by omega) (by rw [Nat.pow_succ]; omega) (by rw [hmul2]; omega)
      rw [ih, hmul2]
      have e1 : acc + 128 ^ i * (n % 128) + 128 ^ i * (128 * (n / 128)) = acc + 128 ^ i * n := by omega
      have e2 : i + 1 + (encF f (n / 128)).length = i + (((n % 128 + 128 : Nat) : Int) :: encF f (n / 128)).length := by simp only [List.length_cons]; omega
      rw [e1, e2]
theorem uR_U {n : Nat} (h : n < 18446744073709551616) (rest : List Int) : uR 0 0 (encU n ++ rest) = ((n : Int), (encU n).length, 0) := by
  have := uR_enc 10 0 n 0 rest (by decide) rfl (Nat.lt_of_lt_of_le h (by decide)) (fun h => absurd h (Nat.lt_irrefl 0)) (by decide) (by omega)
  simpa [encU] using this
theorem rU_enc {n : Int} (h : okU n) (rest : List Int) : rU ⟨encU n.toNat ++ rest, false⟩ = (n, ⟨rest, false⟩) := by
  have h1 := uR_U (n := n.toNat) (by have := h.1; have := h.2; omega) rest
  unfold rU
  simp only [h1, RS.skip, if_pos]
  rw [List.drop_left' rfl]
  have : ((n.toNat : Nat) : Int) = n := by have := h.1; omega
  rw [this]
theorem rU_nat {n : Nat} (h : n < 18446744073709551616) (rest : List Int) : rU ⟨encU n ++ rest, false⟩ = ((n : Int), ⟨rest, false⟩) := by
  have := rU_enc (n := (n : Int)) ⟨by omega, by omega⟩ rest
  rwa [Int.toNat_natCast] at this
theorem rW_enc {m n : Int} (h : okU n) (hm : n ≤ m) (rest : List Int) : rW m ⟨encU n.toNat ++ rest, false⟩ = (n, ⟨rest, false⟩) := by
  unfold rW
  rw [rU_enc h rest, if_neg (by simp only; omega)]
theorem toB_bI (s : ByteArray) : toB (bI s) = s := by
  obtain ⟨d⟩ := s
  unfold toB bI
  have : ((fun n : Int => UInt8.ofNat n.toNat) ∘ fun b : UInt8 => ((b.toNat : Nat) : Int)) = id := by
    funext b
    simp
  rw [List.map_map, this, List.map_id]
theorem tR_enc {s : ByteArray} (h : s.size ≤ 64) (rest : List Int) : tR (encT s ++ rest) = (s, (encT s).length, 0) := by
  have e : encT s ++ rest = encU s.size ++ (bI s ++ rest) := by unfold encT; rw [List.append_assoc]
  have h1 := uR_U (n := s.size) (by omega) (bI s ++ rest)
  rw [e]
  unfold tR
  simp only [h1, if_pos]
  have hl := bI_length s
  rw [if_neg (by omega), if_neg (by simp only [List.length_append]; omega), List.drop_left' rfl, Int.toNat_natCast, List.take_left' hl, toB_bI]
  unfold encT
  rw [List.length_append, hl]
theorem rT_enc {s : ByteArray} (h : s.size ≤ 64) (rest : List Int) : rT ⟨encT s ++ rest, false⟩ = (s, ⟨rest, false⟩) := by
  unfold rT
  simp only [tR_enc h rest, RS.skip, if_pos]
  rw [List.drop_left' rfl]
/-- An edit that may be written. -/
structure PGood (p : Place) : Prop where
  l0 : 0 ≤ p.lv
  l4 : p.lv ≤ 4
  num : okU p.num
structure DGood (p : Placed) : Prop where
  l0 : 0 ≤ p.lv
  l4 : p.lv ≤ 4
  num : okU p.num
  w0 : 0 ≤ p.weight
  w1 : p.weight ≤ 9223372036854775807
  b0 : 0 ≤ p.bytes
  b1 : p.bytes ≤ 9223372036854775807
  e0 : 0 ≤ p.entries
  e1 : p.entries ≤ 9223372036854775807
  least : p.least.size ≤ 64
  greatest : p.greatest.size ≤ 64
structure Good (e : Edit) : Prop where
  log : okU e.log
  next : okU e.next
  seq : okU e.seq
  out : ∀ p ∈ e.out, PGood p
  inn : ∀ p ∈ e.inn, DGood p
  ptr : ∀ p ∈ e.ptr, p.size ≤ 64
  nptr : e.ptr.length ≤ 5
theorem okU_of {n : Int} (h0 : 0 ≤ n) (h1 : n ≤ 9223372036854775807) : okU n := ⟨h0, by omega⟩
theorem outR_enc : ∀ (o acc : List Place) (rest : List Int), (∀ p ∈ o, PGood p) → outR o.length acc ⟨o.flatMap Place.enc ++ rest, false⟩ = some (acc ++ o, ⟨rest, false⟩)
  | [], acc, rest, _ => by simp [outR]
  | p :: o, acc, rest, h => by
    have hp := h p List.mem_cons_self
    have e : (p :: o).flatMap Place.enc ++ rest = encU p.lv.toNat ++ (encU p.num.toNat ++ (o.flatMap Place.enc ++ rest)) := by simp [Place.enc, encUs]
    rw [e, List.length_cons, outR, rW_enc ⟨hp.l0, by have := hp.l4; omega⟩ hp.l4]
    simp only
    rw [rU_enc hp.num, if_neg Bool.false_ne_true, outR_enc o _ rest fun q hq => h q (List.mem_cons_of_mem _ hq)]
    simp
theorem inR_enc : ∀ (o acc : List Placed) (rest : List Int), (∀ p ∈ o, DGood p) → inR o.length acc ⟨o.flatMap Placed.enc ++ rest, false⟩ = some (acc ++ o, ⟨rest, false⟩)
  | [], acc, rest, _ => by simp [inR]
  | p :: o, acc, rest, h => by
    have hp := h p List.mem_cons_self
    have e : (p :: o).flatMap Placed.enc ++ rest = encU p.lv.toNat ++ (encU p.num.toNat ++ (encU p.weight.toNat ++ (encU p.bytes.toNat ++ (encU p.entries.toNat ++ (encT p.least ++ (encT p.greatest ++ (o.flatMap Placed.enc ++ rest))))))) := by simp [Placed.enc, encUs]
    have hx : plS ⟨(p :: o).flatMap Placed.enc ++ rest, false⟩ = (p, ⟨o.flatMap Placed.enc ++ rest, false⟩) := by
      rw [e]
      unfold plS
      simp only [rW_enc (m := 4) ⟨hp.l0, by have := hp.l4; omega⟩ hp.l4, rU_enc hp.num, rW_enc (okU_of hp.w0 hp.w1) hp.w1, rW_enc (okU_of hp.b0 hp.b1) hp.b1, rW_enc (okU_of hp.e0 hp.e1) hp.e1, rT_enc hp.least, rT_enc hp.greatest]
    rw [List.length_cons, inR, hx]
    simp only
    rw [if_neg Bool.false_ne_true, inR_enc o _ rest fun q hq => h q (List.mem_cons_of_mem _ hq)]
    simp
theorem ptR_enc : ∀ (o acc : List ByteArray) (rest : List Int), (∀ p ∈ o, p.size ≤ 64) → ptR o.length acc ⟨o.flatMap encT ++ rest, false⟩ = some (acc ++ o, ⟨rest, false⟩)
  | [], acc, rest, _ => by simp [ptR]
  | p :: o, acc, rest, h => by
    have hp := h p List.mem_cons_self
    have e : (p :: o).flatMap encT ++ rest = encT p ++ (o.flatMap encT ++ rest) := by simp
    rw [e, List.length_cons, ptR, rT_enc hp]
    simp only
    rw [if_neg Bool.false_ne_true, ptR_enc o _ rest fun q hq => h q (List.mem_cons_of_mem _ hq)]
    simp
/-- A RECORD IS READ AGAIN. -/
theorem rd_enc {e : Edit} (G : Good e) (h1 : e.out.length < 1000000000) (h2 : e.inn.length < 1000000000) (last : Bool) : rd (recB e last) = some (e, last) := by
  have e1 : recB e last = (if last then 1 else 0) :: (encU e.log.toNat ++ (encU e.next.toNat ++ (encU e.seq.toNat ++ (encU e.out.length ++ (e.out.flatMap Place.enc ++ (encU e.inn.length ++ (e.inn.flatMap Placed.enc ++ (encU e.ptr.length ++ (e.ptr.flatMap encT ++ []))))))))) := by
    simp [recB, encUs]
  have hp := G.nptr
  have o1 : e.out.length < 18446744073709551616 := by omega
  have o2 : e.inn.length < 18446744073709551616 := by omega
  have o3 : e.ptr.length < 18446744073709551616 := by omega
  rw [e1, rd_cons, if_neg (by cases last <;> decide)]
  simp only [rU_enc G.log, rU_enc G.next, rU_enc G.seq]
  unfold rdO
  simp only [rU_nat o1, Int.toNat_natCast, outR_enc _ _ _ G.out, List.nil_append]
  unfold rdI
  simp only [rU_nat o2, Int.toNat_natCast, inR_enc _ _ _ G.inn, List.nil_append]
  unfold rdP
  simp only [rU_nat o3, Int.toNat_natCast, ptR_enc _ _ _ G.ptr, List.nil_append]
  cases last <;> simp
end Go.Eng.Ytblghgacokoklaa
end
section
/-
  SPECS, 14: what Get tells of what Put wrote, whole or cut.
-/
set_option linter.unusedSimpArgs false
set_option linter.unusedVariables false
namespace Go.Eng.Ytblghgacokoklaa
def Edit.size (e : Edit) : Nat := e.out.length + e.inn.length
theorem Good.told {e : Edit} (G : Good e) : e.told = true := by
  unfold Edit.told
  simp only [Bool.and_eq_true, List.all_eq_true, decide_eq_true_eq]
  refine ⟨fun p hp => ?_, fun p hp => ?_, G.ptr, G.nptr⟩
  · have := G.out p hp
    unfold Place.told
    rw [decide_eq_true_eq]
    exact ⟨this.l0, by have := this.l4; omega⟩
  · have q := G.inn p hp
    unfold Placed.told
    rw [decide_eq_true_eq]
    exact ⟨q.l0, by have := q.l4; omega, q.w0, q.b0, q.e0, q.least, q.greatest⟩
theorem Good.valid {e : Edit} (G : Good e) : e.valid :=
  ⟨G.log, G.next, G.seq, fun p hp => ⟨by have := (G.out p hp).l4; omega, (G.out p hp).num⟩, fun p hp => ⟨by have := (G.inn p hp).l4; omega, (G.inn p hp).num, by have := (G.inn p hp).w1; omega, by have := (G.inn p hp).b1; omega, by have := (G.inn p hp).e1; omega⟩⟩
theorem Good.front {e : Edit} (G : Good e) : Good (front e) := ⟨G.log, G.next, G.seq, fun p hp => G.out p (List.mem_of_mem_take hp), fun p hp => G.inn p (List.mem_of_mem_take hp), G.ptr, G.nptr⟩
theorem Good.behind {e : Edit} (G : Good e) : Good (behind e) := ⟨G.log, G.next, G.seq, fun p hp => G.out p (List.mem_of_mem_drop hp), fun p hp => G.inn p (List.mem_of_mem_drop hp), G.ptr, G.nptr⟩
theorem Good.noptr {e : Edit} (G : Good e) : Good { e with ptr := [] } := ⟨G.log, G.next, G.seq, G.out, G.inn, fun p hp => (by cases hp), Nat.zero_le _⟩
/-- What of an edit a record tells that is not its last. -/
def piece (e : Edit) : Edit := { front e with ptr := [] }
theorem behind_size (e : Edit) : (behind e).size = e.size - 256 := by
  simp only [Edit.size, behind, List.length_drop]
  omega
theorem front_size (e : Edit) : (front e).size = min e.size 256 := by
  simp only [Edit.size, front, List.length_take]
  omega
theorem putF_last {f : Nat} {e : Edit} (h : e.size ≤ 256) : putF (f + 1) e = [recB (front e) true] := by
  have := behind_size e
  unfold Edit.size at this h
  unfold putF
  rw [if_pos (by omega)]
theorem putF_more {f : Nat} {e : Edit} (h : 256 < e.size) : putF (f + 1) e = recB (piece e) false :: putF f (behind e) := by
  have := behind_size e
  unfold Edit.size at this h
  conv => lhs; unfold putF
  rw [if_neg (by omega)]
  rfl
theorem front_all {e : Edit} (h : e.size ≤ 256) : front e = e := by
  unfold Edit.size at h
  cases e
  simp only [front] at h ⊢
  rw [List.take_of_length_le (by omega), List.take_of_length_le (by omega)]
theorem put_eq {e : Edit} (G : Good e) : putS e = putF (e.size + 1) e := by
  unfold putS Edit.size
  rw [if_pos G.told]
theorem putF_length : ∀ (f : Nat) (e : Edit), e.size < f → (putF f e).length = max 1 ((e.size + 255) / 256)
  | 0, e, h => absurd h (Nat.not_lt_zero _)
  | f + 1, e, h => by
    by_cases hs : e.size ≤ 256
    · rw [putF_last hs, List.length_singleton]; omega
    · have hb := behind_size e
      rw [putF_more (by omega), List.length_cons, putF_length f (behind e) (by omega), hb]
      omega
/-- The k-th record. -/
theorem putF_get : ∀ (f : Nat) (e : Edit), Good e → e.size < f → ∀ (k : Nat) (hk : k < (putF f e).length), ∃ x, Good x ∧ x.size ≤ 256 ∧ (putF f e)[k] = recB x (decide (k + 1 = (putF f e).length))
  | 0, e, _, h, _, _ => absurd h (Nat.not_lt_zero _)
  | f + 1, e, G, h, k, hk => by
    have hf := front_size e
    by_cases hs : e.size ≤ 256
    · have e1 := putF_last (f := f) hs
      refine ⟨front e, G.front, by omega, ?_⟩
      have hk0 : k = 0 := by rw [e1, List.length_singleton] at hk; omega
      subst hk0
      simp only [e1, List.getElem_cons_zero, List.length_singleton]
      rfl
    · have e1 := putF_more (f := f) (e := e) (by omega)
      have hb := behind_size e
      have hlen := putF_length f (behind e) (by omega)
      cases k with
      | zero =>
        refine ⟨piece e, G.front.noptr, by show (front e).size ≤ 256; omega, ?_⟩
        simp only [e1, List.getElem_cons_zero, List.length_cons]
        rw [decide_eq_false (by omega)]
      | succ k =>
        have hk2 : k < (putF f (behind e)).length := by rw [e1, List.length_cons] at hk; omega
        obtain ⟨x, hx, hsz, hget⟩ := putF_get f (behind e) G.behind (by omega) k hk2
        refine ⟨x, hx, hsz, ?_⟩
        simp only [e1, List.getElem_cons_succ, List.length_cons, hget]
        congr 1
        simp
theorem recB_length {x : Edit} (G : Good x) (h : x.size ≤ 256) (b : Bool) : (recB x b).length < 262144 := by
  unfold Edit.size at h
  have h1 := flatMap_le Place.enc 20 x.out (fun p _ => p.enc_length)
  have h2 := flatMap_le Placed.enc 198 x.inn (fun p hp => Placed.enc_length (by
    have q := G.inn p hp
    exact ⟨⟨q.l0, by have := q.l4; omega⟩, q.num, ⟨q.w0, by have := q.w1; omega⟩, ⟨q.b0, by have := q.b1; omega⟩, ⟨q.e0, by have := q.e1; omega⟩, q.least, q.greatest⟩))
  have h3 := flatMap_le encT 74 x.ptr (fun p hp => encT_length (G.ptr p hp))
  have h4 := encs_len [x.log, x.next, x.seq, (x.out.length : Int)] 4 rfl
  have h5 := encs_len [(x.inn.length : Int)] 1 rfl
  have h6 := encs_len [(x.ptr.length : Int)] 1 rfl
  have h7 := G.nptr
  unfold recB
  simp only [List.length_cons, List.length_append]
  omega
theorem sameP_all {e : Edit} {recs : List (List Int)} (h : putS e = recs) : sameP e recs true = true := by
  unfold sameP
  rw [h, if_neg (Nat.lt_irrefl _), if_neg (fun hh => hh.2 rfl), List.take_length]
  simp
theorem rd_front {e : Edit} (G : Good e) (b : Bool) : rd (recB (front e) b) = some (front e, b) := by
  have := front_size e
  unfold Edit.size at this
  exact rd_enc G.front (by omega) (by omega) b
theorem rd_piece {e : Edit} (G : Good e) : rd (recB (piece e) false) = some (piece e, false) := by
  have := front_size e
  unfold Edit.size at this
  exact rd_enc G.front.noptr (by show (front e).out.length < _; omega) (by show (front e).inn.length < _; omega) false
theorem take_drop_app {α : Type} (l : List α) (n : Nat) : l.take n ++ l.drop n = l := List.take_append_drop n l
/-- The records of an edit, behind those that have been read. -/
theorem getR_putF : ∀ (f : Nat) (E e cur : Edit) (done : List (List Int)) (acc : List Edit) (rs : List (List Int)), Good e → e.size < f → E = joinE cur e done → putS E = done ++ putF f e →
    getR (putF f e ++ rs) acc cur done = getR rs (acc ++ [E]) zE []
  | 0, _, e, _, _, _, _, _, h, _, _ => absurd h (Nat.not_lt_zero _)
  | f + 1, E, e, cur, done, acc, rs, G, h, hE, hput => by
    by_cases hs : e.size ≤ 256
    · have e1 := putF_last (f := f) hs
      rw [e1] at hput ⊢
      have hr := rd_front G true
      rw [front_all hs] at hr hput ⊢
      show getR (recB e true :: rs) acc cur done = _
      rw [getR_some hr]
      simp only [if_true]
      rw [← hE, if_pos (sameP_all hput)]
    · have e1 := putF_more (f := f) (e := e) (by omega)
      have hb := behind_size e
      rw [e1] at hput ⊢
      show getR (recB (piece e) false :: (putF f (behind e) ++ rs)) acc cur done = _
      rw [getR_some (rd_piece G)]
      simp only [Bool.false_eq_true, if_false]
      refine getR_putF f E (behind e) _ _ acc rs G.behind (by omega) ?_ (by rw [hput]; simp)
      rw [hE]
      have hne : ¬ (done ++ [recB (piece e) false]).length = 0 := by simp
      unfold joinE
      rw [if_neg hne]
      by_cases hd : done.length = 0
      · rw [if_pos hd, if_pos hd]
        cases e
        simp [piece, front, behind]
      · rw [if_neg hd, if_neg hd]
        cases e
        simp [piece, front, behind, List.append_assoc]
theorem getR_put {e : Edit} (G : Good e) (acc : List Edit) (rs : List (List Int)) : getR (putS e ++ rs) acc zE [] = getR rs (acc ++ [e]) zE [] := by
  have h := put_eq G
  rw [h]
  exact getR_putF (e.size + 1) e e zE [] acc rs G (Nat.lt_succ_self _) (by unfold joinE; rw [if_pos List.length_nil]) (by rw [h]; rfl)
theorem getR_all : ∀ (L acc : List Edit) (rs : List (List Int)), (∀ e ∈ L, Good e) → getR (L.flatMap putS ++ rs) acc zE [] = getR rs (acc ++ L) zE []
  | [], acc, rs, _ => by simp
  | e :: L, acc, rs, h => by
    rw [List.flatMap_cons, List.append_assoc, getR_put (h e List.mem_cons_self), getR_all L _ rs fun x hx => h x (List.mem_cons_of_mem _ hx)]
    simp
/-- What the first k records (none of them the last) tell. -/
def pre : Nat → Edit → Edit
  | 0, e => ⟨e.log, e.next, e.seq, [], [], []⟩
  | k + 1, e => ⟨e.log, e.next, e.seq, (front e).out ++ (pre k (behind e)).out, (front e).inn ++ (pre k (behind e)).inn, []⟩
theorem pre_rest (k : Nat) (e : Edit) : (pre k e).log = e.log ∧ (pre k e).next = e.next ∧ (pre k e).seq = e.seq ∧ (pre k e).ptr = [] := by cases k <;> exact ⟨rfl, rfl, rfl, rfl⟩
theorem pre_out : ∀ (k : Nat) (e : Edit), (∃ t, e.out = (pre k e).out ++ t) ∧ ∃ t, e.inn = (pre k e).inn ++ t
  | 0, e => ⟨⟨e.out, rfl⟩, ⟨e.inn, rfl⟩⟩
  | k + 1, e => by
    obtain ⟨⟨t, ht⟩, ⟨u, hu⟩⟩ := pre_out k (behind e)
    refine ⟨⟨t, ?_⟩, ⟨u, ?_⟩⟩
    · show e.out = (e.out.take 256 ++ (pre k (behind e)).out) ++ t
      rw [List.append_assoc, ← ht]
      exact (List.take_append_drop 256 e.out).symm
    · show e.inn = (e.inn.take (256 - min e.out.length 256) ++ (pre k (behind e)).inn) ++ u
      rw [List.append_assoc, ← hu]
      exact (List.take_append_drop (256 - min e.out.length 256) e.inn).symm
theorem getR_pre : ∀ (k f : Nat) (e cur : Edit) (part : List (List Int)) (acc : List Edit), Good e → e.size < f → k < (putF f e).length → part.length ≠ 0 → cur.log = e.log → cur.next = e.next → cur.seq = e.seq → cur.ptr = [] →
    getR ((putF f e).take k) acc cur part = getR [] acc ⟨e.log, e.next, e.seq, cur.out ++ (pre k e).out, cur.inn ++ (pre k e).inn, []⟩ (part ++ (putF f e).take k)
  | 0, f, e, cur, part, acc, G, hf, hk, hp, h1, h2, h3, h4 => by
    obtain ⟨a, b, c, o, i, p⟩ := cur
    simp only at h1 h2 h3 h4
    subst h1 h2 h3 h4
    simp [pre]
  | k + 1, 0, e, _, _, _, _, h, _, _, _, _, _, _ => absurd h (Nat.not_lt_zero _)
  | k + 1, f + 1, e, cur, part, acc, G, hf, hk, hp, h1, h2, h3, h4 => by
    have hs : 256 < e.size := by
      rcases Nat.lt_or_ge 256 e.size with h | h
      · exact h
      · rw [putF_last h, List.length_singleton] at hk; omega
    have e1 := putF_more (f := f) hs
    have hb := behind_size e
    rw [e1] at hk ⊢
    rw [List.length_cons] at hk
    rw [List.take_succ_cons, getR_some (rd_piece G)]
    simp only [Bool.false_eq_true, if_false]
    rw [getR_pre k f (behind e) _ _ acc G.behind (by omega) (by omega) (by simp) (by unfold joinE; rw [if_neg hp]; rfl) (by unfold joinE; rw [if_neg hp]; rfl) (by unfold joinE; rw [if_neg hp]; rfl) (by unfold joinE; rw [if_neg hp]; rfl)]
    unfold joinE
    rw [if_neg hp]
    simp [pre, piece, front, behind, List.append_assoc]
theorem same_pre : ∀ (k f g : Nat) (e : Edit), Good e → e.size < f → k < (putF f e).length → (withP (pre k e)).size < g → (putF g (withP (pre k e))).take k = (putF f e).take k
  | 0, _, _, _, _, _, _, _ => by simp
  | k + 1, 0, _, _, _, h, _, _ => absurd h (Nat.not_lt_zero _)
  | k + 1, _ + 1, 0, _, _, _, _, h => absurd h (Nat.not_lt_zero _)
  | k + 1, f + 1, g + 1, e, G, hf, hk, hg => by
    have hs : 256 < e.size := by
      rcases Nat.lt_or_ge 256 e.size with h | h
      · exact h
      · rw [putF_last h, List.length_singleton] at hk; omega
    have e1 := putF_more (f := f) hs
    have hb := behind_size e
    have hfs := front_size e
    have hsum : (front e).out.length + (front e).inn.length = 256 := by unfold Edit.size at hfs; unfold Edit.size at hs; omega
    have hfo : (front e).out.length = 256 ∨ (pre k (behind e)).out = [] := by
      rcases Nat.lt_or_ge e.out.length 256 with h | h
      · right
        obtain ⟨⟨t, ht⟩, _⟩ := pre_out k (behind e)
        have h0 : (behind e).out = [] := List.drop_of_length_le (by omega)
        rw [h0] at ht
        exact (List.append_eq_nil_iff.1 ht.symm).1
      · left
        simp only [front, List.length_take]
        omega
    have hWo : (withP (pre (k + 1) e)).out = (front e).out ++ (pre k (behind e)).out := rfl
    have hWi : (withP (pre (k + 1) e)).inn = (front e).inn ++ ((pre k (behind e)).inn ++ [pl0]) := by
      show ((front e).inn ++ (pre k (behind e)).inn) ++ [pl0] = _
      rw [List.append_assoc]
    have hto : (withP (pre (k + 1) e)).out.take 256 = (front e).out := by
      rw [hWo]
      rcases hfo with h | h
      · exact List.take_left' h
      · rw [h, List.append_nil, List.take_of_length_le (by omega)]
    have hdo : (withP (pre (k + 1) e)).out.drop 256 = (pre k (behind e)).out := by
      rw [hWo]
      rcases hfo with h | h
      · exact List.drop_left' h
      · rw [h, List.append_nil, List.drop_of_length_le (by omega)]
    have hlen : 256 - min (withP (pre (k + 1) e)).out.length 256 = (front e).inn.length := by
      rw [hWo, List.length_append]
      rcases hfo with h | h
      · omega
      · rw [h, List.length_nil]; omega
    have hti : (withP (pre (k + 1) e)).inn.take (256 - min (withP (pre (k + 1) e)).out.length 256) = (front e).inn := by
      rw [hlen, hWi]; exact List.take_left' rfl
    have hdi : (withP (pre (k + 1) e)).inn.drop (256 - min (withP (pre (k + 1) e)).out.length 256) = (pre k (behind e)).inn ++ [pl0] := by
      rw [hlen, hWi]; exact List.drop_left' rfl
    have hP : piece (withP (pre (k + 1) e)) = piece e := by
      unfold piece
      conv => lhs; unfold front
      simp only [hto, hti]
      rfl
    obtain ⟨p1, p2, p3, p4⟩ := pre_rest k (behind e)
    have hB : behind (withP (pre (k + 1) e)) = withP (pre k (behind e)) := by
      conv => lhs; unfold behind
      simp only [hdo, hdi]
      unfold withP
      rw [p1, p2, p3, p4]
      rfl
    have hW : 256 < (withP (pre (k + 1) e)).size := by
      unfold Edit.size
      rw [hWo, hWi]
      simp only [List.length_append, List.length_singleton]
      omega
    have e2 := putF_more (f := g) hW
    have hb2 := behind_size (withP (pre (k + 1) e))
    rw [e1] at hk ⊢
    rw [List.length_cons] at hk
    rw [e2, hP, hB, List.take_succ_cons, List.take_succ_cons]
    rw [hB] at hb2
    rw [same_pre k f g (behind e) G.behind (by omega) (by omega) (by omega)]
theorem good_pre {e : Edit} (G : Good e) (k : Nat) : Good (withP (pre k e)) := by
  obtain ⟨⟨t, ht⟩, ⟨u, hu⟩⟩ := pre_out k e
  obtain ⟨p1, p2, p3, p4⟩ := pre_rest k e
  refine ⟨by show okU (pre k e).log; rw [p1]; exact G.log, by show okU (pre k e).next; rw [p2]; exact G.next, by show okU (pre k e).seq; rw [p3]; exact G.seq, fun p hp => G.out p (by rw [ht]; exact List.mem_append_left _ hp), fun p hp => ?_, fun p hp => ?_, ?_⟩
  · rcases List.mem_append.1 hp with hp | hp
    · exact G.inn p (by rw [hu]; exact List.mem_append_left _ hp)
    · rw [List.mem_singleton] at hp
      subst hp
      exact ⟨by decide, by decide, ⟨by decide, by decide⟩, by decide, by decide, by decide, by decide, by decide, by decide, by decide, by decide⟩
  · have hp' : p ∈ (pre k e).ptr := hp
    rw [p4] at hp'; cases hp'
  · show (pre k e).ptr.length ≤ 5
    rw [p4]; exact Nat.zero_le _
theorem getR_part {e : Edit} (G : Good e) {k : Nat} (hk : k < (putS e).length) (acc : List Edit) : getR ((putS e).take k) acc zE [] = some acc := by
  cases k with
  | zero => simp [getR]
  | succ k =>
    have hp := put_eq G
    rw [hp] at hk ⊢
    have hs : 256 < e.size := by
      rcases Nat.lt_or_ge 256 e.size with h | h
      · exact h
      · rw [putF_last h, List.length_singleton] at hk; omega
    have e1 := putF_more (f := e.size) hs
    have hb := behind_size e
    have h0 : getR ((putF (e.size + 1) e).take (k + 1)) acc zE [] = getR [] acc (pre (k + 1) e) ((putF (e.size + 1) e).take (k + 1)) := by
      have hk' := hk
      rw [e1] at hk' ⊢
      rw [List.length_cons] at hk'
      rw [List.take_succ_cons, getR_some (rd_piece G)]
      simp only [Bool.false_eq_true, if_false]
      have hj : joinE zE (piece e) [] = piece e := by unfold joinE; rw [if_pos List.length_nil]
      rw [hj, getR_pre k e.size (behind e) (piece e) _ acc G.behind (by omega) (by omega) (by simp) rfl rfl rfl rfl]
      rfl
    rw [h0]
    have hl : ((putF (e.size + 1) e).take (k + 1)).length = k + 1 := by rw [List.length_take]; omega
    unfold getR
    rw [hl, if_neg (by omega)]
    have hW := put_eq (good_pre G (k + 1))
    have hsame := same_pre (k + 1) (e.size + 1) ((withP (pre (k + 1) e)).size + 1) e G (Nat.lt_succ_self _) hk (Nat.lt_succ_self _)
    have hlW : k + 1 ≤ (putF ((withP (pre (k + 1) e)).size + 1) (withP (pre (k + 1) e))).length := by
      have := congrArg List.length hsame
      rw [hl, List.length_take] at this
      omega
    have : sameP (withP (pre (k + 1) e)) ((putF (e.size + 1) e).take (k + 1)) false = true := by
      unfold sameP
      rw [hW, hl, if_neg (by omega), if_neg (fun hh => by cases hh.1), hsame]
      simp
    rw [if_pos this]
/-- GET OF THE FIRST n RECORDS: the edits whose last record is there. -/
theorem getR_first {L : List Edit} (hL : ∀ e ∈ L, Good e) {n w : Nat} (hn : n ≤ (L.flatMap putS).length) (hw : w ≤ L.length) (h1 : ((L.take w).flatMap putS).length ≤ n) (h2 : w = L.length ∨ ∃ hi : w < L.length, n < ((L.take w).flatMap putS).length + (putS L[w]).length) :
    getR ((L.flatMap putS).take n) [] zE [] = some (L.take w) := by
  rcases h2 with rfl | ⟨hi, h2⟩
  · rw [List.take_length] at h1 ⊢
    rw [List.take_of_length_le h1]
    have := getR_all L [] [] hL
    rw [List.append_nil, List.nil_append] at this
    rw [this]
    simp [getR]
  · have hsplit : L.flatMap putS = (L.take w).flatMap putS ++ (putS L[w] ++ (L.drop (w + 1)).flatMap putS) := by
      conv => lhs; rw [← List.take_append_drop w L, List.drop_eq_getElem_cons hi]
      rw [List.flatMap_append, List.flatMap_cons]
    rw [hsplit, List.take_append, List.take_of_length_le h1, List.take_append_of_le_length (by omega)]
    rw [getR_all (L.take w) [] _ (fun e he => hL e (List.mem_of_mem_take he)), List.nil_append]
    exact getR_part (hL _ (List.getElem_mem hi)) (by omega) _
end Go.Eng.Ytblghgacokoklaa
end
section
/-
  SPECS, 20: the document's reading of a record, as lists.
-/
set_option linter.unusedSimpArgs false
set_option linter.unusedVariables false
namespace Go.Eng.Ytblghgacokoklaa
def nU (s : RS) : Int × RS := if s.bad = true then (0, ⟨s.b, true⟩) else if (uR 0 0 s.b).2.2 = 0 then ((uR 0 0 s.b).1, ⟨s.b.drop (uR 0 0 s.b).2.1, false⟩) else (0, ⟨s.b, true⟩)
def nW (m : Int) (s : RS) : Int × RS := if m < (nU s).1 then (0, ⟨(nU s).2.b, true⟩) else nU s
def nT (s : RS) : ByteArray × RS := if s.bad = true then (⟨#[]⟩, ⟨s.b, true⟩) else if (tR s.b).2.2 = 0 then ((tR s.b).1, ⟨s.b.drop (tR s.b).2.1, false⟩) else (⟨#[]⟩, ⟨s.b, true⟩)
theorem nU_good {s : RS} (h : (nU s).2.bad = false) : s.bad = false ∧ nU s = rU s := by
  unfold nU at h ⊢
  by_cases hb : s.bad = true
  · rw [if_pos hb] at h; cases h
  · have hb' : s.bad = false := by simpa using hb
    rw [if_neg hb] at h ⊢
    by_cases he : (uR 0 0 s.b).2.2 = 0
    · rw [if_pos he]
      unfold rU RS.skip
      rw [if_pos he, hb']
      exact ⟨rfl, rfl⟩
    · rw [if_neg he] at h; cases h
theorem rU_good {s : RS} (h : (rU s).2.bad = false) : s.bad = false ∧ nU s = rU s := by
  have hb := (rU_len h).1
  unfold rU RS.skip at h ⊢
  by_cases he : (uR 0 0 s.b).2.2 = 0
  · refine ⟨hb, ?_⟩
    unfold nU
    rw [if_neg (by rw [hb]; decide), if_pos he, if_pos he, hb]
  · rw [if_neg he] at h; cases h
theorem nW_good {m : Int} {s : RS} (h : (nW m s).2.bad = false) : s.bad = false ∧ nW m s = rW m s ∧ (rU s).1 ≤ m ∧ nW m s = rU s := by
  unfold nW at h ⊢
  by_cases hm : m < (nU s).1
  · rw [if_pos hm] at h; cases h
  · rw [if_neg hm] at h ⊢
    obtain ⟨hb, he⟩ := nU_good h
    rw [he] at hm ⊢
    refine ⟨hb, ?_, by omega, rfl⟩
    unfold rW
    rw [if_neg hm]
theorem rW_good {m : Int} {s : RS} (h : (rW m s).2.bad = false) : s.bad = false ∧ nW m s = rW m s := by
  unfold rW at h ⊢
  by_cases hm : m < (rU s).1
  · rw [if_pos hm] at h; cases h
  · rw [if_neg hm] at h ⊢
    obtain ⟨hb, he⟩ := rU_good h
    refine ⟨hb, ?_⟩
    unfold nW
    rw [he, if_neg hm]
theorem nW_of {m : Int} {s : RS} (h : (rU s).2.bad = false) (hm : (rU s).1 ≤ m) : nW m s = rU s := by
  obtain ⟨hb, he⟩ := rU_good h
  unfold nW
  rw [he, if_neg (by omega)]
theorem nT_good {s : RS} (h : (nT s).2.bad = false) : s.bad = false ∧ nT s = rT s := by
  unfold nT at h ⊢
  by_cases hb : s.bad = true
  · rw [if_pos hb] at h; cases h
  · have hb' : s.bad = false := by simpa using hb
    rw [if_neg hb] at h ⊢
    by_cases he : (tR s.b).2.2 = 0
    · rw [if_pos he]
      unfold rT RS.skip
      rw [if_pos he, hb']
      exact ⟨rfl, rfl⟩
    · rw [if_neg he] at h; cases h
theorem rT_good {s : RS} (h : (rT s).2.bad = false) : s.bad = false ∧ nT s = rT s := by
  have hb := (rT_len h).1
  unfold rT RS.skip at h ⊢
  by_cases he : (tR s.b).2.2 = 0
  · refine ⟨hb, ?_⟩
    unfold nT
    rw [if_neg (by rw [hb]; decide), if_pos he, if_pos he, hb]
  · rw [if_neg he] at h; cases h
def outN : Nat → List Place → RS → List Place × RS
  | 0, acc, s => (acc, s)
  | f + 1, acc, s => if s.bad = true then (acc, s) else outN f (acc ++ [⟨(nW 4 s).1, (nU (nW 4 s).2).1⟩]) (nU (nW 4 s).2).2
def plN (s : RS) : Placed × RS :=
  let a := nW 4 s
  let b := nU a.2
  let c := nW 9223372036854775807 b.2
  let d := nW 9223372036854775807 c.2
  let e := nW 9223372036854775807 d.2
  let x := nT e.2
  let y := nT x.2
  (⟨a.1, b.1, c.1, d.1, e.1, x.1, y.1⟩, y.2)
def inN : Nat → List Placed → RS → List Placed × RS
  | 0, acc, s => (acc, s)
  | f + 1, acc, s => if s.bad = true then (acc, s) else inN f (acc ++ [(plN s).1]) (plN s).2
def ptN : Nat → List ByteArray → RS → List ByteArray × RS
  | 0, acc, s => (acc, s)
  | f + 1, acc, s => if s.bad = true then (acc, s) else ptN f (acc ++ [(nT s).1]) (nT s).2
theorem outN_bad : ∀ (f : Nat) (acc : List Place) (s : RS), s.bad = true → (outN f acc s).2.bad = true
  | 0, _, _, h => h
  | f + 1, acc, s, h => by unfold outN; rw [if_pos h]; exact h
theorem inN_bad : ∀ (f : Nat) (acc : List Placed) (s : RS), s.bad = true → (inN f acc s).2.bad = true
  | 0, _, _, h => h
  | f + 1, acc, s, h => by unfold inN; rw [if_pos h]; exact h
theorem ptN_bad : ∀ (f : Nat) (acc : List ByteArray) (s : RS), s.bad = true → (ptN f acc s).2.bad = true
  | 0, _, _, h => h
  | f + 1, acc, s, h => by unfold ptN; rw [if_pos h]; exact h
theorem not_bad {b : Bool} (h : ¬ b = true) : b = false := by simpa using h
theorem outN_good : ∀ (f : Nat) (acc : List Place) (s : RS), (outN f acc s).2.bad = false → s.bad = false ∧ outR f acc s = some (outN f acc s)
  | 0, _, _, h => ⟨h, rfl⟩
  | f + 1, acc, s, h => by
    unfold outN at h ⊢
    by_cases hb : s.bad = true
    · rw [if_pos hb, hb] at h; cases h
    · rw [if_neg hb] at h ⊢
      obtain ⟨hu, ih⟩ := outN_good f _ _ h
      obtain ⟨hw, eu⟩ := nU_good hu
      obtain ⟨hs, ew, _⟩ := nW_good hw
      rw [ew] at eu ih ⊢
      rw [eu] at ih ⊢
      rw [ew] at hu
      rw [eu] at hu
      refine ⟨hs, ?_⟩
      rw [outR, if_neg (by rw [hu]; decide)]
      exact ih
theorem outR_good : ∀ (f : Nat) (acc a : List Place) (s s' : RS), outR f acc s = some (a, s') → s'.bad = false → s.bad = false ∧ outN f acc s = (a, s') ∧ a.length = acc.length + f
  | 0, acc, a, s, s', h, hb => by
    rw [outR] at h
    simp only [Option.some.injEq, Prod.mk.injEq] at h
    obtain ⟨rfl, rfl⟩ := h
    exact ⟨hb, rfl, rfl⟩
  | f + 1, acc, a, s, s', h, hb => by
    rw [outR] at h
    split at h
    · cases h
    · rename_i hu
      have hu' := not_bad hu
      obtain ⟨_, ih, il⟩ := outR_good f _ _ _ _ h hb
      obtain ⟨hw, eu⟩ := rU_good hu'
      obtain ⟨hs, ew⟩ := rW_good hw
      refine ⟨hs, ?_, by rw [il, List.length_append, List.length_singleton]; omega⟩
      unfold outN
      rw [if_neg (by rw [hs]; decide), ew, eu]
      exact ih
theorem pl_good {s : RS} (h : (plN s).2.bad = false) : s.bad = false ∧ plN s = plS s := by
  unfold plN at h ⊢
  unfold plS
  simp only at h ⊢
  obtain ⟨h6, e6⟩ := nT_good h
  obtain ⟨h5, e5⟩ := nT_good h6
  obtain ⟨h4, e4, _⟩ := nW_good h5
  obtain ⟨h3, e3, _⟩ := nW_good h4
  obtain ⟨h2, e2, _⟩ := nW_good h3
  obtain ⟨h1, e1⟩ := nU_good h2
  obtain ⟨h0, e0, _⟩ := nW_good h1
  refine ⟨h0, ?_⟩
  rw [e0] at e1; rw [e0, e1] at e2; rw [e0, e1, e2] at e3; rw [e0, e1, e2, e3] at e4; rw [e0, e1, e2, e3, e4] at e5; rw [e0, e1, e2, e3, e4, e5] at e6
  rw [e0, e1, e2, e3, e4, e5, e6]
theorem pl_good' {s : RS} (h : (plS s).2.bad = false) : s.bad = false ∧ plN s = plS s := by
  unfold plS at h ⊢
  unfold plN
  simp only at h ⊢
  obtain ⟨h6, e6⟩ := rT_good h
  obtain ⟨h5, e5⟩ := rT_good h6
  obtain ⟨h4, e4⟩ := rW_good h5
  obtain ⟨h3, e3⟩ := rW_good h4
  obtain ⟨h2, e2⟩ := rW_good h3
  obtain ⟨h1, e1⟩ := rU_good h2
  obtain ⟨h0, e0⟩ := rW_good h1
  refine ⟨h0, ?_⟩
  rw [e0, e1, e2, e3, e4, e5, e6]
theorem inN_good : ∀ (f : Nat) (acc : List Placed) (s : RS), (inN f acc s).2.bad = false → s.bad = false ∧ inR f acc s = some (inN f acc s)
  | 0, _, _, h => ⟨h, rfl⟩
  | f + 1, acc, s, h => by
    unfold inN at h ⊢
    by_cases hb : s.bad = true
    · rw [if_pos hb, hb] at h; cases h
    · rw [if_neg hb] at h ⊢
      obtain ⟨hu, ih⟩ := inN_good f _ _ h
      obtain ⟨hs, ew⟩ := pl_good hu
      rw [ew] at ih hu ⊢
      refine ⟨hs, ?_⟩
      rw [inR, if_neg (by rw [hu]; decide)]
      exact ih
theorem inR_good : ∀ (f : Nat) (acc a : List Placed) (s s' : RS), inR f acc s = some (a, s') → s'.bad = false → s.bad = false ∧ inN f acc s = (a, s') ∧ a.length = acc.length + f
  | 0, acc, a, s, s', h, hb => by
    rw [inR] at h
    simp only [Option.some.injEq, Prod.mk.injEq] at h
    obtain ⟨rfl, rfl⟩ := h
    exact ⟨hb, rfl, rfl⟩
  | f + 1, acc, a, s, s', h, hb => by
    rw [inR] at h
    split at h
    · cases h
    · rename_i hu
      have hu' := not_bad hu
      obtain ⟨_, ih, il⟩ := inR_good f _ _ _ _ h hb
      obtain ⟨hs, ew⟩ := pl_good' hu'
      refine ⟨hs, ?_, by rw [il, List.length_append, List.length_singleton]; omega⟩
      unfold inN
      rw [if_neg (by rw [hs]; decide), ew]
      exact ih
theorem ptN_good : ∀ (f : Nat) (acc : List ByteArray) (s : RS), (ptN f acc s).2.bad = false → s.bad = false ∧ ptR f acc s = some (ptN f acc s)
  | 0, _, _, h => ⟨h, rfl⟩
  | f + 1, acc, s, h => by
    unfold ptN at h ⊢
    by_cases hb : s.bad = true
    · rw [if_pos hb, hb] at h; cases h
    · rw [if_neg hb] at h ⊢
      obtain ⟨hu, ih⟩ := ptN_good f _ _ h
      obtain ⟨hs, ew⟩ := nT_good hu
      rw [ew] at ih hu ⊢
      refine ⟨hs, ?_⟩
      rw [ptR, if_neg (by rw [hu]; decide)]
      exact ih
theorem ptR_good : ∀ (f : Nat) (acc a : List ByteArray) (s s' : RS), ptR f acc s = some (a, s') → s'.bad = false → s.bad = false ∧ ptN f acc s = (a, s') ∧ a.length = acc.length + f
  | 0, acc, a, s, s', h, hb => by
    rw [ptR] at h
    simp only [Option.some.injEq, Prod.mk.injEq] at h
    obtain ⟨rfl, rfl⟩ := h
    exact ⟨hb, rfl, rfl⟩
  | f + 1, acc, a, s, s', h, hb => by
    rw [ptR] at h
    split at h
    · cases h
    · rename_i hu
      have hu' := not_bad hu
      obtain ⟨_, ih, il⟩ := ptR_good f _ _ _ _ h hb
      obtain ⟨hs, ew⟩ := rT_good hu'
      refine ⟨hs, ?_, by rw [il, List.length_append, List.length_singleton]; omega⟩
      unfold ptN
      rw [if_neg (by rw [hs]; decide), ew]
      exact ih
def fP (c a b d : Int) (o : List Place) (i : List Placed) (s : RS) : Option (Edit × Bool) :=
  let x := ptN (nW 5 s).1.toNat [] (nW 5 s).2
  if x.2.bad = true then none else if x.2.b.length = 0 then some (⟨a, b, d, o, i, x.1⟩, decide (c = 1)) else none
def fI (c a b d : Int) (o : List Place) (s : RS) : Option (Edit × Bool) :=
  let x := inN (nW 256 s).1.toNat [] (nW 256 s).2
  fP c a b d o x.1 x.2
def fO (c a b d : Int) (s : RS) : Option (Edit × Bool) :=
  let x := outN (nW 256 s).1.toNat [] (nW 256 s).2
  fI c a b d x.1 x.2
/-- What a record tells, by the document. -/
def fd : List Int → Option (Edit × Bool)
  | [] => none
  | c :: l => if 1 < c then none else fO c (nU ⟨l, false⟩).1 (nU (nU ⟨l, false⟩).2).1 (nU (nU (nU ⟨l, false⟩).2).2).1 (nU (nU (nU ⟨l, false⟩).2).2).2
theorem fd_cons (c : Int) (l : List Int) : fd (c :: l) = if 1 < c then none else fO c (nU ⟨l, false⟩).1 (nU (nU ⟨l, false⟩).2).1 (nU (nU (nU ⟨l, false⟩).2).2).1 (nU (nU (nU ⟨l, false⟩).2).2).2 := rfl
theorem fP_some {c a b d : Int} {o : List Place} {i : List Placed} {s : RS} {x : Edit × Bool} (h : fP c a b d o i s = some x) : s.bad = false ∧ rdP c a b d o i s = some x ∧ x.1.ptr.length ≤ 5 ∧ x.1.out = o ∧ x.1.inn = i := by
  unfold fP at h
  simp only at h
  split at h
  · cases h
  · rename_i hb
    have hb' := not_bad hb
    split at h
    · rename_i hl
      obtain ⟨h1, e1⟩ := ptN_good _ _ _ hb'
      obtain ⟨h2, _, hm, e2⟩ := nW_good h1
      have hlen := ptR_good _ _ _ _ _ e1 hb'
      rw [e2] at e1 hl h hlen
      refine ⟨h2, ?_, ?_, ?_, ?_⟩
      · unfold rdP
        rw [e1]
        simp only
        rw [e2] at hb'
        rw [if_neg (by rw [hb']; decide), if_pos hl]
        exact h
      · rw [← Option.some.inj h]
        show (ptN (rU s).1.toNat [] (rU s).2).1.length ≤ 5
        rw [hlen.2.2]
        have := (rU_ok s).1
        simp only [List.length_nil]
        omega
      · rw [← Option.some.inj h]
      · rw [← Option.some.inj h]
    · cases h
theorem fI_some {c a b d : Int} {o : List Place} {s : RS} {x : Edit × Bool} (h : fI c a b d o s = some x) : s.bad = false ∧ rdI c a b d o s = some x ∧ x.1.ptr.length ≤ 5 ∧ x.1.out = o ∧ x.1.inn.length ≤ 256 := by
  unfold fI at h
  simp only at h
  obtain ⟨hb, hP, hp, ho, hi⟩ := fP_some h
  obtain ⟨h1, e1⟩ := inN_good _ _ _ hb
  obtain ⟨h2, _, hm, e2⟩ := nW_good h1
  have hlen := inR_good _ _ _ _ _ e1 hb
  rw [e2] at e1 hP hi hlen
  refine ⟨h2, ?_, hp, ho, ?_⟩
  · unfold rdI
    rw [e1]
    exact hP
  · rw [hi, hlen.2.2]
    have := (rU_ok s).1
    simp only [List.length_nil]
    omega
theorem fO_some {c a b d : Int} {s : RS} {x : Edit × Bool} (h : fO c a b d s = some x) : s.bad = false ∧ rdO c a b d s = some x ∧ x.1.ptr.length ≤ 5 ∧ x.1.out.length ≤ 256 ∧ x.1.inn.length ≤ 256 := by
  unfold fO at h
  simp only at h
  obtain ⟨hb, hI, hp, ho, hi⟩ := fI_some h
  obtain ⟨h1, e1⟩ := outN_good _ _ _ hb
  obtain ⟨h2, _, hm, e2⟩ := nW_good h1
  have hlen := outR_good _ _ _ _ _ e1 hb
  rw [e2] at e1 hI ho hlen
  refine ⟨h2, ?_, hp, ?_, hi⟩
  · unfold rdO
    rw [e1]
    exact hI
  · rw [ho, hlen.2.2]
    have := (rU_ok s).1
    simp only [List.length_nil]
    omega
theorem fd_some {bs : List Int} {x : Edit × Bool} (h : fd bs = some x) : rd bs = some x ∧ x.1.ptr.length ≤ 5 ∧ x.1.out.length ≤ 256 ∧ x.1.inn.length ≤ 256 := by
  cases bs with
  | nil => cases h
  | cons c l =>
    rw [fd_cons] at h
    split at h
    · cases h
    · rename_i hc
      obtain ⟨hb, hO, h1, h2, h3⟩ := fO_some h
      obtain ⟨b2, e2⟩ := nU_good hb
      obtain ⟨b1, e1⟩ := nU_good b2
      obtain ⟨b0, e0⟩ := nU_good b1
      rw [e0] at e1
      rw [e0, e1] at e2
      rw [e0, e1, e2] at hO
      rw [rd_cons, if_neg hc]
      exact ⟨hO, h1, h2, h3⟩
theorem rdP_some {c a b d : Int} {o : List Place} {i : List Placed} {s : RS} {x : Edit × Bool} (h : rdP c a b d o i s = some x) (hp : x.1.ptr.length ≤ 5) : (rU s).2.bad = false ∧ fP c a b d o i s = some x ∧ x.1.out = o ∧ x.1.inn = i := by
  unfold rdP at h
  split at h
  · cases h
  · rename_i y hy
    split at h
    · cases h
    · rename_i hb
      split at h
      · rename_i hl
        obtain ⟨y1, y2⟩ := y
        obtain ⟨hs, he, hlen⟩ := ptR_good _ _ _ _ _ hy (not_bad hb)
        have hx := (Option.some.inj h).symm
        have hpl : y1.length ≤ 5 := by rw [hx] at hp; exact hp
        have := (rU_ok s).1
        have hw := nW_of (m := 5) hs (by simp only [List.length_nil] at hlen; omega)
        refine ⟨hs, ?_, by rw [hx], by rw [hx]⟩
        unfold fP
        rw [hw, he]
        simp only
        rw [if_neg hb, if_pos hl]
        exact h
      · cases h
theorem rdI_some {c a b d : Int} {o : List Place} {s : RS} {x : Edit × Bool} (h : rdI c a b d o s = some x) (hp : x.1.ptr.length ≤ 5) (hi : x.1.inn.length ≤ 256) : (rU s).2.bad = false ∧ fI c a b d o s = some x ∧ x.1.out = o := by
  unfold rdI at h
  split at h
  · cases h
  · rename_i y hy
    obtain ⟨hb, hf, ho, hin⟩ := rdP_some h hp
    obtain ⟨y1, y2⟩ := y
    have hy2 : y2.bad = false := (rU_len hb).1
    obtain ⟨hs, he, hlen⟩ := inR_good _ _ _ _ _ hy hy2
    have := (rU_ok s).1
    have hin' : x.1.inn = y1 := hin
    have hil : y1.length ≤ 256 := by rw [← hin']; exact hi
    have hw := nW_of (m := 256) hs (by simp only [List.length_nil] at hlen; omega)
    refine ⟨hs, ?_, ho⟩
    unfold fI
    rw [hw, he]
    exact hf
theorem rdO_some {c a b d : Int} {s : RS} {x : Edit × Bool} (h : rdO c a b d s = some x) (hp : x.1.ptr.length ≤ 5) (hi : x.1.inn.length ≤ 256) (ho : x.1.out.length ≤ 256) : (rU s).2.bad = false ∧ fO c a b d s = some x := by
  unfold rdO at h
  split at h
  · cases h
  · rename_i y hy
    obtain ⟨hb, hf, hout⟩ := rdI_some h hp hi
    obtain ⟨y1, y2⟩ := y
    have hy2 : y2.bad = false := (rU_len hb).1
    obtain ⟨hs, he, hlen⟩ := outR_good _ _ _ _ _ hy hy2
    have := (rU_ok s).1
    have hout' : x.1.out = y1 := hout
    have hol : y1.length ≤ 256 := by rw [← hout']; exact ho
    have hw := nW_of (m := 256) hs (by simp only [List.length_nil] at hlen; omega)
    refine ⟨hs, ?_⟩
    unfold fO
    rw [hw, he]
    exact hf
theorem rd_some {bs : List Int} {x : Edit × Bool} (h : rd bs = some x) (hp : x.1.ptr.length ≤ 5) (ho : x.1.out.length ≤ 256) (hi : x.1.inn.length ≤ 256) : fd bs = some x := by
  cases bs with
  | nil => cases h
  | cons c l =>
    rw [rd_cons] at h
    split at h
    · cases h
    · rename_i hc
      obtain ⟨hb, hf⟩ := rdO_some h hp hi ho
      have b3 := (rU_len hb).1
      obtain ⟨b2, e2⟩ := rU_good b3
      obtain ⟨b1, e1⟩ := rU_good b2
      obtain ⟨b0, e0⟩ := rU_good b1
      rw [fd_cons, if_neg hc, e0, e1, e2]
      exact hf
end Go.Eng.Ytblghgacokoklaa
end
section
/-
  SPECS, 21: what is read is just what would be written.
-/
set_option linter.unusedSimpArgs false
set_option linter.unusedVariables false
namespace Go.Eng.Ytblghgacokoklaa
theorem uR_can : ∀ (l : List Int) (i acc : Nat), (∀ c ∈ l, 0 ≤ c ∧ c < 256) → i ≤ 9 → acc < 128 ^ i → (uR i (acc : Int) l).2.2 = 0 →
    ∃ v : Nat, (uR i (acc : Int) l).1 = ((acc + 128 ^ i * v : Nat) : Int) ∧ (0 < i → 0 < v) ∧ l.take ((uR i (acc : Int) l).2.1 - i) = encF (10 - i) v ∧ i < (uR i (acc : Int) l).2.1
  | [], i, acc, _, _, _, h => by unfold uR at h; exact absurd h (by decide)
  | c :: l, i, acc, hok, hi, hacc, h => by
    have hc := hok c List.mem_cons_self
    obtain ⟨m, rfl⟩ : ∃ m : Nat, c = (m : Int) := ⟨c.toNat, by omega⟩
    unfold uR at h ⊢
    split at h
    · exact absurd h (by decide)
    · rename_i hbad
      rw [if_neg hbad]
      have hpow : ∀ j : Nat, j ≤ 8 → 128 ^ j * 128 ≤ 2 ^ 63 := fun j hj => by
        have : 128 ^ j * 128 = 128 ^ (j + 1) := (Nat.pow_succ ..).symm
        rw [this]
        calc 128 ^ (j + 1) ≤ 128 ^ 9 := Nat.pow_le_pow_right (by decide) (by omega)
          _ = 2 ^ 63 := by decide
      have h9 : i = 9 → m = 1 := fun h9 => by
        by_cases hm : (m : Int) = 1
        · omega
        · exact absurd (.inr ⟨h9, hm⟩) hbad
      have hbound : acc + 128 ^ i * (m % 128) < 2 ^ 64 := by
        by_cases h8 : i ≤ 8
        · have h1 := hpow i h8
          have h2 : 128 ^ i * (m % 128) ≤ 128 ^ i * 127 := Nat.mul_le_mul_left _ (by omega)
          omega
        · have hi9 : i = 9 := by omega
          have hm1 := h9 hi9
          subst hi9 hm1
          have e : (128 : Nat) ^ 9 = 9223372036854775808 := by decide
          rw [e] at hacc ⊢
          omega
      have hnx := nx_enc i acc m hi (by omega) hacc hbound
      split at h
      · rename_i hlt
        rw [if_pos hlt]
        have hm : m < 128 := by omega
        rw [Nat.mod_eq_of_lt hm] at hnx
        refine ⟨m, hnx, fun hi0 => ?_, ?_, by show i < i + 1; omega⟩
        · rcases Nat.eq_zero_or_pos m with h0 | h0
          · exact absurd (.inl ⟨by omega, hi0⟩) hbad
          · exact h0
        · show ((m : Int) :: l).take (i + 1 - i) = encF (10 - i) m
          rw [show i + 1 - i = 1 by omega, show 10 - i = (9 - i) + 1 by omega]
          unfold encF
          rw [if_pos hm]
          rfl
      · rename_i hlt
        rw [if_neg hlt]
        have hi8 : i ≤ 8 := by
          rcases Nat.lt_or_ge i 9 with h0 | h0
          · omega
          · have := h9 (by omega)
            omega
        rw [hnx] at h ⊢
        have hle : 128 ^ i * (m % 128) ≤ 128 ^ i * 127 := Nat.mul_le_mul_left _ (by omega)
        obtain ⟨v, e1, e2, e3, e4⟩ := uR_can l (i + 1) (acc + 128 ^ i * (m % 128)) (fun c hc => hok c (List.mem_cons_of_mem _ hc)) (by omega) (by rw [Nat.pow_succ]; omega) h
        have hv := e2 (by omega)
        have em : m = m % 128 + 128 := by omega
        refine ⟨m % 128 + 128 * v, ?_, fun _ => by omega, ?_, by omega⟩
        · rw [e1, Nat.pow_succ, Nat.mul_assoc, Nat.mul_add]
          omega
        · have ek : (uR (i + 1) ((acc + 128 ^ i * (m % 128) : Nat) : Int) l).2.1 - i = (uR (i + 1) ((acc + 128 ^ i * (m % 128) : Nat) : Int) l).2.1 - (i + 1) + 1 := by omega
          rw [ek, List.take_succ_cons, e3, show 10 - i = (10 - (i + 1)) + 1 by omega]
          conv => rhs; unfold encF
          rw [if_neg (by omega)]
          have q1 : (m % 128 + 128 * v) % 128 = m % 128 := by omega
          have q2 : (m % 128 + 128 * v) / 128 = v := by omega
          rw [q1, q2, ← em]
def okB (s : RS) : Prop := ∀ c ∈ s.b, 0 ≤ c ∧ c < 256
theorem rU_can {s : RS} (hk : okB s) (h : (rU s).2.bad = false) : s.b = encU (rU s).1.toNat ++ (rU s).2.b ∧ okB (rU s).2 := by
  have hb := (rU_len h).1
  unfold rU RS.skip at h ⊢
  by_cases he : (uR 0 0 s.b).2.2 = 0
  · rw [if_pos he]
    obtain ⟨v, e1, _, e3, _⟩ := uR_can s.b 0 0 hk (by decide) (by decide) he
    have e1' : (uR 0 0 s.b).1 = ((v : Nat) : Int) := by
      have : (0 + 128 ^ 0 * v : Nat) = v := by omega
      rw [this] at e1; exact e1
    refine ⟨?_, fun c hc => hk c (List.mem_of_mem_drop hc)⟩
    show s.b = encU (uR 0 0 s.b).1.toNat ++ s.b.drop (uR 0 0 s.b).2.1
    rw [e1', Int.toNat_natCast]
    have : encU v = s.b.take (uR 0 0 s.b).2.1 := e3.symm
    rw [this, List.take_append_drop]
  · rw [if_neg he] at h; cases h
theorem rW_can {m : Int} {s : RS} (hk : okB s) (h : (rW m s).2.bad = false) : s.b = encU (rW m s).1.toNat ++ (rW m s).2.b ∧ okB (rW m s).2 := by
  unfold rW at h ⊢
  by_cases hm : m < (rU s).1
  · rw [if_pos hm] at h; cases h
  · rw [if_neg hm] at h ⊢; exact rU_can hk h
theorem bI_toB {l : List Int} (h : ∀ c ∈ l, 0 ≤ c ∧ c < 256) : bI (toB l) = l := by
  unfold bI toB
  simp only [List.toList_toArray, List.map_map]
  conv => rhs; rw [← List.map_id l]
  refine List.map_congr_left fun c hc => ?_
  have := h c hc
  simp only [Function.comp, id]
  rw [UInt8.toNat_ofNat']
  omega
theorem rT_can {s : RS} (hk : okB s) (h : (rT s).2.bad = false) : s.b = encT (rT s).1 ++ (rT s).2.b ∧ okB (rT s).2 := by
  have hb := (rT_len h).1
  have he : (tR s.b).2.2 = 0 := by
    unfold rT RS.skip at h
    by_cases he : (tR s.b).2.2 = 0
    · exact he
    · rw [if_neg he] at h; cases h
  have hd : (rT s).2.b = s.b.drop (tR s.b).2.1 := by unfold rT RS.skip; rw [if_pos he]
  have ht : (rT s).1 = (tR s.b).1 := rfl
  refine ⟨?_, fun c hc => by rw [hd] at hc; exact hk c (List.mem_of_mem_drop hc)⟩
  rw [hd, ht]
  unfold tR at he ⊢
  by_cases h0 : (uR 0 0 s.b).2.2 = 0
  · rw [if_pos h0] at he ⊢
    by_cases h1 : 64 < (uR 0 0 s.b).1
    · rw [if_pos h1] at he; exact absurd he (by decide)
    · rw [if_neg h1] at he ⊢
      by_cases h2 : ((s.b.length - (uR 0 0 s.b).2.1 : Nat) : Int) < (uR 0 0 s.b).1
      · rw [if_pos h2] at he; exact absurd he (by decide)
      · rw [if_neg h2]
        obtain ⟨v, e1, _, e3, _⟩ := uR_can s.b 0 0 hk (by decide) (by decide) h0
        have e1' : (uR 0 0 s.b).1 = ((v : Nat) : Int) := by
          have : (0 + 128 ^ 0 * v : Nat) = v := by omega
          rw [this] at e1; exact e1
        rw [e1'] at h2 ⊢
        rw [Int.toNat_natCast]
        have e4 : encU v = s.b.take (uR 0 0 s.b).2.1 := e3.symm
        simp only
        unfold encT
        rw [bI_toB (fun c hc => hk c (List.mem_of_mem_drop (List.mem_of_mem_take hc))), toB_size, List.length_take, List.length_drop, Nat.min_eq_left (by omega), e4, ← List.drop_drop, List.append_assoc, List.take_append_drop, List.take_append_drop]
  · rw [if_neg h0] at he; exact absurd he h0
theorem outR_can : ∀ (f : Nat) (acc a : List Place) (s s' : RS), outR f acc s = some (a, s') → s'.bad = false → okB s → ∃ o, a = acc ++ o ∧ s.b = o.flatMap Place.enc ++ s'.b ∧ okB s' ∧ o.length = f ∧ ∀ p ∈ o, PGood p
  | 0, acc, a, s, s', h, hb, hk => by
    rw [outR] at h
    simp only [Option.some.injEq, Prod.mk.injEq] at h
    obtain ⟨rfl, rfl⟩ := h
    exact ⟨[], by simp, by simp, hk, rfl, fun p hp => (by cases hp)⟩
  | f + 1, acc, a, s, s', h, hb, hk => by
    rw [outR] at h
    split at h
    · cases h
    · rename_i hu
      have hu' := not_bad hu
      have hw := (rU_len hu').1
      obtain ⟨c1, k1⟩ := rW_can hk hw
      obtain ⟨c2, k2⟩ := rU_can k1 hu'
      obtain ⟨o, ha, hs, hk', hl, hg⟩ := outR_can f _ _ _ _ h hb k2
      have v1 := rW_ok 4 s (by decide)
      refine ⟨⟨(rW 4 s).1, (rU (rW 4 s).2).1⟩ :: o, by rw [ha]; simp, ?_, hk', by rw [List.length_cons, hl], fun p hp => ?_⟩
      · rw [c1, c2, hs]
        simp [Place.enc, encUs]
      · rcases List.mem_cons.1 hp with rfl | hp
        · exact ⟨v1.1, v1.2, rU_ok _⟩
        · exact hg p hp
theorem inR_can : ∀ (f : Nat) (acc a : List Placed) (s s' : RS), inR f acc s = some (a, s') → s'.bad = false → okB s → ∃ o, a = acc ++ o ∧ s.b = o.flatMap Placed.enc ++ s'.b ∧ okB s' ∧ o.length = f ∧ ∀ p ∈ o, DGood p
  | 0, acc, a, s, s', h, hb, hk => by
    rw [inR] at h
    simp only [Option.some.injEq, Prod.mk.injEq] at h
    obtain ⟨rfl, rfl⟩ := h
    exact ⟨[], by simp, by simp, hk, rfl, fun p hp => (by cases hp)⟩
  | f + 1, acc, a, s, s', h, hb, hk => by
    rw [inR] at h
    split at h
    · cases h
    · rename_i hu
      have hu' := not_bad hu
      have key : s.b = (plS s).1.enc ++ (plS s).2.b ∧ okB (plS s).2 ∧ DGood (plS s).1 := by
        unfold plS at hu' ⊢
        simp only at hu' ⊢
        have b6 := (rT_len hu').1
        have b5 := (rT_len b6).1
        have b4 := (rW_len b5).1
        have b3 := (rW_len b4).1
        have b2 := (rW_len b3).1
        have b1 := (rU_len b2).1
        obtain ⟨c0, k0⟩ := rW_can hk b1
        obtain ⟨c1, k1⟩ := rU_can k0 b2
        obtain ⟨c2, k2⟩ := rW_can k1 b3
        obtain ⟨c3, k3⟩ := rW_can k2 b4
        obtain ⟨c4, k4⟩ := rW_can k3 b5
        obtain ⟨c5, k5⟩ := rT_can k4 b6
        obtain ⟨c6, k6⟩ := rT_can k5 hu'
        have v0 := rW_ok 4 s (by decide)
        have v2 := rW_ok 9223372036854775807 (rU (rW 4 s).2).2 (by decide)
        have v3 := rW_ok 9223372036854775807 (rW 9223372036854775807 (rU (rW 4 s).2).2).2 (by decide)
        have v4 := rW_ok 9223372036854775807 (rW 9223372036854775807 (rW 9223372036854775807 (rU (rW 4 s).2).2).2).2 (by decide)
        refine ⟨?_, k6, ⟨v0.1, v0.2, rU_ok _, v2.1, v2.2, v3.1, v3.2, v4.1, v4.2, rT_size _, rT_size _⟩⟩
        conv => lhs; rw [c0, c1, c2, c3, c4, c5, c6]
        simp [Placed.enc, encUs]
      obtain ⟨o, ha, hs, hk', hl, hg⟩ := inR_can f _ _ _ _ h hb key.2.1
      refine ⟨(plS s).1 :: o, by rw [ha]; simp, ?_, hk', by rw [List.length_cons, hl], fun p hp => ?_⟩
      · rw [key.1, hs]
        simp
      · rcases List.mem_cons.1 hp with rfl | hp
        · exact key.2.2
        · exact hg p hp
theorem ptR_can : ∀ (f : Nat) (acc a : List ByteArray) (s s' : RS), ptR f acc s = some (a, s') → s'.bad = false → okB s → ∃ o, a = acc ++ o ∧ s.b = o.flatMap encT ++ s'.b ∧ okB s' ∧ o.length = f ∧ ∀ p ∈ o, p.size ≤ 64
  | 0, acc, a, s, s', h, hb, hk => by
    rw [ptR] at h
    simp only [Option.some.injEq, Prod.mk.injEq] at h
    obtain ⟨rfl, rfl⟩ := h
    exact ⟨[], by simp, by simp, hk, rfl, fun p hp => (by cases hp)⟩
  | f + 1, acc, a, s, s', h, hb, hk => by
    rw [ptR] at h
    split at h
    · cases h
    · rename_i hu
      have hu' := not_bad hu
      obtain ⟨c1, k1⟩ := rT_can hk hu'
      obtain ⟨o, ha, hs, hk', hl, hg⟩ := ptR_can f _ _ _ _ h hb k1
      refine ⟨(rT s).1 :: o, by rw [ha]; simp, ?_, hk', by rw [List.length_cons, hl], fun p hp => ?_⟩
      · conv => lhs; rw [c1, hs]
        simp
      · rcases List.mem_cons.1 hp with rfl | hp
        · exact rT_size s
        · exact hg p hp
/-- What a record tells, apart from how many pointers there are, may be written. -/
structure Mostly (e : Edit) : Prop where
  log : okU e.log
  next : okU e.next
  seq : okU e.seq
  out : ∀ p ∈ e.out, PGood p
  inn : ∀ p ∈ e.inn, DGood p
  ptr : ∀ p ∈ e.ptr, p.size ≤ 64
/-- A RECORD THAT IS READ IS THE ONE THAT WOULD BE WRITTEN. -/
theorem rd_can {bs : List Int} {e : Edit} {last : Bool} (hk : ∀ c ∈ bs, 0 ≤ c ∧ c < 256) (h : rd bs = some (e, last)) : bs = recB e last ∧ Mostly e := by
  cases bs with
  | nil => cases h
  | cons c l =>
    rw [rd_cons] at h
    split at h
    · cases h
    · rename_i hc
      have hc0 := hk c List.mem_cons_self
      unfold rdO at h
      split at h
      · cases h
      · rename_i x hx
        unfold rdI at h
        split at h
        · cases h
        · rename_i y hy
          unfold rdP at h
          split at h
          · cases h
          · rename_i z hz
            split at h
            · cases h
            · rename_i hb
              split at h
              · rename_i hl
                obtain ⟨x1, x2⟩ := x
                obtain ⟨y1, y2⟩ := y
                obtain ⟨z1, z2⟩ := z
                simp only at hb hl h hy hz
                have hb' := not_bad hb
                have g3 := (ptR_good _ _ _ _ _ hz hb').1
                have g3' := (rU_len g3).1
                have g2 := (inR_good _ _ _ _ _ hy g3').1
                have g2' := (rU_len g2).1
                have g1 := (outR_good _ _ _ _ _ hx g2').1
                have b3 := (rU_len g1).1
                have b2 := (rU_len b3).1
                have b1 := (rU_len b2).1
                have k00 : okB ⟨l, false⟩ := fun q hq => hk q (List.mem_cons_of_mem _ hq)
                obtain ⟨c0, k0⟩ := rU_can k00 b1
                obtain ⟨c1, k1⟩ := rU_can k0 b2
                obtain ⟨c2, k2⟩ := rU_can k1 b3
                obtain ⟨c3, k3⟩ := rU_can k2 g1
                obtain ⟨o, ho, so, ko, lo, go⟩ := outR_can _ _ _ _ _ hx g2' k3
                obtain ⟨c4, k4⟩ := rU_can ko g2
                obtain ⟨i, hi, si, ki, li, gi⟩ := inR_can _ _ _ _ _ hy g3' k4
                obtain ⟨c5, k5⟩ := rU_can ki g3
                obtain ⟨p, hp, sp, kp, lp, gp⟩ := ptR_can _ _ _ _ _ hz hb' k5
                rw [List.nil_append] at ho hi hp
                subst ho hi hp
                have hz2 : z2.b = [] := List.eq_nil_of_length_eq_zero hl
                rw [hz2, List.append_nil] at sp
                simp only [Option.some.injEq, Prod.mk.injEq] at h
                obtain ⟨rfl, rfl⟩ := h
                refine ⟨?_, ⟨rU_ok _, rU_ok _, rU_ok _, go, gi, gp⟩⟩
                have hcc : c = (if decide (c = 1) = true then 1 else 0) := by
                  by_cases h1 : c = 1
                  · rw [h1]; rfl
                  · rw [decide_eq_false h1]
                    show c = 0
                    omega
                have c0' : l = encU (rU ⟨l, false⟩).1.toNat ++ (rU ⟨l, false⟩).2.b := c0
                unfold recB
                rw [← hcc]
                congr 1
                have n1 : (x1.length : Int).toNat = (rU (rU (rU (rU ⟨l, false⟩).2).2).2).1.toNat := by rw [Int.toNat_natCast]; exact lo
                have n2 : (y1.length : Int).toNat = (rU x2).1.toNat := by rw [Int.toNat_natCast]; exact li
                have n3 : (z1.length : Int).toNat = (rU y2).1.toNat := by rw [Int.toNat_natCast]; exact lp
                conv => lhs; rw [c0', c1, c2, c3, so, c4, si, c5, sp]
                simp only [encUs, List.flatMap_cons, List.flatMap_nil, List.append_nil, n1, n2, n3, List.append_assoc]
              · cases h
end Go.Eng.Ytblghgacokoklaa
end
section
/-
  SPECS, 22: the document's Get, and the program's.
-/
set_option linter.unusedSimpArgs false
set_option linter.unusedVariables false
namespace Go.Eng.Ytblghgacokoklaa
/-- May this record come now? -/
structure OkP (now x : Edit) (last first : Bool) : Prop where
  size : x.size ≤ 256
  whole : last = false → x.size = 256 ∧ x.ptr.length = 0
  more : first = false → x.size ≠ 0 ∧ x.log = now.log ∧ x.next = now.next ∧ x.seq = now.seq ∧ ¬ (0 < now.inn.length ∧ 0 < x.out.length)
def nowP (now x : Edit) (first : Bool) : Edit := if first = true then x else ⟨now.log, now.next, now.seq, now.out ++ x.out, now.inn ++ x.inn, x.ptr⟩
open Classical in
/-- The document's Get. -/
noncomputable def gD : List (List Int) → List Edit → Edit → Bool → Option (List Edit)
  | [], acc, _, _ => some acc
  | r :: rs, acc, now, first =>
    match fd r with
    | none => none
    | some x => if OkP now x.1 x.2 first then (if x.2 = true then gD rs (acc ++ [nowP now x.1 first]) (nowP now x.1 first) true else gD rs acc (nowP now x.1 first) false) else none
theorem gD_none {r : List Int} {rs : List (List Int)} {acc : List Edit} {now : Edit} {first : Bool} (h : fd r = none) : gD (r :: rs) acc now first = none := by
  unfold gD; rw [h]
theorem gD_bad {r : List Int} {rs : List (List Int)} {acc : List Edit} {now : Edit} {first : Bool} {x : Edit × Bool} (h : fd r = some x) (hk : ¬ OkP now x.1 x.2 first) : gD (r :: rs) acc now first = none := by
  unfold gD; rw [h]; simp only; rw [if_neg hk]
theorem gD_last {r : List Int} {rs : List (List Int)} {acc : List Edit} {now : Edit} {first : Bool} {x : Edit} (h : fd r = some (x, true)) (hk : OkP now x true first) : gD (r :: rs) acc now first = gD rs (acc ++ [nowP now x first]) (nowP now x first) true := by
  conv => lhs; unfold gD
  rw [h]; simp only; rw [if_pos hk, if_pos trivial]
theorem gD_more {r : List Int} {rs : List (List Int)} {acc : List Edit} {now : Edit} {first : Bool} {x : Edit} (h : fd r = some (x, false)) (hk : OkP now x false first) : gD (r :: rs) acc now first = gD rs acc (nowP now x first) false := by
  conv => lhs; unfold gD
  rw [h]; simp only; rw [if_pos hk, if_neg (by decide)]
theorem fd_enc {x : Edit} (G : Good x) (hs : x.size ≤ 256) (last : Bool) : fd (recB x last) = some (x, last) := by
  unfold Edit.size at hs
  exact rd_some (rd_enc G (by omega) (by omega) last) G.nptr (by show x.out.length ≤ 256; omega) (by show x.inn.length ≤ 256; omega)
theorem fd_piece {e : Edit} (G : Good e) : fd (recB (piece e) false) = some (piece e, false) := by
  have hf := front_size e
  exact fd_enc (x := piece e) G.front.noptr (by show (front e).size ≤ 256; omega) false
def Go (now e : Edit) : Prop := now.log = e.log ∧ now.next = e.next ∧ now.seq = e.seq ∧ (0 < now.inn.length → e.out = []) ∧ 0 < e.size
theorem ok_last {now e : Edit} {first : Bool} (hs : e.size ≤ 256) (h : first = false → Go now e) : OkP now e true first :=
  ⟨hs, fun h => (by cases h), fun hf => by
    obtain ⟨h1, h2, h3, h4, h5⟩ := h hf
    exact ⟨by omega, h1.symm, h2.symm, h3.symm, fun hh => by rw [h4 hh.1] at hh; exact absurd hh.2 (by decide)⟩⟩
theorem ok_piece {now e : Edit} {first : Bool} (hs : 256 < e.size) (h : first = false → Go now e) : OkP now (piece e) false first := by
  have hf := front_size e
  have hp : (piece e).size = 256 := by show (front e).size = 256; omega
  refine ⟨by omega, fun _ => ⟨hp, rfl⟩, fun hf => ?_⟩
  obtain ⟨h1, h2, h3, h4, h5⟩ := h hf
  refine ⟨by omega, h1.symm, h2.symm, h3.symm, fun hh => ?_⟩
  have h6 := hh.2
  have : (piece e).out = e.out.take 256 := rfl
  rw [this, h4 hh.1] at h6
  exact absurd h6 (by decide)
theorem go_behind {now e : Edit} {first : Bool} (hs : 256 < e.size) (h : first = false → Go now e) : Go (nowP now (piece e) first) (behind e) := by
  have hb := behind_size e
  have hsz := hs
  unfold Edit.size at hsz
  have key : 0 < (piece e).inn.length → (behind e).out = [] := by
    intro h0
    have h1 : (e.inn.take (256 - min e.out.length 256)).length = (piece e).inn.length := rfl
    rw [List.length_take] at h1
    exact List.drop_of_length_le (by omega)
  cases first with
  | true => exact ⟨rfl, rfl, rfl, key, by omega⟩
  | false =>
    obtain ⟨h1, h2, h3, h4, h5⟩ := h rfl
    refine ⟨h1, h2, h3, fun h0 => ?_, by omega⟩
    have h0' : 0 < (now.inn ++ (piece e).inn).length := h0
    rw [List.length_append] at h0'
    rcases Nat.eq_zero_or_pos now.inn.length with hz | hz
    · exact key (by omega)
    · have := h4 hz
      show e.out.drop 256 = []
      rw [this]; rfl
theorem now_behind (now e : Edit) (first : Bool) (h : first = false → Go now e) : nowP (nowP now (piece e) first) (behind e) false = nowP now e first := by
  cases first with
  | true =>
    cases e
    simp [nowP, piece, front, behind]
  | false =>
    cases e
    simp [nowP, piece, front, behind, List.append_assoc]
theorem gD_putF : ∀ (f : Nat) (e now : Edit) (first : Bool) (acc : List Edit) (rs : List (List Int)), Good e → e.size < f → (first = false → Go now e) → gD (putF f e ++ rs) acc now first = gD rs (acc ++ [nowP now e first]) (nowP now e first) true
  | 0, e, _, _, _, _, _, h, _ => absurd h (Nat.not_lt_zero _)
  | f + 1, e, now, first, acc, rs, G, h, hg => by
    by_cases hs : e.size ≤ 256
    · rw [putF_last hs, front_all hs]
      exact gD_last (fd_enc G hs true) (ok_last hs hg)
    · have hs' : 256 < e.size := by omega
      have hb := behind_size e
      have hf := front_size e
      rw [putF_more hs']
      show gD (recB (piece e) false :: (putF f (behind e) ++ rs)) acc now first = _
      rw [gD_more (fd_piece G) (ok_piece hs' hg)]
      rw [gD_putF f (behind e) _ false acc rs G.behind (by omega) (fun _ => go_behind hs' hg), now_behind now e first hg]
theorem gD_part : ∀ (k f : Nat) (e now : Edit) (first : Bool) (acc : List Edit), Good e → e.size < f → k < (putF f e).length → (first = false → Go now e) → gD ((putF f e).take k) acc now first = some acc
  | 0, _, _, _, _, _, _, _, _, _ => by simp [gD]
  | k + 1, 0, e, _, _, _, _, h, _, _ => absurd h (Nat.not_lt_zero _)
  | k + 1, f + 1, e, now, first, acc, G, h, hk, hg => by
    have hs : 256 < e.size := by
      rcases Nat.lt_or_ge 256 e.size with h | h
      · exact h
      · rw [putF_last h, List.length_singleton] at hk; omega
    have hb := behind_size e
    have hf := front_size e
    rw [putF_more hs] at hk ⊢
    rw [List.length_cons] at hk
    rw [List.take_succ_cons, gD_more (fd_piece G) (ok_piece hs hg)]
    exact gD_part k f (behind e) _ false acc G.behind (by omega) (by omega) (fun _ => go_behind hs hg)
theorem gD_all : ∀ (L acc : List Edit) (now : Edit) (rs : List (List Int)), (∀ e ∈ L, Good e) → ∃ now', gD (L.flatMap putS ++ rs) acc now true = gD rs (acc ++ L) now' true
  | [], acc, now, rs, _ => ⟨now, by simp⟩
  | e :: L, acc, now, rs, h => by
    have G := h e List.mem_cons_self
    have h1 := gD_putF (e.size + 1) e now true acc (L.flatMap putS ++ rs) G (Nat.lt_succ_self _) (fun h => by cases h)
    obtain ⟨now', h2⟩ := gD_all L (acc ++ [nowP now e true]) (nowP now e true) rs fun x hx => h x (List.mem_cons_of_mem _ hx)
    refine ⟨now', ?_⟩
    rw [List.flatMap_cons, List.append_assoc, put_eq G, h1, h2]
    simp [nowP]
/-- What both take. -/
structure Form (recs : List (List Int)) (L : List Edit) : Prop where
  ex : ∃ E k, Good E ∧ k < (putS E).length ∧ recs = L.flatMap putS ++ (putS E).take k
  good : ∀ e ∈ L, Good e
theorem form_gD {recs : List (List Int)} {L : List Edit} (F : Form recs L) : gD recs [] zE true = some L := by
  obtain ⟨E, k, G, hk, rfl⟩ := F.ex
  obtain ⟨now', h⟩ := gD_all L [] zE ((putS E).take k) F.good
  rw [h, List.nil_append]
  rw [put_eq G] at hk ⊢
  exact gD_part k _ E now' true L G (Nat.lt_succ_self _) hk (fun h => by cases h)
theorem form_getR {recs : List (List Int)} {L : List Edit} (F : Form recs L) : getR recs [] zE [] = some L := by
  obtain ⟨E, k, G, hk, rfl⟩ := F.ex
  rw [getR_all L [] _ F.good, List.nil_append]
  exact getR_part G hk L
theorem good_zE : Good zE := ⟨⟨by decide, by decide⟩, ⟨by decide, by decide⟩, ⟨by decide, by decide⟩, fun p hp => (by cases hp), fun p hp => (by cases hp), fun p hp => (by cases hp), by decide⟩
theorem put_zE : 0 < (putS zE).length := by
  rw [put_eq good_zE, putF_length _ _ (Nat.lt_succ_self _)]; decide
theorem told_of {e : Edit} (h : 0 < (putS e).length) : e.told = true := by
  unfold putS at h
  by_cases ht : e.told = true
  · exact ht
  · rw [if_neg ht] at h; exact absurd h (by decide)
theorem good_of {e : Edit} (M : Mostly e) (h : e.told = true) : Good e := by
  unfold Edit.told at h
  simp only [Bool.and_eq_true, decide_eq_true_eq] at h
  exact ⟨M.log, M.next, M.seq, M.out, M.inn, M.ptr, h.2.2.2⟩
theorem pl0_good : DGood pl0 := ⟨by decide, by decide, ⟨by decide, by decide⟩, by decide, by decide, by decide, by decide, by decide, by decide, by decide, by decide⟩
theorem Mostly.withP {e : Edit} (M : Mostly e) : Mostly (withP e) := ⟨M.log, M.next, M.seq, M.out, fun p hp => by
  rcases List.mem_append.1 hp with hp | hp
  · exact M.inn p hp
  · rw [List.mem_singleton] at hp; rw [hp]; exact pl0_good, M.ptr⟩
theorem Mostly.join {cur x : Edit} (C : Mostly cur) (M : Mostly x) (part : List (List Int)) : Mostly (joinE cur x part) := by
  unfold joinE
  split
  · exact M
  · refine ⟨M.log, M.next, M.seq, fun p hp => ?_, fun p hp => ?_, M.ptr⟩
    · rcases List.mem_append.1 hp with hp | hp
      · exact C.out p hp
      · exact M.out p hp
    · rcases List.mem_append.1 hp with hp | hp
      · exact C.inn p hp
      · exact M.inn p hp
theorem zE_mostly : Mostly zE := ⟨good_zE.log, good_zE.next, good_zE.seq, good_zE.out, good_zE.inn, good_zE.ptr⟩
theorem getR_form : ∀ (rs : List (List Int)) (acc : List Edit) (cur : Edit) (part : List (List Int)) (L : List Edit), (∀ r ∈ rs, ∀ c ∈ r, 0 ≤ c ∧ c < 256) → Mostly cur → (∀ r ∈ part, ∃ x, rd r = some (x, false)) → getR rs acc cur part = some L →
    ∃ L', L = acc ++ L' ∧ Form (part ++ rs) L'
  | [], acc, cur, part, L, _, M, hp, h => by
    unfold getR at h
    by_cases h0 : part.length = 0
    · rw [if_pos h0] at h
      have : part = [] := List.eq_nil_of_length_eq_zero h0
      subst this
      exact ⟨[], by rw [← Option.some.inj h, List.append_nil], ⟨⟨zE, 0, good_zE, put_zE, by simp⟩, fun e he => (by cases he)⟩⟩
    · rw [if_neg h0] at h
      split at h
      · rename_i hsame
        unfold sameP at hsame
        split at hsame
        · cases hsame
        · rename_i hlen
          rw [if_neg (fun hh => by cases hh.1)] at hsame
          have ht : (putS (withP cur)).take part.length = part := by simpa using hsame
          have G := good_of M.withP (told_of (by omega))
          refine ⟨[], by rw [← Option.some.inj h, List.append_nil], ⟨⟨withP cur, part.length, G, ?_, by rw [ht]; simp⟩, fun e he => (by cases he)⟩⟩
          rcases Nat.lt_or_ge part.length (putS (withP cur)).length with hl | hl
          · exact hl
          · exfalso
            have hall : putS (withP cur) = part := by rw [List.take_of_length_le hl] at ht; exact ht
            have hk : (putS (withP cur)).length - 1 < (putS (withP cur)).length := by omega
            obtain ⟨x, hx, hxs, hrec⟩ := put_recs' G _ hk
            have hsub : ∀ r ∈ putS (withP cur), r ∈ part := fun r hr => hall ▸ hr
            obtain ⟨y, hy⟩ := hp _ (hsub _ (List.getElem_mem hk))
            rw [hrec, decide_eq_true (by omega)] at hy
            unfold Edit.size at hxs
            rw [rd_enc hx (by omega) (by omega) true] at hy
            cases hy
      · cases h
  | r :: rs, acc, cur, part, L, hok, M, hp, h => by
    cases hr : rd r with
    | none => rw [getR_none hr] at h; cases h
    | some q =>
      obtain ⟨x, last⟩ := q
      obtain ⟨hcan, Mx⟩ := rd_can (hok r List.mem_cons_self) hr
      have hok' : ∀ r ∈ rs, ∀ c ∈ r, 0 ≤ c ∧ c < 256 := fun r hr => hok r (List.mem_cons_of_mem _ hr)
      rw [getR_some hr] at h
      cases last with
      | true =>
        simp only [if_true] at h
        split at h
        · rename_i hs
          have hput := sameP_t hs
          have G := good_of (M.join Mx part) (told_of (by rw [hput]; simp))
          obtain ⟨L', hL, F⟩ := getR_form rs _ zE [] L hok' zE_mostly (fun r hr => by cases hr) h
          obtain ⟨E, k, GE, hk, he⟩ := F.ex
          refine ⟨joinE cur x part :: L', by rw [hL]; simp, ⟨⟨E, k, GE, hk, ?_⟩, fun e he => ?_⟩⟩
          · rw [List.flatMap_cons, hput, List.append_assoc, ← he]
            simp
          · rcases List.mem_cons.1 he with rfl | he
            · exact G
            · exact F.good e he
        · cases h
      | false =>
        simp only [Bool.false_eq_true, if_false] at h
        obtain ⟨L', hL, F⟩ := getR_form rs _ _ _ L hok' (M.join Mx part) (fun q hq => by
          rcases List.mem_append.1 hq with hq | hq
          · exact hp q hq
          · rw [List.mem_singleton] at hq; subst hq; exact ⟨x, hr⟩) h
        exact ⟨L', hL, by rw [List.append_assoc] at F; exact F⟩
where
  put_recs' {e : Edit} (G : Good e) : ∀ (k : Nat) (hk : k < (putS e).length), ∃ x, Good x ∧ x.size ≤ 256 ∧ (putS e)[k] = recB x (decide (k + 1 = (putS e).length)) := by
    have h := putF_get (e.size + 1) e G (Nat.lt_succ_self _)
    rw [← put_eq G] at h
    exact h
/-- The records so far are the first ones of whatever edit begins so. -/
def PP (now : Edit) (part : List (List Int)) : Prop :=
  ∀ (o : List Place) (i : List Placed) (p : List ByteArray) (f : Nat), (o ≠ [] → now.inn = []) → 0 < o.length + i.length → (now.out.length + o.length) + (now.inn.length + i.length) < f →
    ∃ f', o.length + i.length < f' ∧ putF f ⟨now.log, now.next, now.seq, now.out ++ o, now.inn ++ i, p⟩ = part ++ putF f' ⟨now.log, now.next, now.seq, o, i, p⟩
theorem PP.zero (a b c : Int) : PP ⟨a, b, c, [], [], []⟩ [] := fun o i p f _ _ hf => ⟨f, by simpa using hf, rfl⟩
theorem PP.step {now x : Edit} {part : List (List Int)} (H : PP now part) (hs : x.size = 256) (hp : x.ptr = []) (h1 : x.log = now.log) (h2 : x.next = now.next) (h3 : x.seq = now.seq) (ho : x.out ≠ [] → now.inn = []) :
    PP ⟨now.log, now.next, now.seq, now.out ++ x.out, now.inn ++ x.inn, []⟩ (part ++ [recB x false]) := by
  intro o i p f hoi hpos hf
  simp only [List.length_append] at hf hoi
  have hsz := hs
  unfold Edit.size at hsz
  obtain ⟨f', hf', he⟩ := H (x.out ++ o) (x.inn ++ i) p f (fun hne => by
    by_cases hx : x.out = []
    · have : o ≠ [] := fun h0 => hne (by rw [hx, h0]; rfl)
      exact (List.append_eq_nil_iff.1 (hoi this)).1
    · exact ho hx) (by simp only [List.length_append]; omega) (by simp only [List.length_append]; omega)
  simp only [List.length_append] at hf'
  obtain ⟨g, rfl⟩ : ∃ g, f' = g + 1 := ⟨f' - 1, by omega⟩
  refine ⟨g, by omega, ?_⟩
  simp only [List.append_assoc]
  rw [he]
  have hfo : x.out.length = 256 ∨ o = [] := by
    by_cases h0 : o = []
    · exact .inr h0
    · have := (List.append_eq_nil_iff.1 (hoi h0)).2
      rw [this] at hsz
      left; simpa using hsz
  have hY : 256 < (⟨now.log, now.next, now.seq, x.out ++ o, x.inn ++ i, p⟩ : Edit).size := by
    show 256 < (x.out ++ o).length + (x.inn ++ i).length
    simp only [List.length_append]; omega
  rw [putF_more hY]
  have hto : (x.out ++ o).take 256 = x.out := by
    rcases hfo with h | h
    · exact List.take_left' h
    · rw [h, List.append_nil, List.take_of_length_le (by omega)]
  have hdo : (x.out ++ o).drop 256 = o := by
    rcases hfo with h | h
    · exact List.drop_left' h
    · rw [h, List.append_nil, List.drop_of_length_le (by omega)]
  have hl : 256 - min (x.out ++ o).length 256 = x.inn.length := by
    rw [List.length_append]
    rcases hfo with h | h
    · omega
    · rw [h, List.length_nil]; omega
  have hP : piece ⟨now.log, now.next, now.seq, x.out ++ o, x.inn ++ i, p⟩ = x := by
    unfold piece front
    simp only [hl, hto, List.take_left' (rfl : x.inn.length = x.inn.length)]
    rw [← h1, ← h2, ← h3, ← hp]
  have hB : behind ⟨now.log, now.next, now.seq, x.out ++ o, x.inn ++ i, p⟩ = ⟨now.log, now.next, now.seq, o, i, p⟩ := by
    unfold behind
    simp only [hl, hdo, List.drop_left' (rfl : x.inn.length = x.inn.length)]
  rw [hP, hB]
  rfl
theorem gD_form : ∀ (rs : List (List Int)) (acc : List Edit) (now : Edit) (first : Bool) (part : List (List Int)) (L : List Edit), (∀ r ∈ rs, ∀ c ∈ r, 0 ≤ c ∧ c < 256) → (first = true → part = []) → (first = false → Mostly now ∧ now.ptr = [] ∧ PP now part) → gD rs acc now first = some L →
    ∃ L', L = acc ++ L' ∧ Form (part ++ rs) L'
  | [], acc, now, first, part, L, _, hf, hm, h => by
    unfold gD at h
    refine ⟨[], by rw [← Option.some.inj h, List.append_nil], ⟨?_, fun e he => (by cases he)⟩⟩
    cases first with
    | true => rw [hf rfl]; exact ⟨zE, 0, good_zE, put_zE, by simp⟩
    | false =>
      obtain ⟨M, hp, H⟩ := hm rfl
      have G : Good (withP now) := ⟨M.log, M.next, M.seq, M.out, M.withP.inn, M.ptr, by show now.ptr.length ≤ 5; rw [hp]; exact Nat.zero_le _⟩
      have hsz : (withP now).size = now.out.length + (now.inn.length + 1) := by
        show now.out.length + (now.inn ++ [pl0]).length = _
        rw [List.length_append, List.length_singleton]
      obtain ⟨f', hf', he⟩ := H [] [pl0] [] ((withP now).size + 1) (fun h => absurd rfl h) (by decide) (by simp only [List.length_nil, List.length_singleton]; omega)
      have hW : (⟨now.log, now.next, now.seq, now.out ++ [], now.inn ++ [pl0], []⟩ : Edit) = withP now := by
        unfold withP
        rw [List.append_nil, hp]
      rw [hW, ← put_eq G] at he
      refine ⟨withP now, part.length, G, ?_, by rw [he, List.take_left' rfl]; simp⟩
      rw [he, List.length_append, putF_length f' (⟨now.log, now.next, now.seq, [], [pl0], []⟩ : Edit) (by show ([] : List Place).length + [pl0].length < f'; exact hf')]
      omega
  | r :: rs, acc, now, first, part, L, hok, hf, hm, h => by
    have hok' : ∀ r ∈ rs, ∀ c ∈ r, 0 ≤ c ∧ c < 256 := fun r hr => hok r (List.mem_cons_of_mem _ hr)
    cases hr : fd r with
    | none => rw [gD_none hr] at h; cases h
    | some q =>
      obtain ⟨x, last⟩ := q
      obtain ⟨hrd, hp5, _, _⟩ := fd_some hr
      obtain ⟨hcan, Mx⟩ := rd_can (hok r List.mem_cons_self) hrd
      by_cases hk : OkP now x last first
      · have Gx : Good x := ⟨Mx.log, Mx.next, Mx.seq, Mx.out, Mx.inn, Mx.ptr, hp5⟩
        cases last with
        | true =>
          rw [gD_last hr hk] at h
          obtain ⟨L', hL, F⟩ := gD_form rs _ _ true [] L hok' (fun _ => rfl) (fun h => by cases h) h
          obtain ⟨E, k, GE, hkE, he⟩ := F.ex
          have key : Good (nowP now x first) ∧ putS (nowP now x first) = part ++ [r] := by
            cases first with
            | true =>
              have e1 : nowP now x true = x := rfl
              rw [e1, hf rfl, put_eq Gx, putF_last hk.size, front_all hk.size, hcan]
              exact ⟨Gx, rfl⟩
            | false =>
              obtain ⟨M, hp, H⟩ := hm rfl
              obtain ⟨g1, g2, g3, g4, g5⟩ := hk.more rfl
              have e1 : nowP now x false = ⟨now.log, now.next, now.seq, now.out ++ x.out, now.inn ++ x.inn, x.ptr⟩ := rfl
              have GJ : Good (nowP now x false) := by
                rw [e1]
                refine ⟨M.log, M.next, M.seq, fun p hp => ?_, fun p hp => ?_, Mx.ptr, hp5⟩
                · rcases List.mem_append.1 hp with hp | hp
                  · exact M.out p hp
                  · exact Mx.out p hp
                · rcases List.mem_append.1 hp with hp | hp
                  · exact M.inn p hp
                  · exact Mx.inn p hp
              refine ⟨GJ, ?_⟩
              have hxs : x.size = x.out.length + x.inn.length := rfl
              obtain ⟨f', hf', he'⟩ := H x.out x.inn x.ptr ((nowP now x false).size + 1) (fun hne => by
                rcases Nat.eq_zero_or_pos now.inn.length with h0 | h0
                · exact List.eq_nil_of_length_eq_zero h0
                · exfalso
                  refine g5 ⟨h0, ?_⟩
                  rcases Nat.eq_zero_or_pos x.out.length with h1 | h1
                  · exact absurd (List.eq_nil_of_length_eq_zero h1) hne
                  · exact h1) (by omega) (by
                  rw [e1]
                  show _ < (now.out ++ x.out).length + (now.inn ++ x.inn).length + 1
                  simp only [List.length_append]; omega)
              have hx : (⟨now.log, now.next, now.seq, x.out, x.inn, x.ptr⟩ : Edit) = x := by rw [← g2, ← g3, ← g4]
              obtain ⟨g, rfl⟩ : ∃ g, f' = g + 1 := ⟨f' - 1, by omega⟩
              rw [put_eq GJ]
              rw [← e1, hx, putF_last hk.size, front_all hk.size, ← hcan] at he'
              exact he'
          refine ⟨nowP now x first :: L', by rw [hL]; simp, ⟨⟨E, k, GE, hkE, ?_⟩, fun e he => ?_⟩⟩
          · rw [List.flatMap_cons, key.2, List.append_assoc, ← he]
            simp
          · rcases List.mem_cons.1 he with rfl | he
            · exact key.1
            · exact F.good e he
        | false =>
          rw [gD_more hr hk] at h
          obtain ⟨w1, w2⟩ := hk.whole rfl
          have hxp : x.ptr = [] := List.eq_nil_of_length_eq_zero w2
          have hstep : Mostly (nowP now x first) ∧ (nowP now x first).ptr = [] ∧ PP (nowP now x first) (part ++ [r]) := by
            cases first with
            | true =>
              refine ⟨Mx, hxp, ?_⟩
              have := (PP.zero x.log x.next x.seq).step (x := x) w1 hxp rfl rfl rfl (fun _ => rfl)
              rw [hf rfl, hcan]
              have e1 : nowP now x true = ⟨x.log, x.next, x.seq, [] ++ x.out, [] ++ x.inn, []⟩ := by
                show x = _
                rw [← hxp]
                rfl
              rw [e1]
              exact this
            | false =>
              obtain ⟨M, hp, H⟩ := hm rfl
              obtain ⟨g1, g2, g3, g4, g5⟩ := hk.more rfl
              refine ⟨⟨M.log, M.next, M.seq, fun p hp => ?_, fun p hp => ?_, Mx.ptr⟩, hxp, ?_⟩
              · rcases List.mem_append.1 hp with hp | hp
                · exact M.out p hp
                · exact Mx.out p hp
              · rcases List.mem_append.1 hp with hp | hp
                · exact M.inn p hp
                · exact Mx.inn p hp
              · have := H.step (x := x) w1 hxp g2 g3 g4 (fun hne => by
                  rcases Nat.eq_zero_or_pos now.inn.length with h0 | h0
                  · exact List.eq_nil_of_length_eq_zero h0
                  · exfalso
                    refine g5 ⟨h0, ?_⟩
                    rcases Nat.eq_zero_or_pos x.out.length with h1 | h1
                    · exact absurd (List.eq_nil_of_length_eq_zero h1) hne
                    · exact h1)
                have e1 : nowP now x false = ⟨now.log, now.next, now.seq, now.out ++ x.out, now.inn ++ x.inn, []⟩ := by
                  show (⟨now.log, now.next, now.seq, now.out ++ x.out, now.inn ++ x.inn, x.ptr⟩ : Edit) = _
                  rw [hxp]
                rw [e1, hcan]
                exact this
          obtain ⟨L', hL, F⟩ := gD_form rs _ _ false (part ++ [r]) L hok' (fun h => by cases h) (fun _ => hstep) h
          exact ⟨L', hL, by rw [List.append_assoc] at F; exact F⟩
      · rw [gD_bad hr hk] at h; cases h
/-- THE PROGRAM's GET IS THE DOCUMENT's. -/
theorem gD_eq {recs : List (List Int)} (hok : ∀ r ∈ recs, ∀ c ∈ r, 0 ≤ c ∧ c < 256) : gD recs [] zE true = getR recs [] zE [] := by
  cases h : getR recs [] zE [] with
  | some L =>
    obtain ⟨L', hL, F⟩ := getR_form recs [] zE [] L hok zE_mostly (fun r hr => by cases hr) h
    rw [List.nil_append] at hL
    subst hL
    exact form_gD F
  | none =>
    cases h2 : gD recs [] zE true with
    | none => rfl
    | some L =>
      obtain ⟨L', hL, F⟩ := gD_form recs [] zE true [] L hok (fun _ => rfl) (fun h => by cases h) h2
      rw [List.nil_append] at hL
      subst hL
      have F' : Form recs L := F
      rw [form_getR F'] at h
      cases h
end Go.Eng.Ytblghgacokoklaa
end
