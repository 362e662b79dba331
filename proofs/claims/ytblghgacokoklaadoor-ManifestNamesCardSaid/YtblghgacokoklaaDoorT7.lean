/-
  SPECS, 7: reading numbers and texts.
-/
import Derived.Test.YtblghgacokoklaaDoorT6
import Derived.Test.YtblghgacokoklaaDoorN2
set_option linter.unusedSimpArgs false
set_option linter.unusedVariables false
namespace Go.Eng.YtblghgacokoklaaDoor
/-- A number, and one more byte of it. -/
def nx (i : Nat) (n c : Int) : Int := bitsI .or .u64 n (shlI .u64 (IntKind.wrap .u64 (bitsI .and .u8 c 127)) (7 * (i : Int)))
/-- Reading a number: it, how many bytes it takes, the error. -/
def uR : Nat → Int → List Int → Int × Nat × Int
  | _, _, [] => (0, 0, 20)
  | i, n, c :: l =>
    if (c = 0 ∧ 0 < i) ∨ (i = 9 ∧ c ≠ 1) then (0, 0, 21)
    else if c < 128 then (nx i n c, i + 1, 0) else uR (i + 1) (nx i n c) l
theorem wrapU_ok (n : Int) : okU (IntKind.wrap .u64 n) := by
  unfold okU
  simp only [IntKind.wrap, IntKind.signed, IntKind.bits]
  have h1 := Int.emod_nonneg n (b := 2 ^ 64) (by decide)
  have h2 := Int.emod_lt_of_pos n (b := 2 ^ 64) (by decide)
  constructor
  · simpa using h1
  · simpa using h2
theorem nx_ok (i : Nat) (n c : Int) : okU (nx i n c) := by
  unfold nx bitsI
  exact wrapU_ok _
theorem uR_ok : ∀ (l : List Int) (i : Nat) (n : Int), okU (uR i n l).1
  | [], i, n => by unfold uR; exact ⟨by decide, by decide⟩
  | c :: l, i, n => by
    unfold uR
    split
    · exact ⟨by decide, by decide⟩
    · split
      · exact nx_ok _ _ _
      · exact uR_ok l _ _
theorem uR_take : ∀ (l : List Int) (i : Nat) (n : Int), (uR i n l).2.2 = 0 → i < (uR i n l).2.1 ∧ (uR i n l).2.1 ≤ i + l.length
  | [], i, n => by unfold uR; intro h; exact absurd h (by decide)
  | c :: l, i, n => by
    unfold uR
    split
    · intro h; exact absurd h (by decide)
    · split
      · intro _
        simp only [List.length_cons]
        omega
      · intro h
        have := uR_take l (i + 1) _ h
        simp only [List.length_cons]
        omega
theorem uint_spec {h : Hp} {l : Sl} {bs : List Int} {Q : Value → Hp → Prop} (hr : h.row l.a l.n (bv bs))
    (hQ : Q (.tuple ⟨[.int .u64 (uR 0 0 bs).1, .int .i64 ((uR 0 0 bs).2.1 : Int), .int .i64 (uR 0 0 bs).2.2]⟩) h) : F86.T l h Q := by
  have hln : l.n = bs.length := by have := hr.1; rw [bv_length] at this; exact this.symm
  refine ⟨fun n n1 h1 => h1 = h ∧ ∃ i : Nat, n1 = (i : Int) ∧ i ≤ bs.length ∧ i ≤ 9 ∧ uR i n (bs.drop i) = uR 0 0 bs, fun _ n1 _ => bs.length - n1.toNat, ⟨rfl, 0, rfl, Nat.zero_le _, by decide, rfl⟩, ?_⟩
  rintro n n1 h1 ⟨rfl, i, rfl, hi, hi9, hu⟩
  refine ⟨fun hlt => ?_, fun hge => ?_⟩
  · have hi1 : i < bs.length := by omega
    obtain ⟨b, o, ha, hat⟩ := row_get hr (i := i) (by omega)
    have hv : (bv bs)[i]? = some (Value.int .u8 bs[i]) := by simp [bv, hi1]
    have hw : IntKind.wrap .i64 (7 * (i : Int)) = 7 * (i : Int) := wrap_i64 (by omega) (by omega)
    have hw1 : IntKind.wrap .i64 ((i : Int) + 1) = ((i + 1 : Nat) : Int) := by rw [wrap_i64 (by omega) (by omega)]; omega
    rw [List.drop_eq_getElem_cons hi1, uR] at hu
    have bad : ((bs[i] = 0 ∧ 0 < i) ∨ (i = 9 ∧ bs[i] ≠ 1)) → Q (.tuple ⟨[.int .u64 0, .int .i64 0, .int .i64 21]⟩) h1 := fun hb => by
      rw [if_pos hb] at hu; rw [← hu] at hQ; exact hQ
    refine ⟨b, o, ha, ⟨by omega, hlt⟩, bs[i], by rw [Int.toNat_natCast, hat i (by omega), hv], fun h2 => h2 = h1 ∧ ¬ ((bs[i] = 0 ∧ 0 < i) ∨ (i = 9 ∧ bs[i] ≠ 1)), ?_, ?_⟩
    · rintro h2 ⟨rfl, hn⟩
      rw [if_neg hn] at hu
      rw [hw, hw1]
      refine ⟨by omega, fun hc => ?_, fun hc => ⟨⟨rfl, i + 1, rfl, hi1, ?_, ?_⟩, ?_⟩⟩
      · rw [if_pos hc] at hu; rw [← hu] at hQ; exact hQ
      · by_cases h9 : i = 9
        · exact absurd (.inr ⟨h9, fun h1 => hc (by rw [h1]; decide)⟩) hn
        · omega
      · rw [if_neg hc] at hu; exact hu
      · show bs.length - ((i + 1 : Nat) : Int).toNat < bs.length - (i : Int).toNat
        omega
    · refine ⟨fun h0 => ⟨fun hi0 => bad (.inl ⟨h0, by omega⟩), fun hi0 => ⟨fun h9 => ⟨fun h1 => ⟨rfl, by omega⟩, fun h1 => bad (.inr ⟨by omega, h1⟩)⟩, fun h9 => ⟨rfl, by omega⟩⟩⟩, fun h0 => ⟨fun h9 => ⟨fun h1 => ⟨rfl, by omega⟩, fun h1 => bad (.inr ⟨by omega, h1⟩)⟩, fun h9 => ⟨rfl, by omega⟩⟩⟩
  · have hi2 : bs.length ≤ i := by omega
    rw [List.drop_of_length_le hi2, uR] at hu
    rw [← hu] at hQ
    exact hQ
/-! ### The reader -/
structure RS where
  b : List Int
  bad : Bool
def RS.skip (s : RS) (k : Nat) (e : Int) : RS := if e = 0 then ⟨s.b.drop k, s.bad⟩ else ⟨[], true⟩
def rU (s : RS) : Int × RS := ((uR 0 0 s.b).1, s.skip (uR 0 0 s.b).2.1 (uR 0 0 s.b).2.2)
def rW (m : Int) (s : RS) : Int × RS := if m < (rU s).1 then (0, ⟨(rU s).2.b, true⟩) else rU s
def toB (l : List Int) : ByteArray := ⟨(l.map fun n => UInt8.ofNat n.toNat).toArray⟩
def tR (l : List Int) : ByteArray × Nat × Int :=
  if (uR 0 0 l).2.2 = 0 then
    (if 64 < (uR 0 0 l).1 then (⟨#[]⟩, 0, 22)
    else if ((l.length - (uR 0 0 l).2.1 : Nat) : Int) < (uR 0 0 l).1 then (⟨#[]⟩, 0, 20)
    else (toB ((l.drop (uR 0 0 l).2.1).take (uR 0 0 l).1.toNat), (uR 0 0 l).2.1 + (uR 0 0 l).1.toNat, 0))
  else (⟨#[]⟩, 0, (uR 0 0 l).2.2)
def rT (s : RS) : ByteArray × RS := ((tR s.b).1, s.skip (tR s.b).2.1 (tR s.b).2.2)
theorem skip_le (s : RS) (k : Nat) (e : Int) : (s.skip k e).b.length ≤ s.b.length := by
  unfold RS.skip
  split
  · simp
  · simp
theorem skip_len {s : RS} {k : Nat} {e : Int} (hk : e = 0 → 0 < k ∧ k ≤ s.b.length) (h : (s.skip k e).bad = false) : s.bad = false ∧ (s.skip k e).b.length + 1 ≤ s.b.length := by
  unfold RS.skip at h ⊢
  split
  · rename_i h0
    rw [if_pos h0] at h
    have := hk h0
    refine ⟨h, ?_⟩
    simp only [List.length_drop]
    omega
  · rename_i h0
    rw [if_neg h0] at h
    cases h
theorem rU_ok (s : RS) : okU (rU s).1 := uR_ok _ _ _
theorem rU_le (s : RS) : (rU s).2.b.length ≤ s.b.length := skip_le _ _ _
theorem rU_take (s : RS) (h : (uR 0 0 s.b).2.2 = 0) : 0 < (uR 0 0 s.b).2.1 ∧ (uR 0 0 s.b).2.1 ≤ s.b.length := by
  have := uR_take s.b 0 0 h
  omega
theorem rU_len {s : RS} (h : (rU s).2.bad = false) : s.bad = false ∧ (rU s).2.b.length + 1 ≤ s.b.length := skip_len (rU_take s) h
theorem rW_ok (m : Int) (s : RS) (hm : 0 ≤ m) : 0 ≤ (rW m s).1 ∧ (rW m s).1 ≤ m := by
  unfold rW
  split
  · exact ⟨Int.le_refl 0, hm⟩
  · have := (rU_ok s).1
    omega
theorem rW_le (m : Int) (s : RS) : (rW m s).2.b.length ≤ s.b.length := by
  unfold rW
  split
  · exact rU_le s
  · exact rU_le s
theorem rW_len {m : Int} {s : RS} (h : (rW m s).2.bad = false) : s.bad = false ∧ (rW m s).2.b.length + 1 ≤ s.b.length := by
  unfold rW at h ⊢
  split
  · rename_i h0
    rw [if_pos h0] at h; cases h
  · rename_i h0
    rw [if_neg h0] at h; exact rU_len h
theorem tR_take (l : List Int) (h : (tR l).2.2 = 0) : 0 < (tR l).2.1 ∧ (tR l).2.1 ≤ l.length := by
  unfold tR at h ⊢
  split
  · rename_i h0
    rw [if_pos h0] at h
    have h1 := uR_take l 0 0 h0
    have h2 := uR_ok l 0 0
    split
    · rename_i h3; rw [if_pos h3] at h; exact absurd h (by decide)
    · rename_i h3
      rw [if_neg h3] at h
      split
      · rename_i h4; rw [if_pos h4] at h; exact absurd h (by decide)
      · rename_i h4
        have := h2.1
        simp only
        omega
  · rename_i h0
    rw [if_neg h0] at h
    exact absurd h h0
theorem rT_le (s : RS) : (rT s).2.b.length ≤ s.b.length := skip_le _ _ _
theorem rT_len {s : RS} (h : (rT s).2.bad = false) : s.bad = false ∧ (rT s).2.b.length + 1 ≤ s.b.length := skip_len (tR_take s.b) h
theorem toB_size (l : List Int) : (toB l).size = l.length := by
  show (l.map fun n => UInt8.ofNat n.toNat).toArray.size = l.length
  simp
theorem toB_V {l : List Int} (h : ∀ c ∈ l, 0 ≤ c ∧ c < 256) : bytesV (toB l) = bv l := by
  unfold toB bytesV bv
  simp only [List.map_map, List.toList_toArray]
  refine List.map_congr_left fun c hc => ?_
  have := h c hc
  simp only [Function.comp]
  congr 1
  have h1 : (UInt8.ofNat c.toNat).toNat = c.toNat := by
    rw [UInt8.toNat_ofNat']
    omega
  rw [h1]
  omega
theorem rT_size (s : RS) : (rT s).1.size ≤ 64 := by
  unfold rT tR
  have h2 := uR_ok s.b 0 0
  simp only
  split
  · split
    · exact Nat.zero_le _
    · split
      · exact Nat.zero_le _
      · rename_i h3 _
        simp only
        rw [toB_size]
        have := List.length_take_le (uR 0 0 s.b).1.toNat (s.b.drop (uR 0 0 s.b).2.1)
        omega
  · exact Nat.zero_le _
/-- A part of a row. -/
theorem cut_mid {h : Hp} {s : Sl} {vs : List Value} (hr : h.row s.a s.n vs) {i j m : Nat} (hi : i ≤ j) (hj : j ≤ s.n) (hm : s.n ≤ m) : h.row (Sl.cut s 1 (i : Int) (j : Int) (m : Int)).a (Sl.cut s 1 (i : Int) (j : Int) (m : Int)).n ((vs.drop i).take (j - i)) := by
  have h1 := row_take (row_drop hr (Nat.le_trans hi hj)) (k := j - i) (by omega)
  have hn : (Sl.cut s 1 (i : Int) (j : Int) (m : Int)).n = j - i := by simp [Sl.cut]
  rw [hn]
  refine row_congr h1 ?_
  unfold Sl.cut
  simp only [Int.toNat_natCast, Nat.mul_one]
  by_cases hk : m = i
  · left; omega
  · right; rw [if_neg hk]
theorem codec_text_spec {h : Hp} {l : Sl} {bs : List Int} {Q : Value → Hp → Prop} (hr : h.row l.a l.n (bv bs)) (hc : l.n ≤ l.c) (hok : ∀ c ∈ bs, 0 ≤ c ∧ c < 256) (hs : bs.length ≤ 1000000000000)
    (hQ : Q (.tuple ⟨[.string (tR bs).1, .int .i64 ((tR bs).2.1 : Int), .int .i64 (tR bs).2.2]⟩) h) : F134.T l 64 h Q := by
  have hln : l.n = bs.length := by have := hr.1; rw [bv_length] at this; exact this.symm
  have h2 := uR_ok bs 0 0
  refine uint_spec hr ⟨_, _, _, rfl, fun h0 => ⟨fun hb => absurd hb (by decide), fun _ => ⟨fun h3 => ?_, fun h3 => ⟨fun h4 => ?_, fun h4 => ?_⟩⟩⟩, fun h0 => ?_⟩
  · have h3' : 64 < (uR 0 0 bs).1 := by
      rw [wrap_u64 (by decide) (by decide)] at h3; exact h3
    unfold tR at hQ
    rw [if_pos h0, if_pos h3'] at hQ
    exact hQ
  · have h1 := uR_take bs 0 0 h0
    have h3' : ¬ 64 < (uR 0 0 bs).1 := by
      rw [wrap_u64 (by decide) (by decide)] at h3; exact h3
    have h4' : ((bs.length - (uR 0 0 bs).2.1 : Nat) : Int) < (uR 0 0 bs).1 := by
      rw [wrap_i64 (by omega) (by omega), wrap_u64 (by omega) (by omega)] at h4
      omega
    unfold tR at hQ
    rw [if_pos h0, if_neg h3', if_pos h4'] at hQ
    exact hQ
  · have h1 := uR_take bs 0 0 h0
    have h3' : ¬ 64 < (uR 0 0 bs).1 := by
      rw [wrap_u64 (by decide) (by decide)] at h3; exact h3
    have h4' : ¬ ((bs.length - (uR 0 0 bs).2.1 : Nat) : Int) < (uR 0 0 bs).1 := by
      rw [wrap_i64 (by omega) (by omega), wrap_u64 (by omega) (by omega)] at h4
      omega
    have hn := h2.1
    have w1 : IntKind.wrap .i64 (uR 0 0 bs).1 = (uR 0 0 bs).1 := wrap_i64 (by omega) (by omega)
    have w2 : IntKind.wrap .i64 (((uR 0 0 bs).2.1 : Int) + (uR 0 0 bs).1) = (((uR 0 0 bs).2.1 + (uR 0 0 bs).1.toNat : Nat) : Int) := by rw [wrap_i64 (by omega) (by omega)]; omega
    rw [w1, w2]
    unfold tR at hQ
    rw [if_pos h0, if_neg h3', if_neg h4'] at hQ
    refine ⟨⟨by omega, by omega, by omega, by omega⟩, _, ?_, hQ⟩
    have hm := cut_mid hr (i := (uR 0 0 bs).2.1) (j := (uR 0 0 bs).2.1 + (uR 0 0 bs).1.toNat) (m := l.c) (by omega) (by omega) hc
    rw [toB_V (fun c hc => hok c (List.mem_of_mem_drop (List.mem_of_mem_take hc)))]
    have e : bv ((bs.drop (uR 0 0 bs).2.1).take (uR 0 0 bs).1.toNat) = ((bv bs).drop (uR 0 0 bs).2.1).take ((uR 0 0 bs).2.1 + (uR 0 0 bs).1.toNat - (uR 0 0 bs).2.1) := by
      rw [Nat.add_sub_cancel_left]
      unfold bv
      rw [List.map_take, List.map_drop]
    rw [e]
    exact hm
  · unfold tR at hQ
    rw [if_neg h0] at hQ
    exact hQ
/-- The reader's box. -/
def rb (b : Nat) : Sl := ⟨some ⟨b, 0, none⟩, 1, 1⟩
structure RdAt (h0 h : Hp) (b : Nat) (s : RS) : Prop where
  cell : ∃ l : Sl, h b = some (.cells ⟨[.slice l.a l.n l.c, .bool s.bad]⟩ 188 (0, 0)) ∧ h0.row l.a l.n (bv s.b) ∧ l.n ≤ l.c
  new : h0 b = none
  keep : Keep h0 h
  ok : ∀ c ∈ s.b, 0 ≤ c ∧ c < 256
  small : s.b.length ≤ 1000000000000
theorem wr_at {h : Hp} {b o t : Nat} {c : Array Value} {f : Nat × Nat} {vs : List Value} (hb : h b = some (.cells c t f)) : (h.wr b o vs) b = some (.cells (setL c.toList o vs).toArray t f) := by
  unfold Hp.wr; rw [if_pos rfl, hb]
theorem upd_wr {h : Hp} {b o t : Nat} {c : Array Value} {f : Nat × Nat} {vs : List Value} (hb : h b = some (.cells c t f)) : Upd h (h.wr b o vs) (rb b) (rb b) := by
  refine ⟨fun k x hk e => ?_, .inl rfl, fun k e => ?_⟩
  · have hkb : k ≠ b := fun q => hk 0 (by rw [q]; rfl)
    unfold Hp.wr
    rw [if_neg hkb]
    exact e
  · unfold Hp.wr at e
    by_cases hkb : k = b
    · rw [if_pos hkb, hb] at e; cases e
    · rw [if_neg hkb] at e; exact e
theorem rb_new {h0 : Hp} {b : Nat} (hb : h0 b = none) : New h0 (rb b) := ⟨b, rfl, hb⟩
theorem RdAt.wr {h0 h : Hp} {b : Nat} {s s' : RS} (R : RdAt h0 h b s) {l : Sl} {h' : Hp} (U : Upd h h' (rb b) (rb b)) (hc : h' b = some (.cells ⟨[.slice l.a l.n l.c, .bool s'.bad]⟩ 188 (0, 0))) (hr : h0.row l.a l.n (bv s'.b)) (hl : l.n ≤ l.c) (hs : ∀ c ∈ s'.b, c ∈ s.b) (hle : s'.b.length ≤ s.b.length) : RdAt h0 h' b s' :=
  ⟨⟨l, hc, hr, hl⟩, R.new, (keep_grow R.keep (.inr (rb_new R.new)) U).1, fun c hc => R.ok c (hs c hc), Nat.le_trans hle R.small⟩
theorem RdAt.buf {h0 h : Hp} {b : Nat} {s : RS} (R : RdAt h0 h b s) : ∃ vs, Buf h (rb b) 2 188 vs := by
  obtain ⟨l, hb, _, _⟩ := R.cell
  exact ⟨[.slice l.a l.n l.c, .bool s.bad], rfl, Nat.le_refl _, .inr ⟨b, _, (0, 0), rfl, hb, Nat.le_refl _, fun j _ => by simp, rfl⟩⟩
/-- A list of another type does not lie in the reader's box. -/
theorem RdAt.off {h0 h : Hp} {b : Nat} {s : RS} (R : RdAt h0 h b s) {l : Sl} {sz t : Nat} {vs : List Value} (B : Buf h l sz t vs) (ht : t ≠ 188) : Off l (rb b) := by
  obtain ⟨us, B2⟩ := R.buf
  exact buf_off B B2 ht
/-- A list of another type grows. -/
theorem RdAt.grow {h0 h h' : Hp} {b : Nat} {s : RS} (R : RdAt h0 h b s) {l l' : Sl} {sz t : Nat} {vs : List Value} (B : Buf h l sz t vs) (ht : t ≠ 188) (N : l.a = none ∨ New h0 l) (U : Upd h h' l l') : RdAt h0 h' b s := by
  obtain ⟨us, B2⟩ := R.buf
  obtain ⟨r, hb, hr, hl⟩ := R.cell
  have ho := buf_off B2 B (Ne.symm ht)
  exact ⟨⟨r, U.keep b _ (fun o => ho b 0 o rfl) hb, hr, hl⟩, R.new, (keep_grow R.keep N U).1, R.ok, R.small⟩
theorem skip_spec {h0 h : Hp} {b : Nat} {s : RS} {n e : Int} {Q : Value → Hp → Prop} (R : RdAt h0 h b s) (hn : e = 0 → 0 ≤ n ∧ n.toNat ≤ s.b.length)
    (hQ : ∀ h', Upd h h' (rb b) (rb b) → RdAt h0 h' b (s.skip n.toNat e) → Q (.tuple ⟨[]⟩) h') : F133.T (some ⟨b, 0, none⟩) n e h Q := by
  obtain ⟨l, hb, hr, hlc⟩ := R.cell
  have hln : l.n = s.b.length := by have := hr.1; rw [bv_length] at this; exact this.symm
  have a0 : h.at b 0 = some (.slice l.a l.n l.c) := by unfold Hp.at; rw [hb]; rfl
  unfold F133.T
  refine ⟨fun h0' => ?_, fun h0' => ?_⟩
  · obtain ⟨n0, n1⟩ := hn h0'
    obtain ⟨k, rfl⟩ : ∃ k : Nat, n = (k : Int) := ⟨n.toNat, by omega⟩
    rw [Int.toNat_natCast] at n1 hQ
    have hs : s.skip k e = ⟨s.b.drop k, s.bad⟩ := by unfold RS.skip; rw [if_pos h0']
    rw [hs] at hQ
    refine ⟨b, 0, rfl, l, a0, b, 0, rfl, l, a0, b, 0, rfl, l, a0, ⟨by omega, by omega, by omega, by omega⟩, b, 0, rfl, ⟨_, _, _, hb, Nat.le_of_ble_eq_true rfl, fun j _ _ => by simp⟩, ?_⟩
    refine hQ _ (upd_wr hb) (R.wr (l := Sl.cut l 1 (k : Int) (l.n : Int) (l.n : Int)) (upd_wr hb) (wr_at hb) ?_ ?_ (fun c hc => List.mem_of_mem_drop hc) (by simp))
    · have := cut_mid hr (i := k) (j := l.n) (m := l.n) (by omega) (Nat.le_refl _) (Nat.le_refl _)
      have e : bv (s.b.drop k) = ((bv s.b).drop k).take (l.n - k) := by
        rw [List.take_of_length_le (by rw [List.length_drop, bv_length]; omega)]
        unfold bv
        rw [List.map_drop]
      show h0.row _ _ (bv (s.b.drop k))
      rw [e]; exact this
    · simp [Sl.cut]
  · have hs : s.skip n.toNat e = ⟨[], true⟩ := by unfold RS.skip; rw [if_neg h0']
    rw [hs] at hQ
    have hb2 : (h.wr b (0 + 1) [.bool true]) b = some (.cells ⟨[.slice l.a l.n l.c, .bool true]⟩ 188 (0, 0)) := wr_at hb
    have a2 : (h.wr b (0 + 1) [.bool true]).at b 0 = some (.slice l.a l.n l.c) := by unfold Hp.at; rw [hb2]; rfl
    refine ⟨b, 0, rfl, l, a0, b, 0, rfl, ⟨_, _, _, hb, Nat.le_of_ble_eq_true rfl, fun j _ _ => by simp⟩, b, 0, rfl, l, a2, b, 0, rfl, l, a2, b, 0, rfl, l, a2, ⟨by omega, by omega, by omega, by omega⟩, b, 0, rfl, ⟨_, _, _, hb2, Nat.le_of_ble_eq_true rfl, fun j _ _ => by simp⟩, ?_⟩
    refine hQ _ ((upd_wr hb).trans (upd_wr hb2)) (R.wr (l := Sl.cut l 1 (l.n : Int) (l.n : Int) (l.n : Int)) ((upd_wr hb).trans (upd_wr hb2)) (wr_at hb2) ?_ ?_ (fun c hc => by cases hc) (Nat.zero_le _))
    · refine ⟨by simp [Sl.cut, bv], .inl (by simp [Sl.cut])⟩
    · simp [Sl.cut]
theorem uint_r {h0 h : Hp} {b : Nat} {s : RS} {Q : Value → Hp → Prop} (R : RdAt h0 h b s)
    (hQ : ∀ h', Upd h h' (rb b) (rb b) → RdAt h0 h' b (rU s).2 → Q (.int .u64 (rU s).1) h') : F123.T (some ⟨b, 0, none⟩) h Q := by
  obtain ⟨l, hb, hr, hlc⟩ := R.cell
  have a0 : h.at b 0 = some (.slice l.a l.n l.c) := by unfold Hp.at; rw [hb]; rfl
  refine ⟨b, 0, rfl, l, a0, uint_spec (R.keep.row hr) ⟨_, _, _, rfl, skip_spec R (fun h0' => ⟨by omega, ?_⟩) fun h' U R' => hQ h' U R'⟩⟩
  rw [Int.toNat_natCast]
  exact (rU_take s h0').2
theorem within_r {h0 h : Hp} {b : Nat} {s : RS} {m : Int} {Q : Value → Hp → Prop} (R : RdAt h0 h b s) (hm : m < 9223372036854775808)
    (hQ : ∀ h', Upd h h' (rb b) (rb b) → RdAt h0 h' b (rW m s).2 → Q (.int .i64 (rW m s).1) h') : F124.T (some ⟨b, 0, none⟩) m h Q := by
  refine uint_r R fun h1 U1 R1 => ⟨_, rfl, fun hlt => ?_, fun hge => ?_⟩
  · have hw : rW m s = (0, ⟨(rU s).2.b, true⟩) := by unfold rW; rw [if_pos hlt]
    rw [hw] at hQ
    obtain ⟨l, hb, hr, hlc⟩ := R1.cell
    refine ⟨b, 0, rfl, ⟨_, _, _, hb, Nat.le_of_ble_eq_true rfl, fun j _ _ => by simp⟩, ?_⟩
    exact hQ _ (U1.trans (upd_wr hb)) (R1.wr (l := l) (upd_wr hb) (wr_at hb) hr hlc (fun c hc => hc) (Nat.le_refl _))
  · have hw : rW m s = rU s := by unfold rW; rw [if_neg hge]
    rw [hw] at hQ
    rw [wrap_i64 (by have := (rU_ok s).1; omega) (by omega)]
    exact hQ h1 U1 R1
theorem text_r {h0 h : Hp} {b : Nat} {s : RS} {Q : Value → Hp → Prop} (R : RdAt h0 h b s)
    (hQ : ∀ h', Upd h h' (rb b) (rb b) → RdAt h0 h' b (rT s).2 → Q (.string (rT s).1) h') : F125.T (some ⟨b, 0, none⟩) h Q := by
  obtain ⟨l, hb, hr, hlc⟩ := R.cell
  have a0 : h.at b 0 = some (.slice l.a l.n l.c) := by unfold Hp.at; rw [hb]; rfl
  refine ⟨b, 0, rfl, l, a0, codec_text_spec (R.keep.row hr) hlc R.ok R.small ⟨_, _, _, rfl, skip_spec R (fun h0' => ⟨by omega, ?_⟩) fun h' U R' => hQ h' U R'⟩⟩
  rw [Int.toNat_natCast]
  exact (tR_take s.b h0').2
end Go.Eng.YtblghgacokoklaaDoor
