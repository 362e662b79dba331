/-
  SPECS OF THE NAMES, 1: sums and frames.
-/
import Derived.Test.YtblghgacokoklaaDoorT7
import Derived.Test.YtblghgacokoklaaDoorC0
set_option linter.unusedSimpArgs false
set_option linter.unusedVariables false
namespace Go.Eng.YtblghgacokoklaaDoor
/-- The table of sixteen numbers lies in the first block. -/
def Tab (h : Hp) : Prop := ∀ i, i < 16 → h.at 0 i = some (.int .u32 ((nib i : Nat) : Int))
theorem Tab.keep {h h' : Hp} (k : Keep h h') (T : Tab h) : Tab h' := fun i hi => k.at (T i hi)
def nat (l : List Int) : List Nat := l.map Int.toNat
def okB8 (l : List Int) : Prop := ∀ c ∈ l, 0 ≤ c ∧ c < 256
theorem nat_ok {l : List Int} (h : okB8 l) : ∀ c ∈ nat l, c < 256 := by
  intro c hc
  obtain ⟨d, hd, rfl⟩ := List.mem_map.1 hc
  have := h d hd
  omega
/-- The sum of bytes, as a number of 32 bits. -/
def sumB (l : List Int) : Nat := crc (nat l)
theorem sumB_lt {l : List Int} (h : okB8 l) : sumB l < 4294967296 := Nat.xor_lt_two_pow (n := 32) (sumN_lt _ _ (by decide) (nat_ok h)) (by decide)
theorem next_b {i n : Nat} (h1 : i < n) (h2 : n ≤ 4611686018427387904) : IntKind.wrap .i64 ((i : Int) + 1) = ((i + 1 : Nat) : Int) := by rw [wrap_i64 (by omega) (by omega)]; omega
theorem xor_step {x m : Nat} (hx : x < 4294967296) (hm : m < 256) :
    bitsI .xor .u32 (x : Int) (IntKind.wrap .u32 (m : Int)) = ((x ^^^ m : Nat) : Int) ∧ x ^^^ m < 4294967296 := by
  have hm' : m < 4294967296 := by omega
  exact ⟨by rw [wrap32 m hm']; exact xor32 x m hx hm', Nat.xor_lt_two_pow (n := 32) hx hm'⟩
theorem nib_step {y : Nat} (hy : y < 4294967296) : bitsI .xor .u32 ((nib (y % 16) : Nat) : Int) (shrI .u32 (y : Int) 4) = ((nib y : Nat) : Int) := by
  rw [shr4, xor32 _ _ (nib_lt (by omega)) (by omega), ← nib_eq]
theorem sum_spec {h : Hp} {l : Sl} {bs : List Int} {Q : Value → Hp → Prop} (T : Tab h) (hr : h.row l.a l.n (bv bs)) (hok : okB8 bs) (hs : bs.length ≤ 4611686018427387904)
    (hQ : Q (.int .u32 ((sumB bs : Nat) : Int)) h) : F114.T l h Q := by
  have hln : l.n = bs.length := by have := hr.1; rw [bv_length] at this; exact this.symm
  refine ⟨fun n n1 h1 => h1 = h ∧ ∃ i : Nat, n1 = (i : Int) ∧ i ≤ bs.length ∧ ∃ x : Nat, n = (x : Int) ∧ x < 4294967296 ∧ sumN x (nat (bs.drop i)) = sumN 4294967295 (nat bs), fun _ n1 _ => bs.length - n1.toNat, ⟨rfl, 0, rfl, Nat.zero_le _, 4294967295, rfl, by decide, rfl⟩, ?_⟩
  rintro n n1 h1 ⟨rfl, i, rfl, hi, x, rfl, hx, hu⟩
  refine ⟨fun hlt => ?_, fun hge => ?_⟩
  · have hi1 : i < bs.length := by omega
    have hb := hok _ (List.getElem_mem hi1)
    obtain ⟨b, o, ha, hat⟩ := row_get hr (i := i) (by omega)
    obtain ⟨m, hm⟩ : ∃ m : Nat, bs[i] = (m : Int) := ⟨bs[i].toNat, by omega⟩
    have hv : (bv bs)[i]? = some (Value.int .u8 (m : Int)) := by simp [bv, hi1, hm]
    obtain ⟨e1, hy⟩ := xor_step hx (m := m) (by omega)
    have hz := nib_lt hy
    have e2 := and15 _ hy
    have e3 := nib_step hy
    have e4 := and15 _ hz
    have e5 := nib_step hz
    have t1 : h1.at 0 (0 + (((x ^^^ m) % 16 : Nat) : Int).toNat) = some (.int .u32 ((nib ((x ^^^ m) % 16) : Nat) : Int)) := by rw [Nat.zero_add, Int.toNat_natCast]; exact T _ (Nat.mod_lt _ (by decide))
    have t2 : h1.at 0 (0 + ((nib (x ^^^ m) % 16 : Nat) : Int).toNat) = some (.int .u32 ((nib (nib (x ^^^ m) % 16) : Nat) : Int)) := by rw [Nat.zero_add, Int.toNat_natCast]; exact T _ (Nat.mod_lt _ (by decide))
    refine ⟨b, o, ha, ⟨by omega, hlt⟩, (m : Int), by rw [Int.toNat_natCast, hat i (by omega), hv], ?_⟩
    rw [e1, e2]
    refine ⟨⟨by omega, by omega⟩, _, t1, by decide, ?_⟩
    rw [e3, e4]
    refine ⟨⟨by omega, by omega⟩, _, t2, by decide, ?_⟩
    rw [e5, next_b hi1 hs]
    refine ⟨⟨rfl, i + 1, rfl, hi1, _, rfl, nib_lt hz, ?_⟩, by dsimp only; omega⟩
    rw [← hu, List.drop_eq_getElem_cons hi1]
    show _ = sumN (by1 x bs[i].toNat) (nat (bs.drop (i + 1)))
    rw [hm]
    rfl
  · have hi2 : bs.length ≤ i := by omega
    rw [List.drop_of_length_le hi2] at hu
    have e : bitsI .xor .u32 (if IntKind.signed .u32 then -1 else IntKind.max .u32) (x : Int) = ((sumB bs : Nat) : Int) := by
      have h0 : (if IntKind.signed .u32 then -1 else IntKind.max .u32) = ((4294967295 : Nat) : Int) := by decide
      rw [h0, xor32 _ _ (by decide) hx, Nat.xor_comm]
      unfold sumB crc
      rw [← hu]
      rfl
    rw [e]
    exact hQ
theorem shr32 (a k : Nat) (hk : k ≤ 32) : shrI .u32 (a : Int) (k : Int) = ((a / 2 ^ k : Nat) : Int) := by
  unfold shrI
  have h1 : min (k : Int).toNat (IntKind.bits .u32) = k := by show min (k : Int).toNat 32 = k; omega
  have h2 : (2 : Int) ^ k = ((2 ^ k : Nat) : Int) := by rw [Int.natCast_pow]; rfl
  rw [h1, h2, Int.fdiv_eq_ediv_of_nonneg _ (Int.natCast_nonneg _)]
  exact (Int.natCast_ediv a (2 ^ k)).symm
/-- A sum as it is laid down. -/
def fourB (x : Nat) : List Int := [((x % 256 : Nat) : Int), ((x / 256 % 256 : Nat) : Int), ((x / 65536 % 256 : Nat) : Int), ((x / 16777216 % 256 : Nat) : Int)]
theorem four_cells (x : Nat) : [Value.int .u8 (IntKind.wrap .u8 (x : Int)), .int .u8 (IntKind.wrap .u8 (shrI .u32 (x : Int) 8)), .int .u8 (IntKind.wrap .u8 (shrI .u32 (x : Int) 16)), .int .u8 (IntKind.wrap .u8 (shrI .u32 (x : Int) 24))] = bv (fourB x) := by
  have e8 := shr32 x 8 (by decide)
  have e16 := shr32 x 16 (by decide)
  have e24 := shr32 x 24 (by decide)
  simp only [show ((8 : Nat) : Int) = 8 from rfl, show ((16 : Nat) : Int) = 16 from rfl, show ((24 : Nat) : Int) = 24 from rfl] at e8 e16 e24
  rw [e8, e16, e24]
  simp only [IntKind.wrap_u8]
  rfl
theorem fourB_ok (x : Nat) : okB8 (fourB x) := by
  intro c hc
  simp only [fourB, List.mem_cons, List.not_mem_nil, or_false] at hc
  omega
/-- A frame. -/
def frameB (bs : List Int) : List Int := (encU bs.length ++ bs) ++ fourB (sumB (encU bs.length ++ bs))
theorem sum_buf {h : Hp} {l : Sl} {bs : List Int} {Q : Value → Hp → Prop} (T : Tab h) (B : Buf h l 1 5 (bv bs)) (hok : okB8 bs) (hs : bs.length + 4 ≤ 140737488355328)
    (hQ : ∀ l' h', Buf h' l' 1 5 (bv (bs ++ fourB (sumB bs))) → Upd h h' l l' → Q (.slice l'.a l'.n l'.c) h') : F80.T l h Q := by
  have hln : l.n = bs.length := by have := B.len; rw [bv_length] at this; omega
  have hr := B.row
  rw [Nat.mul_one] at hr
  refine sum_spec T hr hok (by omega) ⟨_, rfl, by decide, by decide, by decide, ?_⟩
  rw [four_cells]
  refine append_buf B rfl rfl (by omega) fun l3 h4 B4 hn4 U4 => ?_
  rw [← bv_append] at B4
  exact hQ l3 h4 B4 U4
theorem append_full {h : Hp} {s : Sl} {sz t bytes m : Nat} {z vs us : List Value} {K : Sl → Hp → Prop} (hr : h.row s.a (s.n * sz) vs) (hc : s.c = s.n) (hm : 0 < m) (hz : z.length = sz) (hu : us.length = m * sz) (hb : (s.n + m) * bytes ≤ 140737488355328)
    (hK : ∀ s' h', Buf h' s' sz t (vs ++ us) → s'.n = s.n + m → Keep h h' → New h s' → K s' h') : appendD s t sz bytes z m us h K := by
  refine ⟨hb, fun hle => absurd hle (by omega), fun hlt => ⟨vs, hr, fun b c hbn hc => ?_⟩⟩
  have hvl : vs.length = s.n * sz := hr.1
  have hsize : (vs ++ us ++ zerosV z (c - (s.n + m))).length = c * sz := by
    simp only [List.length_append, hvl, hu, zerosV_length, hz]
    rw [← Nat.add_mul, ← Nat.add_mul]
    congr 1
    omega
  refine hK _ _ ⟨?_, hc, .inr ⟨b, _, (0, 0), rfl, by unfold Hp.new; rw [if_pos rfl], ?_, fun j _ => by simp, ?_⟩⟩ rfl (Keep.new hbn _) ⟨b, rfl, hbn⟩
  · simp only [List.length_append, hvl, hu, Nat.add_mul]
  · simp only [List.size_toArray, hsize, Nat.le_refl]
  · simp only [List.toList_toArray]
    rw [List.take_left' rfl]
theorem sum_full {h : Hp} {l : Sl} {bs : List Int} {Q : Value → Hp → Prop} (T : Tab h) (hr : h.row l.a l.n (bv bs)) (hc : l.c = l.n) (hok : okB8 bs) (hs : bs.length + 4 ≤ 140737488355328)
    (hQ : ∀ l' h', Buf h' l' 1 5 (bv (bs ++ fourB (sumB bs))) → Keep h h' → New h l' → Q (.slice l'.a l'.n l'.c) h') : F80.T l h Q := by
  have hln : l.n = bs.length := by have := hr.1; rw [bv_length] at this; exact this.symm
  refine sum_spec T hr hok (by omega) ⟨_, rfl, by decide, by decide, by decide, ?_⟩
  rw [four_cells]
  refine append_full (by rw [Nat.mul_one]; exact hr) hc (by decide) rfl rfl (by omega) fun l3 h4 B4 hn4 k N => ?_
  rw [← bv_append] at B4
  exact hQ l3 h4 B4 k N
theorem encF_ok : ∀ f n, okB8 (encF f n)
  | 0, n => fun c hc => by cases hc
  | f + 1, n => by
    unfold encF
    split
    · intro c hc
      simp only [List.mem_singleton] at hc
      omega
    · intro c hc
      rcases List.mem_cons.1 hc with rfl | hc
      · omega
      · exact encF_ok f _ c hc
theorem encU_ok (n : Nat) : okB8 (encU n) := encF_ok 10 n
theorem encF_len : ∀ f n, (encF f n).length ≤ f
  | 0, n => Nat.le_refl _
  | f + 1, n => by
    unfold encF
    split
    · simp
    · have := encF_len f (n / 128)
      simp only [List.length_cons]
      omega
theorem encU_len (n : Nat) : (encU n).length ≤ 10 := encF_len 10 n
theorem okB8_app {a b : List Int} (ha : okB8 a) (hb : okB8 b) : okB8 (a ++ b) := fun c hc => by
  rcases List.mem_append.1 hc with h | h
  · exact ha c h
  · exact hb c h
theorem frame_spec {h : Hp} {l : Sl} {bs : List Int} {Q : Value → Hp → Prop} (T : Tab h) (hr : h.row l.a l.n (bv bs)) (hok : okB8 bs) (hs : bs.length + 20 ≤ 140737488355328)
    (hQ : ∀ l' h', Buf h' l' 1 5 (bv (frameB bs)) → Keep h h' → New h l' → Q (.slice l'.a l'.n l'.c) h') : F39.T l h Q := by
  have hln : l.n = bs.length := by have := hr.1; rw [bv_length] at this; exact this.symm
  have hw : IntKind.wrap .i64 ((l.n : Int) + 14) = ((bs.length + 14 : Nat) : Int) := by rw [wrap_i64 (by omega) (by omega)]; omega
  have hw2 : IntKind.wrap .u64 (l.n : Int) = ((bs.length : Nat) : Int) := by rw [wrap_u64 (by omega) (by omega), hln]
  unfold F39.T
  rw [hw, hw2]
  refine ⟨⟨by decide, by omega, by omega⟩, fun b hb => ?_⟩
  have hz : (Builtin.zeroCells (List.toArray [Value.int .u8 0]) (((bs.length + 14 : Nat) : Int)).toNat).size = bs.length + 14 := by
    rw [Int.toNat_natCast]; unfold Builtin.zeroCells; simp
  have B0 : Buf (h.new b (.cells (Builtin.zeroCells (List.toArray [Value.int .u8 0]) (((bs.length + 14 : Nat) : Int)).toNat) 5 (0, 0))) ⟨some ⟨b, 0, none⟩, (0 : Int).toNat, (((bs.length + 14 : Nat) : Int)).toNat⟩ 1 5 [] :=
    ⟨rfl, by show (0 : Int).toNat ≤ _; exact Nat.zero_le _, .inr ⟨b, _, (0, 0), rfl, by unfold Hp.new; rw [if_pos rfl], by rw [hz]; show (((bs.length + 14 : Nat) : Int)).toNat * 1 ≤ _; omega, fun j _ => by simp, by simp⟩⟩
  have N0 : New h ⟨some ⟨b, 0, none⟩, (0 : Int).toNat, (((bs.length + 14 : Nat) : Int)).toNat⟩ := ⟨b, rfl, hb⟩
  have k0 := Keep.new hb (.cells (Builtin.zeroCells (List.toArray [Value.int .u8 0]) (((bs.length + 14 : Nat) : Int)).toNat) 5 (0, 0))
  refine number_spec B0 (by omega) (by omega) (by show (0 : Int).toNat ≤ _; decide) fun l1 h1 B1 U1 => ?_
  obtain ⟨k1, N1⟩ := keep_grow k0 (.inr N0) U1
  have N1 : New h l1 := new_grow0 N0 k0 U1
  rw [List.nil_append, Int.toNat_natCast] at B1
  have l1n : l1.n = (encU bs.length).length := by have := B1.len; rw [bv_length] at this; omega
  have := encU_len bs.length
  refine ⟨l1, rfl, bv bs, by rw [Nat.mul_one]; exact k1.row hr, bv_one bs, ?_⟩
  refine append_buf B1 rfl (by rw [bv_length]; omega) (by omega) fun l2 h2 B2 hn2 U2 => ?_
  rw [← bv_append] at B2
  have k2 := (keep_grow k1 (.inr N1) U2).1
  have N2 := new_grow0 N1 k1 U2
  refine sum_buf (T.keep k2) B2 (okB8_app (encU_ok _) hok) (by rw [List.length_append]; omega) fun l3 h3 B3 U3 => ?_
  exact ⟨l3, rfl, hQ l3 h3 B3 (keep_grow k2 (.inr N2) U3).1 (new_grow0 N2 k2 U3)⟩
where
  new_grow0 {h h1 h2 : Hp} {s s' : Sl} (N : New h s) (K : Keep h h1) (U : Upd h1 h2 s s') : New h s' := by
    rcases U.at_ with h0 | ⟨b, hb, hn⟩
    · obtain ⟨b, hb, hn⟩ := N
      exact ⟨b, by rw [h0]; exact hb, hn⟩
    · exact ⟨b, hb, K.dom b hn⟩
end Go.Eng.YtblghgacokoklaaDoor
