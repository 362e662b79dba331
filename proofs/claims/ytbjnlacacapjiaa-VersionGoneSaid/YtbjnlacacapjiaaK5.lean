/-
  TEXTS OF MINE, JOINED: JY4 JX4 JV6 JV7 JV8 JW1 JW2 JW3 J6 JW4 JW5 JW6 JW7 J7 JW8 RW.
-/
import Derived.Test.YtbjnlacacapjiaaK4
import Derived.Test.YtbjnlacacapjiaaK3
import Derived.Test.YtbjnlacacapjiaaK2
import Derived.Test.YtbjnlacacapjiaaProg
import Derived.ChangeSlices
import Derived.ChangeArms
import Derived.SizedLaws
import Derived.Below
set_option linter.unusedSimpArgs false
set_option linter.unusedVariables false
section
set_option maxRecDepth 100000
namespace Go.Eng.Ytbjnlacacapjiaa
section
open Go.Sort
def tabL : List UInt8 := [0, 1, 2, 2, 3, 3, 3, 3, 4, 4, 4, 4, 4, 4, 4, 4, 5, 5, 5, 5, 5, 5, 5, 5, 5, 5, 5, 5, 5, 5, 5, 5] ++ List.replicate 32 6 ++ List.replicate 64 7 ++ List.replicate 128 8
theorem tab8_size : bytes8.size = 256 := by decide +kernel
theorem tab8_list : bytes8.data.toList = tabL := by decide +kernel
theorem tabL_at : ∀ k, k < 256 → (tabL.getD k 0).toNat = bitsLen k := by decide +kernel
theorem tab8_at {k : Nat} (h : k < 256) : bt bytes8 (k : Int) = (bitsLen k : Int) := by
  unfold bt
  have hs : ((k : Int)).toNat < bytes8.size := by rw [tab8_size]; omega
  rw [dif_pos hs]
  have e : bytes8[((k : Int)).toNat]'hs = tabL.getD k 0 := by
    show bytes8.data[((k : Int)).toNat]'hs = _
    rw [← Array.getElem_toList (h := hs), List.getD_eq_getElem?_getD, ← tab8_list]
    simp only [Int.toNat_natCast]
    rw [List.getElem?_eq_getElem (by rw [Array.length_toList]; rw [Int.toNat_natCast] at hs; exact hs)]
    rfl
  rw [e]
  exact congrArg (fun n : Nat => (n : Int)) (tabL_at k h)
theorem bitsLen_shift {n s : Nat} (h : 2 ^ s ≤ n) : bitsLen n = s + bitsLen (n / 2 ^ s) := by
  have hp : 0 < 2 ^ s := Nat.two_pow_pos s
  have h1 : n / 2 ^ s ≠ 0 := by
    have := Nat.div_le_div_right (c := 2 ^ s) h
    rw [Nat.div_self hp] at this; omega
  have h0 : n ≠ 0 := by omega
  unfold bitsLen
  rw [if_neg h0, if_neg h1]
  have e := (Nat.log2_eq_iff h1 (k := (n / 2 ^ s).log2)).1 rfl
  have : n.log2 = s + (n / 2 ^ s).log2 := by
    refine (Nat.log2_eq_iff h0).2 ⟨?_, ?_⟩
    · rw [Nat.pow_add]
      have := Nat.mul_le_mul_left (2 ^ s) e.1
      exact Nat.le_trans this (Nat.mul_div_le n (2 ^ s))
    · rw [Nat.add_assoc, Nat.pow_add]
      have h2 := Nat.lt_div_mul_add (a := n) (b := 2 ^ s) hp
      have h3 : n / 2 ^ s + 1 ≤ 2 ^ ((n / 2 ^ s).log2 + 1) := e.2
      have h4 := Nat.mul_le_mul_left (2 ^ s) h3
      rw [Nat.mul_add, Nat.mul_one, Nat.mul_comm] at h4
      omega
  omega
theorem shrN {k : IntKind} (a j : Nat) (hk : j ≤ k.bits) : shrI k (a : Int) (j : Int) = ((a / 2 ^ j : Nat) : Int) := by
  unfold shrI
  have h1 : min (j : Int).toNat k.bits = j := by omega
  have h2 : (2 : Int) ^ j = ((2 ^ j : Nat) : Int) := by rw [Int.natCast_pow]; rfl
  rw [h1, h2, Int.fdiv_eq_ediv_of_nonneg _ (Int.natCast_nonneg _)]
  exact (Int.natCast_ediv a (2 ^ j)).symm
theorem wrap8 {x : Int} (h0 : 0 ≤ x) (h1 : x < 256) : IntKind.wrap .u8 x = x := by rw [IntKind.wrap_u8]; omega
theorem len_b {h : Hp} {n s : Nat} {e : Int} {Q : Value → Hp → Prop} (he : e = (s : Int)) (hs : s ≤ 100) (hn : n < 256) (hQ : Q (.int .i64 ((s + bitsLen n : Nat) : Int)) h) :
    ((0 : Int) ≤ (IntKind.wrap .u8 (n : Int)) ∧ (IntKind.wrap .u8 (n : Int)) < (bytes8.size : Int)) ∧ Q (.int .i64 (IntKind.wrap .i64 (e + IntKind.wrap .i64 (bt bytes8 (IntKind.wrap .u8 (n : Int)))))) h := by
  have hsz : (bytes8.size : Int) = 256 := by rw [tab8_size]; rfl
  have hb : bitsLen n ≤ 8 := by
    have : ∀ k, k < 256 → bitsLen k ≤ 8 := by decide +kernel
    exact this n hn
  rw [wrap8 (by omega) (by omega), tab8_at hn, hsz, he, wr64 (x := (bitsLen n : Int)) (by omega) (by omega), wP (by omega)]
  exact ⟨by omega, hQ⟩
theorem len64_s {h : Hp} {n : Nat} {Q : Value → Hp → Prop} (h1 : n < 18446744073709551616) (hQ : Q (.int .i64 ((bitsLen n : Nat) : Int)) h) : F101.T (n : Int) h Q := by
  have s32 : shrI .u64 (n : Int) 32 = ((n / 2 ^ 32 : Nat) : Int) := shrN (k := .u64) n 32 (by decide)
  have s16 : ∀ m : Nat, shrI .u64 (m : Int) 16 = ((m / 2 ^ 16 : Nat) : Int) := fun m => shrN (k := .u64) m 16 (by decide)
  have s8 : ∀ m : Nat, shrI .u64 (m : Int) 8 = ((m / 2 ^ 8 : Nat) : Int) := fun m => shrN (k := .u64) m 8 (by decide)
  have w1 : IntKind.wrap .i64 (32 + 16) = ((48 : Nat) : Int) := by rw [wr64 (by omega) (by omega)]; rfl
  have w2 : IntKind.wrap .i64 (32 + 8) = ((40 : Nat) : Int) := by rw [wr64 (by omega) (by omega)]; rfl
  have w3 : IntKind.wrap .i64 (16 + 8) = ((24 : Nat) : Int) := by rw [wr64 (by omega) (by omega)]; rfl
  have w4 : IntKind.wrap .i64 (((48 : Nat) : Int) + 8) = ((56 : Nat) : Int) := by rw [wr64 (by omega) (by omega)]; rfl
  have w5 : IntKind.wrap .i64 (0 + 8) = ((8 : Nat) : Int) := by rw [wr64 (by omega) (by omega)]; rfl
  have w6 : IntKind.wrap .i64 (0 + 16) = ((16 : Nat) : Int) := by rw [wr64 (by omega) (by omega)]; rfl
  have w7 : IntKind.wrap .i64 (((16 : Nat) : Int) + 8) = ((24 : Nat) : Int) := by rw [wr64 (by omega) (by omega)]; rfl
  have w8 : IntKind.wrap .i64 (0 + 32) = ((32 : Nat) : Int) := by rw [wr64 (by omega) (by omega)]; rfl
  unfold F101.T
  refine ⟨fun c1 => ⟨by decide, ?_⟩, fun c1 => ?_⟩
  · rw [bitsLen_shift (s := 32) (by omega)] at hQ
    rw [s32]
    generalize hm : n / 2 ^ 32 = m at hQ ⊢
    have hm2 : m < 4294967296 := by omega
    refine ⟨fun c2 => ⟨by decide, ?_⟩, fun c2 => ?_⟩
    · rw [bitsLen_shift (n := m) (s := 16) (by omega)] at hQ
      rw [s16]
      generalize hk : m / 2 ^ 16 = k at hQ ⊢
      refine ⟨fun c3 => ⟨by decide, ?_⟩, fun c3 => ?_⟩
      · rw [bitsLen_shift (n := k) (s := 8) (by omega)] at hQ
        rw [s8]
        exact len_b (s := 56) (by rw [w1, w4]) (by decide) (by omega) (by rw [← Nat.add_assoc, ← Nat.add_assoc] at hQ; exact hQ)
      · exact len_b (s := 48) (by rw [w1]) (by decide) (by omega) (by rw [← Nat.add_assoc] at hQ; exact hQ)
    · refine ⟨fun c3 => ⟨by decide, ?_⟩, fun c3 => ?_⟩
      · rw [bitsLen_shift (n := m) (s := 8) (by omega)] at hQ
        rw [s8]
        exact len_b (s := 40) (by rw [w2]) (by decide) (by omega) (by rw [← Nat.add_assoc] at hQ; exact hQ)
      · exact len_b (s := 32) rfl (by decide) (by omega) hQ
  · refine ⟨fun c2 => ⟨by decide, ?_⟩, fun c2 => ?_⟩
    · rw [bitsLen_shift (n := n) (s := 16) (by omega)] at hQ
      rw [s16]
      generalize hk : n / 2 ^ 16 = k at hQ ⊢
      refine ⟨fun c3 => ⟨by decide, ?_⟩, fun c3 => ?_⟩
      · rw [bitsLen_shift (n := k) (s := 8) (by omega)] at hQ
        rw [s8]
        exact len_b (s := 24) (by rw [w6, w7]) (by decide) (by omega) (by rw [← Nat.add_assoc] at hQ; exact hQ)
      · exact len_b (s := 16) rfl (by decide) (by omega) hQ
    · refine ⟨fun c3 => ⟨by decide, ?_⟩, fun c3 => ?_⟩
      · rw [bitsLen_shift (n := n) (s := 8) (by omega)] at hQ
        rw [s8]
        exact len_b (s := 8) rfl (by decide) (by omega) hQ
      · exact len_b (s := 0) rfl (by decide) (by omega) (by rw [Nat.zero_add]; exact hQ)
theorem len_s {h : Hp} {n : Nat} {Q : Value → Hp → Prop} (h1 : n < 18446744073709551616) (hQ : Q (.int .i64 ((bitsLen n : Nat) : Int)) h) : F83.T (n : Int) h Q := by
  unfold F83.T F83.G
  exact len64_s h1 ⟨_, rfl, hQ⟩
theorem bitsLen_le {n k : Nat} (h : n < 2 ^ k) : bitsLen n ≤ k := by
  unfold bitsLen
  split
  · exact Nat.zero_le _
  · next h0 => exact (Nat.log2_lt h0).2 h
theorem pow_s {h : Hp} {n : Nat} {Q : Value → Hp → Prop} (h1 : n < 2 ^ 40) (hQ : Q (.int .u64 ((1 <<< bitsLen n : Nat) : Int)) h) : F105.T (n : Int) h Q := by
  unfold F105.T F105.G
  have hn : n < 18446744073709551616 := Nat.lt_trans h1 (by decide)
  rw [wrap_u64 (by omega) (by omega)]
  refine len_s hn ⟨_, rfl, by omega, ?_⟩
  have hb := bitsLen_le h1
  have e : shlI .u64 1 ((bitsLen n : Nat) : Int) = ((1 <<< bitsLen n : Nat) : Int) := by
    unfold shlI
    have : min (((bitsLen n : Nat) : Int)).toNat (IntKind.bits .u64) = bitsLen n := by show min _ 64 = _; omega
    rw [this, Int.one_mul, Nat.one_shiftLeft]
    have h2 : (2 : Int) ^ (bitsLen n) = ((2 ^ (bitsLen n) : Nat) : Int) := by rw [Int.natCast_pow]; rfl
    have h3 : 2 ^ (bitsLen n) ≤ 2 ^ 40 := Nat.pow_le_pow_right (by decide) hb
    rw [h2]
    generalize 2 ^ (bitsLen n) = z at h3 ⊢
    exact wrap_u64 (by omega) (by omega)
  rw [e]; exact hQ
theorem ofU (u : UInt64) : BitVec.ofInt 64 (u.toNat : Int) = u.toBitVec := by
  apply BitVec.eq_of_toNat_eq
  rw [BitVec.ofInt_natCast, BitVec.toNat_ofNat]
  exact Nat.mod_eq_of_lt u.toNat_lt
theorem xorU (u v : UInt64) : bitsI .xor .u64 (u.toNat : Int) (v.toNat : Int) = ((u ^^^ v).toNat : Int) := by
  have := (u ^^^ v).toNat_lt
  show IntKind.wrap .u64 (((BitVec.ofInt 64 (u.toNat : Int) ^^^ BitVec.ofInt 64 (v.toNat : Int)).toNat : Nat) : Int) = _
  rw [ofU, ofU]
  have e : (u.toBitVec ^^^ v.toBitVec).toNat = (u ^^^ v).toNat := rfl
  rw [e, wrap_u64 (by omega) (by omega)]
theorem andU (u : UInt64) {m : Nat} (hm : m < 18446744073709551616) : bitsI .and .u64 (u.toNat : Int) (m : Int) = ((u.toNat &&& m : Nat) : Int) := by
  have h1 : u.toNat &&& m ≤ m := Nat.and_le_right
  show IntKind.wrap .u64 (((BitVec.ofInt 64 (u.toNat : Int) &&& BitVec.ofInt 64 (m : Int)).toNat : Nat) : Int) = _
  have e : (BitVec.ofInt 64 (u.toNat : Int) &&& BitVec.ofInt 64 (m : Int)).toNat = u.toNat &&& m := by
    rw [ofU, BitVec.ofInt_natCast, BitVec.toNat_and, BitVec.toNat_ofNat, Nat.mod_eq_of_lt hm]; rfl
  rw [e, wrap_u64 (by omega) (by omega)]
theorem wu (n : Nat) : IntKind.wrap .u64 (n : Int) = ((n % 2 ^ 64 : Nat) : Int) := by
  simp [IntKind.wrap, IntKind.signed, IntKind.bits]
theorem shlU (u : UInt64) (k : UInt64) (j : Nat) (hk : k.toNat = j) (hj : j < 64) : shlI .u64 (u.toNat : Int) (j : Int) = ((u <<< k).toNat : Int) := by
  unfold shlI
  have h1 : min ((j : Int)).toNat (IntKind.bits .u64) = j := by show min _ 64 = _; omega
  have h2 : (2 : Int) ^ j = ((2 ^ j : Nat) : Int) := by rw [Int.natCast_pow]; rfl
  have h3 : (u.toNat : Int) * ((2 ^ j : Nat) : Int) = ((u.toNat * 2 ^ j : Nat) : Int) := (Int.natCast_mul _ _).symm
  rw [h1, h2, h3, UInt64.toNat_shiftLeft, hk, Nat.mod_eq_of_lt hj, Nat.shiftLeft_eq]
  exact wu _
theorem shrU (u : UInt64) (k : UInt64) (j : Nat) (hk : k.toNat = j) (hj : j < 64) : shrI .u64 (u.toNat : Int) (j : Int) = ((u >>> k).toNat : Int) := by
  rw [shrN (k := .u64) _ _ (by show j ≤ 64; omega), UInt64.toNat_shiftRight, hk, Nat.mod_eq_of_lt hj, Nat.shiftRight_eq_div_pow]
theorem next_s {h : Hp} {b : Nat} {u : UInt64} {Q : Value → Hp → Prop} (hb : h b = some (.cells ⟨[.int .u64 (u.toNat : Int)]⟩ 151 (0, 0))) (hQ : ∀ h', h' b = some (.cells ⟨[.int .u64 ((xorNext u).toNat : Int)]⟩ 151 (0, 0)) → (∀ k, k ≠ b → h' k = h k) → Q (.int .u64 ((xorNext u).toNat : Int)) h') : F106.T (some ⟨b, 0, none⟩) h Q := by
  have at_ : ∀ {g : Hp} {x : Int}, g b = some (.cells ⟨[.int .u64 x]⟩ 151 (0, 0)) → g.at b 0 = some (.int .u64 x) := fun hg => by unfold Hp.at; rw [hg]; rfl
  have can : ∀ {g : Hp} {x : Int}, g b = some (.cells ⟨[.int .u64 x]⟩ 151 (0, 0)) → g.canW b 0 1 := fun hg => ⟨_, _, _, hg, Nat.le_refl _, fun j _ _ => by simp⟩
  have st : ∀ {g : Hp} {x : Int} (y : Int), g b = some (.cells ⟨[.int .u64 x]⟩ 151 (0, 0)) → (g.wr b 0 [.int .u64 y]) b = some (.cells ⟨[.int .u64 y]⟩ 151 (0, 0)) := fun y hg => by rw [wr_at hg]; rfl
  have ot : ∀ {g : Hp} {vs : List Value} {k : Nat}, k ≠ b → (g.wr b 0 vs) k = g k := fun hk => by unfold Hp.wr; rw [if_neg hk]
  have e1 : bitsI .xor .u64 (u.toNat : Int) (shlI .u64 (u.toNat : Int) 13) = ((u ^^^ (u <<< 13)).toNat : Int) := by
    have := shlU u 13 13 rfl (by decide)
    rw [show (13 : Int) = ((13 : Nat) : Int) from rfl, this, xorU]
  generalize hu1 : u ^^^ (u <<< 13) = u1 at e1
  have e2 : bitsI .xor .u64 (u1.toNat : Int) (shrI .u64 (u1.toNat : Int) 7) = ((u1 ^^^ (u1 >>> 7)).toNat : Int) := by
    have := shrU u1 7 7 rfl (by decide)
    rw [show (7 : Int) = ((7 : Nat) : Int) from rfl, this, xorU]
  generalize hu2 : u1 ^^^ (u1 >>> 7) = u2 at e2
  have e3 : bitsI .xor .u64 (u2.toNat : Int) (shlI .u64 (u2.toNat : Int) 17) = ((u2 ^^^ (u2 <<< 17)).toNat : Int) := by
    have := shlU u2 17 17 rfl (by decide)
    rw [show (17 : Int) = ((17 : Nat) : Int) from rfl, this, xorU]
  have ex : xorNext u = u2 ^^^ (u2 <<< 17) := by unfold xorNext; dsimp only; rw [hu1, hu2]
  rw [← ex] at e3
  unfold F106.T
  refine ⟨b, 0, rfl, _, at_ hb, b, 0, rfl, _, at_ hb, by decide, b, 0, rfl, ?_⟩
  rw [e1]
  refine ⟨can hb, b, 0, rfl, _, at_ (st _ hb), b, 0, rfl, _, at_ (st _ hb), by decide, b, 0, rfl, ?_⟩
  rw [e2]
  refine ⟨can (st _ hb), b, 0, rfl, _, at_ (st _ (st _ hb)), b, 0, rfl, _, at_ (st _ (st _ hb)), by decide, b, 0, rfl, ?_⟩
  rw [e3]
  refine ⟨can (st _ (st _ hb)), b, 0, rfl, _, at_ (st _ (st _ (st _ hb))), ?_⟩
  exact hQ _ (st _ (st _ (st _ hb))) fun k hk => by rw [ot hk, ot hk, ot hk]
structure Rn (h h' : Hp) (l : Sl) (b : Nat) (u : UInt64) (d : Array Int) : Prop where
  s : Dx h h' l d
  nb : h b = none
  c : h' b = some (.cells ⟨[.int .u64 (u.toNat : Int)]⟩ 151 (0, 0))
theorem rn_buf {h : Hp} {b : Nat} {r : Int} (hb : h b = some (.cells ⟨[.int .u64 r]⟩ 151 (0, 0))) : Buf h (rb b) 1 151 [.int .u64 r] :=
  ⟨rfl, Nat.le_refl _, .inr ⟨b, _, (0, 0), rfl, hb, Nat.le_refl _, fun j _ => by simp, rfl⟩⟩
theorem Rn.sw {h g g' : Hp} {l : Sl} {b : Nat} {u : UInt64} {d d' : Array Int} (R : Rn h g l b u d) (S : Dx g g' l d') : Rn h g' l b u d' :=
  ⟨R.s.from S, R.nb, S.up.keep b _ (fun o ho => buf_off (rn_buf R.c) R.s.u (by decide) b 0 o rfl ho) R.c⟩
theorem Rn.draw {h g g' : Hp} {l : Sl} {b : Nat} {u u' : UInt64} {d : Array Int} (R : Rn h g l b u d) (h1 : g' b = some (.cells ⟨[.int .u64 (u'.toNat : Int)]⟩ 151 (0, 0))) (h2 : ∀ k, k ≠ b → g' k = g k) : Rn h g' l b u' d := by
  have hU : Upd g g' (rb b) (rb b) := ⟨fun k x hk e => by
    have hkb : k ≠ b := fun q => hk 0 (by rw [q]; rfl)
    rw [h2 k hkb]; exact e, .inl rfl, fun k e => by
    by_cases hkb : k = b
    · rw [hkb, h1] at e; cases e
    · rw [h2 k hkb] at e; exact e⟩
  refine ⟨⟨R.s.u.upd hU (buf_off R.s.u (rn_buf R.c) (by decide)), ⟨fun k x hk e => ?_, .inl rfl, fun k e => R.s.up.dom k (hU.dom k e)⟩⟩, R.nb, h1⟩
  have hkb : k ≠ b := fun q => by rw [q, R.nb] at e; cases e
  rw [h2 k hkb]
  exact R.s.up.keep k x hk e
variable {h : Hp} {l : Sl} {d : Array Int} {a b p : Nat} {Q : Value → Hp → Prop}
def stK (a L : Nat) (d : Array Int) : Nat → UInt64 × Array Int
  | 0 => (UInt64.ofNat L, d)
  | k + 1 => breakStep a L (1 <<< bitsLen L) (stK a L d k) (a + (L / 4) * 2 - 1 + k)
theorem break_s (B : Buf h l 1 33 (uvs d.toList)) (hab : a ≤ b) (hb : b ≤ l.n) (hn : l.n ≤ 100000000000) (hQ : ∀ h', Dx h h' l (breakPatterns d a b) → Q (.tuple ⟨[]⟩) h') : F93.T l (a : Int) (b : Int) h Q := by
  unfold F93.T F93.G
  rw [wM hab (by omega)]
  unfold breakPatterns at hQ
  dsimp only at hQ
  generalize hL : b - a = L at hQ ⊢
  refine ⟨fun h8 => ?_, fun h8 => ?_⟩
  · rw [if_pos (by omega)] at hQ
    have h3 : ∀ h', Dx h h' l (stK a L d 3).2 → Q (.tuple ⟨[]⟩) h' := hQ
    clear hQ
    have hd : Int.tdiv (L : Int) 4 = ((L / 4 : Nat) : Int) := by rw [Int.tdiv_eq_ediv_of_nonneg (by omega)]; omega
    have w2 : IntKind.wrap .i64 (((L / 4 : Nat) : Int) * 2) = ((L / 4 * 2 : Nat) : Int) := by rw [wr64 (by omega) (by omega)]; omega
    rw [hd, wr64 (x := ((L / 4 : Nat) : Int)) (by omega) (by omega), w2, wP (by omega), wS (by omega) (by omega), wA (by omega)]
    intro xb hxb
    have x0 := new_self h xb (.cells ⟨[.int .u64 0]⟩ 151 (0, 0))
    have R0 : Rn h (h.new xb (.cells ⟨[.int .u64 0]⟩ 151 (0, 0))) l xb 0 d := ⟨⟨B.keep (Keep.new hxb _), Upd.of_keep (Keep.new hxb _) l⟩, hxb, x0⟩
    refine ⟨⟨_, _, _, x0, Nat.le_refl _, fun j _ _ => by simp⟩, ?_⟩
    have eL : IntKind.wrap .u64 (L : Int) = ((UInt64.ofNat L).toNat : Int) := by
      rw [wrap_u64 (by omega) (by omega), UInt64.toNat_ofNat', Nat.mod_eq_of_lt (by show L < 18446744073709551616; omega)]
    rw [eL]
    have R1 : Rn h ((h.new xb (.cells ⟨[.int .u64 0]⟩ 151 (0, 0))).wr xb 0 [.int .u64 ((UInt64.ofNat L).toNat : Int)]) l xb (UInt64.ofNat L) d := R0.draw (by rw [wr_at x0]; rfl) fun k hk => by unfold Hp.wr; rw [if_neg hk]
    generalize ((h.new xb (.cells ⟨[.int .u64 0]⟩ 151 (0, 0))).wr xb 0 [.int .u64 ((UInt64.ofNat L).toNat : Int)]) = g1 at R1 ⊢
    refine pow_s (by show L < 1099511627776; omega) ⟨_, rfl, by decide, ?_⟩
    have hmod : 1 <<< bitsLen L ≤ 1099511627776 := by
      rw [Nat.one_shiftLeft]
      exact Nat.le_trans (Nat.pow_le_pow_right (by decide) (bitsLen_le (k := 37) (by show L < 137438953472; omega))) (by decide)
    have hmod1 : 1 ≤ 1 <<< bitsLen L := by rw [Nat.one_shiftLeft]; exact Nat.one_le_two_pow
    have hmod2 : 1 <<< bitsLen L ≤ 2 * L := by
      rw [Nat.one_shiftLeft]
      unfold bitsLen
      rw [if_neg (by omega), Nat.pow_succ]
      have := Nat.log2_self_le (n := L) (by omega)
      omega
    refine ⟨fun n g => ∃ k, n = ((a + L / 4 * 2 - 1 + k : Nat) : Int) ∧ k ≤ 3 ∧ Rn h g l xb (stK a L d k).1 (stK a L d k).2, fun n _ => a + L / 4 * 2 + 2 - n.toNat, ⟨0, rfl, by decide, R1⟩, ?_⟩
    rintro n g ⟨k, rfl, hk, R⟩
    refine ⟨by decide, fun hle => ?_, fun hgt => ?_⟩
    · refine Go.Eng.Ytbjnlacacapjiaa.next_s R.c fun g2 hg hot => ⟨_, rfl, ?_⟩
      have R2 := R.draw hg hot
      clear hg hot
      have hw : IntKind.wrap .u64 (((1 <<< bitsLen L : Nat) : Int) - 1) = ((1 <<< bitsLen L - 1 : Nat) : Int) := by rw [wrap_u64 (by omega) (by omega)]; omega
      dsimp only
      rw [hw, andU (xorNext (stK a L d k).1) (m := 1 <<< bitsLen L - 1) (by omega)]
      have hq : (xorNext (stK a L d k).1).toNat &&& (1 <<< bitsLen L - 1) ≤ 1 <<< bitsLen L - 1 := Nat.and_le_right
      have es : stK a L d (k + 1) = breakStep a L (1 <<< bitsLen L) (stK a L d k) (a + (L / 4) * 2 - 1 + k) := rfl
      unfold breakStep at es
      dsimp only at es
      generalize (xorNext (stK a L d k).1).toNat &&& (1 <<< bitsLen L - 1) = q at hq es ⊢
      rw [wr64 (x := (q : Int)) (by omega) (by omega)]
      have S2 := Dx.refl R2.s.u
      refine ⟨fun hge => ?_, fun hlt => ?_⟩
      · rw [if_pos (by omega)] at es
        rw [wM (by omega) (by omega), wP (by omega), wA (by omega)]
        refine S2.swp (i := a + (q - L)) (j := a + L / 4 * 2 - 1 + k) (by omega) (by omega) fun g3 S3 => ⟨⟨k + 1, by rw [Nat.add_assoc], by omega, ?_⟩, by omega⟩
        rw [es]; exact R2.sw S3
      · rw [if_neg (by omega)] at es
        rw [wP (by omega), wA (by omega)]
        refine S2.swp (i := a + q) (j := a + L / 4 * 2 - 1 + k) (by omega) (by omega) fun g3 S3 => ⟨⟨k + 1, by rw [Nat.add_assoc], by omega, ?_⟩, by omega⟩
        rw [es]; exact R2.sw S3
    · have : k = 3 := by omega
      subst this
      exact h3 g R.s
  · rw [if_neg (by omega)] at hQ
    exact hQ h (Dx.refl B)
end
end Go.Eng.Ytbjnlacacapjiaa
end
section
set_option maxRecDepth 100000
namespace Go.Eng.Ytbjnlacacapjiaa
section
open Go.Sort
theorem choose_le (d : Array Int) {a b : Nat} (hab : a < b) : a ≤ (choosePivot ltI d a b).1 ∧ (choosePivot ltI d a b).1 < b := by
  unfold choosePivot
  dsimp only
  generalize hL : b - a = L
  split
  · split
    · have adj : ∀ i s, (medianAdjacent ltI d i s).1 = i - 1 ∨ (medianAdjacent ltI d i s).1 = i ∨ (medianAdjacent ltI d i s).1 = i + 1 := fun i s => (median_le d (i - 1) i (i + 1) s).2
      have m1 := adj (a + L / 4 * 1) 0
      generalize medianAdjacent ltI d (a + L / 4 * 1) 0 = r1 at m1 ⊢
      have m2 := adj (a + L / 4 * 2) r1.2
      generalize medianAdjacent ltI d (a + L / 4 * 2) r1.2 = r2 at m2 ⊢
      have m3 := adj (a + L / 4 * 3) r2.2
      generalize medianAdjacent ltI d (a + L / 4 * 3) r2.2 = r3 at m3 ⊢
      have m4 := (median_le d r1.1 r2.1 r3.1 r3.2).2
      generalize (median ltI d r1.1 r2.1 r3.1 r3.2).1 = x at m4 ⊢
      omega
    · have m4 := (median_le d (a + L / 4 * 1) (a + L / 4 * 2) (a + L / 4 * 3) 0).2
      generalize (median ltI d (a + L / 4 * 1) (a + L / 4 * 2) (a + L / 4 * 3) 0).1 = x at m4 ⊢
      omega
  · dsimp only; omega
variable {h : Hp} {l : Sl} {d D : Array Int} {a b lim p M0 nf : Nat} {Q : Value → Hp → Prop} {T : Sl → Int → Int → Int → PT} {I : Int → Int → Int → Bool → Bool → Hp → Prop} {m : Int → Int → Int → Bool → Bool → Hp → Nat}
def PdqOk (l : Sl) (T : Sl → Int → Int → Int → PT) (n : Nat) : Prop := ∀ (h : Hp) (d : Array Int) (a b lim : Nat) (Q : Value → Hp → Prop), b - a < n → Buf h l 1 33 (uvs d.toList) → a ≤ b → b ≤ l.n → lim ≤ 1000 → (∀ h', Dx h h' l (pdq ltI d a b lim true true) → Q (.tuple ⟨[]⟩) h') → T l (a : Int) (b : Int) (lim : Int) h Q
def pdqTail (d : Array Int) (a b p lim : Nat) (wb wp : Bool) : Array Int :=
  if a > 0 && !ltI d[a - 1]! d[p]! then
    match partitionEqual ltI d a b p with
    | (mid, d4) => if _h : a < mid ∧ mid ≤ b then pdq ltI d4 mid b lim wb wp else d4
  else
    match partition ltI d a b p with
    | (mid, alreadyPartitioned, d4) =>
      if _h : a ≤ mid ∧ mid < b then
        if mid - a < b - mid then
          pdq ltI (pdq ltI d4 a mid lim true true) (mid + 1) b lim (decide (mid - a ≥ (b - a) / 8)) alreadyPartitioned
        else
          pdq ltI (pdq ltI d4 (mid + 1) b lim true true) a mid lim (decide (b - mid ≥ (b - a) / 8)) alreadyPartitioned
      else d4
theorem mid_s {wb wp : Bool} {g : Hp} (hT : PdqOk l T nf) (hI : ∀ a b lim wb wp g d', a ≤ b → b ≤ l.n → b - a ≤ nf → lim ≤ 1000 → Dx h g l d' → pdq ltI d' a b lim wb wp = D → I ((a : Nat) : Int) ((b : Nat) : Int) ((lim : Nat) : Int) wb wp g) (hm : ∀ (a' b' lim' : Nat) wb' wp' g, b' - a' < b - a → m (a' : Int) (b' : Int) (lim' : Int) wb' wp' g < M0)
    (S : Dx h g l d) (ha : a ≤ p) (hp : p < b) (hb : b ≤ l.n) (hn : l.n ≤ 100000000000) (hnf : b - a ≤ nf) (hl : lim ≤ 1000) (e : pdqTail d a b p lim wb wp = D) :
    ∃ J2 : Int → Hp → Prop, (∀ n10 : Int, ∀ h7 : Hp, J2 n10 h7 → F99.T l n10 (b : Int) (p : Int) h7 fun r3 h8 => ∃ n11 : Int, ∃ b2 : Bool, parB b2 (r3 = .tuple ⟨[.int .i64 n11, .bool true]⟩ ∧ (8 : Int) ≠ 0 ∧ par ((IntKind.wrap .i64 (n11 - n10)) < (IntKind.wrap .i64 ((b : Int) - n11))) (par ((IntKind.wrap .i64 (Int.tdiv (IntKind.wrap .i64 ((b : Int) - (a : Int))) 8)) ≤ (IntKind.wrap .i64 (n11 - n10))) (T l n10 n11 (lim : Int) h8 fun r4 h9 => I (IntKind.wrap .i64 (n11 + 1)) (b : Int) (lim : Int) true true h9 ∧ m (IntKind.wrap .i64 (n11 + 1)) (b : Int) (lim : Int) true true h9 < M0) (T l n10 n11 (lim : Int) h8 fun r5 h10 => I (IntKind.wrap .i64 (n11 + 1)) (b : Int) (lim : Int) false true h10 ∧ m (IntKind.wrap .i64 (n11 + 1)) (b : Int) (lim : Int) false true h10 < M0)) (par ((IntKind.wrap .i64 (Int.tdiv (IntKind.wrap .i64 ((b : Int) - (a : Int))) 8)) ≤ (IntKind.wrap .i64 ((b : Int) - n11))) (T l (IntKind.wrap .i64 (n11 + 1)) (b : Int) (lim : Int) h8 fun r6 h11 => I n10 n11 (lim : Int) true true h11 ∧ m n10 n11 (lim : Int) true true h11 < M0) (T l (IntKind.wrap .i64 (n11 + 1)) (b : Int) (lim : Int) h8 fun r7 h12 => I n10 n11 (lim : Int) false true h12 ∧ m n10 n11 (lim : Int) false true h12 < M0))) (r3 = .tuple ⟨[.int .i64 n11, .bool false]⟩ ∧ (8 : Int) ≠ 0 ∧ par ((IntKind.wrap .i64 (n11 - n10)) < (IntKind.wrap .i64 ((b : Int) - n11))) (par ((IntKind.wrap .i64 (Int.tdiv (IntKind.wrap .i64 ((b : Int) - (a : Int))) 8)) ≤ (IntKind.wrap .i64 (n11 - n10))) (T l n10 n11 (lim : Int) h8 fun r8 h13 => I (IntKind.wrap .i64 (n11 + 1)) (b : Int) (lim : Int) true false h13 ∧ m (IntKind.wrap .i64 (n11 + 1)) (b : Int) (lim : Int) true false h13 < M0) (T l n10 n11 (lim : Int) h8 fun r9 h14 => I (IntKind.wrap .i64 (n11 + 1)) (b : Int) (lim : Int) false false h14 ∧ m (IntKind.wrap .i64 (n11 + 1)) (b : Int) (lim : Int) false false h14 < M0)) (par ((IntKind.wrap .i64 (Int.tdiv (IntKind.wrap .i64 ((b : Int) - (a : Int))) 8)) ≤ (IntKind.wrap .i64 ((b : Int) - n11))) (T l (IntKind.wrap .i64 (n11 + 1)) (b : Int) (lim : Int) h8 fun r10 h15 => I n10 n11 (lim : Int) true false h15 ∧ m n10 n11 (lim : Int) true false h15 < M0) (T l (IntKind.wrap .i64 (n11 + 1)) (b : Int) (lim : Int) h8 fun r11 h16 => I n10 n11 (lim : Int) false false h16 ∧ m n10 n11 (lim : Int) false false h16 < M0)))) ∧
    (par ((0 : Int) < (a : Int)) (ix l.a (IntKind.wrap .i64 ((a : Int) - 1)) l.n fun b3 o => ldI .u64 g b3 (o + ((IntKind.wrap .i64 ((a : Int) - 1))).toNat) fun n12 => ix l.a (p : Int) l.n fun b4 o1 => ldI .u64 g b4 (o1 + ((p : Nat) : Int).toNat) fun n13 => F97.T n12 n13 g fun r12 h17 => retB r12 (J2 (a : Int) h17) (F98.T l (a : Int) (b : Int) (p : Int) h17 fun r13 h18 => retI .i64 r13 fun n14 => I n14 (b : Int) (lim : Int) wb wp h18 ∧ m n14 (b : Int) (lim : Int) wb wp h18 < M0)) (J2 (a : Int) g)) := by
  unfold pdqTail at e
  have hsz := S.sz
  refine ⟨fun n h7 => n = (a : Int) ∧ h7 = g ∧ (a > 0 && !ltI d[a - 1]! d[p]!) = false, ?_, fun h0 => ?_, fun h0 => ⟨rfl, rfl, by simp; omega⟩⟩
  · rintro n h7 ⟨rfl, rfl, hc⟩
    rw [if_neg (by rw [hc]; decide)] at e
    obtain ⟨r1, r2, _⟩ := (partition_holds ltI) swo_ltInt d a b p ha hp (by omega)
    refine part_s S.u ha hp hb hn fun h8 S8 => ?_
    generalize partition ltI d a b p = r at r1 r2 e S8
    obtain ⟨mid, al, d4⟩ := r
    dsimp only at r1 r2 e S8 ⊢
    rw [dif_pos ⟨r1, r2⟩] at e
    have SS := S.from S8
    have w8 : IntKind.wrap .i64 (Int.tdiv ((b - a : Nat) : Int) 8) = (((b - a) / 8 : Nat) : Int) := by
      rw [Int.tdiv_eq_ediv_of_nonneg (by omega), wr64 (by omega) (by omega)]; omega
    refine ⟨(mid : Int), al, ?_⟩
    rw [wM (i := mid) (j := a) (by omega) (by omega), wM (i := b) (j := mid) (by omega) (by omega), wM (i := b) (j := a) (by omega) (by omega), w8, wA (by omega)]
    have left : ∀ wb', (decide (mid - a ≥ (b - a) / 8)) = wb' → mid - a < b - mid → T l (a : Int) (mid : Int) (lim : Int) h8 fun r4 h9 => I ((mid + 1 : Nat) : Int) (b : Int) (lim : Int) wb' al h9 ∧ m ((mid + 1 : Nat) : Int) (b : Int) (lim : Int) wb' al h9 < M0 := fun wb' hw hlt => by
      rw [if_pos hlt, hw] at e
      exact hT _ _ _ _ _ _ (by omega) SS.u r1 (by omega) hl fun h9 S9 => ⟨hI _ _ _ _ _ _ _ (by omega) hb (by omega) hl (SS.from S9) e, hm _ _ _ _ _ _ (by omega)⟩
    have right : ∀ wb', (decide (b - mid ≥ (b - a) / 8)) = wb' → ¬ mid - a < b - mid → T l ((mid + 1 : Nat) : Int) (b : Int) (lim : Int) h8 fun r4 h9 => I (a : Int) (mid : Int) (lim : Int) wb' al h9 ∧ m (a : Int) (mid : Int) (lim : Int) wb' al h9 < M0 := fun wb' hw hge => by
      rw [if_neg hge, hw] at e
      exact hT _ _ _ _ _ _ (by omega) SS.u (by omega) hb hl fun h9 S9 => ⟨hI _ _ _ _ _ _ _ r1 (by omega) (by omega) hl (SS.from S9) e, hm _ _ _ _ _ _ (by omega)⟩
    cases al
    all_goals
      first
        | refine ⟨fun hh => (by cases hh), fun _ => ⟨rfl, by decide, fun hlt => ⟨fun h8 => ?_, fun h8 => ?_⟩, fun hge => ⟨fun h8 => ?_, fun h8 => ?_⟩⟩⟩
        | refine ⟨fun _ => ⟨rfl, by decide, fun hlt => ⟨fun h8 => ?_, fun h8 => ?_⟩, fun hge => ⟨fun h8 => ?_, fun h8 => ?_⟩⟩, fun hh => (by cases hh)⟩
      · exact left true (decide_eq_true (by omega)) (by omega)
      · exact left false (decide_eq_false (by omega)) (by omega)
      · exact right true (decide_eq_true (by omega)) (by omega)
      · exact right false (decide_eq_false (by omega)) (by omega)
  · rw [wS (by omega) (by omega)]
    refine S.less (i := a - 1) (j := p) (by omega) (by omega) (fun hl => ⟨rfl, rfl, by rw [hl]; simp⟩) (fun hl' => ?_)
    rw [if_pos (by rw [hl']; simp; omega)] at e
    have hr : a < (partitionEqual ltI d a b p).1 ∧ (partitionEqual ltI d a b p).1 ≤ b := by
      have := partEqLoop_spec ltI a b _ (a + 1) (b - 1) (Go.Sort.swp d a p) (Nat.le_refl _) (Nat.lt_succ_self a) (by omega) (by omega) (by rw [size_swp]; omega) (fun t h1 h2 => by omega) (fun t h1 h2 => by omega)
      exact ⟨this.1, this.2.1⟩
    refine partEq_s S.u ha hp hb hn fun h8 S8 => ?_
    generalize partitionEqual ltI d a b p = r at hr e S8
    obtain ⟨mid, d4⟩ := r
    dsimp only at hr e S8 ⊢
    rw [dif_pos hr] at e
    exact ⟨_, rfl, hI _ _ _ _ _ _ _ hr.2 hb (by omega) hl (S.from S8) e, hm _ _ _ _ _ _ (by omega)⟩
def hc : Hint → Int
  | .increasing => 1
  | .decreasing => 2
  | .unknown => 0
def pdqC (d : Array Int) (a b p lim : Nat) (hint : Hint) (wb wp : Bool) : Array Int :=
  let pi := if wb && wp && hint = .increasing then partialInsertionSort ltI d a b else (d, false)
  if pi.2 then pi.1 else pdqTail pi.1 a b p lim wb wp
def pdqB (d1 : Array Int) (a b lim : Nat) (wb wp : Bool) : Array Int :=
  let c := choosePivot ltI d1 a b
  pdqC (if c.2 = .decreasing then reverseRange d1 a b else d1) a b (if c.2 = .decreasing then (b - 1) - (c.1 - a) else c.1) lim (if c.2 = .decreasing then Hint.increasing else c.2) wb wp
theorem pdq_step {wb wp : Bool} (h12 : ¬ b - a ≤ 12) (h0 : ¬ lim = 0) : pdq ltI d a b lim wb wp = pdqB (if !wb then breakPatterns d a b else d) a b (if !wb then lim - 1 else lim) wb wp := by
  rw [pdq, if_neg h12, if_neg h0]; rfl
theorem round_s {wb wp : Bool} {g : Hp} {MID : Int → Hp → Prop} {CK : Int → Hp → (Hp → Prop) → Prop}
    (S : Dx h g l d) (hab : a < b) (hb : b ≤ l.n) (hn : l.n ≤ 100000000000) (e : pdqB d a b lim wb wp = D)
    (hmid : ∀ (p : Nat) g d3, a ≤ p → p < b → Dx h g l d3 → pdqTail d3 a b p lim wb wp = D → MID (p : Int) g)
    (hck : ∀ (p : Nat) (hint : Hint) g d2 (J1 : Hp → Prop), Dx h g l d2 → pdqC d2 a b p lim hint wb wp = D → (∀ g' d3, Dx h g' l d3 → pdqTail d3 a b p lim wb wp = D → J1 g') → CK (hc hint) g J1) :
    F94.T l (a : Int) (b : Int) g fun r2 h4 => ∃ n6 n7 : Int, r2 = .tuple ⟨[.int .i64 n6, .int .i64 n7]⟩ ∧ ∃ J : Int → Int → Hp → Prop, (∀ n8 n9 : Int, ∀ h5 : Hp, J n8 n9 h5 → ∃ J1 : Hp → Prop, (∀ h6 : Hp, J1 h6 → MID n8 h6) ∧ (CK n9 h5 J1)) ∧ (par (n7 = 2) (F95.T l (a : Int) (b : Int) h4 fun r15 h20 => J (IntKind.wrap .i64 ((IntKind.wrap .i64 ((b : Int) - 1)) - (IntKind.wrap .i64 (n6 - (a : Int))))) 1 h20) (J n6 n7 h4)) := by
  unfold pdqB at e
  dsimp only at e
  obtain ⟨c1, c2⟩ := choose_le d hab
  refine choose_s S.u hab hb hn fun g1 K1 => ⟨_, _, rfl, ?_⟩
  have S1 : Dx h g1 l d := ⟨S.u.keep K1, S.up.trans (Upd.of_keep K1 l)⟩
  generalize choosePivot ltI d a b = c at e c1 c2 ⊢
  obtain ⟨pv, hint⟩ := c
  dsimp only at e c1 c2 ⊢
  refine ⟨fun n n' g => ∃ (p : Nat) (hint : Hint) (d2 : Array Int), n = (p : Int) ∧ n' = hc hint ∧ a ≤ p ∧ p < b ∧ Dx h g l d2 ∧ pdqC d2 a b p lim hint wb wp = D, ?_, fun h2 => ?_, fun h2 => ?_⟩
  · rintro n n' g2 ⟨p, hint, d2, rfl, rfl, p0, p1, S2, e2⟩
    exact ⟨fun g' => ∃ d3, Dx h g' l d3 ∧ pdqTail d3 a b p lim wb wp = D, fun g' ⟨d3, S3, e3⟩ => hmid p g' d3 p0 p1 S3 e3, hck p hint g2 d2 _ S2 e2 fun g' d3 S3 e3 => ⟨d3, S3, e3⟩⟩
  · have hd : hint = .decreasing := by cases hint <;> first | rfl | exact absurd h2 (by decide)
    subst hd
    rw [if_pos rfl, if_pos rfl, if_pos rfl] at e
    refine reverse_s S1.u hb (by omega) (by omega) hn fun g2 S2 => ?_
    rw [wS (by omega) (by omega), wM c1 (by omega), wM (by omega) (by omega)]
    exact ⟨_, .increasing, _, rfl, rfl, by omega, by omega, S1.from S2, e⟩
  · have hd : ¬ hint = .decreasing := by rintro rfl; exact h2 rfl
    rw [if_neg hd, if_neg hd, if_neg hd] at e
    exact ⟨_, hint, _, rfl, by cases hint <;> rfl, c1, c2, S1, e⟩
def PI (h : Hp) (l : Sl) (D : Array Int) (nf : Nat) : Int → Int → Int → Bool → Bool → Hp → Prop := fun n n1 n2 wb wp g => ∃ (a b lim : Nat) (d' : Array Int), n = (a : Int) ∧ n1 = (b : Int) ∧ n2 = (lim : Int) ∧ a ≤ b ∧ b ≤ l.n ∧ b - a ≤ nf ∧ lim ≤ 1000 ∧ Dx h g l d' ∧ pdq ltI d' a b lim wb wp = D
def PM : Int → Int → Int → Bool → Bool → Hp → Nat := fun n n1 _ _ _ _ => (n1 - n).toNat
theorem no_check {wb wp : Bool} {hint : Hint} (hw : (wb && wp && decide (hint = .increasing)) = false) (e : pdqC d a b p lim hint wb wp = D) : pdqTail d a b p lim wb wp = D := by
  unfold pdqC at e
  have h : (if (wb && wp && decide (hint = .increasing)) = true then partialInsertionSort ltI d a b else (d, false)) = (d, false) := if_neg (by rw [hw]; decide)
  rw [h] at e
  exact e
theorem yes_check (e : pdqC d a b p lim .increasing true true = D) : (if (partialInsertionSort ltI d a b).2 = true then (partialInsertionSort ltI d a b).1 else pdqTail (partialInsertionSort ltI d a b).1 a b p lim true true) = D := e
theorem pdq_ok (hn : l.n ≤ 100000000000) : ∀ nf, PdqOk l (F82.TN nf) nf
  | 0 => fun h d a b lim Q hlt => absurd hlt (by omega)
  | nf + 1 => by
    have hT := pdq_ok hn nf
    intro h d a b lim Q hlt B hab hb hl hQ
    show F82.G (F82.TN nf) l (a : Int) (b : Int) (lim : Int) h Q
    generalize F82.TN nf = T at hT
    unfold F82.G
    generalize hD : pdq ltI d a b lim true true = D at hQ
    refine ⟨PI h l D nf, PM, ⟨a, b, lim, d, rfl, rfl, rfl, hab, hb, by omega, hl, Dx.refl B, hD⟩, ?_⟩
    have hI : ∀ (a b lim : Nat) wb wp g d', a ≤ b → b ≤ l.n → b - a ≤ nf → lim ≤ 1000 → Dx h g l d' → pdq ltI d' a b lim wb wp = D → PI h l D nf (a : Int) (b : Int) (lim : Int) wb wp g := fun a b lim wb wp g d' h1 h2 h3 h4 S e => ⟨a, b, lim, d', rfl, rfl, rfl, h1, h2, h3, h4, S, e⟩
    clear hab hb hl hlt hD B
    intro n3 n4 n5
    refine ⟨⟨?_, ?_⟩, ⟨?_, ?_⟩⟩
    all_goals
      rintro g ⟨a, b, lim, d1, rfl, rfl, rfl, hab, hb, hnf, hl, S, e⟩
      rw [wM hab (by omega)]
      refine ⟨fun h12 => ?_, fun h12 => ⟨fun h0 => ?_, fun h0 => ?_⟩⟩
      · rw [pdq, if_pos (by omega)] at e
        subst e
        exact insertion_s S.u hb (by omega) hn fun h' S' => hQ h' (S.from S')
      · rw [pdq, if_neg (by omega), if_pos (by omega)] at e
        subst e
        exact heap_s S.u hab hb hn fun h' S' => hQ h' (S.from S')
      rw [pdq_step (by omega) (by omega)] at e
      have hm : ∀ (M0 : Nat), M0 = b - a → ∀ (a' b' lim' : Nat) wb' wp' g, b' - a' < b - a → PM (a' : Int) (b' : Int) (lim' : Int) wb' wp' g < M0 := fun M0 h0 a' b' lim' wb' wp' g h1 => by unfold PM; omega
      have pm : ∀ (lim : Int) wb wp g, PM (a : Int) (b : Int) lim wb wp g = b - a := fun _ _ _ _ => by unfold PM; omega
    · rw [if_neg (by decide), if_neg (by decide)] at e
      rw [pm]
      refine round_s S (by omega) hb hn e (fun p g d3 p0 p1 S3 e3 => ?_) (fun p hint g d2 J1 S2 e2 hJ => ?_)
      · have := mid_s hT hI (hm _ rfl) S3 p0 p1 hb hn hnf hl e3
        rw [wM hab (by omega)] at this
        exact this
      · refine ⟨fun h1 => ?_, fun h1 => ?_⟩
        · have hh : hint = .increasing := by cases hint <;> first | rfl | exact absurd h1 (by decide)
          subst hh
          have e2 := yes_check e2
          refine partial_s S2.u (by omega) hb hn fun g3 S3 => ⟨_, rfl, fun ht => ?_, fun hf => ?_⟩
          · rw [if_pos ht] at e2
            subst e2
            exact hQ g3 (S2.from S3)
          · rw [if_neg (by rw [hf]; decide)] at e2
            exact hJ g3 _ (S2.from S3) e2
        · have hh : ¬ hint = .increasing := by rintro rfl; exact h1 rfl
          exact hJ g _ S2 (no_check (by simp [hh]) e2)
    · rw [if_neg (by decide), if_neg (by decide)] at e
      rw [pm]
      refine round_s S (by omega) hb hn e (fun p g d3 p0 p1 S3 e3 => ?_) (fun p hint g d2 J1 S2 e2 hJ => hJ g _ S2 (no_check rfl e2))
      have := mid_s hT hI (hm _ rfl) S3 p0 p1 hb hn hnf hl e3
      rw [wM hab (by omega)] at this
      exact this
    · rw [if_pos (by decide), if_pos (by decide)] at e
      rw [pm, wS (j := lim) (by omega) (by omega)]
      refine break_s S.u hab hb hn fun g2 S2 => ?_
      refine round_s (S.from S2) (by omega) hb hn e (fun p g d3 p0 p1 S3 e3 => ?_) (fun p hint g d2 J1 S2 e2 hJ => hJ g _ S2 (no_check rfl e2))
      have := mid_s hT hI (hm _ rfl) S3 p0 p1 hb hn hnf (by omega) e3
      rw [wM hab (by omega)] at this
      exact this
    · rw [if_pos (by decide), if_pos (by decide)] at e
      rw [pm, wS (j := lim) (by omega) (by omega)]
      refine break_s S.u hab hb hn fun g2 S2 => ?_
      refine round_s (S.from S2) (by omega) hb hn e (fun p g d3 p0 p1 S3 e3 => ?_) (fun p hint g d2 J1 S2 e2 hJ => hJ g _ S2 (no_check rfl e2))
      have := mid_s hT hI (hm _ rfl) S3 p0 p1 hb hn hnf (by omega) e3
      rw [wM hab (by omega)] at this
      exact this
theorem sort_s {vs : List Int} (B : Buf h l 1 33 (uvs vs)) (hn : l.n ≤ 100000000000) (hQ : ∀ h', Buf h' l 1 33 (uvs (vs.mergeSort fun x y => decide (x ≤ y))) → Upd h h' l l → Q (.tuple ⟨[]⟩) h') : F73.T l h Q := by
  unfold F73.T F73.G
  have hl : vs.length = l.n := by have := B.len; rw [uvs_len] at this; omega
  rw [wrap_u64 (by omega) (by omega)]
  refine len_s (by omega) ⟨_, rfl, ?_⟩
  have hb := bitsLen_le (n := l.n) (k := 37) (by show l.n < 137438953472; omega)
  refine ⟨l.n + 1, pdq_ok hn (l.n + 1) h vs.toArray 0 l.n (bitsLen l.n) _ (by omega) (by rw [List.toList_toArray]; exact B) (Nat.zero_le _) (Nat.le_refl _) (by omega) fun h' S => ?_⟩
  have e : pdq ltI vs.toArray 0 l.n (bitsLen l.n) true true = Go.Sort.sort ltI vs.toArray := by unfold Go.Sort.sort; rw [List.size_toArray, hl]
  rw [e] at S
  have u := S.u
  rw [sortInt vs] at u
  exact hQ h' u S.up
end
end Go.Eng.Ytbjnlacacapjiaa
end
section
set_option maxRecDepth 100000
namespace Go.Eng.Ytbjnlacacapjiaa
theorem VerR.one {h h' : Hp} {b vb : Nat} {es : Array MapEntry} {c : Nat} {lv : Lv} (V : VerR h vb lv) (O : One b h h') (hb : h b = some (.map es c)) : VerR h' vb lv := by
  obtain ⟨ls, xs, h1, h2, h3, h4⟩ := V
  exact ⟨ls, xs, O.keep _ _ (by rintro rfl; rw [hb] at h1; cases h1) h1, O.row hb h2, fun x hx => O.row hb (h3 x hx), h4⟩
theorem Ver.base {g h h' : Hp} {vb : Nat} {ls : Sl} {xs : List (Sl × List Tab)} (K : Keep g h) (V : Ver h h' vb ls xs) : Ver g h' vb ls xs :=
  ⟨⟨K.trans V.L.k, V.L.nl.mono K.dom, V.L.l, V.L.t, fun x hx => (V.L.n x hx).mono K.dom, V.L.d⟩, K.dom _ V.nv, V.v⟩
structure SetA (g h : Hp) (sb vb pm cm : Nat) (ps ls : Sl) (xs : List (Sl × List Tab)) (ptrs : List ByteArray) : Prop where
  V : Ver g h vb ls xs
  ns : g sb = none
  s : h sb = some (.cells ⟨[.pointer (some ⟨vb, 0, none⟩), .map (some pm), .slice ps.a ps.n ps.c, .map (some cm)]⟩ 89 (0, 0))
  np : NewN g ps
  p : Buf h ps 1 9 (ptrV ptrs)
  m : ∃ c, h pm = some (.map #[] c)
  nc : g cm = none
  c : ∃ es c, h cm = some (.map es c) ∧ U64s es
  ne : pm ≠ cm
def DA (sb cm : Nat) (ps : Sl) (k : Nat) : Prop := k = sb ∨ k = cm ∨ ps.a = some ⟨k, 0, none⟩
structure Chg (D : Nat → Prop) (h h' : Hp) : Prop where
  keep : ∀ k x, ¬ D k → h k = some x → h' k = some x
  dom : ∀ k, h' k = none → h k = none
theorem Chg.trans {D : Nat → Prop} {a b c : Hp} (x : Chg D a b) (y : Chg D b c) : Chg D a c := ⟨fun k o n e => y.keep k o n (x.keep k o n e), fun k e => x.dom k (y.dom k e)⟩
theorem Chg.of_keep {D : Nat → Prop} {a b : Hp} (k : Keep a b) : Chg D a b := ⟨fun i x _ e => k i x e, k.dom⟩
theorem Chg.one {D : Nat → Prop} {b : Nat} {h h' : Hp} (O : One b h h') (hb : D b) : Chg D h h' := ⟨fun k x n e => O.keep k x (by rintro rfl; exact n hb) e, O.dom⟩
theorem Chg.upd {D : Nat → Prop} {h h' : Hp} {s s' : Sl} (U : Upd h h' s s') (hb : ∀ k o, s.a = some ⟨k, o, none⟩ → D k) : Chg D h h' := ⟨fun k x n e => U.keep k x (fun o hs => n (hb k o hs)) e, U.dom⟩
theorem Chg.ck {D : Nat → Prop} {κ : List Nat} {h h' : Hp} (C : Chg D h h') (hD : ∀ k x, D k → h k = some x → kd x ∈ κ) : Ck κ h h' := ⟨fun k x e n => C.keep k x (fun d => n (hD k x d e)) e, C.dom⟩
theorem buf_kd {h : Hp} {s : Sl} {sz t k o : Nat} {x : Obj} {vs : List Value} (B : Buf h s sz t vs) (hs : s.a = some ⟨k, o, none⟩) (hk : h k = some x) : o = 0 ∧ kd x = t + 2 := by
  rcases B.own with ⟨ha, _⟩ | ⟨b, c, f, ha, hb, _⟩
  · rw [ha] at hs; cases hs
  · rw [ha] at hs
    simp only [Option.some.injEq, Addr.mk.injEq, and_true] at hs
    rw [hs.1, hk] at hb
    cases hb
    exact ⟨hs.2.symm, rfl⟩
section
variable {g h h' : Hp} {sb vb pm cm : Nat} {ps ls : Sl} {xs : List (Sl × List Tab)} {ptrs : List ByteArray}
end
end Go.Eng.Ytbjnlacacapjiaa
end
section
set_option maxRecDepth 100000
namespace Go.Eng.Ytbjnlacacapjiaa
theorem ptrV_length (l : List ByteArray) : (ptrV l).length = l.length := List.length_map _
theorem ptr_one (l : List ByteArray) : ∀ v ∈ ptrV l, Value.oneCell' v = true := fun v hv => by
  unfold ptrV at hv
  obtain ⟨s, _, rfl⟩ := List.mem_map.1 hv
  rfl
theorem new_spec0 {h : Hp} {n : Int} {k : Nat} {Q : Value → Hp → Prop} (hk : n = (k : Int)) (k1 : 1 ≤ k) (k5 : k ≤ 5)
    (hQ : ∀ h' sb vb pm cm ps ls xs, SetA h h' sb vb pm cm ps ls xs (List.replicate k ⟨#[]⟩) → h pm = none → xs.map (·.2) = List.replicate k [] → Q (.pointer (some ⟨sb, 0, none⟩)) h') : F10.T n h Q := by
  subst hk
  have hm : iMin (iMax (k : Int) 1) 5 = (k : Int) := by
    unfold iMin iMax
    by_cases h1 : (k : Int) < 1
    · omega
    · rw [if_neg h1]
      by_cases h5 : 5 < (k : Int)
      · omega
      · rw [if_neg h5]
  unfold F10.T
  rw [hm]
  simp only [Int.toNat_natCast]
  refine ⟨⟨by omega, by omega, by omega⟩, ⟨by omega, by omega, by omega⟩, ⟨by omega, by omega, by omega⟩, fun b hb => ⟨⟨by omega, by omega, by omega⟩, fun b1 hb1 => ⟨⟨by omega, by omega, by omega⟩, fun b2 hb2 => ⟨⟨by omega, by omega, by omega⟩, ⟨by omega, by omega, by omega⟩, fun b3 hb3 b4 hb4 b5 hb5 => ?_⟩⟩⟩⟩
  have K0 := Keep.new hb (.cells (Builtin.zeroCells (List.toArray [.slice none 0 0]) k) 66 (0, 0))
  have B0 := buf_make h b k 66 [.slice none 0 0] (by decide)
  rw [zerosV_one] at B0
  generalize h.new b (.cells (Builtin.zeroCells (List.toArray [.slice none 0 0]) k) 66 (0, 0)) = g0 at *
  have K1 := Keep.new hb1 (.cells ⟨[.slice (some ⟨b, 0, none⟩) k k]⟩ 85 (0, 0))
  have x1 := new_at g0 b1 (.cells ⟨[.slice (some ⟨b, 0, none⟩) k k]⟩ 85 (0, 0))
  generalize g0.new b1 (.cells ⟨[.slice (some ⟨b, 0, none⟩) k k]⟩ 85 (0, 0)) = g1 at *
  have K2 := Keep.new hb2 (.map #[] 0)
  have x2 := new_at g1 b2 (.map #[] 0)
  generalize g1.new b2 (.map #[] 0) = g2 at *
  have K3 := Keep.new hb3 (.cells (Builtin.zeroCells (List.toArray [.string (ByteArray.mk #[])]) k) 9 (0, 0))
  have B3 := buf_make g2 b3 k 9 [.string (ByteArray.mk #[])] (by decide)
  rw [zerosV_one] at B3
  generalize g2.new b3 (.cells (Builtin.zeroCells (List.toArray [.string (ByteArray.mk #[])]) k) 9 (0, 0)) = g3 at *
  have K4 := Keep.new hb4 (.map #[] 0)
  have x4 := new_at g3 b4 (.map #[] 0)
  generalize g3.new b4 (.map #[] 0) = g4 at *
  have K5 := Keep.new hb5 (.cells ⟨[.pointer (some ⟨b1, 0, none⟩), .map (some b2), .slice (some ⟨b3, 0, none⟩) k k, .map (some b4)]⟩ 89 (0, 0))
  have x5 := new_at g4 b5 (.cells ⟨[.pointer (some ⟨b1, 0, none⟩), .map (some b2), .slice (some ⟨b3, 0, none⟩) k k, .map (some b4)]⟩ 89 (0, 0))
  generalize g4.new b5 (.cells ⟨[.pointer (some ⟨b1, 0, none⟩), .map (some b2), .slice (some ⟨b3, 0, none⟩) k k, .map (some b4)]⟩ 89 (0, 0)) = g5 at *
  have K15 := ((K2.trans K3).trans K4).trans K5
  have Kall := (K0.trans K1).trans K15
  have d1 := K0.dom
  have d2 := (K0.trans K1).dom
  have d3 := ((K0.trans K1).trans K2).dom
  have d4 := (((K0.trans K1).trans K2).trans K3).dom
  have d5 := ((((K0.trans K1).trans K2).trans K3).trans K4).dom
  have hmem : ∀ x ∈ List.replicate k ((⟨none, 0, 0⟩ : Sl), ([] : List Tab)), x = ((⟨none, 0, 0⟩ : Sl), ([] : List Tab)) := fun x hx => (List.mem_replicate.1 hx).2
  refine hQ g5 b5 b1 b2 b4 ⟨some ⟨b3, 0, none⟩, k, k⟩ ⟨some ⟨b, 0, none⟩, k, k⟩ (List.replicate k (⟨none, 0, 0⟩, [])) ⟨⟨⟨Kall, .inr ⟨b, rfl, hb⟩, ?_, fun x hx => by rw [hmem x hx]; exact Buf.nil _ _ _, fun x hx => by rw [hmem x hx]; exact .inl rfl, fun i j x y hx _ _ => by rw [hmem x (List.mem_of_getElem? hx)]; exact off_nil (.inl rfl)⟩, d1 _ hb1, K15 _ _ x1⟩, d5 _ hb5, x5, .inr ⟨b3, rfl, d3 _ hb3⟩, ?_, ⟨0, ((K3.trans K4).trans K5) _ _ x2⟩, d4 _ hb4, ⟨#[], 0, K5 _ _ x4, fun e he => by simp at he⟩, ?_⟩ (d2 _ hb2) (by simp)
  · have : slV ((List.replicate k ((⟨none, 0, 0⟩ : Sl), ([] : List Tab))).map (·.1)) = List.replicate k (.slice none 0 0) := by simp [slV]
    rw [this]
    exact (B0.keep K1).keep K15
  · have : ptrV (List.replicate k (⟨#[]⟩ : ByteArray)) = List.replicate k (.string ⟨#[]⟩) := by simp [ptrV]
    rw [this]
    exact B3.keep (K4.trans K5)
  · exact ne_of (K3 _ _ x2) hb4
end Go.Eng.Ytbjnlacacapjiaa
end
section
set_option maxRecDepth 100000
namespace Go.Eng.Ytbjnlacacapjiaa
section
variable {g h : Hp} {sb vb pm cm : Nat} {ps ls : Sl} {xs : List (Sl × List Tab)} {ptrs : List ByteArray} {Q : Value → Hp → Prop}
theorem levels_spec (V : Ver g h vb ls xs) (hQ : Q (.int .i64 (xs.length : Int)) h) : F45.T (some ⟨vb, 0, none⟩) h Q := ⟨vb, 0, rfl, ls, at_of V.v 0, by rw [V.L.len]; exact hQ⟩
end
def plc (i : Int) (t : Tab) : Placed := ⟨i, t.num, t.weight, t.bytes, t.entries, t.least, t.greatest⟩
def wholeM : Nat → Lv → List Placed
  | _, [] => []
  | i, l :: lv => l.map (plc i) ++ wholeM (i + 1) lv
end Go.Eng.Ytbjnlacacapjiaa
end
section
set_option maxRecDepth 100000
namespace Go.Eng.Ytbjnlacacapjiaa
structure Pn where
  b : Nat
  n : Int
  lv : Lv
  i : Nat
def pk (b : Nat) : Value := .pointer (some ⟨b, 0, none⟩)
def Pn.ent (p : Pn) : MapEntry := ⟨pk p.b, .int .i64 p.n, p.i⟩
def ents (L : List Pn) : Array MapEntry := ⟨L.map Pn.ent⟩
theorem kEq_p (a b : Nat) : kEq (pk a) (pk b) = decide (a = b) := by simp [kEq, pk]
theorem pin_idx {p : Pn} {B : List Pn} : ∀ {A : List Pn}, (∀ q ∈ A, q.b ≠ p.b) → ((A ++ p :: B).map Pn.ent).findIdx? (fun e => kEq (pk p.b) e.key) = some A.length
  | [], _ => by
    rw [List.nil_append, List.map_cons, List.findIdx?_cons, show kEq (pk p.b) p.ent.key = true from by rw [show p.ent.key = pk p.b from rfl, kEq_p]; simp, if_pos rfl]; rfl
  | q :: A, h => by
    have hq : kEq (pk p.b) q.ent.key = false := by rw [show q.ent.key = pk q.b from rfl, kEq_p]; simp; exact fun e => h q List.mem_cons_self e.symm
    rw [List.cons_append, List.map_cons, List.findIdx?_cons, hq, if_neg (by simp), pin_idx fun r hr => h r (List.mem_cons_of_mem _ hr)]
    rfl
theorem pin_no {b : Nat} {L : List Pn} (h : ∀ q ∈ L, q.b ≠ b) : (L.map Pn.ent).findIdx? (fun e => kEq (pk b) e.key) = none := by
  rw [List.findIdx?_eq_none_iff]
  intro e he
  obtain ⟨q, hq, rfl⟩ := List.mem_map.1 he
  rw [show q.ent.key = pk q.b from rfl, kEq_p]
  simpa using fun e => h q hq e.symm
theorem pin_get {p : Pn} {A B : List Pn} {z : Value} (hA : ∀ q ∈ A, q.b ≠ p.b) : mget (ents (A ++ p :: B)) (pk p.b) z = .int .i64 p.n := by
  unfold mget ents
  rw [List.map_append, List.map_cons, List.find?_append]
  have h0 : (A.map Pn.ent).find? (fun e => kEq (pk p.b) e.key) = none := by
    rw [List.find?_eq_none]
    intro e he
    obtain ⟨q, hq, rfl⟩ := List.mem_map.1 he
    rw [show q.ent.key = pk q.b from rfl, kEq_p]
    simpa using fun e => hA q hq e.symm
  rw [h0, List.find?_cons_of_pos (by rw [show p.ent.key = pk p.b from rfl, kEq_p]; simp)]
  rfl
theorem pin_get0 {b : Nat} {L : List Pn} {z : Value} (h : ∀ q ∈ L, q.b ≠ b) : mget (ents L) (pk b) z = z := by
  unfold mget ents
  have h0 : (L.map Pn.ent).find? (fun e => kEq (pk b) e.key) = none := by
    rw [List.find?_eq_none]
    intro e he
    obtain ⟨q, hq, rfl⟩ := List.mem_map.1 he
    rw [show q.ent.key = pk q.b from rfl, kEq_p]
    simpa using fun e => h q hq e.symm
  rw [h0]
theorem mod_app {α : Type} {x : α} {B : List α} {f : α → α} : ∀ {A : List α}, (A ++ x :: B).modify A.length f = A ++ f x :: B
  | [] => rfl
  | a :: A => by rw [List.cons_append, List.length_cons, List.modify_succ_cons, mod_app]; rfl
theorem pin_put {p : Pn} {A B : List Pn} {c : Nat} {n : Int} (hA : ∀ q ∈ A, q.b ≠ p.b) : mPut (ents (A ++ p :: B)) c (pk p.b) (.int .i64 n) = .map (ents (A ++ ⟨p.b, n, p.lv, p.i⟩ :: B)) c := by
  unfold mPut
  rw [show (ents (A ++ p :: B)).toList = (A ++ p :: B).map Pn.ent from rfl, pin_idx hA]
  dsimp only
  congr 1
  apply Array.toList_inj.1
  rw [Array.toList_modify]
  show ((A ++ p :: B).map Pn.ent).modify _ _ = (A ++ ⟨p.b, n, p.lv, p.i⟩ :: B).map Pn.ent
  rw [List.map_append, List.map_append, List.map_cons, List.map_cons]
  have : A.length = (A.map Pn.ent).length := by simp
  rw [this, mod_app]
  rfl
theorem pin_put0 {b c : Nat} {L : List Pn} {n : Int} (h : ∀ q ∈ L, q.b ≠ b) (lv : Lv) : mPut (ents L) c (pk b) (.int .i64 n) = .map (ents (L ++ [⟨b, n, lv, c⟩])) (c + 1) := by
  unfold mPut
  rw [show (ents L).toList = L.map Pn.ent from rfl, pin_no h]
  dsimp only
  congr 1
  apply Array.toList_inj.1
  rw [Array.toList_push]
  show L.map Pn.ent ++ _ = (L ++ _).map Pn.ent
  rw [List.map_append]
  rfl
theorem pin_del {p : Pn} {A B : List Pn} (hA : ∀ q ∈ A, q.b ≠ p.b) : mDel (ents (A ++ p :: B)) (pk p.b) = ents (A ++ B) := by
  unfold mDel
  rw [show (ents (A ++ p :: B)).toList = (A ++ p :: B).map Pn.ent from rfl, pin_idx hA]
  dsimp only
  have hi : A.length < (ents (A ++ p :: B)).size := by
    show A.length < ((A ++ p :: B).map Pn.ent).length
    rw [List.length_map, List.length_append, List.length_cons]; omega
  rw [Array.eraseIdxIfInBounds, dif_pos hi]
  apply Array.toList_inj.1
  rw [Array.toList_eraseIdx]
  show ((A ++ p :: B).map Pn.ent).eraseIdx _ = (A ++ B).map Pn.ent
  rw [List.map_append, List.map_append, List.map_cons]
  have : A.length = (A.map Pn.ent).length := by simp
  rw [this, List.eraseIdx_append_of_length_le (Nat.le_refl _), Nat.sub_self]
  rfl
def pcnt (sn : Array Nat) (L : List Pn) (k : Int) : Int := ((L.filter fun p => sn.contains p.i).map fun p => cnt (nums p.lv) k).sum
theorem pcnt_nil (L : List Pn) (k : Int) : pcnt #[] L k = 0 := by
  unfold pcnt; rw [List.filter_eq_nil_iff.2 (by simp)]; rfl
theorem pcnt_other {sn : Array Nat} {j : Nat} {L : List Pn} {k : Int} (h : ∀ p ∈ L, p.i ≠ j) : pcnt (sn.push j) L k = pcnt sn L k := by
  unfold pcnt
  rw [List.filter_congr (q := fun p => sn.contains p.i)]
  intro p hp
  have := h p hp
  simp [this]
theorem pcnt_push {sn : Array Nat} {k : Int} {p : Pn} {A B : List Pn} (hn : ((A ++ p :: B).map (·.i)).Nodup) (hs : sn.contains p.i = false) : pcnt (sn.push p.i) (A ++ p :: B) k = pcnt sn (A ++ p :: B) k + cnt (nums p.lv) k := by
  rw [List.map_append, List.map_cons] at hn
  have hA : ∀ q ∈ A, q.i ≠ p.i := fun q hq e => (List.nodup_append.1 hn).2.2 q.i (List.mem_map_of_mem hq) p.i List.mem_cons_self e
  have hB : ∀ q ∈ B, q.i ≠ p.i := fun q hq e => (List.nodup_cons.1 (List.nodup_append.1 hn).2.1).1 (e ▸ List.mem_map_of_mem (f := (·.i)) hq)
  have e1 := pcnt_other (sn := sn) (k := k) hA
  have e2 := pcnt_other (sn := sn) (k := k) hB
  unfold pcnt at *
  rw [List.filter_append, List.filter_append, List.filter_cons, List.filter_cons, hs, if_pos (by simp), if_neg (by simp), List.map_append, List.map_append, List.sum_append, List.sum_append, List.map_cons, List.sum_cons, e1, e2]
  omega
theorem pcnt_le (sn : Array Nat) (k : Int) {m : Nat} : ∀ (L : List Pn), (∀ p ∈ L, totL p.lv ≤ m) → 0 ≤ pcnt sn L k ∧ pcnt sn L k ≤ ((L.length * m : Nat) : Int)
  | [], _ => by unfold pcnt; simp
  | p :: L, h => by
    obtain ⟨h1, h2⟩ := pcnt_le sn k L fun q hq => h q (List.mem_cons_of_mem _ hq)
    have hp := cnt_le (nums p.lv) k
    rw [nums_len] at hp
    have := h p List.mem_cons_self
    have e : ((p :: L).length * m) = L.length * m + m := by rw [List.length_cons, Nat.add_mul, Nat.one_mul]
    rw [e]
    have e2 : pcnt sn (p :: L) k = (if sn.contains p.i = true then cnt (nums p.lv) k else 0) + pcnt sn L k := by
      unfold pcnt
      rw [List.filter_cons]
      by_cases hc : sn.contains p.i = true
      · rw [if_pos hc, if_pos hc, List.map_cons, List.sum_cons]
      · rw [if_neg hc, if_neg hc]; omega
    rw [e2]
    split <;> omega
def held (now : Lv) (P : List Lv) (k : Int) : Prop := k ∈ nums now ∨ ∃ lv ∈ P, k ∈ nums lv
instance (now : Lv) (P : List Lv) (k : Int) : Decidable (held now P k) := inferInstanceAs (Decidable (_ ∨ _))
theorem pcnt_zero {sn : Array Nat} {L : List Pn} {now : Lv} {k : Int} (h : ∀ p ∈ L, sn.contains p.i = true) : cnt (nums now) k + pcnt sn L k = 0 ↔ ¬ held now (L.map (·.lv)) k := by
  unfold held
  have h1 := cnt_le (nums now) k
  have h2 := cnt_pos (nums now) k
  have key : ∀ (M : List Pn), (∀ p ∈ M, sn.contains p.i = true) → 0 ≤ pcnt sn M k ∧ (0 < pcnt sn M k ↔ ∃ lv ∈ M.map (·.lv), k ∈ nums lv) := by
    intro M
    induction M with
    | nil => intro _; unfold pcnt; simp
    | cons p M ih =>
      intro hM
      obtain ⟨i1, i2⟩ := ih fun q hq => hM q (List.mem_cons_of_mem _ hq)
      have e2 : pcnt sn (p :: M) k = cnt (nums p.lv) k + pcnt sn M k := by
        unfold pcnt
        rw [List.filter_cons, if_pos (hM p List.mem_cons_self), List.map_cons, List.sum_cons]
      have hp := cnt_le (nums p.lv) k
      have hq := cnt_pos (nums p.lv) k
      rw [e2]
      refine ⟨by omega, ⟨fun hlt => ?_, ?_⟩⟩
      · by_cases hc : 0 < cnt (nums p.lv) k
        · exact ⟨p.lv, by simp, hq.1 hc⟩
        · obtain ⟨lv, hl, hk⟩ := i2.1 (by omega)
          exact ⟨lv, by rw [List.map_cons]; exact List.mem_cons_of_mem _ hl, hk⟩
      · rintro ⟨lv, hl, hk⟩
        rw [List.map_cons] at hl
        rcases List.mem_cons.1 hl with rfl | hl
        · have := hq.2 hk; omega
        · have := i2.2 ⟨lv, hl, hk⟩; omega
  obtain ⟨k1, k2⟩ := key L h
  rw [← k2, ← h2]
  omega
def goneM (now : Lv) (P : List Lv) (v : Lv) : List Int := ((nums v).filter fun k => decide (¬ held now P k)).mergeSort fun x y => decide (x ≤ y)
end Go.Eng.Ytbjnlacacapjiaa
end
section
set_option maxRecDepth 100000
namespace Go.Eng.Ytbjnlacacapjiaa
def VerO (g h : Hp) (b : Nat) (lv : Lv) : Prop := ∃ ls xs, Ver g h b ls xs ∧ xs.map (·.2) = lv
theorem VerO.r {g h : Hp} {b : Nat} {lv : Lv} (V : VerO g h b lv) : VerR h b lv := by
  obtain ⟨ls, xs, v, rfl⟩ := V
  exact v.r
theorem VerO.keep {g h h' : Hp} {b : Nat} {lv : Lv} (V : VerO g h b lv) (K : Keep h h') : VerO g h' b lv := by
  obtain ⟨ls, xs, v, e⟩ := V
  exact ⟨ls, xs, v.keep K, e⟩
theorem VerO.ck {κ : List Nat} {g h h' : Hp} {b : Nat} {lv : Lv} (V : VerO g h b lv) (C : Ck κ h h') (K : Keep g h') (x : 68 ∉ κ) (y : 49 ∉ κ) (z : 87 ∉ κ) : VerO g h' b lv := by
  obtain ⟨ls, xs, v, e⟩ := V
  exact ⟨ls, xs, v.ck C K x y z, e⟩
theorem VerO.solid {g h : Hp} {b : Nat} {lv : Lv} (V : VerO g h b lv) : ∃ x, h b = some (.cells ⟨[x]⟩ 85 (0, 0)) := by
  obtain ⟨ls, xs, v, e⟩ := V
  exact ⟨_, v.v⟩
structure SetP (g h : Hp) (sb vb pm cm : Nat) (ps ls : Sl) (xs : List (Sl × List Tab)) (ptrs : List ByteArray) (L : List Pn) : Prop where
  V : Ver g h vb ls xs
  ns : g sb = none
  s : h sb = some (.cells ⟨[.pointer (some ⟨vb, 0, none⟩), .map (some pm), .slice ps.a ps.n ps.c, .map (some cm)]⟩ 89 (0, 0))
  np : NewN g ps
  p : Buf h ps 1 9 (ptrV ptrs)
  nm : g pm = none
  m : ∃ c, h pm = some (.map (ents L) c) ∧ ∀ p ∈ L, p.i < c
  ni : (L.map (·.i)).Nodup
  nb : (L.map (·.b)).Nodup
  pv : ∀ p ∈ L, VerO g h p.b p.lv
  nc : g cm = none
  c : ∃ es c, h cm = some (.map es c) ∧ U64s es
  ne : pm ≠ cm
def DP (sb pm cm : Nat) (ps : Sl) (k : Nat) : Prop := k = sb ∨ k = cm ∨ ps.a = some ⟨k, 0, none⟩ ∨ k = pm
structure SmP (xs : List (Sl × List Tab)) (L : List Pn) : Prop where
  t : totL (xs.map (·.2)) ≤ 5000000
  x5 : xs.length ≤ 5
  l : L.length ≤ 100000
  p : ∀ p ∈ L, totL p.lv ≤ 5000000 ∧ p.lv.length ≤ 5
section
variable {g h h' : Hp} {sb vb pm cm : Nat} {ps ls : Sl} {xs : List (Sl × List Tab)} {ptrs : List ByteArray} {L : List Pn}
theorem SetP.keep (S : SetP g h sb vb pm cm ps ls xs ptrs L) (K : Keep h h') : SetP g h' sb vb pm cm ps ls xs ptrs L := by
  obtain ⟨c, hc, hi⟩ := S.m
  obtain ⟨es, c2, h2, h3⟩ := S.c
  exact ⟨S.V.keep K, S.ns, K _ _ S.s, S.np, S.p.keep K, S.nm, ⟨c, K _ _ hc, hi⟩, S.ni, S.nb, fun p hp => (S.pv p hp).keep K, S.nc, ⟨es, c2, K _ _ h2, h3⟩, S.ne⟩
theorem SetP.one (S : SetP g h sb vb pm cm ps ls xs ptrs L) (O : One cm h h') (hc' : ∃ es c, h' cm = some (.map es c) ∧ U64s es) : SetP g h' sb vb pm cm ps ls xs ptrs L := by
  obtain ⟨c, hc, hi⟩ := S.m
  obtain ⟨es, c2, h2, h3⟩ := S.c
  have C := O.ck h2
  have K := S.V.L.k.one O S.nc
  exact ⟨S.V.ck C K (by simp [kd]) (by simp [kd]) (by simp [kd]), S.ns, O.keep _ _ (ne_kd S.s h2 (by simp [kd])) S.s, S.np, C.buf (by simp [kd]) S.p, S.nm, ⟨c, O.keep _ _ S.ne hc, hi⟩, S.ni, S.nb, fun p hp => (S.pv p hp).ck C K (by simp [kd]) (by simp [kd]) (by simp [kd]), S.nc, hc', S.ne⟩
theorem SetP.dp (S : SetP g h sb vb pm cm ps ls xs ptrs L) : ∀ k x, DP sb pm cm ps k → h k = some x → kd x ∈ [91, 0, 11] := by
  intro k x hd hk
  rcases hd with rfl | rfl | hp | rfl
  · rw [S.s] at hk; cases hk; simp [kd]
  · obtain ⟨es, c2, h2, h3⟩ := S.c
    rw [h2] at hk; cases hk; simp [kd]
  · rw [(buf_kd S.p hp hk).2]; decide
  · obtain ⟨c, hc, hi⟩ := S.m
    rw [hc] at hk; cases hk; simp [kd]
theorem gone_p {vb2 : Nat} {lv2 : Lv} {Q : Value → Hp → Prop} (S : SetP g h sb vb pm cm ps ls xs ptrs L) (V2 : VerR h vb2 lv2) (Z : SmP xs L) (hs2 : totL lv2 ≤ 5000000) (h52 : lv2.length ≤ 5)
    (hQ : ∀ h' (l : Sl), One cm h h' → (∃ es c, h' cm = some (.map es c) ∧ U64s es) → Buf h' l 1 33 (uvs (goneM (xs.map (·.2)) (L.map (·.lv)) lv2)) → NewN h l → Q (.slice l.a l.n l.c) h') : F43.T (some ⟨sb, 0, none⟩) (some ⟨vb2, 0, none⟩) h Q := by
  obtain ⟨es, c, hc, hu⟩ := S.c
  obtain ⟨c1, hm, hi1⟩ := S.m
  refine ⟨sb, 0, rfl, some cm, at_of S.s 3, es, c, hc, sb, 0, rfl, ?_⟩
  show ∃ p2, (h.new cm (.map #[] c)).at sb 0 = _ ∧ _
  have O1 : One cm h (h.new cm (.map #[] c)) := One.new _ (by rw [hc]; simp)
  have hsc : sb ≠ cm := ne_kd S.s hc (by simp [kd])
  have hs1 := O1.keep _ _ hsc S.s
  refine ⟨some ⟨vb, 0, none⟩, at_of hs1 0, sb, 0, rfl, some cm, at_of hs1 3, ?_⟩
  have hc1 := new_at h cm (.map #[] c)
  refine counted_spec (S.V.r.one O1 hc) (Mp.new h cm c) (fun k => ⟨Int.le_refl _, by omega⟩) Z.t (by rw [List.length_map]; exact Z.x5) fun h2 M2 O2 => ?_
  have O12 := O1.trans O2
  have hs2' := O12.keep _ _ hsc S.s
  have hm2 := O12.keep _ _ S.ne hm
  refine ⟨sb, 0, rfl, some pm, at_of hs2' 1, ents L, c1, hm2, fun b4 hb4 => ?_⟩
  have K3 := Keep.new hb4 (.mapIter (some pm) c1 #[] c1)
  have hi := new_at h2 b4 (.mapIter (some pm) c1 #[] c1)
  have hb4h : h b4 = none := O12.dom _ hb4
  have M3 := Mp.keep K3 M2
  have O3 : One cm h (h2.new b4 (.mapIter (some pm) c1 #[] c1)) := O12.trans ⟨fun k x _ e => K3 k x e, K3.dom⟩
  have hbc : b4 ≠ cm := fun e => by subst e; rw [hb4h] at hc; cases hc
  generalize h2.new b4 (.mapIter (some pm) c1 #[] c1) = h3 at hi M3 O3 ⊢
  clear K3 hs2' hm2 M2
  refine ⟨fun hh => ∃ sn, hh b4 = some (.mapIter (some pm) c1 sn c1) ∧ Mp hh cm (fun k => cnt (nums (xs.map (·.2))) k + pcnt sn L k) ∧ One cm h hh, fun hh => match hh b4 with | some (.mapIter _ _ sn _) => (L.filter fun p => !sn.contains p.i).length | _ => 0, ⟨#[], hi, Mp.congr M3 fun k => by rw [pcnt_nil]; omega, O3⟩, ?_⟩
  clear hi M3 O3 h3
  rintro h3 ⟨sn, hi, M3, O3⟩
  have hs3 := O3.keep _ _ hsc S.s
  have hm3 := O3.keep _ _ S.ne hm
  refine ⟨b4, some pm, c1, sn, c1, ents L, c1, rfl, hi, hm3, ?_, ?_, ?_⟩
  · unfold nextOk
    cases L with
    | nil => simp [ents]
    | cons p L' =>
      have := hi1 p List.mem_cons_self
      have hf : (ents (p :: L')).all (fun e => decide (e.born ≥ c1)) = false := by
        rw [← Bool.not_eq_true, Array.all_eq_true_iff_forall_mem]
        intro hall
        have := hall p.ent (by rw [Array.mem_def]; simp [ents])
        simp [Pn.ent] at this
        omega
      rw [hf]; simp
  · intro e he hsn
    obtain ⟨p, hp, rfl⟩ := List.mem_map.1 (show e ∈ L.map Pn.ent from he)
    simp only [show p.ent.born = p.i from rfl] at hsn ⊢
    have hi' := new_at h3 b4 (.mapIter (some pm) c1 (sn.push p.i) c1)
    have O4 : One cm h (h3.new b4 (.mapIter (some pm) c1 (sn.push p.i) c1)) := ⟨fun k x n e => by
        rw [new_ne _ _ (ne_of e hb4h)]; exact O3.keep k x n e, fun k e => by
        by_cases hk : k = b4
        · rw [hk]; exact hb4h
        · rw [new_ne _ _ hk] at e; exact O3.dom k e⟩
    have M4 : Mp (h3.new b4 (.mapIter (some pm) c1 (sn.push p.i) c1)) cm (fun k => cnt (nums (xs.map (·.2))) k + pcnt sn L k) := by
      obtain ⟨es4, c4, m4, m5⟩ := M3
      exact ⟨es4, c4, by rw [new_ne _ _ (Ne.symm hbc)]; exact m4, m5⟩
    have hlt : (L.filter fun q => !(sn.push p.i).contains q.i).length < (L.filter fun q => !sn.contains q.i).length := by
      rw [← List.countP_eq_length_filter, ← List.countP_eq_length_filter]
      obtain ⟨A, B, rfl⟩ := List.append_of_mem hp
      rw [List.countP_append, List.countP_append, List.countP_cons, List.countP_cons]
      have hmono : ∀ M : List Pn, M.countP (fun q => !(sn.push p.i).contains q.i) ≤ M.countP (fun q => !sn.contains q.i) := fun M => List.countP_mono_left fun q _ hq => by
        simp only [Bool.not_eq_true', Array.contains_push, Bool.or_eq_false_iff] at hq ⊢
        exact hq.1
      have hA := hmono A
      have hB := hmono B
      rw [show (!(sn.push p.i).contains p.i) = false by simp, show (!sn.contains p.i) = true by rw [show sn.contains p.i = false from hsn]; rfl]
      simp only [Bool.false_eq_true, if_false, if_true]
      omega
    have hm4 := O4.keep _ _ S.ne hm
    have hs4 := O4.keep _ _ hsc S.s
    generalize h3.new b4 (.mapIter (some pm) c1 (sn.push p.i) c1) = h4 at hi' O4 M4 hm4 hs4 ⊢
    refine ⟨b4, pm, c1, sn.push p.i, ents L, c1, p.i, p.ent, rfl, hi', by simp, hm4, ?_, some ⟨p.b, 0, none⟩, p.n, rfl, sb, 0, rfl, some cm, at_of hs4 3, ?_⟩
    · have hfind : (L.map Pn.ent).find? (fun e => e.born == p.i) = some p.ent := by
        obtain ⟨A, B, e⟩ := List.append_of_mem hp
        have hn := S.ni
        rw [e, List.map_append, List.map_cons] at hn
        rw [e, List.map_append, List.map_cons, List.find?_append]
        have h0 : (A.map Pn.ent).find? (fun e => e.born == p.i) = none := by
          rw [List.find?_eq_none]
          intro x hx
          obtain ⟨q, hq, rfl⟩ := List.mem_map.1 hx
          have : q.i ≠ p.i := fun e => (List.nodup_append.1 hn).2.2 q.i (List.mem_map_of_mem hq) p.i List.mem_cons_self e
          simp [Pn.ent, this]
        rw [h0, List.find?_cons_of_pos (by simp [Pn.ent])]
        rfl
      rw [← hfind, ← Array.find?_toList]
      rfl
    · have hb := pcnt_le sn
      refine counted_spec ((S.pv p hp).r.one O4 hc) M4 (fun k => ?_) (Z.p p hp).1 (Z.p p hp).2 fun h5 M5 O5 => ?_
      · have h1 := pcnt_le sn k (m := 5000000) L fun q hq => (Z.p q hq).1
        have h2 := cnt_le (nums (xs.map (·.2))) k
        rw [nums_len] at h2
        have h3 := Z.t
        have h4 := Z.l
        omega
      · have hi5 := O5.keep _ _ hbc hi'
        refine ⟨⟨sn.push p.i, hi5, Mp.congr M5 fun k => ?_, O4.trans O5⟩, ?_⟩
        · obtain ⟨A, B, e⟩ := List.append_of_mem hp
          have hn := S.ni
          rw [e] at hn ⊢
          rw [pcnt_push hn hsn]; omega
        · rw [hi5, hi]; exact hlt
  intro hall
  have hall' : ∀ p ∈ L, sn.contains p.i = true := fun p hp => hall p.ent (List.mem_map_of_mem hp) (hi1 p hp)
  have hz := fun k => pcnt_zero (now := xs.map (·.2)) (k := k) hall'
  obtain ⟨ls2, xs2, v1, v2, v3, rfl⟩ := V2.one O3 hc
  have hn2 : ls2.n = xs2.length := by have := v2.1; rw [slV_length, List.length_map] at this; omega
  rw [List.length_map] at h52
  obtain ⟨fil, efil⟩ : ∃ fil : Int → Bool, fil = fun k => decide (¬ held (xs.map (·.2)) (L.map (·.lv)) k) := ⟨_, rfl⟩
  have hfil : ∀ k, fil k = true ↔ cnt (nums (xs.map (·.2))) k + pcnt sn L k = 0 := fun k => by rw [efil, decide_eq_true_iff]; exact (hz k).symm
  unfold goneM at hQ
  rw [← efil] at hQ
  clear hz efil hall hall'
  refine ⟨vb2, 0, rfl, ls2, at_of v1 0, fun l1 n1 h4 => ∃ P R, xs2 = P ++ R ∧ n1 = (P.length : Int) ∧ Buf h4 l1 1 33 (uvs ((nums (P.map (·.2))).filter fil)) ∧ NewN h3 l1 ∧ Keep h3 h4, fun _ n1 _ => xs2.length - n1.toNat, ⟨[], xs2, rfl, rfl, Buf.nil _ _ _, .inl rfl, Keep.refl _⟩, ?_⟩
  rintro l1 n1 h4 ⟨P, R, rfl, rfl, B4, N4, K4⟩
  rw [List.length_append] at hn2 h52
  have htot : totL (P.map (·.2)) + totL (R.map (·.2)) ≤ 5000000 := by
    unfold totL at hs2 ⊢
    rw [List.map_append, List.map_append, List.sum_append] at hs2
    exact hs2
  have hl4 := B4.len
  rw [uvs_len] at hl4
  have hf4 := List.length_filter_le fil (nums (P.map (·.2)))
  rw [nums_len] at hf4
  refine ⟨fun hlt => ?_, fun hge => ?_⟩
  · rcases R with _ | ⟨x, R⟩
    · exact absurd hlt (by simp at hn2; omega)
    rw [List.length_cons] at hn2 h52
    obtain ⟨_, b1, o1, ha1, hat1⟩ := rows_rd (K4.row v2) (i := P.length) (x := x) (by simp)
    have htx := v3 x (by simp)
    have hxn : x.1.n = x.2.length := by have := htx.1; rw [tabV_len] at this; omega
    have hxt : totL ((x :: R).map (·.2)) = x.2.length + totL (R.map (·.2)) := by simp [totL]
    refine ⟨b1, o1, ha1, ⟨by omega, hlt⟩, x.1, by rw [Int.toNat_natCast]; exact hat1, fun l3 n2 h5 => ∃ A B, x.2 = A ++ B ∧ n2 = (A.length : Int) ∧ Buf h5 l3 1 33 (uvs ((nums (P.map (·.2)) ++ A.map Tab.num).filter fil)) ∧ NewN h3 l3 ∧ Keep h3 h5, fun _ n2 _ => x.2.length - n2.toNat, ⟨[], x.2, rfl, rfl, by simpa using B4, N4, K4⟩, ?_⟩
    rintro l3 n2 h5 ⟨A, B, eAB, rfl, B5, N5, K5⟩
    have hl5 := B5.len
    rw [uvs_len] at hl5
    have hf5 := List.length_filter_le fil (nums (P.map (·.2)) ++ A.map Tab.num)
    rw [List.length_append, nums_len, List.length_map] at hf5
    refine ⟨fun hlt1 => ?_, fun hge1 => ?_⟩
    · rcases B with _ | ⟨t, B⟩
      · exact absurd hlt1 (by rw [hxn, eAB]; simp)
      rw [eAB] at htx
      have eL : x.2.length = A.length + (B.length + 1) := by rw [eAB, List.length_append, List.length_cons]
      refine tab_rd (K5.row htx) rfl fun b2 o2 => ?_
      refine ⟨sb, 0, rfl, some cm, at_of (K5 _ _ (O3.keep _ _ hsc S.s)) 3, ?_⟩
      refine Mp.get (Mp.keep K5 M3) t.num fun es4 c4 => ⟨fun h0 => ?_, fun h0 => ?_⟩
      · refine append_buf B5 rfl rfl (by omega) fun l4 h6 B6 hl6 U6 => ?_
        obtain ⟨K6, N6⟩ := N5.upd K5 U6
        rw [next_i (n := 5100000) (by omega) (by omega)]
        refine ⟨⟨A ++ [t], B, by rw [eAB]; simp, by simp, ?_, N6, K6⟩, by (try dsimp only); rw [eL]; omega⟩
        have e : (nums (P.map (·.2)) ++ (A ++ [t]).map Tab.num).filter fil = (nums (P.map (·.2)) ++ A.map Tab.num).filter fil ++ [t.num] := by
          rw [List.map_append, ← List.append_assoc, List.filter_append]
          congr 1
          rw [List.map_cons, List.map_nil, List.filter_cons, if_pos ((hfil t.num).2 h0)]; rfl
        rw [e]
        unfold uvs at B6 ⊢; rw [List.map_append]; exact B6
      · rw [next_i (n := 5100000) (by omega) (by omega)]
        refine ⟨⟨A ++ [t], B, by rw [eAB]; simp, by simp, ?_, N5, K5⟩, by (try dsimp only); rw [eL]; omega⟩
        have e : (nums (P.map (·.2)) ++ (A ++ [t]).map Tab.num).filter fil = (nums (P.map (·.2)) ++ A.map Tab.num).filter fil := by
          rw [List.map_append, ← List.append_assoc, List.filter_append, List.map_cons, List.map_nil, List.filter_cons, if_neg (fun h => h0 ((hfil t.num).1 h))]
          exact List.append_nil _
        rw [e]; exact B5
    · have hB : B = [] := List.eq_nil_of_length_eq_zero (by have := congrArg List.length eAB; rw [List.length_append] at this; omega)
      subst hB
      rw [List.append_nil] at eAB
      rw [next_i (n := 100) (by omega) (by omega)]
      refine ⟨⟨P ++ [x], R, by simp, by simp, ?_, N5, K5⟩, by (try dsimp only); rw [List.length_append, List.length_cons]; omega⟩
      rw [List.map_append, nums_app, List.map_cons, List.map_nil, nums_one, eAB]; exact B5
  · have hR : R = [] := List.eq_nil_of_length_eq_zero (by omega)
    subst hR
    rw [List.append_nil] at hQ
    refine sort_s B4 (by omega) fun h7 B7 U7 => ?_
    obtain ⟨K7, N7⟩ := N4.upd K4 U7
    obtain ⟨es7, c7, e7, u7, _⟩ := Mp.keep K7 M3
    exact hQ h7 l1 (O3.trans ⟨fun k x _ e => K7 k x e, K7.dom⟩) ⟨es7, c7, e7, u7⟩ B7 (N7.mono O3.dom)
end
end Go.Eng.Ytbjnlacacapjiaa
end
section
set_option maxRecDepth 100000
namespace Go.Eng.Ytbjnlacacapjiaa
section
variable {g h h' : Hp} {sb vb pm cm : Nat} {ps ls : Sl} {xs : List (Sl × List Tab)} {ptrs : List ByteArray} {L : List Pn}
theorem SetP.keys (S : SetP g h sb vb pm cm ps ls xs ptrs L) {b : Nat} {x : Value} (hb : h b = some (.cells ⟨[x]⟩ 85 (0, 0))) : keysP h (pk b) (ents L) := by
  intro e he
  obtain ⟨p, hp, rfl⟩ := List.mem_map.1 (show e ∈ L.map Pn.ent from he)
  refine ⟨some ⟨p.b, 0, none⟩, rfl, fun a a' e1 e2 _ => ?_⟩
  cases e1
  cases e2
  obtain ⟨y, hy⟩ := (S.pv p hp).solid
  exact ⟨⟨_, _, hb, by simp⟩, ⟨_, _, hy, by simp⟩⟩
theorem SetP.put (S : SetP g h sb vb pm cm ps ls xs ptrs L) {L' : List Pn} {c' : Nat} (hi : ∀ p ∈ L', p.i < c') (ni : (L'.map (·.i)).Nodup) (nb : (L'.map (·.b)).Nodup) (pv : ∀ p ∈ L', VerO g h p.b p.lv) :
    SetP g (h.new pm (.map (ents L') c')) sb vb pm cm ps ls xs ptrs L' ∧ One pm h (h.new pm (.map (ents L') c')) := by
  obtain ⟨c, hc, _⟩ := S.m
  obtain ⟨es, c2, h2, h3⟩ := S.c
  have O : One pm h (h.new pm (.map (ents L') c')) := One.new _ (by rw [hc]; simp)
  have C := O.ck hc
  have K := S.V.L.k.one O S.nm
  exact ⟨⟨S.V.ck C K (by simp [kd]) (by simp [kd]) (by simp [kd]), S.ns, O.keep _ _ (ne_kd S.s hc (by simp [kd])) S.s, S.np, C.buf (by simp [kd]) S.p, S.nm, ⟨c', new_at _ _ _, hi⟩, ni, nb, fun p hp => (pv p hp).ck C K (by simp [kd]) (by simp [kd]) (by simp [kd]), S.nc, ⟨es, c2, O.keep _ _ (Ne.symm S.ne) h2, h3⟩, S.ne⟩, O⟩
def PinR (L : List Pn) (vb : Nat) (lv : Lv) (L' : List Pn) : Prop :=
  (∃ A p B, L = A ++ p :: B ∧ p.b = vb ∧ L' = A ++ ⟨p.b, p.n + 1, p.lv, p.i⟩ :: B) ∨ ((∀ q ∈ L, q.b ≠ vb) ∧ ∃ i, L' = L ++ [⟨vb, 1, lv, i⟩])
theorem nodup_ne {L A B : List Pn} {p : Pn} (hn : (L.map (·.b)).Nodup) (e : L = A ++ p :: B) : ∀ q ∈ A, q.b ≠ p.b := by
  rw [e, List.map_append, List.map_cons] at hn
  exact fun q hq e => (List.nodup_append.1 hn).2.2 q.b (List.mem_map_of_mem hq) p.b List.mem_cons_self e
theorem pin_p {Q : Value → Hp → Prop} (S : SetP g h sb vb pm cm ps ls xs ptrs L) (hn : ∀ p ∈ L, 1 ≤ p.n ∧ p.n ≤ 1000000)
    (hQ : ∀ h' L', One pm h h' → SetP g h' sb vb pm cm ps ls xs ptrs L' → PinR L vb (xs.map (·.2)) L' → Q (.pointer (some ⟨vb, 0, none⟩)) h') : F16.T (some ⟨sb, 0, none⟩) h Q := by
  obtain ⟨c, hc, hi⟩ := S.m
  have hk := S.keys S.V.v
  refine ⟨sb, 0, rfl, some pm, at_of S.s 1, sb, 0, rfl, some ⟨vb, 0, none⟩, at_of S.s 0, ents L, c, hc, hk, ?_⟩
  by_cases hex : ∃ p ∈ L, p.b = vb
  · obtain ⟨p, hp, rfl⟩ := hex
    obtain ⟨A, B, e⟩ := List.append_of_mem hp
    have hA := nodup_ne S.nb e
    have hpn := hn p hp
    have hi' : ∀ q ∈ A ++ ⟨p.b, p.n + 1, p.lv, p.i⟩ :: B, q.i < c := fun q hq => by
      rw [List.mem_append, List.mem_cons] at hq
      rcases hq with hq | rfl | hq
      · exact hi q (by rw [e]; simp [hq])
      · exact hi p hp
      · exact hi q (by rw [e]; simp [hq])
    obtain ⟨S', O⟩ := S.put (L' := A ++ ⟨p.b, p.n + 1, p.lv, p.i⟩ :: B) (c' := c) hi' (by have := S.ni; rw [e] at this; simpa using this) (by have := S.nb; rw [e] at this; simpa using this) (fun q hq => by
      rw [List.mem_append, List.mem_cons] at hq
      rcases hq with hq | rfl | hq
      · exact S.pv q (by rw [e]; simp [hq])
      · exact S.pv p hp
      · exact S.pv q (by rw [e]; simp [hq]))
    refine ⟨p.n, by rw [e]; exact pin_get hA, pm, ents L, c, rfl, hc, hk, ?_⟩
    rw [show mPut (ents L) c (.pointer (some ⟨p.b, 0, none⟩)) (.int .i64 (IntKind.wrap .i64 (p.n + 1))) = .map (ents (A ++ ⟨p.b, p.n + 1, p.lv, p.i⟩ :: B)) c from by rw [wrap_i64 (by omega) (by omega), e]; exact pin_put hA]
    exact ⟨sb, 0, rfl, _, at_of S'.s 0, hQ _ _ O S' (.inl ⟨A, p, B, e, rfl, rfl⟩)⟩
  · have hno : ∀ q ∈ L, q.b ≠ vb := fun q hq e => hex ⟨q, hq, e⟩
    obtain ⟨S', O⟩ := S.put (L' := L ++ [⟨vb, 1, xs.map (·.2), c⟩]) (c' := c + 1) (fun q hq => by
      rw [List.mem_append, List.mem_singleton] at hq
      rcases hq with hq | rfl
      · exact Nat.lt_succ_of_lt (hi q hq)
      · exact Nat.lt_succ_self c) (by
      rw [List.map_append, List.map_cons, List.map_nil, List.nodup_append]
      refine ⟨S.ni, by simp, ?_⟩
      intro a ha b hb
      obtain ⟨q, hq, rfl⟩ := List.mem_map.1 ha
      rw [List.mem_singleton] at hb
      subst hb
      exact Nat.ne_of_lt (hi q hq)) (by
      rw [List.map_append, List.map_cons, List.map_nil, List.nodup_append]
      refine ⟨S.nb, by simp, ?_⟩
      intro a ha b hb
      obtain ⟨q, hq, rfl⟩ := List.mem_map.1 ha
      rw [List.mem_singleton] at hb
      subst hb
      exact hno q hq) (fun q hq => by
      rw [List.mem_append, List.mem_singleton] at hq
      rcases hq with hq | rfl
      · exact S.pv q hq
      · exact ⟨ls, xs, S.V, rfl⟩)
    refine ⟨0, pin_get0 hno, pm, ents L, c, rfl, hc, hk, ?_⟩
    rw [show mPut (ents L) c (.pointer (some ⟨vb, 0, none⟩)) (.int .i64 (IntKind.wrap .i64 (0 + 1))) = .map (ents (L ++ [⟨vb, 1, xs.map (·.2), c⟩])) (c + 1) from pin_put0 hno _]
    exact ⟨sb, 0, rfl, _, at_of S'.s 0, hQ _ _ O S' (.inr ⟨hno, c, rfl⟩)⟩
def UnpinR (L : List Pn) (b : Nat) (L' : List Pn) : Prop :=
  ∃ A p B, L = A ++ p :: B ∧ p.b = b ∧ ((p.n = 1 ∧ L' = A ++ B) ∨ (1 < p.n ∧ L' = A ++ ⟨p.b, p.n - 1, p.lv, p.i⟩ :: B))
theorem unpin_p {b : Nat} {lv : Lv} {Q : Value → Hp → Prop} (S : SetP g h sb vb pm cm ps ls xs ptrs L) (V2 : VerO g h b lv) (Z : SmP xs L) (hn : ∀ p ∈ L, 1 ≤ p.n ∧ p.n ≤ 1000000) (hs : totL lv ≤ 5000000) (h5 : lv.length ≤ 5)
    (h0 : (∀ q ∈ L, q.b ≠ b) → Q (.slice none 0 0) h)
    (hQ : ∀ h' L' (l : Sl), Chg (fun k => k = pm ∨ k = cm) h h' → SetP g h' sb vb pm cm ps ls xs ptrs L' → UnpinR L b L' → Buf h' l 1 33 (uvs (goneM (xs.map (·.2)) (L'.map (·.lv)) lv)) → NewN h l → VerO g h' b lv → Q (.slice l.a l.n l.c) h') : F17.T (some ⟨sb, 0, none⟩) (some ⟨b, 0, none⟩) h Q := by
  unfold F17.T F17.G
  obtain ⟨c, hc, hi⟩ := S.m
  obtain ⟨x, hx⟩ := V2.solid
  have hk := S.keys hx
  refine ⟨sb, 0, rfl, some pm, at_of S.s 1, ents L, c, hc, hk, ?_⟩
  by_cases hex : ∃ p ∈ L, p.b = b
  · obtain ⟨p, hp, rfl⟩ := hex
    obtain ⟨A, B, e⟩ := List.append_of_mem hp
    have hA := nodup_ne S.nb e
    have hpn := hn p hp
    have hg : mget (ents L) (pk p.b) (.int .i64 0) = .int .i64 p.n := by rw [e]; exact pin_get hA
    refine ⟨p.n, hg, fun h0 => absurd h0 (by omega), fun _ => ⟨fun h1 => ?_, fun h1 => ?_⟩⟩
    · obtain ⟨S', O⟩ := S.put (L' := A ++ B) (c' := c) (fun q hq => hi q (by rw [e]; rcases List.mem_append.1 hq with hq | hq <;> simp [hq])) (by have := S.ni; rw [e] at this; refine this.sublist ?_; simp) (by have := S.nb; rw [e] at this; refine this.sublist ?_; simp) (fun q hq => S.pv q (by rw [e]; rcases List.mem_append.1 hq with hq | hq <;> simp [hq]))
      refine ⟨sb, 0, rfl, some pm, at_of S.s 1, ents L, c, hc, hk, ?_⟩
      rw [show mDel (ents L) (.pointer (some ⟨p.b, 0, none⟩)) = ents (A ++ B) from by rw [e]; exact pin_del hA]
      show F43.T _ _ (h.new pm (.map (ents (A ++ B)) c)) _
      have V3 : VerO g (h.new pm (.map (ents (A ++ B)) c)) p.b lv := V2.ck (O.ck hc) (S.V.L.k.one O S.nm) (by simp [kd]) (by simp [kd]) (by simp [kd])
      have Z' : SmP xs (A ++ B) := ⟨Z.t, Z.x5, by have := Z.l; rw [e, List.length_append, List.length_cons] at this; rw [List.length_append]; omega, fun q hq => Z.p q (by rw [e]; rcases List.mem_append.1 hq with hq | hq <;> simp [hq])⟩
      refine gone_p S' V3.r Z' hs h5 fun h2 l O2 c2 B2 N2 => ⟨l, rfl, ?_⟩
      obtain ⟨es3, c3, hc3, _⟩ := S'.c
      have V4 := V3.ck (O2.ck hc3) (S'.V.L.k.one O2 S'.nc) (by simp [kd]) (by simp [kd]) (by simp [kd])
      exact hQ h2 (A ++ B) l ((Chg.one O (.inl rfl)).trans (Chg.one O2 (.inr rfl))) (S'.one O2 c2) ⟨A, p, B, e, rfl, .inl ⟨h1, rfl⟩⟩ B2 (N2.mono O.dom) V4
    · have hi' : ∀ q ∈ A ++ ⟨p.b, p.n - 1, p.lv, p.i⟩ :: B, q.i < c := fun q hq => by
        rw [List.mem_append, List.mem_cons] at hq
        rcases hq with hq | rfl | hq
        · exact hi q (by rw [e]; simp [hq])
        · exact hi p hp
        · exact hi q (by rw [e]; simp [hq])
      have hm : ∀ {P : Pn → Prop}, (∀ q ∈ L, P q) → P ⟨p.b, p.n - 1, p.lv, p.i⟩ → ∀ q ∈ A ++ ⟨p.b, p.n - 1, p.lv, p.i⟩ :: B, P q := fun hP hp' q hq => by
        rw [List.mem_append, List.mem_cons] at hq
        rcases hq with hq | rfl | hq
        · exact hP q (by rw [e]; simp [hq])
        · exact hp'
        · exact hP q (by rw [e]; simp [hq])
      obtain ⟨S', O⟩ := S.put (L' := A ++ ⟨p.b, p.n - 1, p.lv, p.i⟩ :: B) (c' := c) hi' (by have := S.ni; rw [e] at this; simpa using this) (by have := S.nb; rw [e] at this; simpa using this) (hm S.pv (S.pv p hp))
      refine ⟨sb, 0, rfl, some pm, at_of S.s 1, ents L, c, hc, hk, p.n, hg, pm, ents L, c, rfl, hc, hk, ?_⟩
      rw [show mPut (ents L) c (.pointer (some ⟨p.b, 0, none⟩)) (.int .i64 (IntKind.wrap .i64 (p.n - 1))) = .map (ents (A ++ ⟨p.b, p.n - 1, p.lv, p.i⟩ :: B)) c from by rw [wrap_i64 (by omega) (by omega), e]; exact pin_put hA]
      have V3 : VerO g (h.new pm (.map (ents (A ++ ⟨p.b, p.n - 1, p.lv, p.i⟩ :: B)) c)) p.b lv := V2.ck (O.ck hc) (S.V.L.k.one O S.nm) (by simp [kd]) (by simp [kd]) (by simp [kd])
      have Z' : SmP xs (A ++ ⟨p.b, p.n - 1, p.lv, p.i⟩ :: B) := ⟨Z.t, Z.x5, by have := Z.l; rw [e, List.length_append, List.length_cons] at this; rw [List.length_append, List.length_cons]; omega, hm Z.p (Z.p p hp)⟩
      refine gone_p S' V3.r Z' hs h5 fun h2 l O2 c2 B2 N2 => ⟨l, rfl, ?_⟩
      obtain ⟨es3, c3, hc3, _⟩ := S'.c
      have V4 := V3.ck (O2.ck hc3) (S'.V.L.k.one O2 S'.nc) (by simp [kd]) (by simp [kd]) (by simp [kd])
      exact hQ h2 _ l ((Chg.one O (.inl rfl)).trans (Chg.one O2 (.inr rfl))) (S'.one O2 c2) ⟨A, p, B, e, rfl, .inr ⟨by omega, rfl⟩⟩ B2 (N2.mono O.dom) V4
  · have hno : ∀ q ∈ L, q.b ≠ b := fun q hq e => hex ⟨q, hq, e⟩
    exact ⟨0, pin_get0 hno, fun _ => h0 hno, fun h1 => absurd rfl h1⟩
theorem new_p {h : Hp} {n : Int} {Q : Value → Hp → Prop} {k : Nat} (hk : (k : Int) = iMin (iMax n 1) 5)
    (hQ : ∀ h' sb vb pm cm ps ls xs, SetP h h' sb vb pm cm ps ls xs (List.replicate k ⟨#[]⟩) [] → xs.map (·.2) = List.replicate k [] → Q (.pointer (some ⟨sb, 0, none⟩)) h') : F10.T n h Q := by
  have k1 : 1 ≤ k ∧ k ≤ 5 := by
    unfold iMin iMax at hk
    split at hk <;> split at hk <;> omega
  have e : iMin (iMax (k : Int) 1) 5 = iMin (iMax n 1) 5 := by
    rw [← hk]
    unfold iMin iMax
    split <;> split <;> omega
  have := new_spec0 (h := h) (n := (k : Int)) (k := k) (Q := Q) rfl k1.1 k1.2 fun h' sb vb pm cm ps ls xs S hpm e => by
    obtain ⟨c, hc⟩ := S.m
    exact hQ h' sb vb pm cm ps ls xs ⟨S.V, S.ns, S.s, S.np, S.p, hpm, ⟨c, hc, fun p hp => by cases hp⟩, by simp, by simp, fun p hp => (by cases hp), S.nc, S.c, S.ne⟩ e
  unfold F10.T at this ⊢
  rw [e] at this
  exact this
theorem apply_p {l l1 l2 : Sl} {e : Edit} {a b c : Int} {Q : Value → Hp → Prop}
    (S : SetP g h sb vb pm cm ps ls xs ptrs L) (Eh : EdAt h e l l1 l2) (hE : ∀ h9 : Hp, (∀ k x, k ≠ sb → h k = some x → h9 k = some x) → h9.row l2.a l2.n (ptrV e.ptr)) (hp : ptrs.length = xs.length) (h1 : 1 ≤ xs.length) (h5 : xs.length ≤ 5) (hs : totL (xs.map (·.2)) + e.inn.length ≤ 4000000) (ho : e.out.length ≤ 4000000) (hL : L.length ≤ 100000) (hLp : ∀ p ∈ L, totL p.lv ≤ 5000000 ∧ p.lv.length ≤ 5)
    (hQ : ∀ h' c (r : Sl) vb' ls' xs' ptrs', Chg (DP sb pm cm ps) h h' → SetP g h' sb vb' pm cm ps ls' xs' ptrs' L → Res (xs.map (·.2)) e c (xs'.map (·.2)) → (c = 0 → ptrs' = e.ptr ∧ h vb' = none ∧ Buf h' r 1 33 (uvs (goneM (xs'.map (·.2)) (L.map (·.lv)) (xs.map (·.2)))) ∧ NewN h r) → (c ≠ 0 → vb' = vb ∧ xs' = xs ∧ ptrs' = ptrs ∧ Keep h h' ∧ r = ⟨none, 0, 0⟩) → Q (.tuple ⟨[.slice r.a r.n r.c, .int .i64 c]⟩) h') : F13.T (some ⟨sb, 0, none⟩) a b c l l1 l2 h Q := by
  have hl2 : l2.n = e.ptr.length := by have := Eh.ptr.1; rw [ptrV_length] at this; omega
  have hln := S.V.L.len
  refine ⟨sb, 0, rfl, some ⟨vb, 0, none⟩, at_of S.s 0, vb, 0, rfl, ls, at_of S.V.v 0, fun hlen => ?_, fun hlen => ?_⟩
  · have hpl : e.ptr.length = (xs.map (·.2)).length := by rw [List.length_map]; omega
    refine ⟨sb, 0, rfl, some ⟨vb, 0, none⟩, at_of S.s 0, ?_⟩
    refine copied_ver S.V.r (by rw [List.length_map]; exact h5) (by omega) fun h1 vb1 ls1 xs1 V1 e1 => ⟨some ⟨vb1, 0, none⟩, rfl, ?_⟩
    have hx1l : xs1.length = xs.length := by have := congrArg List.length e1; simpa using this
    refine out_spec V1 Eh.out (by rw [e1]; omega) (by omega) fun h2 xs2 V2 C2 e2 => ⟨_, rfl, fun hc => ?_, fun hc => ?_⟩
    · rw [e1] at hc e2
      have so := outM_sum e.out (xs.map (·.2))
      have hx2l : xs2.length = xs.length := by have := congrArg List.length e2; rw [List.length_map, so.2.1, List.length_map] at this; exact this
      refine in_spec V2 Eh.inn (by rw [e2]; omega) (by omega) (by omega) fun h3 c3 xs3 V3 C3 r3 => ⟨c3, rfl, fun hc3 => ?_, fun hc3 => ?_⟩
      · subst hc3
        have S3 := S.keep V3.L.k
        have V3g := V3.base S.V.L.k
        have hR : Res (xs.map (·.2)) e 0 (xs3.map (·.2)) := by
          unfold Res
          rw [if_pos hpl, if_pos hc]
          unfold InR at r3
          rw [e2] at r3
          exact r3
        refine ⟨sb, 0, rfl, some ⟨vb, 0, none⟩, at_of S3.s 0, sb, 0, rfl, canW_new S3.s (by simp), sb, 0, rfl, ?_⟩
        have C4 : Ck [91] h3 (h3.wr sb 0 [.pointer (some ⟨vb1, 0, none⟩)]) := Ck.wr S3.s
        have K4 : Keep g (h3.wr sb 0 [.pointer (some ⟨vb1, 0, none⟩)]) := V3g.L.k.wr S.ns _ _
        have s4 := wr_at (o := 0) (vs := [.pointer (some ⟨vb1, 0, none⟩)]) S3.s
        have Cg4 : Chg (DP sb pm cm ps) h (h3.wr sb 0 [.pointer (some ⟨vb1, 0, none⟩)]) := by
          refine (Chg.of_keep V3.L.k).trans ⟨fun k x n ek => ?_, C4.dom⟩
          unfold Hp.wr
          rw [if_neg (fun hk => n (.inl hk))]; exact ek
        have r4 := hE (h3.wr sb 0 [.pointer (some ⟨vb1, 0, none⟩)]) fun k x n ek => by
          unfold Hp.wr
          rw [if_neg n]; exact V3.L.k k x ek
        have V4 := V3g.ck C4 K4 (by decide) (by decide) (by decide)
        have Vo4 := S3.V.ck C4 K4 (by decide) (by decide) (by decide)
        have P4 : ∀ p ∈ L, VerO g (h3.wr sb 0 [.pointer (some ⟨vb1, 0, none⟩)]) p.b p.lv := fun p hp => (S3.pv p hp).ck C4 K4 (by decide) (by decide) (by decide)
        have p4 := C4.buf (by decide) S3.p
        obtain ⟨cp, hcp, hcl⟩ := S3.m
        have m4 := C4.keep _ _ hcp (by simp [kd])
        obtain ⟨es, ce, hce, hue⟩ := S3.c
        have c4 := C4.keep _ _ hce (by simp [kd])
        clear C4
        generalize h3.wr sb 0 [.pointer (some ⟨vb1, 0, none⟩)] = h4 at K4 s4 Cg4 V4 Vo4 p4 m4 c4 P4 r4 ⊢
        have hpn : ps.n = ptrs.length := by have := p4.len; rw [ptrV_length] at this; omega
        have hmin : Nat.min l2.n ps.n = l2.n := Nat.min_eq_left (by omega)
        refine ⟨ps, at_of s4 2, ptrV e.ptr, ?_⟩
        rw [hmin, Nat.mul_one]
        obtain ⟨bp, hbp⟩ := buf_b p4 (by rw [ptrV_length]; omega)
        obtain ⟨w5, U5, B5⟩ := bufWr' (A := []) (U := ptrV ptrs) (V := ptrV e.ptr) (B := []) (by rw [List.nil_append, List.append_nil]; exact p4) (by rw [ptrV_length, ptrV_length]; omega) hbp
        simp only [List.nil_append, List.append_nil, List.length_nil] at w5 U5 B5
        rw [← hbp] at w5 U5 B5
        refine ⟨r4, ptr_one _, w5, ?_⟩
        have C5 : Ck [11] h4 (h4.wrA ps.a (ptrV e.ptr)) := Ck.of_upd p4 U5
        have K5 := (S.np.upd K4 U5).1
        have S5 : SetP g (h4.wrA ps.a (ptrV e.ptr)) sb vb1 pm cm ps ls1 xs3 e.ptr L := ⟨V4.ck C5 K5 (by decide) (by decide) (by decide), S.ns, C5.keep _ _ s4 (show 91 ∉ [11] by decide), S.np, B5, S.nm, ⟨cp, C5.keep _ _ m4 (show 0 ∉ [11] by decide), hcl⟩, S.ni, S.nb, fun p hp => (P4 p hp).ck C5 K5 (by decide) (by decide) (by decide), S.nc, ⟨es, ce, C5.keep _ _ c4 (show 0 ∉ [11] by decide), hue⟩, S.ne⟩
        have Vo5 := Vo4.ck C5 K5 (by decide) (by decide) (by decide)
        have Cg5 : Chg (DP sb pm cm ps) h (h4.wrA ps.a (ptrV e.ptr)) := Cg4.trans (Chg.upd U5 fun k o hk => .inr (.inr (.inl (by rw [hbp] at hk ⊢; simp only [Option.some.injEq, Addr.mk.injEq, and_true] at hk; rw [hk.1]))))
        obtain ⟨_, l2', hS, hT2, hl2', _⟩ := hR.ok
        have t3 : totL (xs3.map (·.2)) ≤ 5000000 := by rw [hS.totL]; omega
        have n3 : xs3.length = xs.length := by have := hS.1; rw [List.length_map, hl2', List.length_map] at this; exact this
        refine gone_p S5 Vo5.r ⟨t3, by omega, hL, hLp⟩ (by omega) (by rw [List.length_map]; exact h5) fun h6 r O6 c6 B6 N6 => ⟨r, rfl, ?_⟩
        exact hQ h6 0 r vb1 ls1 xs3 e.ptr (Cg5.trans (Chg.one O6 (.inr (.inl rfl)))) (S5.one O6 c6) hR (fun _ => ⟨rfl, V3.nv, B6, N6.mono Cg5.dom⟩) (fun h0 => absurd rfl h0)
      · refine hQ h3 c3 ⟨none, 0, 0⟩ vb ls xs ptrs (Chg.of_keep V3.L.k) (S.keep V3.L.k) ?_ (fun h0 => absurd h0 hc3) (fun _ => ⟨rfl, rfl, rfl, V3.L.k, rfl⟩)
        unfold Res
        rw [if_pos hpl, if_pos hc]
        unfold InR at r3
        rw [e2] at r3
        split
        · next h0 =>
          rw [if_pos h0] at r3
          exact r3.imp id fun k => absurd k.1 hc3
        · next h0 => rw [if_neg h0] at r3; exact r3
    · rw [e1] at hc
      rw [e1]
      refine hQ h2 _ ⟨none, 0, 0⟩ vb ls xs ptrs (Chg.of_keep V2.L.k) (S.keep V2.L.k) ?_ (fun h0 => absurd h0 hc) (fun _ => ⟨rfl, rfl, rfl, V2.L.k, rfl⟩)
      unfold Res
      rw [if_pos hpl, if_neg hc]
  · refine hQ h 133 ⟨none, 0, 0⟩ vb ls xs ptrs (Chg.of_keep (Keep.refl h)) S ?_ (fun h0 => absurd h0 (by decide)) (fun _ => ⟨rfl, rfl, rfl, Keep.refl h, rfl⟩)
    unfold Res
    rw [if_neg (by rw [List.length_map]; omega)]
end
end Go.Eng.Ytbjnlacacapjiaa
end
section
set_option maxRecDepth 100000
open Go.Proofs
namespace Go.Eng.Ytbjnlacacapjiaa
def F39.T (p : Option Addr) : PT := fun h Q =>
  dr p fun b o => ldI .i64 h b o fun n => par ((0 : Int) ≤ n) (Q (.bool true) h) (Q (.bool false) h)
theorem F39.den (V p) : denF Try.prog [] [] V [] Try.f39 [.v (.pointer p)] = F39.T p := by kernel_rfl
def F39.W (T39 : Option Addr → PT) (args : List Value) : PT := match args with
  | [.pointer p] => T39 p
  | _ => fun _ _ => False
def F39.V : List Value → PT := F39.W F39.T
theorem F39.ok : FOk Try.prog 39 F39.V := by
  refine ⟨⟨_, Try.func39, rfl, rfl⟩, fun args => ?_⟩
  unfold F39.V F39.W
  split
  · exact denF_okE (GOk.nil) noV_ok Try.func39 (F39.den noV _)
  · exact fun _ _ h => h.elim
def F52.T (p : Option Addr) (n : Int) : PT := fun h Q =>
  dr p fun b o => ldI .i64 h b o fun n1 => par ((0 : Int) ≤ n1) (dr p fun b1 o1 => ldI .i64 h b1 o1 fun n2 => dr p fun b2 o2 => st h b2 o2 1 [.int .i64 (IntKind.wrap .i64 (n2 - n))] fun h1 => dr p fun b3 o3 => ldI .i64 h1 b3 o3 fun n3 => par ((0 : Int) ≤ n3) (Q (.bool true) h1) (Q (.bool false) h1)) (dr p fun b4 o4 => ldI .i64 h b4 o4 fun n4 => par ((0 : Int) ≤ n4) (Q (.bool true) h) (Q (.bool false) h))
theorem F52.den (V p n) : denF Try.prog [] [] V [] Try.f52 [.v (.pointer p), .v (.int .i64 n)] = F52.T p n := by kernel_rfl
def F52.W (T52 : Option Addr → Int → PT) (args : List Value) : PT := match args with
  | [.pointer p, .int .i64 n] => T52 p n
  | _ => fun _ _ => False
def F52.V : List Value → PT := F52.W F52.T
theorem F52.ok : FOk Try.prog 52 F52.V := by
  refine ⟨⟨_, Try.func52, rfl, rfl⟩, fun args => ?_⟩
  unfold F52.V F52.W
  split
  · exact denF_okE (GOk.nil) noV_ok Try.func52 (F52.den noV _ _)
  · exact fun _ _ h => h.elim
@[reducible] def F53.G (T52 : Option Addr → Int → PT) (p : Option Addr) (s : ByteArray) : PT := fun h Q =>
  T52 p (IntKind.wrap .i64 (1 + (s.size : Int))) h fun r h1 => retB r (Q (.tuple ⟨[]⟩) h1) (Q (.tuple ⟨[]⟩) h1)
def F53.T := F53.G F52.T
theorem F53.gen (V T52 p s) : denF Try.prog [] [(52, F52.W T52)] V [] Try.f53 [.v (.pointer p), .v (.string s)] = F53.G T52 p s := by kernel_rfl
def F53.W (T53 : Option Addr → ByteArray → PT) (args : List Value) : PT := match args with
  | [.pointer p, .string s] => T53 p s
  | _ => fun _ _ => False
def F53.V : List Value → PT := F53.W F53.T
theorem F53.ok : FOk Try.prog 53 F53.V := by
  refine ⟨⟨_, Try.func53, rfl, rfl⟩, fun args => ?_⟩
  unfold F53.V F53.W
  split
  · exact denF_okE (GOk.cons F52.ok (GOk.nil)) noV_ok Try.func53 (F53.gen noV F52.T _ _)
  · exact fun _ _ h => h.elim
def F37.T (n : Int) : PT := fun h Q =>
  nw h (.cells ⟨[.int .i64 n]⟩ 117 (0, 0)) fun b h1 => Q (.pointer (some ⟨b, 0, none⟩)) h1
theorem F37.den (V n) : denF Try.prog [] [] V [] Try.f37 [.v (.int .i64 n)] = F37.T n := by kernel_rfl
def F37.W (T37 : Int → PT) (args : List Value) : PT := match args with
  | [.int .i64 n] => T37 n
  | _ => fun _ _ => False
def F37.V : List Value → PT := F37.W F37.T
theorem F37.ok : FOk Try.prog 37 F37.V := by
  refine ⟨⟨_, Try.func37, rfl, rfl⟩, fun args => ?_⟩
  unfold F37.V F37.W
  split
  · exact denF_okE (GOk.nil) noV_ok Try.func37 (F37.den noV _)
  · exact fun _ _ h => h.elim
@[reducible] def F38.G (T39 : Option Addr → PT) (T52 : Option Addr → Int → PT) (T53 : Option Addr → ByteArray → PT) (p : Option Addr) (n n1 n2 : Int) (l l1 l2 : Sl) : PT := fun h Q =>
  T52 p (IntKind.wrap .i64 (1 + (l.n : Int))) h fun r h1 => retB r (∃ J : Hp → Prop, (∀ h2 : Hp, J h2 → ∃ (I : Int → Hp → Prop) (m : Int → Hp → Nat), I 0 h2 ∧ (∀ n3 : Int, ∀ h3 : Hp, I n3 h3 → par (n3 < (l2.n : Int)) (T39 p h3 fun r1 h4 => retB r1 (ix l2.a n3 l2.n fun b o => ldT h4 b (o + n3.toNat) fun s => T53 p s h4 fun r2 h5 => I (IntKind.wrap .i64 (n3 + 1)) h5 ∧ m (IntKind.wrap .i64 (n3 + 1)) h5 < m n3 h3) (Q (.tuple ⟨[]⟩) h4)) (Q (.tuple ⟨[]⟩) h3))) ∧ (∃ (I1 : Int → Hp → Prop) (m1 : Int → Hp → Nat), I1 0 h1 ∧ (∀ n4 : Int, ∀ h6 : Hp, I1 n4 h6 → par (n4 < (l1.n : Int)) (T39 p h6 fun r3 h7 => retB r3 (ix l1.a n4 l1.n fun b1 o1 => ldT h7 b1 (((o1 + n4.toNat * 7) + 1) + 4) fun s1 => T53 p s1 h7 fun r4 h8 => ix l1.a n4 l1.n fun b2 o2 => ldT h8 b2 (((o2 + n4.toNat * 7) + 1) + 5) fun s2 => T52 p (s2.size : Int) h8 fun r5 h9 => retB r5 (I1 (IntKind.wrap .i64 (n4 + 1)) h9 ∧ m1 (IntKind.wrap .i64 (n4 + 1)) h9 < m1 n4 h6) (I1 (IntKind.wrap .i64 (n4 + 1)) h9 ∧ m1 (IntKind.wrap .i64 (n4 + 1)) h9 < m1 n4 h6)) (J h7)) (J h6)))) (∃ J1 : Hp → Prop, (∀ h10 : Hp, J1 h10 → ∃ (I2 : Int → Hp → Prop) (m2 : Int → Hp → Nat), I2 0 h10 ∧ (∀ n5 : Int, ∀ h11 : Hp, I2 n5 h11 → par (n5 < (l2.n : Int)) (T39 p h11 fun r6 h12 => retB r6 (ix l2.a n5 l2.n fun b3 o3 => ldT h12 b3 (o3 + n5.toNat) fun s3 => T53 p s3 h12 fun r7 h13 => I2 (IntKind.wrap .i64 (n5 + 1)) h13 ∧ m2 (IntKind.wrap .i64 (n5 + 1)) h13 < m2 n5 h11) (Q (.tuple ⟨[]⟩) h12)) (Q (.tuple ⟨[]⟩) h11))) ∧ (∃ (I3 : Int → Hp → Prop) (m3 : Int → Hp → Nat), I3 0 h1 ∧ (∀ n6 : Int, ∀ h14 : Hp, I3 n6 h14 → par (n6 < (l1.n : Int)) (T39 p h14 fun r8 h15 => retB r8 (ix l1.a n6 l1.n fun b4 o4 => ldT h15 b4 (((o4 + n6.toNat * 7) + 1) + 4) fun s4 => T53 p s4 h15 fun r9 h16 => ix l1.a n6 l1.n fun b5 o5 => ldT h16 b5 (((o5 + n6.toNat * 7) + 1) + 5) fun s5 => T52 p (s5.size : Int) h16 fun r10 h17 => retB r10 (I3 (IntKind.wrap .i64 (n6 + 1)) h17 ∧ m3 (IntKind.wrap .i64 (n6 + 1)) h17 < m3 n6 h14) (I3 (IntKind.wrap .i64 (n6 + 1)) h17 ∧ m3 (IntKind.wrap .i64 (n6 + 1)) h17 < m3 n6 h14)) (J1 h15)) (J1 h14))))
def F38.T := F38.G F39.T F52.T F53.T
theorem F38.gen (V T39 T52 T53 p n n1 n2 l l1 l2) : denF Try.prog [3] [(39, F39.W T39), (52, F52.W T52), (53, F53.W T53)] V [(7, .join [] []), (58, .loop [(4, .int .i64)] []), (62, .loop [(5, .int .i64)] [])] Try.f38 [.v (.pointer p), .v (.agg ⟨[.int .u64 n, .int .u64 n1, .int .u64 n2, .slice l.a l.n l.c, .slice l1.a l1.n l1.c, .slice l2.a l2.n l2.c]⟩)] = F38.G T39 T52 T53 p n n1 n2 l l1 l2 := by kernel_rfl
def F38.W (T38 : Option Addr → Int → Int → Int → Sl → Sl → Sl → PT) (args : List Value) : PT := match args with
  | [.pointer p, .agg ⟨[.int .u64 n, .int .u64 n1, .int .u64 n2, .slice l_a l_n l_c, .slice l1_a l1_n l1_c, .slice l2_a l2_n l2_c]⟩] => T38 p n n1 n2 ⟨l_a, l_n, l_c⟩ ⟨l1_a, l1_n, l1_c⟩ ⟨l2_a, l2_n, l2_c⟩
  | _ => fun _ _ => False
def F38.V : List Value → PT := F38.W F38.T
theorem F38.ok : FOk Try.prog 38 F38.V := by
  refine ⟨⟨_, Try.func38, rfl, rfl⟩, fun args => ?_⟩
  unfold F38.V F38.W
  split
  · exact denF_okE (GOk.cons F39.ok (GOk.cons F52.ok (GOk.cons F53.ok (GOk.nil)))) noV_ok Try.func38 (F38.gen noV F39.T F52.T F53.T _ _ _ _ ⟨_, _, _⟩ ⟨_, _, _⟩ ⟨_, _, _⟩)
  · exact fun _ _ h => h.elim
@[reducible] def F12.G (T37 : Int → PT) (T38 : Option Addr → Int → Int → Int → Sl → Sl → Sl → PT) (T39 : Option Addr → PT) (n n1 n2 : Int) (l l1 l2 : Sl) : PT := fun h Q =>
  T37 8192 h fun r h1 => retP r fun p => T38 p n n1 n2 l l1 l2 h1 fun r1 h2 => T39 p h2 fun r2 h3 => retB r2 (Q (.bool true) h3) (Q (.bool false) h3)
def F12.T := F12.G F37.T F38.T F39.T
theorem F12.gen (V T37 T38 T39 n n1 n2 l l1 l2) : denF Try.prog [1] [(37, F37.W T37), (38, F38.W T38), (39, F39.W T39)] V [] Try.f12 [.v (.agg ⟨[.int .u64 n, .int .u64 n1, .int .u64 n2, .slice l.a l.n l.c, .slice l1.a l1.n l1.c, .slice l2.a l2.n l2.c]⟩)] = F12.G T37 T38 T39 n n1 n2 l l1 l2 := by kernel_rfl
def F12.W (T12 : Int → Int → Int → Sl → Sl → Sl → PT) (args : List Value) : PT := match args with
  | [.agg ⟨[.int .u64 n, .int .u64 n1, .int .u64 n2, .slice l_a l_n l_c, .slice l1_a l1_n l1_c, .slice l2_a l2_n l2_c]⟩] => T12 n n1 n2 ⟨l_a, l_n, l_c⟩ ⟨l1_a, l1_n, l1_c⟩ ⟨l2_a, l2_n, l2_c⟩
  | _ => fun _ _ => False
def F12.V : List Value → PT := F12.W F12.T
theorem F12.ok : FOk Try.prog 12 F12.V := by
  refine ⟨⟨_, Try.func12, rfl, rfl⟩, fun args => ?_⟩
  unfold F12.V F12.W
  split
  · exact denF_okE (GOk.cons F37.ok (GOk.cons F38.ok (GOk.cons F39.ok (GOk.nil)))) noV_ok Try.func12 (F12.gen noV F37.T F38.T F39.T _ _ _ ⟨_, _, _⟩ ⟨_, _, _⟩ ⟨_, _, _⟩)
  · exact fun _ _ h => h.elim
def F15.T (l : Sl) (n : Int) : PT := fun h Q =>
  ∃ (I : Int → Hp → Prop) (m : Int → Hp → Nat), I 0 h ∧ (∀ n1 : Int, ∀ h1 : Hp, I n1 h1 → par (n1 < (l.n : Int)) (ix l.a n1 l.n fun b o => ldI .u64 h1 b (o + n1.toNat) fun n2 => par (n2 = n) (Q (.bool true) h1) (I (IntKind.wrap .i64 (n1 + 1)) h1 ∧ m (IntKind.wrap .i64 (n1 + 1)) h1 < m n1 h1)) (Q (.bool false) h1))
theorem F15.den (V l n) : denF Try.prog [] [] V [(26, .loop [(5, .int .i64)] [])] Try.f15 [.v (.slice l.a l.n l.c), .v (.int .u64 n)] = F15.T l n := by kernel_rfl
def F15.W (T15 : Sl → Int → PT) (args : List Value) : PT := match args with
  | [.slice l_a l_n l_c, .int .u64 n] => T15 ⟨l_a, l_n, l_c⟩ n
  | _ => fun _ _ => False
def F15.V : List Value → PT := F15.W F15.T
theorem F15.ok : FOk Try.prog 15 F15.V := by
  refine ⟨⟨_, Try.func15, rfl, rfl⟩, fun args => ?_⟩
  unfold F15.V F15.W
  split
  · exact denF_okE (GOk.nil) noV_ok Try.func15 (F15.den noV ⟨_, _, _⟩ _)
  · exact fun _ _ h => h.elim
@[reducible] def F18.G (T15 : Sl → Int → PT) (p : Option Addr) (l : Sl) : PT := fun h Q =>
  ∃ (I : Int → Hp → Prop) (m : Int → Hp → Nat), I 0 h ∧ (∀ n : Int, ∀ h1 : Hp, I n h1 → par (n < (l.n : Int)) (dr p fun b o => ldS h1 b (o + 1) fun l1 => ix l.a n l.n fun b1 o1 => ldI .u64 h1 b1 (o1 + n.toNat) fun n1 => T15 l1 n1 h1 fun r h2 => retB r (Q (.bool false) h2) (dr p fun b2 o2 => ldS h2 b2 o2 fun l2 => ix l.a n l.n fun b3 o3 => ldI .u64 h2 b3 (o3 + n.toNat) fun n2 => T15 l2 n2 h2 fun r1 h3 => retB r1 (par ((0 : Int) < n) (ix l.a n l.n fun b4 o4 => ldI .u64 h3 b4 (o4 + n.toNat) fun n3 => ix l.a (IntKind.wrap .i64 (n - 1)) l.n fun b5 o5 => ldI .u64 h3 b5 (o5 + ((IntKind.wrap .i64 (n - 1))).toNat) fun n4 => par (n3 ≤ n4) (Q (.bool false) h3) (I (IntKind.wrap .i64 (n + 1)) h3 ∧ m (IntKind.wrap .i64 (n + 1)) h3 < m n h1)) (I (IntKind.wrap .i64 (n + 1)) h3 ∧ m (IntKind.wrap .i64 (n + 1)) h3 < m n h1)) (Q (.bool false) h3))) (dr p fun b6 o6 => ldS h1 b6 (o6 + 1) fun l3 => ∃ vs, h1.row l.a (l.n * 1) vs ∧ (∀ v ∈ vs, Value.oneCell' v = true) ∧ appendD l3 33 1 8 [.int .u64 0] l.n vs h1 fun l4 h4 => dr p fun b7 o7 => st h4 b7 (o7 + 1) 1 [.slice l4.a l4.n l4.c] fun h5 => Q (.bool true) h5))
def F18.T := F18.G F15.T
theorem F18.gen (V T15 p l) : denF Try.prog [] [(15, F15.W T15)] V [(26, .loop [(5, .int .i64)] []), (840, .order [0, 1, 2, 3, 4, 5, 6, 7, 8, 9, 10, 11, 12, 13, 14, 15, 16, 17, 18, 19, 20, 21, 22, 23, 24, 25, 26, 27, 28, 29, 30, 31, 32, 33, 34, 35, 36])] Try.f18 [.v (.pointer p), .v (.slice l.a l.n l.c)] = F18.G T15 p l := by kernel_rfl
def F18.W (T18 : Option Addr → Sl → PT) (args : List Value) : PT := match args with
  | [.pointer p, .slice l_a l_n l_c] => T18 p ⟨l_a, l_n, l_c⟩
  | _ => fun _ _ => False
def F18.V : List Value → PT := F18.W F18.T
theorem F18.ok : FOk Try.prog 18 F18.V := by
  refine ⟨⟨_, Try.func18, rfl, rfl⟩, fun args => ?_⟩
  unfold F18.V F18.W
  split
  · exact denF_okE (GOk.cons F15.ok (GOk.nil)) noV_ok Try.func18 (F18.gen noV F15.T _ ⟨_, _, _⟩)
  · exact fun _ _ h => h.elim
@[reducible] def F19.G (T11 : Option Addr → PT) (T15 : Sl → Int → PT) (T44 : Option Addr → Int → PT) (p p1 : Option Addr) : PT := fun h Q =>
  ∃ (I : Int → Hp → Prop) (m : Int → Hp → Nat), I 0 h ∧ (∀ n : Int, ∀ h1 : Hp, I n h1 → dr p fun b o => ldS h1 b o fun l => par (n < (l.n : Int)) (dr p fun b1 o1 => ldS h1 b1 o1 fun l1 => ix l1.a n l1.n fun b2 o2 => ldI .u64 h1 b2 (o2 + n.toNat) fun n1 => T11 p1 h1 fun r h2 => retP r fun p2 => h2.at b1 o1 = some (.slice l1.a l1.n l1.c) ∧ h2.at b2 (o2 + n.toNat) = some (.int .u64 n1) ∧ T44 p2 n1 h2 fun r1 h3 => retB r1 (∃ J : Bool → Hp → Prop, ((∀ h4 : Hp, J true h4 → dr p fun b4 o3 => ldS h4 b4 (o3 + 1) fun l2 => dr p fun b5 o4 => ldS h4 b5 o4 fun l3 => ix l3.a n l3.n fun b6 o5 => ldI .u64 h4 b6 (o5 + n.toNat) fun n2 => T15 l2 n2 h4 fun r2 h5 => retB r2 (par ((true : Bool) = true) (Q (.bool false) h5) (I (IntKind.wrap .i64 (n + 1)) h5 ∧ m (IntKind.wrap .i64 (n + 1)) h5 < m n h1)) (par ((true : Bool) = false) (Q (.bool false) h5) (I (IntKind.wrap .i64 (n + 1)) h5 ∧ m (IntKind.wrap .i64 (n + 1)) h5 < m n h1))) ∧ (∀ h4 : Hp, J false h4 → dr p fun b7 o6 => ldS h4 b7 (o6 + 1) fun l4 => dr p fun b8 o7 => ldS h4 b8 o7 fun l5 => ix l5.a n l5.n fun b9 o8 => ldI .u64 h4 b9 (o8 + n.toNat) fun n3 => T15 l4 n3 h4 fun r3 h6 => retB r3 (par ((false : Bool) = true) (Q (.bool false) h6) (I (IntKind.wrap .i64 (n + 1)) h6 ∧ m (IntKind.wrap .i64 (n + 1)) h6 < m n h1)) (par ((false : Bool) = false) (Q (.bool false) h6) (I (IntKind.wrap .i64 (n + 1)) h6 ∧ m (IntKind.wrap .i64 (n + 1)) h6 < m n h1)))) ∧ (∃ (I1 : Bool → Int → Hp → Prop) (m1 : Bool → Int → Hp → Nat), I1 true 0 h3 ∧ ((∀ n4 : Int, ∀ h7 : Hp, I1 true n4 h7 → dr p fun b11 o9 => ldS h7 b11 (o9 + 2) fun l6 => par (n4 < (l6.n : Int)) (J true h7) (J true h7)) ∧ (∀ n4 : Int, ∀ h7 : Hp, I1 false n4 h7 → dr p fun b12 o10 => ldS h7 b12 (o10 + 2) fun l7 => par (n4 < (l7.n : Int)) (dr p fun b13 o11 => ldS h7 b13 (o11 + 2) fun l8 => ix l8.a n4 l8.n fun b14 o12 => ldP h7 b14 (o12 + n4.toNat) fun p3 => dr p fun b15 o13 => ldS h7 b15 o13 fun l9 => ix l9.a n l9.n fun b16 o14 => ldI .u64 h7 b16 (o14 + n.toNat) fun n5 => T44 p3 n5 h7 fun r4 h8 => retB r4 (I1 true (IntKind.wrap .i64 (n4 + 1)) h8 ∧ m1 true (IntKind.wrap .i64 (n4 + 1)) h8 < m1 false n4 h7) (I1 false (IntKind.wrap .i64 (n4 + 1)) h8 ∧ m1 false (IntKind.wrap .i64 (n4 + 1)) h8 < m1 false n4 h7)) (J false h7))))) (∃ J1 : Bool → Hp → Prop, ((∀ h9 : Hp, J1 true h9 → dr p fun b18 o15 => ldS h9 b18 (o15 + 1) fun l10 => dr p fun b19 o16 => ldS h9 b19 o16 fun l11 => ix l11.a n l11.n fun b20 o17 => ldI .u64 h9 b20 (o17 + n.toNat) fun n6 => T15 l10 n6 h9 fun r5 h10 => retB r5 (par ((true : Bool) = true) (Q (.bool false) h10) (I (IntKind.wrap .i64 (n + 1)) h10 ∧ m (IntKind.wrap .i64 (n + 1)) h10 < m n h1)) (par ((true : Bool) = false) (Q (.bool false) h10) (I (IntKind.wrap .i64 (n + 1)) h10 ∧ m (IntKind.wrap .i64 (n + 1)) h10 < m n h1))) ∧ (∀ h9 : Hp, J1 false h9 → dr p fun b21 o18 => ldS h9 b21 (o18 + 1) fun l12 => dr p fun b22 o19 => ldS h9 b22 o19 fun l13 => ix l13.a n l13.n fun b23 o20 => ldI .u64 h9 b23 (o20 + n.toNat) fun n7 => T15 l12 n7 h9 fun r6 h11 => retB r6 (par ((false : Bool) = true) (Q (.bool false) h11) (I (IntKind.wrap .i64 (n + 1)) h11 ∧ m (IntKind.wrap .i64 (n + 1)) h11 < m n h1)) (par ((false : Bool) = false) (Q (.bool false) h11) (I (IntKind.wrap .i64 (n + 1)) h11 ∧ m (IntKind.wrap .i64 (n + 1)) h11 < m n h1)))) ∧ (∃ (I2 : Bool → Int → Hp → Prop) (m2 : Bool → Int → Hp → Nat), I2 false 0 h3 ∧ ((∀ n8 : Int, ∀ h12 : Hp, I2 true n8 h12 → dr p fun b25 o21 => ldS h12 b25 (o21 + 2) fun l14 => par (n8 < (l14.n : Int)) (J1 true h12) (J1 true h12)) ∧ (∀ n8 : Int, ∀ h12 : Hp, I2 false n8 h12 → dr p fun b26 o22 => ldS h12 b26 (o22 + 2) fun l15 => par (n8 < (l15.n : Int)) (dr p fun b27 o23 => ldS h12 b27 (o23 + 2) fun l16 => ix l16.a n8 l16.n fun b28 o24 => ldP h12 b28 (o24 + n8.toNat) fun p4 => dr p fun b29 o25 => ldS h12 b29 o25 fun l17 => ix l17.a n l17.n fun b30 o26 => ldI .u64 h12 b30 (o26 + n.toNat) fun n9 => T44 p4 n9 h12 fun r7 h13 => retB r7 (I2 true (IntKind.wrap .i64 (n8 + 1)) h13 ∧ m2 true (IntKind.wrap .i64 (n8 + 1)) h13 < m2 false n8 h12) (I2 false (IntKind.wrap .i64 (n8 + 1)) h13 ∧ m2 false (IntKind.wrap .i64 (n8 + 1)) h13 < m2 false n8 h12)) (J1 false h12)))))) (Q (.bool true) h1))
def F19.T := F19.G F11.T F15.T F44.T
theorem F19.gen (V T11 T15 T44 p p1) : denF Try.prog [] [(11, F11.W T11), (15, F15.W T15), (44, F44.W T44)] V [(26, .loop [(5, .int .i64)] []), (840, .order [0, 2, 3, 4, 5, 6, 7, 8, 1, 9, 10]), (841, .join [(6, .bool)] []), (3366, .order [0, 1, 2, 3, 4, 5, 6, 7, 8, 9, 10, 11, 12, 13]), (6730, .loop [(6, .bool), (7, .int .i64)] []), (107684, .order [0, 1, 2, 3, 4, 5, 6, 7, 8, 9, 10, 11, 12, 13, 14, 15])] Try.f19 [.v (.pointer p), .v (.pointer p1)] = F19.G T11 T15 T44 p p1 := by kernel_rfl
def F19.W (T19 : Option Addr → Option Addr → PT) (args : List Value) : PT := match args with
  | [.pointer p, .pointer p1] => T19 p p1
  | _ => fun _ _ => False
def F19.V : List Value → PT := F19.W F19.T
theorem F19.ok : FOk Try.prog 19 F19.V := by
  refine ⟨⟨_, Try.func19, rfl, rfl⟩, fun args => ?_⟩
  unfold F19.V F19.W
  split
  · exact denF_okE (GOk.cons F11.ok (GOk.cons F15.ok (GOk.cons F44.ok (GOk.nil)))) noV_ok Try.func19 (F19.gen noV F11.T F15.T F44.T _ _)
  · exact fun _ _ h => h.elim
@[reducible] def F9.G (T10 : Int → PT) (T13 : Option Addr → Int → Int → Int → Sl → Sl → Sl → PT) (T14 : Int → PT) (T16 : Option Addr → PT) (T17 : Option Addr → Option Addr → PT) (T34 : Sl → Sl → PT) (T35 : Option Addr → Int → ByteArray → PT) (T36 : Sl → Sl → PT) : PT := fun h Q =>
  T10 3 h fun r h1 => retP r fun p => okPtr h1 p none ∧ par ((p : Option Addr) = none) (Q (.bool false) h1) (nw h1 (.cells ⟨[.string (ByteArray.mk #[]), .string (ByteArray.mk #[]), .string (ByteArray.mk #[])]⟩ 9 (0, 0)) fun b h2 => nw h2 (.cells ⟨[.int .i64 0, .int .u64 1, .int .i64 0, .int .i64 0, .int .i64 0, .string (ByteArray.mk #[97]), .string (ByteArray.mk #[99]), .int .i64 0, .int .u64 2, .int .i64 0, .int .i64 0, .int .i64 0, .string (ByteArray.mk #[98]), .string (ByteArray.mk #[100]), .int .i64 1, .int .u64 3, .int .i64 0, .int .i64 0, .int .i64 0, .string (ByteArray.mk #[97]), .string (ByteArray.mk #[98])]⟩ 49 (0, 0)) fun b1 h3 => T13 p 0 0 0 ⟨none, 0, 0⟩ ⟨(some ⟨b1, 0, none⟩), 3, 3⟩ ⟨(some ⟨b, 0, none⟩), 3, 3⟩ h3 fun r1 h4 => ∃ l : Sl, ∃ n : Int, r1 = .tuple ⟨[.slice l.a l.n l.c, .int .i64 n]⟩ ∧ T16 p h4 fun r2 h5 => retP r2 fun p1 => par ((l.n : Int) = 0) (T14 n h5 fun r3 h6 => retI .i64 r3 fun n1 => par (n1 = 0) (okPtr h6 p1 none ∧ par ((p1 : Option Addr) = none) (Q (.bool false) h6) (T35 p1 0 (ByteArray.mk #[98]) h6 fun r4 h7 => retS r4 fun l1 => nw h7 (.cells ⟨[.int .u64 2, .int .i64 0, .int .i64 0, .int .i64 0, .string (ByteArray.mk #[98]), .string (ByteArray.mk #[100]), .int .u64 1, .int .i64 0, .int .i64 0, .int .i64 0, .string (ByteArray.mk #[97]), .string (ByteArray.mk #[99])]⟩ 47 (0, 0)) fun b2 h8 => T34 l1 ⟨(some ⟨b2, 0, none⟩), 2, 2⟩ h8 fun r5 h9 => retB r5 (nw h9 (.cells ⟨[.int .i64 0, .int .u64 1, .int .i64 1, .int .u64 3]⟩ 82 (0, 0)) fun b3 h10 => nw h10 (.cells ⟨[.int .i64 1, .int .u64 4, .int .i64 0, .int .i64 0, .int .i64 0, .string (ByteArray.mk #[97]), .string (ByteArray.mk #[99])]⟩ 49 (0, 0)) fun b4 h11 => T13 p 0 0 0 ⟨(some ⟨b3, 0, none⟩), 2, 2⟩ ⟨(some ⟨b4, 0, none⟩), 1, 1⟩ ⟨(some ⟨b, 0, none⟩), 3, 3⟩ h11 fun r6 h12 => ∃ l2 : Sl, ∃ n2 : Int, r6 = .tuple ⟨[.slice l2.a l2.n l2.c, .int .i64 n2]⟩ ∧ par ((l2.n : Int) = 0) (T14 n2 h12 fun r7 h13 => retI .i64 r7 fun n3 => par (n3 = 0) (T17 p p1 h13 fun r8 h14 => retS r8 fun l3 => nw h14 (.cells ⟨[.int .u64 1, .int .u64 3]⟩ 33 (0, 0)) fun b5 h15 => T36 l3 ⟨(some ⟨b5, 0, none⟩), 2, 2⟩ h15 fun r9 h16 => retB r9 (T17 p p1 h16 fun r10 h17 => retS r10 fun l4 => par ((l4.n : Int) = 0) (Q (.bool true) h17) (Q (.bool false) h17)) (Q (.bool false) h16)) (Q (.bool false) h13)) (Q (.bool false) h12)) (Q (.bool false) h9))) (Q (.bool false) h6)) (Q (.bool false) h5))
def F9.T := F9.G F10.T F13.T F14.T F16.T F17.T F34.T F35.T F36.T
theorem F9.gen (V T10 T13 T14 T16 T17 T34 T35 T36) : denF Try.prog [3, 4, 5, 9] [(10, F10.W T10), (13, F13.W T13), (14, F14.W T14), (16, F16.W T16), (17, F17.W T17), (34, F34.W T34), (35, F35.W T35), (36, F36.W T36)] V [(4092, .orderL [0, 1, 2, 3, 4, 5, 6, 7, 8, 9, 10, 11, 12, 13, 15, 16, 14, 17, 18, 19, 20] [17])] Try.f9 [] = F9.G T10 T13 T14 T16 T17 T34 T35 T36  := by kernel_rfl
def F9.W (T9 : PT) (args : List Value) : PT := match args with
  | [] => T9 
  | _ => fun _ _ => False
def F9.V : List Value → PT := F9.W F9.T
theorem F9.ok : FOk Try.prog 9 F9.V := by
  refine ⟨⟨_, Try.func9, rfl, rfl⟩, fun args => ?_⟩
  unfold F9.V F9.W
  split
  · exact denF_okE (GOk.cons F10.ok (GOk.cons F13.ok (GOk.cons F14.ok (GOk.cons F16.ok (GOk.cons F17.ok (GOk.cons F34.ok (GOk.cons F35.ok (GOk.cons F36.ok (GOk.nil))))))))) noV_ok Try.func9 (F9.gen noV F10.T F13.T F14.T F16.T F17.T F34.T F35.T F36.T )
  · exact fun _ _ h => h.elim
end Go.Eng.Ytbjnlacacapjiaa
end
section
set_option maxRecDepth 100000
namespace Go.Eng.Ytbjnlacacapjiaa
def Cnt (h0 h : Hp) (b k : Nat) : Prop := Keep h0 h ∧ h0 b = none ∧ ∃ v : Int, h b = some (.cells ⟨[.int .i64 v]⟩ 117 (0, 0)) ∧ -1125899906842624 ≤ v ∧ v ≤ 8192 ∧ (0 ≤ v → v + k ≤ 8192)
section
variable {h0 h : Hp} {b k : Nat} {Q : Value → Hp → Prop} {l l1 l2 : Sl}
theorem padd_s (C : Cnt h0 h b k) {n : Nat} (hn : n ≤ 562949953421312) (hQ : ∀ h' r, Cnt h0 h' b (k + n) → Q (.bool r) h') : F52.T (some ⟨b, 0, none⟩) (n : Int) h Q := by
  obtain ⟨K, hb, v, x, v1, v2, v3⟩ := C
  refine ⟨b, 0, rfl, v, at_of x 0, fun h1 => ?_, fun h1 => ?_⟩
  · have y := wr_at (o := 0) (vs := [.int .i64 (v - (n : Int))]) x
    refine ⟨b, 0, rfl, v, at_of x 0, b, 0, rfl, canW_new x (Nat.le_refl 1), ?_⟩
    rw [wrap_i64 (by omega) (by omega)]
    have C' : Cnt h0 (h.wr b 0 [.int .i64 (v - (n : Int))]) b (k + n) := ⟨K.wr hb _ _, hb, v - n, y, by omega, by omega, fun _ => by have := v3 h1; omega⟩
    exact ⟨b, 0, rfl, _, at_of y 0, fun _ => hQ _ _ C', fun _ => hQ _ _ C'⟩
  · have C' : Cnt h0 h b (k + n) := ⟨K, hb, v, x, v1, v2, fun h2 => absurd h2 h1⟩
    exact ⟨b, 0, rfl, v, at_of x 0, fun _ => hQ _ _ C', fun _ => hQ _ _ C'⟩
theorem pok_s (C : Cnt h0 h b k) (h1 : k ≤ 8192 → Q (.bool true) h) (h2 : (∀ k, Cnt h0 h b k) → Q (.bool false) h) : F39.T (some ⟨b, 0, none⟩) h Q := by
  obtain ⟨K, hb, v, x, v1, v2, v3⟩ := C
  exact ⟨b, 0, rfl, v, at_of x 0, fun h0 => h1 (by have := v3 h0; omega), fun h0 => h2 fun k => ⟨K, hb, v, x, v1, v2, fun h3 => absurd h3 h0⟩⟩
theorem Cnt.mono {k' : Nat} (C : Cnt h0 h b k) (hk : k' ≤ k) : Cnt h0 h b k' := by
  obtain ⟨K, hb, v, x, v1, v2, v3⟩ := C
  exact ⟨K, hb, v, x, v1, v2, fun h => by have := v3 h; omega⟩
theorem ptext_s (C : Cnt h0 h b k) {s : ByteArray} (hs : s.size ≤ 281474976710656) (hQ : ∀ h' r, Cnt h0 h' b (k + 1) → Q r h') : F53.T (some ⟨b, 0, none⟩) s h Q := by
  unfold F53.T F53.G
  rw [show (1 + (s.size : Int)) = ((1 + s.size : Nat) : Int) by omega, wrap_i64 (by omega) (by omega)]
  refine padd_s C (by omega) fun h' r C' => ⟨r, rfl, fun _ => hQ _ _ (C'.mono (by omega)), fun _ => hQ _ _ (C'.mono (by omega))⟩
def Edit.fits (e : Edit) : Prop := (∀ p ∈ e.inn, p.least.size ≤ 281474976710656 ∧ p.greatest.size ≤ 281474976710656) ∧ ∀ s ∈ e.ptr, s.size ≤ 281474976710656
theorem small_s {e : Edit} {a a1 a2 : Int} (E : EdAt h e l l1 l2) (z : e.fits) (ho : e.out.length ≤ 140737488355328) (hi : e.inn.length ≤ 140737488355328) (hp : e.ptr.length ≤ 140737488355328)
    (hQ : ∀ h' r, Keep h h' → (r = true → e.out.length ≤ 8192 ∧ e.inn.length ≤ 8192 ∧ e.ptr.length ≤ 8192) → Q (.bool r) h') : F12.T a a1 a2 l l1 l2 h Q := by
  have hl : l.n = e.out.length := by have := E.out.1; rw [outV_len] at this; omega
  have hl1 : l1.n = e.inn.length := by have := E.inn.1; rw [inV_len] at this; omega
  have hl2 : l2.n = e.ptr.length := by have := E.ptr.1; rw [ptrV_length] at this; omega
  unfold F12.T F37.T F12.G F38.T F38.G
  intro b hb
  have C1 : Cnt h (h.new b (.cells ⟨[.int .i64 8192]⟩ 117 (0, 0))) b 0 := ⟨Keep.new hb _, hb, _, new_at _ _ _, by decide, by decide, by decide⟩
  generalize h.new b (.cells ⟨[.int .i64 8192]⟩ 117 (0, 0)) = h1 at C1 ⊢
  refine ⟨_, rfl, ?_⟩
  rw [show (1 + (l.n : Int)) = ((1 + l.n : Nat) : Int) by omega, wrap_i64 (by omega) (by omega)]
  refine padd_s C1 (by omega) fun h2 r C2 => ⟨r, rfl, ?_⟩
  have fin : ∀ h3, Cnt h h3 b (e.out.length + e.inn.length + e.ptr.length) → F39.T (some ⟨b, 0, none⟩) h3 fun r2 h3 => retB r2 (Q (.bool true) h3) (Q (.bool false) h3) := fun h3 C3 =>
    pok_s C3 (fun hk => ⟨true, rfl, fun _ => hQ _ _ C3.1 fun _ => ⟨by omega, by omega, by omega⟩, fun h0 => (by cases h0)⟩) fun _ => ⟨false, rfl, fun h0 => (by cases h0), fun _ => hQ _ _ C3.1 fun h0 => (by cases h0)⟩
  have one : ∃ J : Hp → Prop, (∀ h2 : Hp, J h2 → ∃ (I : Int → Hp → Prop) (m : Int → Hp → Nat), I 0 h2 ∧ (∀ n3 : Int, ∀ h3 : Hp, I n3 h3 → par (n3 < (l2.n : Int)) (F39.T (some ⟨b, 0, none⟩) h3 fun r1 h4 => retB r1 (ix l2.a n3 l2.n fun b1 o => ldT h4 b1 (o + n3.toNat) fun s => F53.T (some ⟨b, 0, none⟩) s h4 fun r2 h5 => I (IntKind.wrap .i64 (n3 + 1)) h5 ∧ m (IntKind.wrap .i64 (n3 + 1)) h5 < m n3 h3) (F39.T (some ⟨b, 0, none⟩) h4 fun r2 h3 => retB r2 (Q (.bool true) h3) (Q (.bool false) h3))) (F39.T (some ⟨b, 0, none⟩) h3 fun r2 h3 => retB r2 (Q (.bool true) h3) (Q (.bool false) h3)))) ∧ (∃ (I1 : Int → Hp → Prop) (m1 : Int → Hp → Nat), I1 0 h2 ∧ (∀ n4 : Int, ∀ h6 : Hp, I1 n4 h6 → par (n4 < (l1.n : Int)) (F39.T (some ⟨b, 0, none⟩) h6 fun r3 h7 => retB r3 (ix l1.a n4 l1.n fun b1 o1 => ldT h7 b1 (((o1 + n4.toNat * 7) + 1) + 4) fun s1 => F53.T (some ⟨b, 0, none⟩) s1 h7 fun r4 h8 => ix l1.a n4 l1.n fun b2 o2 => ldT h8 b2 (((o2 + n4.toNat * 7) + 1) + 5) fun s2 => F52.T (some ⟨b, 0, none⟩) (s2.size : Int) h8 fun r5 h9 => retB r5 (I1 (IntKind.wrap .i64 (n4 + 1)) h9 ∧ m1 (IntKind.wrap .i64 (n4 + 1)) h9 < m1 n4 h6) (I1 (IntKind.wrap .i64 (n4 + 1)) h9 ∧ m1 (IntKind.wrap .i64 (n4 + 1)) h9 < m1 n4 h6)) (J h7)) (J h6))) := by
    refine ⟨fun h3 => Cnt h h3 b (e.out.length + e.inn.length), fun h3 C3 => ?_, fun n h3 => ∃ P R, e.inn = P ++ R ∧ n = (P.length : Int) ∧ Cnt h h3 b (e.out.length + P.length), fun n _ => e.inn.length - n.toNat, ⟨[], e.inn, rfl, rfl, C2.mono (by simp; omega)⟩, ?_⟩
    · refine ⟨fun n h4 => ∃ P R, e.ptr = P ++ R ∧ n = (P.length : Int) ∧ Cnt h h4 b (e.out.length + e.inn.length + P.length), fun n _ => e.ptr.length - n.toNat, ⟨[], e.ptr, rfl, rfl, C3⟩, ?_⟩
      rintro n h4 ⟨P, R, eP, rfl, C4⟩
      have eL := congrArg List.length eP
      rw [List.length_append] at eL
      refine ⟨fun hlt => ?_, fun hge => fin h4 (C4.mono (by omega))⟩
      refine pok_s C4 (fun _ => ⟨true, rfl, fun _ => ?_, fun h0 => by cases h0⟩) fun C5 => ⟨false, rfl, fun h0 => (by cases h0), fun _ => fin h4 (C5 _)⟩
      rcases R with _ | ⟨s, R⟩
      · simp at eL; omega
      obtain ⟨b2, o, ha, hat⟩ := row_get (C4.1.row E.ptr) (i := P.length) (by omega)
      refine ⟨b2, o, ha, ⟨by omega, hlt⟩, s, ?_, ?_⟩
      · rw [Int.toNat_natCast, hat P.length (by omega), eP]
        unfold ptrV
        rw [List.getElem?_map, List.getElem?_append_right (Nat.le_refl _), Nat.sub_self]; rfl
      · refine ptext_s C4 (z.2 s (by rw [eP]; simp)) fun h5 r C5 => ?_
        rw [List.length_cons] at eL
        rw [next_i (n := 140737488355328) (by omega) (by omega)]
        exact ⟨⟨P ++ [s], R, by rw [eP]; simp, by simp, C5.mono (by rw [List.length_append]; simp; omega)⟩, by dsimp only; omega⟩
    · rintro n h4 ⟨P, R, eP, rfl, C4⟩
      have eL := congrArg List.length eP
      rw [List.length_append] at eL
      refine ⟨fun hlt => ?_, fun hge => C4.mono (by omega)⟩
      refine pok_s C4 (fun _ => ⟨true, rfl, fun _ => ?_, fun h0 => by cases h0⟩) fun C5 => ⟨false, rfl, fun h0 => (by cases h0), fun _ => C5 _⟩
      rcases R with _ | ⟨p, R⟩
      · simp at eL; omega
      have er := E.inn
      rw [eP] at er
      have cell : ∀ h', Keep h h' → ∃ b o, (l1.a : Option Addr) = some ⟨b, o, none⟩ ∧ h'.at b (((o + P.length * 7) + 1) + 4) = some (.string p.least) ∧ h'.at b (((o + P.length * 7) + 1) + 5) = some (.string p.greatest) := fun h' K => by
        obtain ⟨b, o, h1, _, n1, _, n2, _, n3, _, n4, _, n5, _, s, hs, s1, hs1, rfl, rfl⟩ := in_rd (K.row er) rfl (K := fun _ _ _ _ _ _ _ s s1 => s = p.least ∧ s1 = p.greatest) (fun _ _ => ⟨rfl, rfl⟩)
        rw [Int.toNat_natCast] at hs hs1
        exact ⟨b, o, h1, hs, hs1⟩
      have zp := z.1 p (by rw [eP]; simp)
      obtain ⟨b1, o1, ha1, hs1, _⟩ := cell h4 C4.1
      refine ⟨b1, o1, ha1, ⟨by omega, hlt⟩, p.least, by rw [Int.toNat_natCast]; exact hs1, ?_⟩
      refine ptext_s C4 zp.1 fun h5 r5 C5 => ?_
      obtain ⟨b2, o2, ha2, _, hs2⟩ := cell h5 C5.1
      refine ⟨b2, o2, ha2, ⟨by omega, hlt⟩, p.greatest, by rw [Int.toNat_natCast]; exact hs2, ?_⟩
      refine padd_s C5 (by have := zp.2; omega) fun h6 r6 C6 => ?_
      rw [List.length_cons] at eL
      rw [next_i (n := 140737488355328) (by omega) (by omega)]
      have last : (∃ P' R', e.inn = P' ++ R' ∧ ((P.length + 1 : Nat) : Int) = (P'.length : Int) ∧ Cnt h h6 b (e.out.length + P'.length)) := ⟨P ++ [p], R, by rw [eP]; simp, by simp, C6.mono (by rw [List.length_append]; simp; omega)⟩
      exact ⟨r6, rfl, fun _ => ⟨last, by dsimp only; omega⟩, fun _ => ⟨last, by dsimp only; omega⟩⟩
  exact ⟨fun _ => one, fun _ => one⟩
end
end Go.Eng.Ytbjnlacacapjiaa
end
section
set_option maxRecDepth 100000
namespace Go.Eng.Ytbjnlacacapjiaa
def tabsI (xs : List (Sl × List Tab)) (n : Int) : List Tab := if n < 0 then [] else match xs[n.toNat]? with | some x => x.2 | none => []
theorem tabsI_nat (xs : List (Sl × List Tab)) {i : Nat} {x : Sl × List Tab} (hx : xs[i]? = some x) : tabsI xs (i : Int) = x.2 := by
  unfold tabsI
  rw [if_neg (by omega), Int.toNat_natCast, hx]
theorem tabsI_out (xs : List (Sl × List Tab)) {n : Int} (hn : n < 0 ∨ (xs.length : Int) ≤ n) : tabsI xs n = [] := by
  unfold tabsI
  split
  · rfl
  · rw [List.getElem?_eq_none (by omega)]
def overM (from_ to : ByteArray) (l : List Tab) : List Tab := l.filter fun t => !blB t.greatest from_ && !blB to t.least
def weightW (l : List Tab) : Int := l.foldl (fun n t => IntKind.wrap .i64 (n + t.weight)) 0
theorem tb_new {h : Hp} {r : Sl} {ts : List Tab} (B : TB h r ts) : r.n = ts.length := by have := B.len; rw [tabV_len] at this; omega
theorem cells_inj {t u : Tab} (h : t.cells = u.cells) : t = u := by
  obtain ⟨a, b, c, d, e, f⟩ := t
  obtain ⟨a', b', c', d', e', f'⟩ := u
  simp only [Tab.cells, List.cons.injEq, Value.int.injEq, Value.string.injEq, true_and, and_true] at h
  obtain ⟨rfl, rfl, rfl, rfl, rfl, rfl⟩ := h
  rfl
section
variable {l l1 : Sl} {g h h' : Hp} {vb : Nat} {ls : Sl} {xs : List (Sl × List Tab)} {Q : Value → Hp → Prop}
theorem tables_s (V : Ver g h vb ls xs) (hs : ∀ x ∈ xs, x.2.length ≤ 5000000) {n : Int} (hQ : ∀ h' r, Keep h h' → TB h' r (tabsI xs n) → NewN h r → Q (.slice r.a r.n r.c) h') : F27.T (some ⟨vb, 0, none⟩) n h Q := by
  unfold F27.T F27.G
  have hl := V.L.len
  refine has_spec V.v (fun c0 c1 => ⟨true, rfl, fun _ => ?_, fun h0 => (by cases h0)⟩) (fun hc => ⟨false, rfl, fun h0 => (by cases h0), fun _ => ?_⟩)
  · obtain ⟨i, rfl⟩ := Int.eq_ofNat_of_zero_le c0
    have hi : i < xs.length := by omega
    have hx : xs[i]? = some xs[i] := List.getElem?_eq_getElem hi
    generalize xs[i] = x at hx
    rw [tabsI_nat xs hx] at hQ
    have hm := List.mem_of_getElem? hx
    have hxs := hs x hm
    obtain ⟨b, ha, hat⟩ := V.L.rd hx
    have T := V.L.t x hm
    refine ⟨vb, 0, rfl, ls, at_of V.v 0, b, 0, ha, ⟨c0, c1⟩, x.1, by rw [Nat.zero_add, Int.toNat_natCast]; exact hat, tabV x.2, Buf.row T, tab_one _, ?_⟩
    refine append_buf (Buf.nil h 6 47) rfl (by rw [tabV_len, T.n]) (by have := T.n; dsimp only; omega) fun r h2 B2 _ U2 => ?_
    obtain ⟨K2, N2⟩ := NewN.upd (Keep.refl h) (NewN.nil h) U2
    exact hQ h2 r K2 (by unfold TB; simpa using B2) N2
  · rw [tabsI_out xs (by omega)] at hQ
    exact hQ h ⟨none, 0, 0⟩ (Keep.refl h) (Buf.nil _ _ _) (NewN.nil _)
theorem over_s (V : Ver g h vb ls xs) (hs : ∀ x ∈ xs, x.2.length ≤ 5000000) {n : Int} {s s1 : ByteArray} (hl : (tabsI xs n).length ≤ 5000000) (hQ : ∀ h' r, Keep h h' → TB h' r (overM s s1 (tabsI xs n)) → NewN h r → Q (.slice r.a r.n r.c) h') : F47.T (some ⟨vb, 0, none⟩) n s s1 h Q := by
  unfold F47.T F47.G
  refine tables_s V hs fun h1 l K1 B1 _ => ⟨l, rfl, ?_⟩
  have hn := tb_new B1
  refine ⟨fun l1 i h2 => ∃ P R, tabsI xs n = P ++ R ∧ i = (P.length : Int) ∧ Keep h1 h2 ∧ TB h2 l1 (overM s s1 P) ∧ NewN h1 l1, fun _ i _ => (tabsI xs n).length - i.toNat, ⟨[], _, rfl, rfl, Keep.refl _, Buf.nil _ _ _, NewN.nil _⟩, ?_⟩
  rintro l1 i h2 ⟨P, R, e, rfl, K2, B2, N2⟩
  have e2 := congrArg List.length e
  rw [List.length_append] at e2
  refine ⟨fun hlt => ?_, fun hge => ?_⟩
  · rcases R with _ | ⟨t, R⟩
    · exact absurd hlt (by simp at e2; omega)
    rw [List.length_cons] at e2
    have hr := (B1.keep K2).row
    rw [e] at hr
    have hn1 := tb_new B2
    have hfl : (overM s s1 P).length ≤ P.length := List.length_filter_le _ _
    refine tab_rd hr rfl fun b o => ?_
    rw [next_i (n := 5100000) (by omega) (by omega)]
    have skip : (blB t.greatest s = true ∨ blB s1 t.least = true) → (∃ P_1 R_1, tabsI xs n = P_1 ++ R_1 ∧ ((P.length + 1 : Nat) : Int) = (P_1.length : Int) ∧ Keep h1 h2 ∧ TB h2 l1 (overM s s1 P_1) ∧ NewN h1 l1) := fun hc => by
      refine ⟨P ++ [t], R, by rw [e]; simp, by simp, K2, ?_, N2⟩
      have : overM s s1 (P ++ [t]) = overM s s1 P := by
        unfold overM
        rw [List.filter_append]
        have : ([t] : List Tab).filter (fun t => !blB t.greatest s && !blB s1 t.least) = [] := by
          rcases hc with hc | hc <;> simp [hc]
        rw [this, List.append_nil]
      rw [this]; exact B2
    refine ⟨fun hlt1 => ⟨skip (.inl (blB_t.2 ((sLt_bl _ _).1 hlt1))), by dsimp only; omega⟩, fun hge1 => ⟨fun hle => ?_, fun hgt => ⟨skip (.inr ?_), by dsimp only; omega⟩⟩⟩
    · refine append_buf (us := t.cells) B2 rfl rfl (by omega) fun l3 h3 B3 _ U3 => ?_
      obtain ⟨K3, N3⟩ := NewN.upd K2 N2 U3
      refine ⟨⟨P ++ [t], R, by rw [e]; simp, by simp, K3, ?_, N3⟩, by dsimp only; omega⟩
      have : overM s s1 (P ++ [t]) = overM s s1 P ++ [t] := by
        unfold overM
        rw [List.filter_append]
        have h1 : blB t.greatest s = false := by
          cases hb : blB t.greatest s with
          | false => rfl
          | true => exact absurd ((sLt_bl _ _).2 (blB_t.1 hb)) hge1
        have h2 : blB s1 t.least = false := by
          cases hb : blB s1 t.least with
          | false => rfl
          | true => exact absurd (blB_t.1 hb) (sle.1 hle)
        congr 1
        simp [h1, h2]
      rw [this]
      unfold TB
      rw [tabV_app]
      have : tabV [t] = t.cells := by unfold tabV; simp
      rw [this]
      exact B3
    · cases hb : blB s1 t.least with
      | true => rfl
      | false => exact absurd (sle.2 fun hbl => by rw [blB_t.2 hbl] at hb; cases hb) hgt
  · have hR : R = [] := List.eq_nil_of_length_eq_zero (by omega)
    subst hR
    rw [List.append_nil] at e
    rw [e] at hQ
    exact hQ h2 l1 (K1.trans K2) B2 (N2.mono K1.dom)
theorem sameT_s {A B : List Tab} (BA : h.row l.a (l.n * 6) (tabV A)) (BB : h.row l1.a (l1.n * 6) (tabV B)) (hA : A.length ≤ 5000000) (hT : A = B → Q (.bool true) h) (hF : A ≠ B → Q (.bool false) h) : F34.T l l1 h Q := by
  have n1 : l.n = A.length := by have := BA.1; rw [tabV_len] at this; omega
  have n2 : l1.n = B.length := by have := BB.1; rw [tabV_len] at this; omega
  unfold F34.T
  refine ⟨fun hl => ?_, fun hl => hF fun e => hl (by rw [n1, n2, e])⟩
  have hAB : A.length = B.length := by omega
  refine ⟨fun k h1 => h1 = h ∧ ∃ P R S, A = P ++ R ∧ B = P ++ S ∧ k = (P.length : Int), fun k _ => A.length - k.toNat, ⟨rfl, [], _, _, rfl, rfl, rfl⟩, ?_⟩
  rintro k h1 ⟨rfl, P, R, S, e, e', rfl⟩
  have e2 := congrArg List.length e
  have e3 := congrArg List.length e'
  rw [List.length_append] at e2 e3
  refine ⟨fun hlt => ?_, fun hge => ?_⟩
  · rcases R with _ | ⟨t, R⟩
    · exact absurd hlt (by simp at e2; omega)
    rw [List.length_cons] at e2
    rcases S with _ | ⟨u, S⟩
    · simp at e3; omega
    rw [List.length_cons] at e3
    have BA' := BA
    have BB' := BB
    rw [e] at BA'
    rw [e'] at BB'
    refine tab_rd BA' rfl fun b o => ?_
    refine tab_rd BB' rfl fun b1 o1 => ⟨fun heq => ?_, fun hne => hF fun hAB' => hne ?_⟩
    · have htu : t = u := cells_inj heq
      subst htu
      rw [next_i (n := 5100000) (by omega) (by omega)]
      exact ⟨⟨rfl, P ++ [t], R, S, by rw [e]; simp, by rw [e']; simp, by simp⟩, by dsimp only; omega⟩
    · rw [e, e'] at hAB'
      have := List.append_cancel_left hAB'
      cases this; rfl
  · have hR : R = [] := List.eq_nil_of_length_eq_zero (by omega)
    have hS : S = [] := List.eq_nil_of_length_eq_zero (by omega)
    subst hR hS
    exact hT (by rw [e, e'])
def holdsM (n : Int) (s : ByteArray) (l : List Tab) : List Tab := if n = 0 then (overM s s l).reverse else overM s s l
theorem holds_s (V : Ver g h vb ls xs) (hs : ∀ x ∈ xs, x.2.length ≤ 5000000) {n : Int} {s : ByteArray} (hl : (tabsI xs n).length ≤ 5000000) (hQ : ∀ h' r, Keep h h' → TB h' r (holdsM n s (tabsI xs n)) → NewN h r → Q (.slice r.a r.n r.c) h') : F35.T (some ⟨vb, 0, none⟩) n s h Q := by
  unfold F35.T F35.G
  refine over_s V hs hl fun h1 l K1 B1 N1 => ⟨l, rfl, fun h0 => ?_, fun h0 => ?_⟩
  · unfold holdsM at hQ
    rw [if_pos h0] at hQ
    have hA : (overM s s (tabsI xs n)).length ≤ 5000000 := Nat.le_trans (List.length_filter_le _ _) hl
    generalize overM s s (tabsI xs n) = A at B1 hQ hA
    have hn := tb_new B1
    refine ⟨fun i j h2 => ∃ P M S, A = P ++ (M ++ S) ∧ P.length = S.length ∧ i = (P.length : Int) ∧ j = (P.length : Int) + M.length - 1 ∧ TB h2 l (S.reverse ++ (M ++ P.reverse)) ∧ Keep h h2, fun i j _ => (j - i).toNat, ⟨[], A, [], by simp, rfl, rfl, by rw [wrap_i64 (by omega) (by omega), hn]; simp, by simpa using B1, K1⟩, ?_⟩
    rintro i j h2 ⟨P, M, S, e, hPS, rfl, rfl, B2, K2⟩
    have eL := congrArg List.length e
    rw [List.length_append, List.length_append] at eL
    refine ⟨fun hlt => ?_, fun hge => ?_⟩
    · rcases M with _ | ⟨x, M⟩
      · simp at hlt; omega
      rcases List.eq_nil_or_concat M with rfl | ⟨M', y, rfl⟩
      · simp at hlt
      rw [List.concat_eq_append] at *
      simp only [List.length_cons, List.length_append, List.length_nil] at hlt eL ⊢
      refine B2.rd (P := S.reverse ++ x :: M') (t := y) (R := P.reverse) (by simp) (by simp; omega) fun b o => ?_
      refine B2.rd (P := S.reverse) (t := x) (R := M' ++ y :: P.reverse) (by simp) (by simp; omega) fun b1 o1 => ?_
      refine B2.wr (P := S.reverse) (x := x) (t := y) (R := M' ++ y :: P.reverse) (by simp) (by simp; omega) fun b2 B3 U3 => ?_
      obtain ⟨K3, _⟩ := NewN.upd K2 N1 U3
      generalize h2.wr b2 _ _ = h3 at B3 K3 ⊢
      refine B3.wr (P := S.reverse ++ y :: M') (x := y) (t := x) (R := P.reverse) (by simp) (by simp; omega) fun b3 B4 U4 => ?_
      obtain ⟨K4, _⟩ := NewN.upd K3 N1 U4
      generalize h3.wr b3 _ _ = h4 at B4 K4 ⊢
      rw [next_i (n := 5100000) (by omega) (by omega), wrap_i64 (by omega) (by omega)]
      refine ⟨⟨P ++ [x], M', y :: S, by rw [e]; simp, by simp; omega, by simp, by simp; omega, by simpa using B4, K4⟩, by (try dsimp only); omega⟩
    · have hM : M.reverse = M := by
        rcases M with _ | ⟨x, _ | ⟨y, M⟩⟩
        · rfl
        · rfl
        · simp at hge; omega
      refine hQ h2 l K2 ?_ N1
      rw [e, List.reverse_append, List.reverse_append, hM, List.append_assoc]; exact B2
  · unfold holdsM at hQ
    rw [if_neg h0] at hQ
    exact hQ h1 l K1 B1 N1
end
end Go.Eng.Ytbjnlacacapjiaa
end
section
set_option maxRecDepth 100000
set_option maxHeartbeats 1000000
namespace Go.Eng.Ytbjnlacacapjiaa
structure GoodV (lv : Lv) : Prop where
  hulls : Hulls lv
  adj : ∀ i ts, 1 ≤ i → lv[i]? = some ts → Adj ts
theorem GoodV.new (k : Nat) : GoodV (List.replicate k []) := by
  refine ⟨fun l hl t ht => ?_, fun i ts _ h => ?_⟩
  · rw [(List.mem_replicate.1 hl).2] at ht; cases ht
  · have := List.mem_of_getElem? h
    rw [(List.mem_replicate.1 this).2]
    intro i x y h; simp at h
theorem Res.good {lv lw : Lv} {e : Edit} (h : Res lv e 0 lw) (G : GoodV lv) : GoodV lw := by
  obtain ⟨_, l2, hS, _, _, hH⟩ := h.ok
  have H2 := hH G.hulls
  refine ⟨hS.hulls H2, fun i ts hi ht => ?_⟩
  have hl : i < l2.length := by rw [← hS.1]; exact (List.getElem?_eq_some_iff.1 ht).1
  exact (hS.2.2 i _ _ hi (List.getElem?_eq_getElem hl) ht).2.2
section
variable {l l1 : Sl} {g h h' : Hp} {vb : Nat} {ls : Sl} {xs : List (Sl × List Tab)} {Q : Value → Hp → Prop}
end
end Go.Eng.Ytbjnlacacapjiaa
end
section
set_option maxRecDepth 100000
set_option maxHeartbeats 1000000
namespace Go.Eng.Ytbjnlacacapjiaa
def tb (n w : Int) (a b : UInt8) : Tab := ⟨n, w, 0, 0, ⟨#[a]⟩, ⟨#[b]⟩⟩
def pl (l n w : Int) (a b : UInt8) : Placed := ⟨l, n, w, 0, 0, ⟨#[a]⟩, ⟨#[b]⟩⟩
def kP : List ByteArray := [⟨#[]⟩, ⟨#[]⟩, ⟨#[]⟩]
def kIn1 : List Placed := [pl 0 1 0 97 99, pl 0 2 0 98 100, pl 1 3 0 97 98]
def kE1 : Edit := ⟨0, 0, 0, [], kIn1, kP⟩
def kA : Lv := [[tb 1 0 97 99, tb 2 0 98 100], [tb 3 0 97 98], []]
def kOut2 : List Place := [⟨0, 1⟩, ⟨1, 3⟩]
def kIn2 : List Placed := [pl 1 4 0 97 99]
def kE2 : Edit := ⟨0, 0, 0, kOut2, kIn2, kP⟩
def kB : Lv := [[tb 2 0 98 100], [tb 4 0 97 99], []]
instance (a b : ByteArray) : Decidable (Bl a b) := inferInstanceAs (Decidable (cmpI a b < 0))
instance (a b : ByteArray) : Decidable (Le a b) := inferInstanceAs (Decidable (¬ Bl b a))
theorem fine_one (t : Tab) : Fine [t] [t] := ⟨List.Perm.refl _, by unfold Srt; simp, fun i x y h1 h2 => by simp at h2⟩
theorem fine_no : Fine [] [] := ⟨List.Perm.refl _, by unfold Srt; simp, fun i x y h1 h2 => by simp at h2⟩
theorem k1_res : Res (List.replicate 3 []) kE1 0 kA := by
  unfold Res
  rw [if_pos (by rfl)]
  have o : outM kE1.out (List.replicate 3 []) = (0, List.replicate 3 []) := rfl
  rw [o]
  dsimp only
  rw [if_pos rfl]
  have i : inM kE1.inn (List.replicate 3 []) = (0, kA) := rfl
  rw [i]
  dsimp only
  rw [if_pos rfl]
  refine .inr ⟨rfl, rfl, rfl, fun i ts us hi h1 h2 => ?_⟩
  rw [h1] at h2
  cases h2
  match i, hi with
  | 1, _ => cases h1; exact fine_one _
  | 2, _ => cases h1; exact fine_no
  | n + 3, _ => simp [kA] at h1
theorem k2_res : Res kA kE2 0 kB := by
  unfold Res
  rw [if_pos (by rfl)]
  have o : outM kE2.out kA = (0, [[tb 2 0 98 100], [], []]) := rfl
  rw [o]
  dsimp only
  rw [if_pos rfl]
  have i : inM kE2.inn [[tb 2 0 98 100], [], []] = (0, kB) := rfl
  rw [i]
  dsimp only
  rw [if_pos rfl]
  refine .inr ⟨rfl, rfl, rfl, fun i ts us hi h1 h2 => ?_⟩
  rw [h1] at h2
  cases h2
  match i, hi with
  | 1, _ => cases h1; exact fine_one _
  | 2, _ => cases h1; exact fine_no
  | n + 3, _ => simp [kB] at h1
theorem gone_of {now : Lv} {P : List Lv} {v : Lv} {l : List Int} (h : (nums v).filter (fun k => decide (¬ held now P k)) = l) (hp : l.Pairwise (· ≤ ·)) : goneM now P v = l := by
  unfold goneM
  rw [h]
  exact List.mergeSort_of_pairwise (hp.imp fun h => decide_eq_true h)
theorem k1_gone : goneM kA [] (List.replicate 3 []) = [] := gone_of rfl (by simp)
theorem k2_gone : goneM kB [kA] kA = [] := gone_of (by decide) (by simp)
theorem k3_gone : goneM kB [] kA = [1, 3] := gone_of (by decide) (by simp)
theorem new_row (h : Hp) (b : Nat) (L : List Value) (t : Nat) : (h.new b (.cells ⟨L⟩ t (0, 0))).row (some ⟨b, 0, none⟩) L.length L :=
  ⟨rfl, .inr ⟨b, 0, rfl, fun j _ => by rw [Nat.zero_add, at_of (new_at _ _ _)]; simp⟩⟩
theorem cell_row {h : Hp} {b t : Nat} {L : List Value} (hb : h b = some (.cells ⟨L⟩ t (0, 0))) : h.row (some ⟨b, 0, none⟩) L.length L :=
  ⟨rfl, .inr ⟨b, 0, rfl, fun j _ => by rw [Nat.zero_add, at_of hb]; simp⟩⟩
theorem nil_row (h : Hp) : h.row none 0 [] := ⟨rfl, .inl rfl⟩
section
variable {g h h' : Hp} {sb vb pm cm : Nat} {ps ls l l1 : Sl} {xs : List (Sl × List Tab)} {ptrs : List ByteArray} {L : List Pn} {Q : Value → Hp → Prop}
theorem SetP.off (S : SetP g h sb vb pm cm ps ls xs ptrs L) {b : Nat} (hb : h b = none) : ¬ DP sb pm cm ps b := by
  rintro (rfl | rfl | hp | rfl)
  · rw [S.s] at hb; cases hb
  · obtain ⟨es, c, h1, _⟩ := S.c
    rw [h1] at hb; cases hb
  · rcases S.p.own with ⟨ha, _⟩ | ⟨b', c, f, ha, hb', _⟩
    · rw [ha] at hp; cases hp
    · rw [ha] at hp
      simp only [Option.some.injEq, Addr.mk.injEq, and_true] at hp
      rw [hp, hb] at hb'; cases hb'
  · obtain ⟨c, h1, _⟩ := S.m
    rw [h1] at hb; cases hb
theorem sameN_s {A B : List Int} (BA : h.row l.a (l.n * 1) (uvs A)) (BB : h.row l1.a (l1.n * 1) (uvs B)) (hA : A.length ≤ 5000000) (hT : A = B → Q (.bool true) h) (hF : A ≠ B → Q (.bool false) h) : F36.T l l1 h Q := by
  have n1 : l.n = A.length := by have := BA.1; rw [uvs_len] at this; omega
  have n2 : l1.n = B.length := by have := BB.1; rw [uvs_len] at this; omega
  unfold F36.T
  refine ⟨fun hl => ?_, fun hl => hF fun e => hl (by rw [n1, n2, e])⟩
  have hAB : A.length = B.length := by omega
  refine ⟨fun k h1 => h1 = h ∧ ∃ P R S, A = P ++ R ∧ B = P ++ S ∧ k = (P.length : Int), fun k _ => A.length - k.toNat, ⟨rfl, [], _, _, rfl, rfl, rfl⟩, ?_⟩
  rintro k h1 ⟨rfl, P, R, S, e, e', rfl⟩
  have e2 := congrArg List.length e
  have e3 := congrArg List.length e'
  rw [List.length_append] at e2 e3
  refine ⟨fun hlt => ?_, fun hge => ?_⟩
  · rcases R with _ | ⟨t, R⟩
    · exact absurd hlt (by simp at e2; omega)
    rw [List.length_cons] at e2
    rcases S with _ | ⟨u, S⟩
    · simp at e3; omega
    rw [List.length_cons] at e3
    obtain ⟨b, o, ha, hat⟩ := row_get BA (i := P.length) (by omega)
    obtain ⟨b1, o1, ha1, hat1⟩ := row_get BB (i := P.length) (by omega)
    refine ⟨b, o, ha, ⟨by omega, hlt⟩, t, ?_, b1, o1, ha1, ⟨by omega, by omega⟩, u, ?_, fun heq => ?_, fun hne => hF fun hAB' => hne ?_⟩
    · rw [Int.toNat_natCast, hat _ (by omega), e]; unfold uvs; rw [List.getElem?_map, List.getElem?_append_right (Nat.le_refl _), Nat.sub_self]; rfl
    · rw [Int.toNat_natCast, hat1 _ (by omega), e']; unfold uvs; rw [List.getElem?_map, List.getElem?_append_right (Nat.le_refl _), Nat.sub_self]; rfl
    · subst heq
      rw [next_i (n := 5100000) (by omega) (by omega)]
      exact ⟨⟨rfl, P ++ [t], R, S, by rw [e]; simp, by rw [e']; simp, by simp⟩, by dsimp only; omega⟩
    · rw [e, e'] at hAB'
      exact (List.cons.inj (List.append_cancel_left hAB')).1
  · have hR : R = [] := List.eq_nil_of_length_eq_zero (by omega)
    have hS : S = [] := List.eq_nil_of_length_eq_zero (by omega)
    subst hR hS
    exact hT (e.trans e'.symm)
theorem known_p (hQ : ∀ h', Keep h h' → Q (.bool true) h') : F9.T h Q := by
  unfold F9.T F9.G
  refine new_p (k := 3) (by decide) fun h1 sb vb pm cm ps ls xs S e => ⟨_, rfl, fun _ _ _ e => (by cases e), fun e => (by cases e), fun _ => ?_⟩
  intro b hb b1 hb1
  have nb := S.off hb
  have K2 := Keep.new hb (.cells ⟨ptrV kP⟩ 9 (0, 0))
  have r2 := new_at h1 b (.cells ⟨ptrV kP⟩ 9 (0, 0))
  have K3 := Keep.new hb1 (.cells ⟨inV kIn1⟩ 49 (0, 0))
  have r3 := new_row (h1.new b (.cells ⟨ptrV kP⟩ 9 (0, 0))) b1 (inV kIn1) 49
  show F13.T _ _ _ _ _ _ _ ((h1.new b (.cells ⟨ptrV kP⟩ 9 (0, 0))).new b1 (.cells ⟨inV kIn1⟩ 49 (0, 0))) _
  have K3' : Keep (h1.new b (.cells ⟨ptrV kP⟩ 9 (0, 0))) ((h1.new b (.cells ⟨ptrV kP⟩ 9 (0, 0))).new b1 (.cells ⟨inV kIn1⟩ 49 (0, 0))) := K3
  have p3 := K3' _ _ r2
  have S3 := S.keep (K2.trans K3')
  generalize (h1.new b (.cells ⟨ptrV kP⟩ 9 (0, 0))).new b1 (.cells ⟨inV kIn1⟩ 49 (0, 0)) = h3 at p3 r3 S3 ⊢
  clear K2 K3 K3' r2
  have hx3 : xs.length = 3 := by have := congrArg List.length e; simpa using this
  have off : ∀ {h : Hp}, h b = some (.cells ⟨ptrV kP⟩ 9 (0, 0)) → ∀ h9 : Hp, (∀ k x, k ≠ sb → h k = some x → h9 k = some x) → h9.row (some ⟨b, 0, none⟩) 3 (ptrV kP) := fun hh h9 K => cell_row (K b _ (fun e => nb (.inl e)) hh)
  refine apply_p (e := kE1) S3 ⟨nil_row _, r3, cell_row p3⟩ (off p3) (by rw [hx3]; rfl) (by omega) (by omega) (by rw [e]; decide) (by decide) (by decide) (fun p hp => by cases hp) fun h4 c r vb4 ls4 xs4 ptrs4 C4 S4 R4 g4 _ => ⟨r, c, rfl, ?_⟩
  rw [e] at R4 g4
  obtain ⟨hc, hx⟩ := R4.one (GoodV.new 3).hulls k1_res
  subst hc
  have e4 := hx rfl
  obtain ⟨hp4, _, B4, _⟩ := g4 rfl
  rw [e4] at B4
  rw [show goneM kA (([] : List Pn).map (·.lv)) (List.replicate 3 []) = [] from k1_gone] at B4
  have p4 := C4.keep _ _ nb p3
  have l4 : xs4.length = 3 := by have := congrArg List.length e4; simpa [kA] using this
  have rn : r.n = 0 := by have := B4.len; rw [uvs_len] at this; simpa using this.symm
  refine pin_p S4 (fun p hp => by cases hp) fun h5 L5 O5 S5 P5 => ⟨_, rfl, fun _ => ⟨_, rfl, fun _ => ?_, fun hh => absurd rfl hh⟩, fun hh => absurd (by rw [rn]; rfl) hh⟩
  have p5 := O5.keep _ _ (fun e => nb (.inr (.inr (.inr e)))) p4
  obtain ⟨i5, eL⟩ : ∃ i, L5 = [⟨vb4, 1, kA, i⟩] := by
    rcases P5 with ⟨A, p, B, h1, _⟩ | ⟨_, i, h2⟩
    · simp at h1
    · rw [e4] at h2
      exact ⟨i, h2⟩
  subst eL
  refine ⟨fun _ _ _ e => (by cases e), fun e => (by cases e), fun _ => ?_⟩
  have sz : ∀ x ∈ xs4, x.2.length ≤ 5000000 := fun x hx => Nat.le_trans (totL_mem (List.mem_map_of_mem (f := (·.2)) hx)) (by rw [e4]; decide)
  obtain ⟨s0, s1, s2, rfl⟩ : ∃ s0 s1 s2, xs4 = [(s0, [tb 1 0 97 99, tb 2 0 98 100]), (s1, [tb 3 0 97 98]), (s2, [])] := by
    unfold kA at e4
    match xs4, e4 with
    | [(s0, _), (s1, _), (s2, _)], e4 =>
      simp only [List.map_cons, List.map_nil, List.cons.injEq, and_true] at e4
      obtain ⟨rfl, rfl, rfl⟩ := e4
      exact ⟨s0, s1, s2, rfl⟩
  refine holds_s S5.V sz (show 2 ≤ 5000000 by decide) fun h7 q K7 B7 N7 => ⟨q, rfl, ?_⟩
  intro b2 hb2
  have K8 := Keep.new hb2 (.cells ⟨tabV [tb 2 0 98 100, tb 1 0 97 99]⟩ 47 (0, 0))
  have r8 := new_row h7 b2 (tabV [tb 2 0 98 100, tb 1 0 97 99]) 47
  have p8 := (K7.trans K8) _ _ p5
  have S8 := S5.keep (K7.trans K8)
  show F34.T _ _ (h7.new b2 (.cells ⟨tabV [tb 2 0 98 100, tb 1 0 97 99]⟩ 47 (0, 0))) _
  refine sameT_s (A := [tb 2 0 98 100, tb 1 0 97 99]) (B := [tb 2 0 98 100, tb 1 0 97 99]) (B7.keep K8).row r8 (by decide) (fun _ => ⟨_, rfl, fun _ => ?_, fun hh => Bool.noConfusion hh⟩) (fun hh => absurd rfl hh)
  generalize h7.new b2 (.cells ⟨tabV [tb 2 0 98 100, tb 1 0 97 99]⟩ 47 (0, 0)) = h8 at p8 S8 ⊢
  clear K7 K8 r8 p5 S5
  intro b3 hb3 b4 hb4
  have K9 := Keep.new hb3 (.cells ⟨outV kOut2⟩ 82 (0, 0))
  have r9 := new_row h8 b3 (outV kOut2) 82
  have K10 : Keep (h8.new b3 (.cells ⟨outV kOut2⟩ 82 (0, 0))) ((h8.new b3 (.cells ⟨outV kOut2⟩ 82 (0, 0))).new b4 (.cells ⟨inV kIn2⟩ 49 (0, 0))) := Keep.new hb4 (.cells ⟨inV kIn2⟩ 49 (0, 0))
  have r10 := new_row (h8.new b3 (.cells ⟨outV kOut2⟩ 82 (0, 0))) b4 (inV kIn2) 49
  have r9' := K10.row r9
  have S10 := S8.keep (K9.trans K10)
  have p10 := (K9.trans K10) _ _ p8
  show F13.T _ _ _ _ _ _ _ ((h8.new b3 (.cells ⟨outV kOut2⟩ 82 (0, 0))).new b4 (.cells ⟨inV kIn2⟩ 49 (0, 0))) _
  generalize (h8.new b3 (.cells ⟨outV kOut2⟩ 82 (0, 0))).new b4 (.cells ⟨inV kIn2⟩ 49 (0, 0)) = h10 at r10 r9' S10 p10 ⊢
  clear K9 K10 r9
  refine apply_p (e := kE2) S10 ⟨r9', r10, cell_row p10⟩ (off p10) (by rw [hp4]; rfl) (show 1 ≤ 3 by decide) (show 3 ≤ 5 by decide) (show 3 + 1 ≤ 4000000 by decide) (by decide) (show 1 ≤ 100000 by decide) (fun p hp => by rw [List.mem_singleton] at hp; subst hp; exact ⟨show 3 ≤ 5000000 by decide, show 3 ≤ 5 by decide⟩) fun h12 c r12 vb5 ls5 xs5 ptrs5 C12 S12 R12 g12 _ => ⟨r12, c, rfl, ?_⟩
  have R12' : Res kA kE2 c (xs5.map (·.2)) := R12
  obtain ⟨hc, hx⟩ := R12'.one (R4.good (GoodV.new 3)).hulls k2_res
  subst hc
  have e5 := hx rfl
  obtain ⟨_, _, B12, _⟩ := g12 rfl
  rw [e5] at B12
  have B12' : Buf h12 r12 1 33 (uvs (goneM kB [kA] kA)) := B12
  rw [k2_gone] at B12'
  have rn2 : r12.n = 0 := by have := B12'.len; rw [uvs_len] at this; simpa using this.symm
  have l5 : xs5.length = 3 := by have := congrArg List.length e5; simpa [kB] using this
  have Z5 : SmP xs5 [⟨vb4, 1, kA, i5⟩] := ⟨by rw [e5]; decide, by omega, show 1 ≤ 100000 by decide, fun p hp => by rw [List.mem_singleton] at hp; subst hp; exact ⟨show 3 ≤ 5000000 by decide, show 3 ≤ 5 by decide⟩⟩
  refine ⟨fun _ => ⟨_, rfl, fun _ => ?_, fun hh => absurd rfl hh⟩, fun hh => absurd (by rw [rn2]; rfl) hh⟩
  have V12 : VerO h h12 vb4 kA := S12.pv _ List.mem_cons_self
  refine unpin_p S12 V12 Z5 (fun p hp => by rw [List.mem_singleton] at hp; subst hp; exact ⟨show (1:Int) ≤ 1 by decide, show (1:Int) ≤ 1000000 by decide⟩) (show 3 ≤ 5000000 by decide) (show 3 ≤ 5 by decide) (fun hno => absurd rfl (hno _ List.mem_cons_self)) fun h14 L14 r14 C14 S14 U14 B14 N14 V14 => ⟨r14, rfl, ?_⟩
  obtain rfl : L14 = [] := by
    obtain ⟨A, p, B, h1, _, h2⟩ := U14
    rcases A with _ | ⟨a, A⟩
    · simp only [List.nil_append, List.cons.injEq] at h1
      obtain ⟨rfl, rfl⟩ := h1
      rcases h2 with ⟨_, h2⟩ | ⟨h2, _⟩
      · exact h2
      · exact absurd h2 (show ¬ (1:Int) < 1 by decide)
    · simp at h1
  rw [e5] at B14
  have B14' : Buf h14 r14 1 33 (uvs (goneM kB [] kA)) := B14
  rw [k3_gone] at B14'
  intro b5 hb5
  have K15 := Keep.new hb5 (.cells ⟨uvs [1, 3]⟩ 33 (0, 0))
  have r15 := new_row h14 b5 (uvs [1, 3]) 33
  have S15 := S14.keep K15
  show F36.T _ _ (h14.new b5 (.cells ⟨uvs [1, 3]⟩ 33 (0, 0))) _
  refine sameN_s (A := [1, 3]) (B := [1, 3]) (B14'.keep K15).row r15 (by decide) (fun _ => ⟨_, rfl, fun _ => ?_, fun hh => Bool.noConfusion hh⟩) (fun hh => absurd rfl hh)
  have V15 := V14.keep K15
  have Z6 : SmP xs5 [] := ⟨Z5.t, Z5.x5, by decide, fun p hp => by cases hp⟩
  refine unpin_p S15 V15 Z6 (fun p hp => by cases hp) (show 3 ≤ 5000000 by decide) (show 3 ≤ 5 by decide) (fun _ => ⟨⟨none, 0, 0⟩, rfl, fun _ => hQ _ S15.V.L.k, fun hh => absurd rfl hh⟩) fun h17 L17 r17 C17 S17 U17 B17 N17 V17 => ?_
  obtain ⟨A, p, B, h1, _⟩ := U17
  simp at h1
end
end Go.Eng.Ytbjnlacacapjiaa
end
section
set_option maxRecDepth 100000
open Go.Proofs
namespace Go.Eng.Ytbjnlacacapjiaa
@[reducible] def F5.G (T9 : PT) (T10 : Int → PT) (T11 : Option Addr → PT) (T12 : Int → Int → Int → Sl → Sl → Sl → PT) (T13 : Option Addr → Int → Int → Int → Sl → Sl → Sl → PT) (T14 : Int → PT) (T15 : Sl → Int → PT) (T16 : Option Addr → PT) (T17 : Option Addr → Option Addr → PT) (T18 : Option Addr → Sl → PT) (T19 : Option Addr → Option Addr → PT) (n : Int) (l : Sl) : PT := fun h Q =>
  par ((300 : Int) < (l.n : Int)) (Q (.bool true) h) (T9 h fun r h1 => retB r (T10 n h1 fun r1 h2 => retP r1 fun p => nw h2 (.cells ⟨[.slice none 0 0, .slice none 0 0, .slice none 0 0]⟩ 30 (0, 0)) fun b h3 => okPtr h3 p none ∧ par ((p : Option Addr) = none) (Q (.bool false) h3) (T11 p h3 fun r2 h4 => retP r2 fun p1 => okPtr h4 p1 none ∧ par ((p1 : Option Addr) = none) (Q (.bool false) h4) (∃ (I : Int → Hp → Prop) (m : Int → Hp → Nat), I 0 h4 ∧ (∀ n1 : Int, ∀ h5 : Hp, I n1 h5 → par (n1 < (l.n : Int)) (ix l.a n1 l.n fun b1 o => ldI .i64 h5 b1 (o + n1.toNat * 12) fun n2 => ldI .i64 h5 b1 ((o + n1.toNat * 12) + 1) fun n3 => ldI .i64 h5 b1 ((o + n1.toNat * 12) + 2) fun n4 => ldT h5 b1 ((o + n1.toNat * 12) + 3) fun s => ldT h5 b1 ((o + n1.toNat * 12) + 4) fun s1 => ldI .u64 h5 b1 ((o + n1.toNat * 12) + 5) fun n5 => ldI .u64 h5 b1 ((o + n1.toNat * 12) + 6) fun n6 => ldI .u64 h5 b1 ((o + n1.toNat * 12) + 7) fun n7 => ldS h5 b1 ((o + n1.toNat * 12) + 8) fun l1 => ldS h5 b1 ((o + n1.toNat * 12) + 9) fun l2 => ldS h5 b1 ((o + n1.toNat * 12) + 10) fun l3 => ∃ b2 : Bool, parB b2 (h5.at b1 ((o + n1.toNat * 12) + 11) = some (.bool true) ∧ T12 n5 n6 n7 l1 l2 l3 h5 fun r3 h6 => retB r3 (∃ J : Sl → Hp → Prop, (∀ l4 : Sl, ∀ h7 : Hp, J l4 h7 → T18 (some ⟨b, 0, none⟩) l4 h7 fun r4 h8 => retB r4 (T19 (some ⟨b, 0, none⟩) p h8 fun r5 h9 => retB r5 (I (IntKind.wrap .i64 (n1 + 1)) h9 ∧ m (IntKind.wrap .i64 (n1 + 1)) h9 < m n1 h5) (Q (.bool false) h9)) (Q (.bool false) h8)) ∧ (par (n2 = 1) (T13 p n5 n6 n7 l1 l2 l3 h6 fun r6 h10 => ∃ l5 : Sl, ∃ n8 : Int, r6 = .tuple ⟨[.slice l5.a l5.n l5.c, .int .i64 n8]⟩ ∧ ∃ (I1 : Int → Hp → Prop) (m1 : Int → Hp → Nat), I1 0 h10 ∧ (∀ n9 : Int, ∀ h11 : Hp, I1 n9 h11 → par (n9 < (l2.n : Int)) (T14 n8 h11 fun r7 h12 => retI .i64 r7 fun n10 => par (n10 = 0) (ix l2.a n9 l2.n fun b3 o1 => ldI .u64 h12 b3 ((o1 + n9.toNat * 7) + 1) fun n11 => ldS h12 b 1 fun l6 => T15 l6 n11 h12 fun r8 h13 => retB r8 (Q (.bool true) h13) (ldS h13 b 0 fun l7 => T15 l7 n11 h13 fun r9 h14 => retB r9 (I1 (IntKind.wrap .i64 (n9 + 1)) h14 ∧ m1 (IntKind.wrap .i64 (n9 + 1)) h14 < m1 n9 h11) (ldS h14 b 0 fun l8 => appendD l8 33 1 8 [.int .u64 0] 1 [.int .u64 n11] h14 fun l9 h15 => st h15 b 0 1 [.slice l9.a l9.n l9.c] fun h16 => I1 (IntKind.wrap .i64 (n9 + 1)) h16 ∧ m1 (IntKind.wrap .i64 (n9 + 1)) h16 < m1 n9 h11))) (J l5 h12)) (J l5 h11))) (par (n2 = 2) (ldS h6 b 2 fun l10 => T16 p h6 fun r10 h17 => retP r10 fun p2 => h17.at b 2 = some (.slice l10.a l10.n l10.c) ∧ h17.at b 2 = some (.slice l10.a l10.n l10.c) ∧ appendD l10 31 1 8 [.pointer none] 1 [.pointer p2] h17 fun l11 h18 => st h18 b 2 1 [.slice l11.a l11.n l11.c] fun h19 => J ⟨none, 0, 0⟩ h19) (par (n2 = 3) (ldS h6 b 2 fun l12 => par ((0 : Int) < (l12.n : Int)) (ldS h6 b 2 fun l13 => (IntKind.wrap .u64 (l13.n : Int)) ≠ 0 ∧ ldS h6 b 2 fun l14 => ix l14.a (IntKind.wrap .i64 (Int.tmod (IntKind.wrap .u64 n3) (IntKind.wrap .u64 (l13.n : Int)))) l14.n fun b4 o2 => ldP h6 b4 (o2 + ((IntKind.wrap .i64 (Int.tmod (IntKind.wrap .u64 n3) (IntKind.wrap .u64 (l13.n : Int))))).toNat) fun p3 => T17 p p3 h6 fun r11 h20 => retS r11 fun l15 => ldS h20 b 2 fun l16 => Sl.okCut l16 0 (IntKind.wrap .i64 (Int.tmod (IntKind.wrap .u64 n3) (IntKind.wrap .u64 (l13.n : Int)))) (l16.c : Int) ∧ ldS h20 b 2 fun l17 => Sl.okCut l17 (IntKind.wrap .i64 ((IntKind.wrap .i64 (Int.tmod (IntKind.wrap .u64 n3) (IntKind.wrap .u64 (l13.n : Int)))) + 1)) (l17.n : Int) (l17.c : Int) ∧ ∃ vs, h20.row ((Sl.cut l17 1 (IntKind.wrap .i64 ((IntKind.wrap .i64 (Int.tmod (IntKind.wrap .u64 n3) (IntKind.wrap .u64 (l13.n : Int)))) + 1)) (l17.n : Int) (l17.c : Int)).a) (((Sl.cut l17 1 (IntKind.wrap .i64 ((IntKind.wrap .i64 (Int.tmod (IntKind.wrap .u64 n3) (IntKind.wrap .u64 (l13.n : Int)))) + 1)) (l17.n : Int) (l17.c : Int)).n) * 1) vs ∧ (∀ v ∈ vs, Value.oneCell' v = true) ∧ appendD (Sl.cut l16 1 0 (IntKind.wrap .i64 (Int.tmod (IntKind.wrap .u64 n3) (IntKind.wrap .u64 (l13.n : Int)))) (l16.c : Int)) 31 1 8 [.pointer none] ((Sl.cut l17 1 (IntKind.wrap .i64 ((IntKind.wrap .i64 (Int.tmod (IntKind.wrap .u64 n3) (IntKind.wrap .u64 (l13.n : Int)))) + 1)) (l17.n : Int) (l17.c : Int)).n) vs h20 fun l18 h21 => st h21 b 2 1 [.slice l18.a l18.n l18.c] fun h22 => J l15 h22) (J ⟨none, 0, 0⟩ h6)) (J ⟨none, 0, 0⟩ h6))))) (Q (.bool true) h6)) (h5.at b1 ((o + n1.toNat * 12) + 11) = some (.bool false) ∧ T12 n5 n6 n7 l1 l2 l3 h5 fun r12 h23 => retB r12 (∃ J1 : Sl → Hp → Prop, (∀ l19 : Sl, ∀ h24 : Hp, J1 l19 h24 → T18 (some ⟨b, 0, none⟩) l19 h24 fun r13 h25 => retB r13 (T19 (some ⟨b, 0, none⟩) p h25 fun r14 h26 => retB r14 (I (IntKind.wrap .i64 (n1 + 1)) h26 ∧ m (IntKind.wrap .i64 (n1 + 1)) h26 < m n1 h5) (Q (.bool false) h26)) (Q (.bool false) h25)) ∧ (par (n2 = 1) (T13 p n5 n6 n7 l1 l2 l3 h23 fun r15 h27 => ∃ l20 : Sl, ∃ n12 : Int, r15 = .tuple ⟨[.slice l20.a l20.n l20.c, .int .i64 n12]⟩ ∧ ∃ (I2 : Int → Hp → Prop) (m2 : Int → Hp → Nat), I2 0 h27 ∧ (∀ n13 : Int, ∀ h28 : Hp, I2 n13 h28 → par (n13 < (l2.n : Int)) (T14 n12 h28 fun r16 h29 => retI .i64 r16 fun n14 => par (n14 = 0) (ix l2.a n13 l2.n fun b5 o3 => ldI .u64 h29 b5 ((o3 + n13.toNat * 7) + 1) fun n15 => ldS h29 b 1 fun l21 => T15 l21 n15 h29 fun r17 h30 => retB r17 (Q (.bool true) h30) (ldS h30 b 0 fun l22 => T15 l22 n15 h30 fun r18 h31 => retB r18 (I2 (IntKind.wrap .i64 (n13 + 1)) h31 ∧ m2 (IntKind.wrap .i64 (n13 + 1)) h31 < m2 n13 h28) (ldS h31 b 0 fun l23 => appendD l23 33 1 8 [.int .u64 0] 1 [.int .u64 n15] h31 fun l24 h32 => st h32 b 0 1 [.slice l24.a l24.n l24.c] fun h33 => I2 (IntKind.wrap .i64 (n13 + 1)) h33 ∧ m2 (IntKind.wrap .i64 (n13 + 1)) h33 < m2 n13 h28))) (J1 l20 h29)) (J1 l20 h28))) (par (n2 = 2) (ldS h23 b 2 fun l25 => T16 p h23 fun r19 h34 => retP r19 fun p4 => h34.at b 2 = some (.slice l25.a l25.n l25.c) ∧ h34.at b 2 = some (.slice l25.a l25.n l25.c) ∧ appendD l25 31 1 8 [.pointer none] 1 [.pointer p4] h34 fun l26 h35 => st h35 b 2 1 [.slice l26.a l26.n l26.c] fun h36 => J1 ⟨none, 0, 0⟩ h36) (par (n2 = 3) (ldS h23 b 2 fun l27 => par ((0 : Int) < (l27.n : Int)) (ldS h23 b 2 fun l28 => (IntKind.wrap .u64 (l28.n : Int)) ≠ 0 ∧ ldS h23 b 2 fun l29 => ix l29.a (IntKind.wrap .i64 (Int.tmod (IntKind.wrap .u64 n3) (IntKind.wrap .u64 (l28.n : Int)))) l29.n fun b6 o4 => ldP h23 b6 (o4 + ((IntKind.wrap .i64 (Int.tmod (IntKind.wrap .u64 n3) (IntKind.wrap .u64 (l28.n : Int))))).toNat) fun p5 => T17 p p5 h23 fun r20 h37 => retS r20 fun l30 => ldS h37 b 2 fun l31 => Sl.okCut l31 0 (IntKind.wrap .i64 (Int.tmod (IntKind.wrap .u64 n3) (IntKind.wrap .u64 (l28.n : Int)))) (l31.c : Int) ∧ ldS h37 b 2 fun l32 => Sl.okCut l32 (IntKind.wrap .i64 ((IntKind.wrap .i64 (Int.tmod (IntKind.wrap .u64 n3) (IntKind.wrap .u64 (l28.n : Int)))) + 1)) (l32.n : Int) (l32.c : Int) ∧ ∃ vs1, h37.row ((Sl.cut l32 1 (IntKind.wrap .i64 ((IntKind.wrap .i64 (Int.tmod (IntKind.wrap .u64 n3) (IntKind.wrap .u64 (l28.n : Int)))) + 1)) (l32.n : Int) (l32.c : Int)).a) (((Sl.cut l32 1 (IntKind.wrap .i64 ((IntKind.wrap .i64 (Int.tmod (IntKind.wrap .u64 n3) (IntKind.wrap .u64 (l28.n : Int)))) + 1)) (l32.n : Int) (l32.c : Int)).n) * 1) vs1 ∧ (∀ v ∈ vs1, Value.oneCell' v = true) ∧ appendD (Sl.cut l31 1 0 (IntKind.wrap .i64 (Int.tmod (IntKind.wrap .u64 n3) (IntKind.wrap .u64 (l28.n : Int)))) (l31.c : Int)) 31 1 8 [.pointer none] ((Sl.cut l32 1 (IntKind.wrap .i64 ((IntKind.wrap .i64 (Int.tmod (IntKind.wrap .u64 n3) (IntKind.wrap .u64 (l28.n : Int)))) + 1)) (l32.n : Int) (l32.c : Int)).n) vs1 h37 fun l33 h38 => st h38 b 2 1 [.slice l33.a l33.n l33.c] fun h39 => J1 l30 h39) (J1 ⟨none, 0, 0⟩ h23)) (J1 ⟨none, 0, 0⟩ h23))))) (Q (.bool true) h23))) (∃ (I3 : Hp → Prop) (m3 : Hp → Nat), I3 h5 ∧ (∀ h40 : Hp, I3 h40 → ldS h40 b 2 fun l34 => par ((0 : Int) < (l34.n : Int)) (ldS h40 b 2 fun l35 => ix l35.a 0 l35.n fun b7 o5 => ldP h40 b7 (o5 + (0 : Int).toNat) fun p6 => T17 p p6 h40 fun r21 h41 => retS r21 fun l36 => T18 (some ⟨b, 0, none⟩) l36 h41 fun r22 h42 => retB r22 (ldS h42 b 2 fun l37 => Sl.okCut l37 1 (l37.n : Int) (l37.c : Int) ∧ st h42 b 2 1 [.slice (Sl.cut l37 1 1 (l37.n : Int) (l37.c : Int)).a (Sl.cut l37 1 1 (l37.n : Int) (l37.c : Int)).n (Sl.cut l37 1 1 (l37.n : Int) (l37.c : Int)).c] fun h43 => I3 h43 ∧ m3 h43 < m3 h40) (Q (.bool false) h42)) (T19 (some ⟨b, 0, none⟩) p h40 fun r23 h44 => retB r23 (Q (.bool true) h44) (Q (.bool false) h44)))))))) (Q (.bool false) h1))
def F5.T := F5.G F9.T F10.T F11.T F12.T F13.T F14.T F15.T F16.T F17.T F18.T F19.T
theorem F5.gen (V T9 T10 T11 T12 T13 T14 T15 T16 T17 T18 T19 n l) : denF Try.prog [8, 97, 110] [(9, F9.W T9), (10, F10.W T10), (11, F11.W T11), (12, F12.W T12), (13, F13.W T13), (14, F14.W T14), (15, F15.W T15), (16, F16.W T16), (17, F17.W T17), (18, F18.W T18), (19, F19.W T19)] V [(1018, .loop [(7, .int .i64)] []), (1020, .loop [] []), (130343, .join [(9, .sl)] []), (16683950, .order [0, 1, 2, 3, 4, 5, 6, 7, 8, 9, 10, 11]), (66735790, .loop [(12, .int .i64)] []), (533886452, .order [0, 1, 2, 3, 4, 5, 6, 7, 8, 9, 10, 11]), (1067772907, .order [0, 1, 2, 3, 4, 5, 6, 7, 8, 9, 10, 11, 12, 13, 14, 15, 16, 17])] Try.f5 [.v (.int .i64 n), .v (.slice l.a l.n l.c)] = F5.G T9 T10 T11 T12 T13 T14 T15 T16 T17 T18 T19 n l := by kernel_rfl
def F5.W (T5 : Int → Sl → PT) (args : List Value) : PT := match args with
  | [.int .i64 n, .slice l_a l_n l_c] => T5 n ⟨l_a, l_n, l_c⟩
  | _ => fun _ _ => False
def F5.V : List Value → PT := F5.W F5.T
theorem F5.ok : FOk Try.prog 5 F5.V := by
  refine ⟨⟨_, Try.func5, rfl, rfl⟩, fun args => ?_⟩
  unfold F5.V F5.W
  split
  · exact denF_okE (GOk.cons F9.ok (GOk.cons F10.ok (GOk.cons F11.ok (GOk.cons F12.ok (GOk.cons F13.ok (GOk.cons F14.ok (GOk.cons F15.ok (GOk.cons F16.ok (GOk.cons F17.ok (GOk.cons F18.ok (GOk.cons F19.ok (GOk.nil)))))))))))) noV_ok Try.func5 (F5.gen noV F9.T F10.T F11.T F12.T F13.T F14.T F15.T F16.T F17.T F18.T F19.T _ ⟨_, _, _⟩)
  · exact fun _ _ h => h.elim
end Go.Eng.Ytbjnlacacapjiaa
end
section
set_option maxRecDepth 100000
set_option maxHeartbeats 1000000
namespace Go.Eng.Ytbjnlacacapjiaa
structure Opr where
  kind : Int
  n : Int
  level : Int
  fr : ByteArray
  to : ByteArray
  e : Edit
  lo : Sl
  li : Sl
  lp : Sl
  second : Bool
def Opr.cells (o : Opr) : List Value := [.int .i64 o.kind, .int .i64 o.n, .int .i64 o.level, .string o.fr, .string o.to, .int .u64 o.e.log, .int .u64 o.e.next, .int .u64 o.e.seq, .slice o.lo.a o.lo.n o.lo.c, .slice o.li.a o.li.n o.li.c, .slice o.lp.a o.lp.n o.lp.c, .bool o.second]
def opV (l : List Opr) : List Value := l.flatMap Opr.cells
theorem opV_len (l : List Opr) : (opV l).length = l.length * 12 := flat_length Opr.cells 12 (fun _ => rfl) l
structure OpOk (h : Hp) (x : Opr) : Prop where
  e : EdAt h x.e x.lo x.li x.lp
  z : x.e.fits
  o : x.e.out.length ≤ 140737488355328
  i : x.e.inn.length ≤ 140737488355328
  p : x.e.ptr.length ≤ 140737488355328
  n : -9223372036854775808 ≤ x.n ∧ x.n ≤ 9223372036854775807
theorem op_rd {h : Hp} {l : Sl} {P R : List Opr} {x : Opr} (hr : h.row l.a (l.n * 12) (opV (P ++ x :: R))) : ∃ b o, (l.a : Option Addr) = some ⟨b, o, none⟩ ∧ ((0 : Int) ≤ (P.length : Int) ∧ (P.length : Int) < (l.n : Int)) ∧ ∀ j, j < 12 → h.at b ((o + (P.length : Int).toNat * 12) + j) = (Opr.cells x)[j]? := by
  have hl := hr.1
  rw [opV_len, List.length_append, List.length_cons] at hl
  obtain ⟨b, o, ha, hat⟩ := row_get hr (i := P.length * 12) (by omega)
  refine ⟨b, o, ha, ⟨by omega, by omega⟩, fun j hj => ?_⟩
  rw [Int.toNat_natCast, Nat.add_assoc, hat _ (by omega)]
  have := flat_get Opr.cells 12 (fun _ => rfl) (P ++ x :: R) P.length j (by rw [List.length_append, List.length_cons]; omega) hj
  rw [List.getElem_append_right (Nat.le_refl _)] at this
  simp only [Nat.sub_self, List.getElem_cons_zero] at this
  exact this
section
variable {h : Hp} {l : Sl} {ops : List Opr} {n : Int} {Q : Value → Hp → Prop}
end
end Go.Eng.Ytbjnlacacapjiaa
end
section
open Go.Proofs
namespace Go.Eng.Ytbjnlacacapjiaa
open Go.ChangeShapes Go.WideShapes Go.RowKit
def wh (W : World) : Hp := fun b => W.heap[b]?
theorem own_wh (W : World) : Own (fun _ => none) (wh W) W := ⟨fun _ _ h => h, fun _ _ h => (by cases h), fun _ => .inr rfl⟩
theorem below_of {W W' : World} {h' : Hp} (hw : Wr W W') (ho : Own (fun _ => none) h' W') (K : Keep (wh W) h') : Below W.heap.size W W' := by
  refine ⟨hw.os, hw.tape, hw.output, hw.size, fun k hk => ?_⟩
  have h1 : wh W k = some W.heap[k] := by unfold wh; exact Array.getElem?_eq_getElem hk
  have h2 := ho.hh k _ (K k _ h1)
  rw [h2, Array.getElem?_eq_getElem hk]
theorem cell_at {W : World} {b o : Nat} {v : Value} (h : W.cell? ⟨b, o, none⟩ = some v) : (wh W).at b o = some v := by
  unfold World.cell? at h
  unfold Hp.at wh
  cases hb : W.heap[b]? with
  | none => rw [hb] at h; cases h
  | some x =>
    rw [hb] at h
    cases x with
    | cells c t f => simpa using h
    | _ => cases h
theorem spot_none {W : World} {a : Addr} {v : Value} (h : W.cell? (a.add 0) = some v) : a = ⟨a.block, a.off, none⟩ := by
  obtain ⟨b, o, p⟩ := a
  cases p with
  | none => rfl
  | some p =>
    exfalso
    unfold World.cell? at h
    simp only [Addr.add, if_pos] at h
    cases hb : W.heap[b]? with
    | none => rw [hb] at h; cases h
    | some x =>
      rw [hb] at h
      cases x with
      | cells c t f => simp at h
      | _ => cases h
theorem row_of_cells {W : World} {a : Addr} {n : Nat} {vs : List Value} (hl : vs.length = n) (h : ∀ i, (hi : i < n) → W.cell? (a.add i) = vs[i]?) : (wh W).row (some a) n vs := by
  refine ⟨hl, ?_⟩
  by_cases h0 : n = 0
  · exact .inl h0
  right
  have hz := h 0 (by omega)
  rw [List.getElem?_eq_getElem (by omega)] at hz
  have ha := spot_none hz
  refine ⟨a.block, a.off, by rw [← ha], fun j hj => ?_⟩
  have hj' := h j hj
  rw [List.getElem?_eq_getElem (by omega)] at hj' ⊢
  rw [ha, addr_add] at hj'
  exact cell_at hj'
theorem add_add' (a : Addr) (m n : Nat) : (a.add m).add n = a.add (m + n) := by
  unfold Addr.add
  by_cases h1 : m = 0
  · subst h1; simp
  · by_cases h2 : n = 0
    · subst h2; simp [h1]
    · simp [h1, h2, Nat.add_assoc]
theorem wf_i64 {n : Int} (h : (Lit.int .i64 n).wf = true) : iI n := by
  simp [Lit.wf, IntKind.min, IntKind.max, IntKind.signed, IntKind.bits] at h
  exact ⟨by omega, by omega⟩
theorem weights_mem_all {H : Type} {P : Program} {e : TypeId} : ∀ {E : List (DataW H)} {d : DataW H}, d ∈ E → ∀ n ∈ d.weights P e, n ∈ DataW.weightsAll P e E
  | x :: E, d, hd, n, hn => by
    simp only [DataW.weightsAll, List.mem_append]
    rcases List.mem_cons.1 hd with rfl | hd
    · exact .inl hn
    · exact .inr (weights_mem_all hd n hn)
def WB {H : Type} (P : Program) (t : TypeId) (d : DataW H) : Prop := ∀ n ∈ d.weights P t, n ≤ reachBytes
theorem reach_le {n : Nat} (h : n ≤ reachBytes) : n ≤ 140737488355328 := by have := reachBytes_lt; omega
section
variable {H : Type} {enc : TypeId × Value → H} {P : Program} {W : World} {base : Nat} {held : Bool}
theorem slice_rowsW {α : Type} {t e : TypeId} {fuel : Nat} {s : Sl} {y : DataW H × List MemPlace} (sz : Nat) (f : α → List Value) (ok : α → Prop) (hsz : 0 < sz) (ht : P.underlying t = some (.slice e)) (hc : P.cellsOf e = sz) (hf : ∀ x, (f x).length = sz)
    (each : ∀ (fuel : Nat) (cs : List Value) (z : DataW H × List MemPlace), cs.length = sz → DataW.trod enc P W base (fun _ => true) held fuel e cs = some z → WB P e z.1 → ∃ a, cs = f a ∧ ok a)
    (h : DataW.trod enc P W base (fun _ => true) held fuel t [.slice s.a s.n s.c] = some y) (hw : WB P t y.1) : ∃ l : List α, (wh W).row s.a (s.n * sz) (l.flatMap f) ∧ s.n ≤ s.c ∧ (s.a = none → s.n = 0) ∧ l.length = s.n ∧ (s.n * P.bytesOf e ≤ reachBytes) ∧ ∀ a ∈ l, ok a := by
  rcases DataW.trod_slice ht h with ⟨hcs, _⟩ | ⟨x, len, cap, elems, rest, n, _, hcs, hyy, hb, hl, hm, hlen, hel, _, _⟩
  · simp only [List.cons.injEq, Value.slice.injEq, and_true] at hcs
    obtain ⟨h1, h2, h3⟩ := hcs
    exact ⟨[], by rw [h1, h2]; exact ⟨by simp, .inl (by simp)⟩, by omega, fun _ => h2, by rw [h2]; rfl, by rw [h2]; omega, fun a ha => (by cases ha)⟩
  · simp only [List.cons.injEq, Value.slice.injEq, and_true] at hcs
    obtain ⟨h1, h2, h3⟩ := hcs
    have hwl : ∀ n ∈ (DataW.slice (elems.map (·.1)) (rest.map (·.1))).weights P t, n ≤ reachBytes := by rw [hyy] at hw; exact hw
    have hws : (DataW.slice (elems.map (·.1)) (rest.map (·.1))).weights P t = ((elems.map (·.1)).length + (rest.map (·.1)).length) * P.bytesOf e :: (DataW.weightsAll P e (elems.map (·.1)) ++ DataW.weightsAll P e (rest.map (·.1))) := by simp [DataW.weights, ht]
    have ea : ∀ i : Fin len, ∃ a : α, (∀ j, j < sz → W.cell? (x.add (i.1 * sz + j)) = (f a)[j]?) ∧ ok a := by
      rintro ⟨i, hi⟩
      have q := hel i hi
      rw [hc, List.getElem?_eq_getElem (by omega), Option.bind_eq_some_iff] at q
      obtain ⟨cs', hcs', hy⟩ := q
      obtain ⟨_, hcl, hcell⟩ := World.cells?_some hcs'
      obtain ⟨a, rfl, hok⟩ := each _ _ _ hcl hy (fun m hm => hwl m (by
        rw [hws]
        refine List.mem_cons_of_mem _ (List.mem_append_left _ (weights_mem_all (List.mem_map_of_mem (List.getElem_mem (l := elems) (n := i) (by omega))) m hm))))
      refine ⟨a, fun j hj => ?_, hok⟩
      rw [← hcell j hj, add_add']
    obtain ⟨g, hg⟩ := Classical.axiomOfChoice ea
    refine ⟨List.ofFn g, ?_, by omega, fun hn => (by rw [h1] at hn; cases hn), by rw [List.length_ofFn]; omega, ?_, fun a ha => ?_⟩
    · rw [h1, h2]
      have hll : ((List.ofFn g).flatMap f).length = len * sz := by rw [flat_length f sz hf, List.length_ofFn]
      refine row_of_cells hll fun k hk => ?_
      have hi : k / sz < len := Nat.div_lt_of_lt_mul (by rw [Nat.mul_comm]; exact hk)
      have hj : k % sz < sz := Nat.mod_lt _ hsz
      have hkk : k = k / sz * sz + k % sz := by rw [Nat.mul_comm]; exact (Nat.div_add_mod k sz).symm
      have q := (hg ⟨k / sz, hi⟩).1 (k % sz) hj
      have q2 := flat_get f sz hf (List.ofFn g) (k / sz) (k % sz) (by rw [List.length_ofFn]; exact hi) hj
      simp only at q
      rw [← hkk] at q q2
      rw [q, q2]
      simp
    · have := hwl _ (by rw [hws]; exact List.mem_cons_self)
      rw [List.length_map, List.length_map] at this
      exact Nat.le_trans (Nat.mul_le_mul_right _ (by omega)) this
    · obtain ⟨i, rfl⟩ := (List.mem_ofFn ..).1 ha
      exact (hg i).2
theorem some_at {xs : List (DataW H × List MemPlace)} {n i : Nat} (h : xs.length = n) (hi : i < n) : ∃ y, xs[i]? = some y := ⟨_, List.getElem?_eq_getElem (by omega)⟩
theorem is_slice {t e : TypeId} {fuel : Nat} {c : Value} {y : DataW H × List MemPlace} (ht : P.underlying t = some (.slice e)) (h : DataW.trod enc P W base (fun _ => true) held fuel t [c] = some y) : ∃ s : Sl, c = .slice s.a s.n s.c := by
  rcases DataW.trod_slice ht h with ⟨hcs, _⟩ | ⟨x, len, cap, elems, rest, n, _, hcs, _⟩
  · exact ⟨⟨none, 0, 0⟩, by simpa using hcs⟩
  · exact ⟨⟨some x, len, cap⟩, by simpa using hcs⟩
theorem part_wb {t : TypeId} {fs : Array Field} {xs : List (DataW H × List MemPlace)} {i : Nat} {f : Field} {y : DataW H × List MemPlace} (ht : P.underlying t = some (.struct fs)) (hw : WB P t (.agg (xs.map (·.1)))) (hf : fs[i]? = some f) (hy : xs[i]? = some y) : WB P f.type y.1 := fun n hn => hw n (by
  have e : (DataW.agg (xs.map (·.1))).weights P t = DataW.weightsEach P (fs.toList.map (·.type)) (xs.map (·.1)) := by simp [DataW.weights, ht]
  rw [e]
  exact DataW.weights_mem_each (j := i) (t := f.type) (d := y.1) (by rw [List.getElem?_map, Array.getElem?_toList, hf]; rfl) (by rw [List.getElem?_map, hy]; rfl) n hn)
end
section
variable {H : Type} {enc : TypeId × Value → H} {W : World} {base : Nat} {held : Bool}
theorem flat_one {α : Type} (g : α → Value) : ∀ l : List α, l.flatMap (fun x => [g x]) = l.map g
  | [] => rfl
  | a :: l => by rw [List.flatMap_cons, flat_one g l]; rfl
theorem c3 : Try.prog.cellsOf 3 = 1 := by kernel_rfl
theorem c4 : Try.prog.cellsOf 4 = 1 := by kernel_rfl
theorem c9 : Try.prog.cellsOf 9 = 1 := by kernel_rfl
theorem c33 : Try.prog.cellsOf 33 = 1 := by kernel_rfl
theorem c34 : Try.prog.cellsOf 34 = 1 := by kernel_rfl
theorem c35 : Try.prog.cellsOf 35 = 1 := by kernel_rfl
theorem c36 : Try.prog.cellsOf 36 = 1 := by kernel_rfl
theorem c47 : Try.prog.cellsOf 47 = 6 := by kernel_rfl
theorem c49 : Try.prog.cellsOf 49 = 7 := by kernel_rfl
theorem c82 : Try.prog.cellsOf 82 = 2 := by kernel_rfl
theorem c38 : Try.prog.cellsOf 38 = 6 := by kernel_rfl
theorem c40 : Try.prog.cellsOf 40 = 12 := by kernel_rfl
theorem b9 : Try.prog.bytesOf 9 = 16 := by kernel_rfl
theorem b49 : Try.prog.bytesOf 49 = 72 := by kernel_rfl
theorem b82 : Try.prog.bytesOf 82 = 16 := by kernel_rfl
theorem wf_u64 {n : Int} (h : (Lit.int .u64 n).wf = true) : okU n := by
  simp [Lit.wf, IntKind.min, IntKind.max, IntKind.signed, IntKind.bits] at h
  exact ⟨by omega, by omega⟩
theorem int_cell {fuel : Nat} {c : Value} {y : DataW H × List MemPlace} (h : DataW.trod enc Try.prog W base (fun _ => true) held fuel 3 [c] = some y) : ∃ n, c = .int .i64 n ∧ iI n := by
  obtain ⟨n, hn, _, hw⟩ := DataW.trod_int Try.underlying3 h
  exact ⟨n, by simpa using hn, wf_i64 hw⟩
theorem num_cell {fuel : Nat} {c : Value} {y : DataW H × List MemPlace} (h : DataW.trod enc Try.prog W base (fun _ => true) held fuel 33 [c] = some y) : ∃ n, c = .int .u64 n ∧ okU n := by
  obtain ⟨n, hn, _, hw⟩ := DataW.trod_int Try.underlying33 h
  exact ⟨n, by simpa using hn, wf_u64 hw⟩
theorem str_cellW {fuel : Nat} {c : Value} {y : DataW H × List MemPlace} (h : DataW.trod enc Try.prog W base (fun _ => true) held fuel 9 [c] = some y) (hw : WB Try.prog 9 y.1) : ∃ s : ByteArray, c = .string s ∧ s.size ≤ 140737488355328 := by
  obtain ⟨s, hn, rfl, _⟩ := DataW.trod_string Try.underlying9 h
  refine ⟨s, by simpa using hn, reach_le ?_⟩
  have := hw s.data.toList.length (by simp [DataW.weights])
  simpa using this
theorem list2 : ∀ {cs : List Value}, cs.length = 2 → ∃ a0 a1, cs = [a0, a1]
  | [a0, a1], _ => ⟨_, _, rfl⟩
theorem list6 : ∀ {cs : List Value}, cs.length = 6 → ∃ a0 a1 a2 a3 a4 a5, cs = [a0, a1, a2, a3, a4, a5]
  | [a0, a1, a2, a3, a4, a5], _ => ⟨_, _, _, _, _, _, rfl⟩
theorem list7 : ∀ {cs : List Value}, cs.length = 7 → ∃ a0 a1 a2 a3 a4 a5 a6, cs = [a0, a1, a2, a3, a4, a5, a6]
  | [a0, a1, a2, a3, a4, a5, a6], _ => ⟨_, _, _, _, _, _, _, rfl⟩
theorem list12 : ∀ {cs : List Value}, cs.length = 12 → ∃ a0 a1 a2 a3 a4 a5 a6 a7 a8 a9 a10 a11, cs = [a0, a1, a2, a3, a4, a5, a6, a7, a8, a9, a10, a11]
  | [a0, a1, a2, a3, a4, a5, a6, a7, a8, a9, a10, a11], _ => ⟨_, _, _, _, _, _, _, _, _, _, _, _, rfl⟩
theorem bool_cell {fuel : Nat} {c : Value} {y : DataW H × List MemPlace} (h : DataW.trod enc Try.prog W base (fun _ => true) held fuel 4 [c] = some y) : ∃ b, c = .bool b := by
  obtain ⟨b, hn, _⟩ := DataW.trod_bool Try.underlying4 h
  exact ⟨b, by simpa using hn⟩
theorem place_each (fuel : Nat) (cs : List Value) (z : DataW H × List MemPlace) (hl : cs.length = 2) (h : DataW.trod enc Try.prog W base (fun _ => true) held fuel 82 cs = some z) (hw : WB Try.prog 82 z.1) : ∃ p : Place, cs = p.cells ∧ True := by
  obtain ⟨xs, n, _, rfl, _, hxs, hf⟩ := DataW.trod_struct Try.underlying82 h
  obtain ⟨a0, a1, rfl⟩ := list2 hl
  obtain ⟨y0, h0⟩ := some_at hxs (i := 0) (by decide)
  have f0 : DataW.trod enc Try.prog W base (fun _ => true) held n 3 (([a0, a1].drop 0).take (Try.prog.cellsOf 3)) = xs[0]? := hf 0 _ rfl
  rw [c3, h0] at f0
  replace f0 : DataW.trod enc Try.prog W base (fun _ => true) held n 3 [a0] = some y0 := f0
  have w0 : WB Try.prog 3 y0.1 := part_wb Try.underlying82 hw (i := 0) rfl h0
  obtain ⟨y1, h1⟩ := some_at hxs (i := 1) (by decide)
  have f1 : DataW.trod enc Try.prog W base (fun _ => true) held n 33 (([a0, a1].drop 1).take (Try.prog.cellsOf 33)) = xs[1]? := hf 1 _ rfl
  rw [c33, h1] at f1
  replace f1 : DataW.trod enc Try.prog W base (fun _ => true) held n 33 [a1] = some y1 := f1
  have w1 : WB Try.prog 33 y1.1 := part_wb Try.underlying82 hw (i := 1) rfl h1
  obtain ⟨n0, rfl, _⟩ := int_cell f0
  obtain ⟨n1, rfl, _⟩ := num_cell f1
  exact ⟨⟨n0, n1⟩, rfl, trivial⟩
theorem table_each (fuel : Nat) (cs : List Value) (z : DataW H × List MemPlace) (hl : cs.length = 6) (h : DataW.trod enc Try.prog W base (fun _ => true) held fuel 47 cs = some z) (hw : WB Try.prog 47 z.1) : ∃ t : Tab, cs = t.cells ∧ (t.least.size ≤ 140737488355328 ∧ t.greatest.size ≤ 140737488355328) := by
  obtain ⟨xs, n, _, rfl, _, hxs, hf⟩ := DataW.trod_struct Try.underlying47 h
  obtain ⟨a0, a1, a2, a3, a4, a5, rfl⟩ := list6 hl
  obtain ⟨y0, h0⟩ := some_at hxs (i := 0) (by decide)
  have f0 : DataW.trod enc Try.prog W base (fun _ => true) held n 33 (([a0, a1, a2, a3, a4, a5].drop 0).take (Try.prog.cellsOf 33)) = xs[0]? := hf 0 _ rfl
  rw [c33, h0] at f0
  replace f0 : DataW.trod enc Try.prog W base (fun _ => true) held n 33 [a0] = some y0 := f0
  have w0 : WB Try.prog 33 y0.1 := part_wb Try.underlying47 hw (i := 0) rfl h0
  obtain ⟨y1, h1⟩ := some_at hxs (i := 1) (by decide)
  have f1 : DataW.trod enc Try.prog W base (fun _ => true) held n 3 (([a0, a1, a2, a3, a4, a5].drop 1).take (Try.prog.cellsOf 3)) = xs[1]? := hf 1 _ rfl
  rw [c3, h1] at f1
  replace f1 : DataW.trod enc Try.prog W base (fun _ => true) held n 3 [a1] = some y1 := f1
  have w1 : WB Try.prog 3 y1.1 := part_wb Try.underlying47 hw (i := 1) rfl h1
  obtain ⟨y2, h2⟩ := some_at hxs (i := 2) (by decide)
  have f2 : DataW.trod enc Try.prog W base (fun _ => true) held n 3 (([a0, a1, a2, a3, a4, a5].drop 2).take (Try.prog.cellsOf 3)) = xs[2]? := hf 2 _ rfl
  rw [c3, h2] at f2
  replace f2 : DataW.trod enc Try.prog W base (fun _ => true) held n 3 [a2] = some y2 := f2
  have w2 : WB Try.prog 3 y2.1 := part_wb Try.underlying47 hw (i := 2) rfl h2
  obtain ⟨y3, h3⟩ := some_at hxs (i := 3) (by decide)
  have f3 : DataW.trod enc Try.prog W base (fun _ => true) held n 3 (([a0, a1, a2, a3, a4, a5].drop 3).take (Try.prog.cellsOf 3)) = xs[3]? := hf 3 _ rfl
  rw [c3, h3] at f3
  replace f3 : DataW.trod enc Try.prog W base (fun _ => true) held n 3 [a3] = some y3 := f3
  have w3 : WB Try.prog 3 y3.1 := part_wb Try.underlying47 hw (i := 3) rfl h3
  obtain ⟨y4, h4⟩ := some_at hxs (i := 4) (by decide)
  have f4 : DataW.trod enc Try.prog W base (fun _ => true) held n 9 (([a0, a1, a2, a3, a4, a5].drop 4).take (Try.prog.cellsOf 9)) = xs[4]? := hf 4 _ rfl
  rw [c9, h4] at f4
  replace f4 : DataW.trod enc Try.prog W base (fun _ => true) held n 9 [a4] = some y4 := f4
  have w4 : WB Try.prog 9 y4.1 := part_wb Try.underlying47 hw (i := 4) rfl h4
  obtain ⟨y5, h5⟩ := some_at hxs (i := 5) (by decide)
  have f5 : DataW.trod enc Try.prog W base (fun _ => true) held n 9 (([a0, a1, a2, a3, a4, a5].drop 5).take (Try.prog.cellsOf 9)) = xs[5]? := hf 5 _ rfl
  rw [c9, h5] at f5
  replace f5 : DataW.trod enc Try.prog W base (fun _ => true) held n 9 [a5] = some y5 := f5
  have w5 : WB Try.prog 9 y5.1 := part_wb Try.underlying47 hw (i := 5) rfl h5
  obtain ⟨n0, rfl, _⟩ := num_cell f0
  obtain ⟨n1, rfl, _⟩ := int_cell f1
  obtain ⟨n2, rfl, _⟩ := int_cell f2
  obtain ⟨n3, rfl, _⟩ := int_cell f3
  obtain ⟨s4, rfl, g4⟩ := str_cellW f4 w4
  obtain ⟨s5, rfl, g5⟩ := str_cellW f5 w5
  exact ⟨⟨n0, n1, n2, n3, s4, s5⟩, rfl, g4, g5⟩
theorem placed_each (fuel : Nat) (cs : List Value) (z : DataW H × List MemPlace) (hl : cs.length = 7) (h : DataW.trod enc Try.prog W base (fun _ => true) held fuel 49 cs = some z) (hw : WB Try.prog 49 z.1) : ∃ p : Placed, cs = p.cells ∧ (p.least.size ≤ 140737488355328 ∧ p.greatest.size ≤ 140737488355328) := by
  obtain ⟨xs, n, _, rfl, _, hxs, hf⟩ := DataW.trod_struct Try.underlying49 h
  obtain ⟨a0, a1, a2, a3, a4, a5, a6, rfl⟩ := list7 hl
  obtain ⟨y0, h0⟩ := some_at hxs (i := 0) (by decide)
  have f0 : DataW.trod enc Try.prog W base (fun _ => true) held n 3 (([a0, a1, a2, a3, a4, a5, a6].drop 0).take (Try.prog.cellsOf 3)) = xs[0]? := hf 0 _ rfl
  rw [c3, h0] at f0
  replace f0 : DataW.trod enc Try.prog W base (fun _ => true) held n 3 [a0] = some y0 := f0
  have w0 : WB Try.prog 3 y0.1 := part_wb Try.underlying49 hw (i := 0) rfl h0
  obtain ⟨y1, h1⟩ := some_at hxs (i := 1) (by decide)
  have f1 : DataW.trod enc Try.prog W base (fun _ => true) held n 47 (([a0, a1, a2, a3, a4, a5, a6].drop 1).take (Try.prog.cellsOf 47)) = xs[1]? := hf 1 _ rfl
  rw [c47, h1] at f1
  replace f1 : DataW.trod enc Try.prog W base (fun _ => true) held n 47 [a1, a2, a3, a4, a5, a6] = some y1 := f1
  have w1 : WB Try.prog 47 y1.1 := part_wb Try.underlying49 hw (i := 1) rfl h1
  obtain ⟨n0, rfl, _⟩ := int_cell f0
  obtain ⟨t, e, g⟩ := table_each n _ _ rfl f1 w1
  simp only [Tab.cells, List.cons.injEq] at e
  obtain ⟨rfl, rfl, rfl, rfl, rfl, rfl, _⟩ := e
  exact ⟨⟨n0, t.num, t.weight, t.bytes, t.entries, t.least, t.greatest⟩, rfl, g⟩
theorem places_cell {fuel : Nat} {c : Value} {y : DataW H × List MemPlace} (h : DataW.trod enc Try.prog W base (fun _ => true) held fuel 34 [c] = some y) (hw : WB Try.prog 34 y.1) : ∃ (s : Sl) (L : List Place), c = .slice s.a s.n s.c ∧ (wh W).row s.a (s.n * 2) (outV L) ∧ L.length ≤ 140737488355328 := by
  obtain ⟨s, rfl⟩ := is_slice Try.underlying34 h
  obtain ⟨L, r, _, _, hl, hb, k⟩ := slice_rowsW (s := s) 2 Place.cells (fun _ => True) (by decide) Try.underlying34 c82 (fun _ => rfl) place_each h hw
  rw [b82] at hb
  exact ⟨s, L, rfl, r, by have := reach_le hb; omega⟩
theorem placeds_cell {fuel : Nat} {c : Value} {y : DataW H × List MemPlace} (h : DataW.trod enc Try.prog W base (fun _ => true) held fuel 35 [c] = some y) (hw : WB Try.prog 35 y.1) : ∃ (s : Sl) (L : List Placed), c = .slice s.a s.n s.c ∧ (wh W).row s.a (s.n * 7) (inV L) ∧ L.length ≤ 140737488355328 ∧ ∀ p ∈ L, p.least.size ≤ 140737488355328 ∧ p.greatest.size ≤ 140737488355328 := by
  obtain ⟨s, rfl⟩ := is_slice Try.underlying35 h
  obtain ⟨L, r, _, _, hl, hb, k⟩ := slice_rowsW (s := s) 7 Placed.cells (fun p => p.least.size ≤ 140737488355328 ∧ p.greatest.size ≤ 140737488355328) (by decide) Try.underlying35 c49 (fun _ => rfl) placed_each h hw
  rw [b49] at hb
  exact ⟨s, L, rfl, r, by have := reach_le hb; omega, k⟩
theorem texts_cell {fuel : Nat} {c : Value} {y : DataW H × List MemPlace} (h : DataW.trod enc Try.prog W base (fun _ => true) held fuel 36 [c] = some y) (hw : WB Try.prog 36 y.1) : ∃ (s : Sl) (L : List ByteArray), c = .slice s.a s.n s.c ∧ (wh W).row s.a s.n (ptrV L) ∧ L.length ≤ 140737488355328 ∧ ∀ s ∈ L, s.size ≤ 140737488355328 := by
  obtain ⟨s, rfl⟩ := is_slice Try.underlying36 h
  obtain ⟨L, r, _, _, hl, hb, k⟩ := slice_rowsW (s := s) 1 (fun s : ByteArray => [Value.string s]) (fun s => s.size ≤ 140737488355328) (by decide) Try.underlying36 c9 (fun _ => rfl) (fun fuel cs z hl h hw => by
    rcases cs with _ | ⟨a, _ | ⟨a1, cs⟩⟩
    · cases hl
    · obtain ⟨s, rfl, hs⟩ := str_cellW h hw
      exact ⟨s, rfl, hs⟩
    · simp at hl) h hw
  rw [b9] at hb
  rw [flat_one, Nat.mul_one] at r
  exact ⟨s, L, rfl, r, by have := reach_le hb; omega, k⟩
theorem edit_each (fuel : Nat) (cs : List Value) (z : DataW H × List MemPlace) (hl : cs.length = 6) (h : DataW.trod enc Try.prog W base (fun _ => true) held fuel 38 cs = some z) (hw : WB Try.prog 38 z.1) : ∃ (e : Edit) (lo li lp : Sl), cs = [.int .u64 e.log, .int .u64 e.next, .int .u64 e.seq, .slice lo.a lo.n lo.c, .slice li.a li.n li.c, .slice lp.a lp.n lp.c] ∧ EdAt (wh W) e lo li lp ∧ e.fits ∧ e.out.length ≤ 140737488355328 ∧ e.inn.length ≤ 140737488355328 ∧ e.ptr.length ≤ 140737488355328 := by
  obtain ⟨xs, n, _, rfl, _, hxs, hf⟩ := DataW.trod_struct Try.underlying38 h
  obtain ⟨a0, a1, a2, a3, a4, a5, rfl⟩ := list6 hl
  obtain ⟨y0, h0⟩ := some_at hxs (i := 0) (by decide)
  have f0 : DataW.trod enc Try.prog W base (fun _ => true) held n 33 (([a0, a1, a2, a3, a4, a5].drop 0).take (Try.prog.cellsOf 33)) = xs[0]? := hf 0 _ rfl
  rw [c33, h0] at f0
  replace f0 : DataW.trod enc Try.prog W base (fun _ => true) held n 33 [a0] = some y0 := f0
  have w0 : WB Try.prog 33 y0.1 := part_wb Try.underlying38 hw (i := 0) rfl h0
  obtain ⟨y1, h1⟩ := some_at hxs (i := 1) (by decide)
  have f1 : DataW.trod enc Try.prog W base (fun _ => true) held n 33 (([a0, a1, a2, a3, a4, a5].drop 1).take (Try.prog.cellsOf 33)) = xs[1]? := hf 1 _ rfl
  rw [c33, h1] at f1
  replace f1 : DataW.trod enc Try.prog W base (fun _ => true) held n 33 [a1] = some y1 := f1
  have w1 : WB Try.prog 33 y1.1 := part_wb Try.underlying38 hw (i := 1) rfl h1
  obtain ⟨y2, h2⟩ := some_at hxs (i := 2) (by decide)
  have f2 : DataW.trod enc Try.prog W base (fun _ => true) held n 33 (([a0, a1, a2, a3, a4, a5].drop 2).take (Try.prog.cellsOf 33)) = xs[2]? := hf 2 _ rfl
  rw [c33, h2] at f2
  replace f2 : DataW.trod enc Try.prog W base (fun _ => true) held n 33 [a2] = some y2 := f2
  have w2 : WB Try.prog 33 y2.1 := part_wb Try.underlying38 hw (i := 2) rfl h2
  obtain ⟨y3, h3⟩ := some_at hxs (i := 3) (by decide)
  have f3 : DataW.trod enc Try.prog W base (fun _ => true) held n 34 (([a0, a1, a2, a3, a4, a5].drop 3).take (Try.prog.cellsOf 34)) = xs[3]? := hf 3 _ rfl
  rw [c34, h3] at f3
  replace f3 : DataW.trod enc Try.prog W base (fun _ => true) held n 34 [a3] = some y3 := f3
  have w3 : WB Try.prog 34 y3.1 := part_wb Try.underlying38 hw (i := 3) rfl h3
  obtain ⟨y4, h4⟩ := some_at hxs (i := 4) (by decide)
  have f4 : DataW.trod enc Try.prog W base (fun _ => true) held n 35 (([a0, a1, a2, a3, a4, a5].drop 4).take (Try.prog.cellsOf 35)) = xs[4]? := hf 4 _ rfl
  rw [c35, h4] at f4
  replace f4 : DataW.trod enc Try.prog W base (fun _ => true) held n 35 [a4] = some y4 := f4
  have w4 : WB Try.prog 35 y4.1 := part_wb Try.underlying38 hw (i := 4) rfl h4
  obtain ⟨y5, h5⟩ := some_at hxs (i := 5) (by decide)
  have f5 : DataW.trod enc Try.prog W base (fun _ => true) held n 36 (([a0, a1, a2, a3, a4, a5].drop 5).take (Try.prog.cellsOf 36)) = xs[5]? := hf 5 _ rfl
  rw [c36, h5] at f5
  replace f5 : DataW.trod enc Try.prog W base (fun _ => true) held n 36 [a5] = some y5 := f5
  have w5 : WB Try.prog 36 y5.1 := part_wb Try.underlying38 hw (i := 5) rfl h5
  obtain ⟨n0, rfl, _⟩ := num_cell f0
  obtain ⟨n1, rfl, _⟩ := num_cell f1
  obtain ⟨n2, rfl, _⟩ := num_cell f2
  obtain ⟨lo, Lo, rfl, ro, zo⟩ := places_cell f3 w3
  obtain ⟨li, Li, rfl, ri, zi, ki⟩ := placeds_cell f4 w4
  obtain ⟨lp, Lp, rfl, rp, zp, kp⟩ := texts_cell f5 w5
  exact ⟨⟨n0, n1, n2, Lo, Li, Lp⟩, lo, li, lp, rfl, ⟨ro, ri, rp⟩, ⟨fun p hp => ⟨Nat.le_trans (ki p hp).1 (by decide), Nat.le_trans (ki p hp).2 (by decide)⟩, fun s hs => Nat.le_trans (kp s hs) (by decide)⟩, zo, zi, zp⟩
theorem op_each (fuel : Nat) (cs : List Value) (z : DataW H × List MemPlace) (hl : cs.length = 12) (h : DataW.trod enc Try.prog W base (fun _ => true) held fuel 40 cs = some z) (hw : WB Try.prog 40 z.1) : ∃ x : Opr, cs = x.cells ∧ OpOk (wh W) x := by
  obtain ⟨xs, n, _, rfl, _, hxs, hf⟩ := DataW.trod_struct Try.underlying40 h
  obtain ⟨a0, a1, a2, a3, a4, a5, a6, a7, a8, a9, a10, a11, rfl⟩ := list12 hl
  obtain ⟨y0, h0⟩ := some_at hxs (i := 0) (by decide)
  have f0 : DataW.trod enc Try.prog W base (fun _ => true) held n 3 (([a0, a1, a2, a3, a4, a5, a6, a7, a8, a9, a10, a11].drop 0).take (Try.prog.cellsOf 3)) = xs[0]? := hf 0 _ rfl
  rw [c3, h0] at f0
  replace f0 : DataW.trod enc Try.prog W base (fun _ => true) held n 3 [a0] = some y0 := f0
  have w0 : WB Try.prog 3 y0.1 := part_wb Try.underlying40 hw (i := 0) rfl h0
  obtain ⟨y1, h1⟩ := some_at hxs (i := 1) (by decide)
  have f1 : DataW.trod enc Try.prog W base (fun _ => true) held n 3 (([a0, a1, a2, a3, a4, a5, a6, a7, a8, a9, a10, a11].drop 1).take (Try.prog.cellsOf 3)) = xs[1]? := hf 1 _ rfl
  rw [c3, h1] at f1
  replace f1 : DataW.trod enc Try.prog W base (fun _ => true) held n 3 [a1] = some y1 := f1
  have w1 : WB Try.prog 3 y1.1 := part_wb Try.underlying40 hw (i := 1) rfl h1
  obtain ⟨y2, h2⟩ := some_at hxs (i := 2) (by decide)
  have f2 : DataW.trod enc Try.prog W base (fun _ => true) held n 3 (([a0, a1, a2, a3, a4, a5, a6, a7, a8, a9, a10, a11].drop 2).take (Try.prog.cellsOf 3)) = xs[2]? := hf 2 _ rfl
  rw [c3, h2] at f2
  replace f2 : DataW.trod enc Try.prog W base (fun _ => true) held n 3 [a2] = some y2 := f2
  have w2 : WB Try.prog 3 y2.1 := part_wb Try.underlying40 hw (i := 2) rfl h2
  obtain ⟨y3, h3⟩ := some_at hxs (i := 3) (by decide)
  have f3 : DataW.trod enc Try.prog W base (fun _ => true) held n 9 (([a0, a1, a2, a3, a4, a5, a6, a7, a8, a9, a10, a11].drop 3).take (Try.prog.cellsOf 9)) = xs[3]? := hf 3 _ rfl
  rw [c9, h3] at f3
  replace f3 : DataW.trod enc Try.prog W base (fun _ => true) held n 9 [a3] = some y3 := f3
  have w3 : WB Try.prog 9 y3.1 := part_wb Try.underlying40 hw (i := 3) rfl h3
  obtain ⟨y4, h4⟩ := some_at hxs (i := 4) (by decide)
  have f4 : DataW.trod enc Try.prog W base (fun _ => true) held n 9 (([a0, a1, a2, a3, a4, a5, a6, a7, a8, a9, a10, a11].drop 4).take (Try.prog.cellsOf 9)) = xs[4]? := hf 4 _ rfl
  rw [c9, h4] at f4
  replace f4 : DataW.trod enc Try.prog W base (fun _ => true) held n 9 [a4] = some y4 := f4
  have w4 : WB Try.prog 9 y4.1 := part_wb Try.underlying40 hw (i := 4) rfl h4
  obtain ⟨y5, h5⟩ := some_at hxs (i := 5) (by decide)
  have f5 : DataW.trod enc Try.prog W base (fun _ => true) held n 38 (([a0, a1, a2, a3, a4, a5, a6, a7, a8, a9, a10, a11].drop 5).take (Try.prog.cellsOf 38)) = xs[5]? := hf 5 _ rfl
  rw [c38, h5] at f5
  replace f5 : DataW.trod enc Try.prog W base (fun _ => true) held n 38 [a5, a6, a7, a8, a9, a10] = some y5 := f5
  have w5 : WB Try.prog 38 y5.1 := part_wb Try.underlying40 hw (i := 5) rfl h5
  obtain ⟨y6, h6⟩ := some_at hxs (i := 6) (by decide)
  have f6 : DataW.trod enc Try.prog W base (fun _ => true) held n 4 (([a0, a1, a2, a3, a4, a5, a6, a7, a8, a9, a10, a11].drop 11).take (Try.prog.cellsOf 4)) = xs[6]? := hf 6 _ rfl
  rw [c4, h6] at f6
  replace f6 : DataW.trod enc Try.prog W base (fun _ => true) held n 4 [a11] = some y6 := f6
  have w6 : WB Try.prog 4 y6.1 := part_wb Try.underlying40 hw (i := 6) rfl h6
  obtain ⟨n0, rfl, _⟩ := int_cell f0
  obtain ⟨n1, rfl, g1⟩ := int_cell f1
  obtain ⟨n2, rfl, _⟩ := int_cell f2
  obtain ⟨s3, rfl, _⟩ := str_cellW f3 w3
  obtain ⟨s4, rfl, _⟩ := str_cellW f4 w4
  obtain ⟨e, lo, li, lp, ec, ea, ef, eo, ei, ep⟩ := edit_each n _ _ rfl f5 w5
  simp only [List.cons.injEq] at ec
  obtain ⟨rfl, rfl, rfl, rfl, rfl, rfl, _⟩ := ec
  obtain ⟨b, rfl⟩ := bool_cell f6
  have q : -9223372036854775808 ≤ n1 ∧ n1 ≤ 9223372036854775807 := by unfold iI at g1; omega
  exact ⟨⟨n0, n1, n2, s3, s4, e, lo, li, lp, b⟩, rfl, ea, ef, eo, ei, ep, q⟩
theorem open_ops {fuel : Nat} {a : Option Addr} {len cap : Nat} {y : DataW H × List MemPlace} (h : DataW.trod enc Try.prog W base (fun _ => true) held fuel 23 [.slice a len cap] = some y) (hw : WB Try.prog 23 y.1) : ∃ L : List Opr, (wh W).row a (len * 12) (opV L) ∧ ∀ x ∈ L, OpOk (wh W) x := by
  obtain ⟨L, r, _, _, hl, hb, k⟩ := slice_rowsW (s := ⟨a, len, cap⟩) 12 Opr.cells (OpOk (wh W)) (by decide) Try.underlying23 c40 (fun _ => rfl) op_each h hw
  exact ⟨L, r, k⟩
theorem wb_arg {ts : List TypeId} {ds : List (DataW H)} (h : (DataW.weightsEach Try.prog ts ds).all (· ≤ reachBytes) = true) {j : Nat} {t : TypeId} {d : DataW H} (ht : ts[j]? = some t) (hd : ds[j]? = some d) : WB Try.prog t d := fun n hn => by
  have := List.all_eq_true.1 h _ (DataW.weights_mem_each ht hd n hn)
  simpa using this
end
end Go.Eng.Ytbjnlacacapjiaa
end
