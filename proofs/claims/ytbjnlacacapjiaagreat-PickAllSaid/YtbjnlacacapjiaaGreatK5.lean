/-
  TEXTS OF MINE, JOINED: ZX3 ZX4 ZV6 ZV7 ZV8 ZJ8 ZJ9 PKA.
-/
import Derived.Test.YtbjnlacacapjiaaGreatK4
import Derived.Test.YtbjnlacacapjiaaGreatK2
import Derived.Test.YtbjnlacacapjiaaGreatProg
set_option linter.unusedSimpArgs false
set_option linter.unusedVariables false
section
set_option maxRecDepth 100000
namespace Go.Eng.YtbjnlacacapjiaaGreat
def tab8 : ByteArray := ByteArray.mk (List.toArray [0, 1, 2, 2, 3, 3, 3, 3, 4, 4, 4, 4, 4, 4, 4, 4, 5, 5, 5, 5, 5, 5, 5, 5, 5, 5, 5, 5, 5, 5, 5, 5, 6, 6, 6, 6, 6, 6, 6, 6, 6, 6, 6, 6, 6, 6, 6, 6, 6, 6, 6, 6, 6, 6, 6, 6, 6, 6, 6, 6, 6, 6, 6, 6, 7, 7, 7, 7, 7, 7, 7, 7, 7, 7, 7, 7, 7, 7, 7, 7, 7, 7, 7, 7, 7, 7, 7, 7, 7, 7, 7, 7, 7, 7, 7, 7, 7, 7, 7, 7, 7, 7, 7, 7, 7, 7, 7, 7, 7, 7, 7, 7, 7, 7, 7, 7, 7, 7, 7, 7, 7, 7, 7, 7, 7, 7, 7, 7, 8, 8, 8, 8, 8, 8, 8, 8, 8, 8, 8, 8, 8, 8, 8, 8, 8, 8, 8, 8, 8, 8, 8, 8, 8, 8, 8, 8, 8, 8, 8, 8, 8, 8, 8, 8, 8, 8, 8, 8, 8, 8, 8, 8, 8, 8, 8, 8, 8, 8, 8, 8, 8, 8, 8, 8, 8, 8, 8, 8, 8, 8, 8, 8, 8, 8, 8, 8, 8, 8, 8, 8, 8, 8, 8, 8, 8, 8, 8, 8, 8, 8, 8, 8, 8, 8, 8, 8, 8, 8, 8, 8, 8, 8, 8, 8, 8, 8, 8, 8, 8, 8, 8, 8, 8, 8, 8, 8, 8, 8, 8, 8, 8, 8, 8, 8, 8, 8, 8, 8, 8, 8, 8, 8, 8, 8, 8, 8])
def tabL : List UInt8 := [0, 1, 2, 2, 3, 3, 3, 3, 4, 4, 4, 4, 4, 4, 4, 4, 5, 5, 5, 5, 5, 5, 5, 5, 5, 5, 5, 5, 5, 5, 5, 5, 6, 6, 6, 6, 6, 6, 6, 6, 6, 6, 6, 6, 6, 6, 6, 6, 6, 6, 6, 6, 6, 6, 6, 6, 6, 6, 6, 6, 6, 6, 6, 6, 7, 7, 7, 7, 7, 7, 7, 7, 7, 7, 7, 7, 7, 7, 7, 7, 7, 7, 7, 7, 7, 7, 7, 7, 7, 7, 7, 7, 7, 7, 7, 7, 7, 7, 7, 7, 7, 7, 7, 7, 7, 7, 7, 7, 7, 7, 7, 7, 7, 7, 7, 7, 7, 7, 7, 7, 7, 7, 7, 7, 7, 7, 7, 7, 8, 8, 8, 8, 8, 8, 8, 8, 8, 8, 8, 8, 8, 8, 8, 8, 8, 8, 8, 8, 8, 8, 8, 8, 8, 8, 8, 8, 8, 8, 8, 8, 8, 8, 8, 8, 8, 8, 8, 8, 8, 8, 8, 8, 8, 8, 8, 8, 8, 8, 8, 8, 8, 8, 8, 8, 8, 8, 8, 8, 8, 8, 8, 8, 8, 8, 8, 8, 8, 8, 8, 8, 8, 8, 8, 8, 8, 8, 8, 8, 8, 8, 8, 8, 8, 8, 8, 8, 8, 8, 8, 8, 8, 8, 8, 8, 8, 8, 8, 8, 8, 8, 8, 8, 8, 8, 8, 8, 8, 8, 8, 8, 8, 8, 8, 8, 8, 8, 8, 8, 8, 8, 8, 8, 8, 8, 8, 8]
theorem tab8_size : tab8.size = 256 := by decide +kernel
theorem tabL_at : ∀ k, k < 256 → (k = 0 ∨ (1 ≤ (tabL.getD k 0).toNat ∧ (tabL.getD k 0).toNat ≤ 8 ∧ 2 ^ ((tabL.getD k 0).toNat - 1) ≤ k)) := by decide +kernel
theorem tab8_at {k : Nat} (h : k < 256) (h0 : k ≠ 0) : ∃ r : Nat, bt tab8 (k : Int) = (r : Int) ∧ 1 ≤ r ∧ r ≤ 8 ∧ 2 ^ (r - 1) ≤ k := by
  obtain ⟨h1, h2, h3⟩ := (tabL_at k h).resolve_left h0
  refine ⟨(tabL.getD k 0).toNat, ?_, h1, h2, h3⟩
  unfold bt
  have hs : ((k : Int)).toNat < tab8.size := by rw [tab8_size]; omega
  rw [dif_pos hs]
  have e : tab8[((k : Int)).toNat]'hs = tabL.getD k 0 := by
    have hl : k < tabL.length := by have : tabL.length = 256 := by decide +kernel
                                    omega
    rw [List.getD_eq_getElem?_getD, List.getElem?_eq_getElem hl]
    rfl
  rw [e]
theorem shrN {k : IntKind} (a j : Nat) (hk : j ≤ k.bits) : shrI k (a : Int) (j : Int) = ((a / 2 ^ j : Nat) : Int) := by
  unfold shrI
  have h1 : min (j : Int).toNat k.bits = j := by omega
  have h2 : (2 : Int) ^ j = ((2 ^ j : Nat) : Int) := by rw [Int.natCast_pow]; rfl
  rw [h1, h2, Int.fdiv_eq_ediv_of_nonneg _ (Int.natCast_nonneg _)]
  exact (Int.natCast_ediv a (2 ^ j)).symm
theorem wrap8 {x : Int} (h0 : 0 ≤ x) (h1 : x < 256) : IntKind.wrap .u8 x = x := by rw [IntKind.wrap_u8]; omega
theorem len64 {h : Hp} {n : Nat} {Q : Value → Hp → Prop} (h0 : 1 ≤ n) (h1 : n < 65536) (hQ : ∀ r : Nat, 1 ≤ r → r ≤ 16 → 2 ^ (r - 1) ≤ n → Q (.int .i64 (r : Int)) h) : F103.T (n : Int) h Q := by
  have hsz : (tab8.size : Int) = 256 := by rw [tab8_size]; rfl
  have e8 : shrI .u64 (n : Int) 8 = ((n / 256 : Nat) : Int) := shrN (k := .u64) n 8 (by decide)
  refine ⟨fun hb => absurd hb (by omega), fun _ => ⟨fun hb => absurd hb (by omega), fun _ => ⟨fun hb => ⟨by decide, ?_⟩, fun hb => ?_⟩⟩⟩
  · rw [e8, wrap8 (by omega) (by omega)]
    obtain ⟨r, hr, r1, r2, r3⟩ := tab8_at (k := n / 256) (by omega) (by omega)
    refine ⟨⟨by omega, by show _ < (tab8.size : Int); omega⟩, ?_⟩
    have e : IntKind.wrap .i64 (IntKind.wrap .i64 (0 + 8) + IntKind.wrap .i64 (bt tab8 ((n / 256 : Nat) : Int))) = ((8 + r : Nat) : Int) := by
      rw [hr, wr64 (x := 0 + 8) (by omega) (by omega), wr64 (x := (r : Int)) (by omega) (by omega), wr64 (by omega) (by omega)]; omega
    have hq := hQ (8 + r) (by omega) (by omega) (by
      have : 2 ^ (8 + r - 1) = 256 * 2 ^ (r - 1) := by rw [show 8 + r - 1 = 8 + (r - 1) by omega, Nat.pow_add]
      omega)
    rw [← e] at hq
    exact hq
  · rw [wrap8 (by omega) (by omega)]
    obtain ⟨r, hr, r1, r2, r3⟩ := tab8_at (k := n) (by omega) (by omega)
    refine ⟨⟨by omega, by show _ < (tab8.size : Int); omega⟩, ?_⟩
    have e : IntKind.wrap .i64 (0 + IntKind.wrap .i64 (bt tab8 (n : Int))) = (r : Int) := by
      rw [hr, wr64 (x := (r : Int)) (by omega) (by omega), wr64 (by omega) (by omega)]; omega
    have hq := hQ r r1 (by omega) r3
    rw [← e] at hq
    exact hq
theorem len0 {h : Hp} {Q : Value → Hp → Prop} (hQ : ∀ r, Q (.int .i64 r) h) : F103.T 0 h Q := by
  refine ⟨fun hb => absurd hb (by decide), fun _ => ⟨fun hb => absurd hb (by decide), fun _ => ⟨fun hb => absurd hb (by decide), fun _ => ⟨⟨by decide, ?_⟩, hQ _⟩⟩⟩⟩
  show _ < (tab8.size : Int)
  rw [tab8_size]; decide
theorem bits_len {h : Hp} {n : Nat} {Q : Value → Hp → Prop} (h1 : n < 65536) (hQ : ∀ r, Q (.int .i64 r) h) : F87.T (n : Int) h Q := by
  unfold F87.T F87.G
  rcases Nat.eq_zero_or_pos n with rfl | h0
  · exact len0 fun r => ⟨r, rfl, hQ r⟩
  · exact len64 h0 h1 fun r _ _ _ => ⟨_, rfl, hQ _⟩
theorem next_pow {h : Hp} {n : Nat} {Q : Value → Hp → Prop} (h0 : 1 ≤ n) (h1 : n < 65536) (hQ : ∀ m : Nat, 1 ≤ m → m ≤ 2 * n → Q (.int .u64 (m : Int)) h) : F107.T (n : Int) h Q := by
  unfold F107.T F87.T F107.G F87.G
  rw [wrap_u64 (by omega) (by omega)]
  refine len64 h0 h1 fun r r1 r2 r3 => ⟨_, rfl, _, rfl, by omega, ?_⟩
  have hp : 2 ^ r = 2 * 2 ^ (r - 1) := by conv => lhs; rw [show r = (r - 1) + 1 by omega, Nat.pow_succ]
                                          omega
  have hle : 2 ^ r ≤ 131072 := by omega
  have e : shlI .u64 1 (r : Int) = ((2 ^ r : Nat) : Int) := by
    unfold shlI
    have : min ((r : Int)).toNat (IntKind.bits .u64) = r := by show min _ 64 = r; omega
    rw [this, Int.one_mul]
    have h2 : (2 : Int) ^ r = ((2 ^ r : Nat) : Int) := by rw [Int.natCast_pow]; rfl
    rw [h2, wrap_u64 (by omega) (by omega)]
  rw [e]
  exact hQ _ Nat.one_le_two_pow (by omega)
theorem and_le {x : Int} {m : Nat} (hm : m < 18446744073709551616) : ∃ r : Nat, bitsI .and .u64 x (m : Int) = (r : Int) ∧ r ≤ m := by
  have e2 : (BitVec.ofInt 64 (m : Int)).toNat = m := by rw [BitVec.ofInt_natCast, BitVec.toNat_ofNat]; exact Nat.mod_eq_of_lt hm
  have hle : (BitVec.ofInt 64 x &&& BitVec.ofInt 64 (m : Int)).toNat ≤ m := by rw [BitVec.toNat_and, e2]; exact Nat.and_le_right
  refine ⟨_, ?_, hle⟩
  show IntKind.wrap .u64 (((BitVec.ofInt 64 x &&& BitVec.ofInt 64 (m : Int)).toNat : Nat) : Int) = _
  exact wrap_u64 (by omega) (by omega)
theorem next_rnd {h : Hp} {b : Nat} {r : Int} {Q : Value → Hp → Prop} (hb : h b = some (.cells ⟨[.int .u64 r]⟩ 172 (0, 0))) (hQ : ∀ v h' r', h' b = some (.cells ⟨[.int .u64 r']⟩ 172 (0, 0)) → (∀ k, k ≠ b → h' k = h k) → Q (.int .u64 v) h') : F108.T (some ⟨b, 0, none⟩) h Q := by
  have at_ : ∀ {g : Hp} {x : Int}, g b = some (.cells ⟨[.int .u64 x]⟩ 172 (0, 0)) → g.at b 0 = some (.int .u64 x) := fun hg => by unfold Hp.at; rw [hg]; rfl
  have can : ∀ {g : Hp} {x : Int}, g b = some (.cells ⟨[.int .u64 x]⟩ 172 (0, 0)) → g.canW b 0 1 := fun hg => ⟨_, _, _, hg, Nat.le_refl _, fun j _ _ => by simp⟩
  have st : ∀ {g : Hp} {x : Int} (y : Int), g b = some (.cells ⟨[.int .u64 x]⟩ 172 (0, 0)) → (g.wr b 0 [.int .u64 y]) b = some (.cells ⟨[.int .u64 y]⟩ 172 (0, 0)) := fun y hg => by rw [wr_at hg]; rfl
  have ot : ∀ {g : Hp} {vs : List Value} {k : Nat}, k ≠ b → (g.wr b 0 vs) k = g k := fun hk => by unfold Hp.wr; rw [if_neg hk]
  refine ⟨b, 0, rfl, r, at_ hb, b, 0, rfl, r, at_ hb, by decide, b, 0, rfl, can hb, b, 0, rfl, _, at_ (st _ hb), b, 0, rfl, _, at_ (st _ hb), by decide, b, 0, rfl, can (st _ hb), b, 0, rfl, _, at_ (st _ (st _ hb)), b, 0, rfl, _, at_ (st _ (st _ hb)), by decide, b, 0, rfl, can (st _ (st _ hb)), b, 0, rfl, _, at_ (st _ (st _ (st _ hb))), ?_⟩
  exact hQ _ _ _ (st _ (st _ (st _ hb))) fun k hk => by rw [ot hk, ot hk, ot hk]
structure Rn (h h' : Hp) (l : Sl) (b : Nat) : Prop where
  s : Sw h h' l
  nb : h b = none
  c : ∃ r : Int, h' b = some (.cells ⟨[.int .u64 r]⟩ 172 (0, 0))
theorem rn_buf {h : Hp} {b : Nat} {r : Int} (hb : h b = some (.cells ⟨[.int .u64 r]⟩ 172 (0, 0))) : Buf h (rb b) 1 172 [.int .u64 r] :=
  ⟨rfl, Nat.le_refl _, .inr ⟨b, _, (0, 0), rfl, hb, Nat.le_refl _, fun j _ => by simp, rfl⟩⟩
theorem Rn.sw {h g g' : Hp} {l : Sl} {b : Nat} (R : Rn h g l b) (S : Sw g g' l) : Rn h g' l b := by
  obtain ⟨vs, B⟩ := R.s.u
  obtain ⟨r, hr⟩ := R.c
  exact ⟨R.s.trans S, R.nb, r, S.up.keep b _ (fun o ho => buf_off (rn_buf hr) B (by decide) b 0 o rfl ho) hr⟩
theorem Rn.draw {h g g' : Hp} {l : Sl} {b : Nat} {r' : Int} (R : Rn h g l b) (h1 : g' b = some (.cells ⟨[.int .u64 r']⟩ 172 (0, 0))) (h2 : ∀ k, k ≠ b → g' k = g k) : Rn h g' l b := by
  obtain ⟨vs, B⟩ := R.s.u
  obtain ⟨r, hr⟩ := R.c
  have hU : Upd g g' (rb b) (rb b) := ⟨fun k x hk e => by
    have hkb : k ≠ b := fun q => hk 0 (by rw [q]; rfl)
    rw [h2 k hkb]; exact e, .inl rfl, fun k e => by
    by_cases hkb : k = b
    · rw [hkb, h1] at e; cases e
    · rw [h2 k hkb] at e; exact e⟩
  refine ⟨⟨⟨vs, B.upd hU (buf_off B (rn_buf hr) (by decide))⟩, ⟨fun k x hk e => ?_, .inl rfl, fun k e => R.s.up.dom k (hU.dom k e)⟩⟩, R.nb, r', h1⟩
  have hkb : k ≠ b := fun q => by rw [q, R.nb] at e; cases e
  rw [h2 k hkb]
  exact R.s.up.keep k x hk e
theorem break_u {h : Hp} {l : Sl} {lo hi : Int} {Q : Value → Hp → Prop} (U : Us h l) (h1 : 0 ≤ lo) (h2 : hi ≤ (l.n : Int)) (hn : l.n ≤ 60000) (h3 : lo ≤ hi)
    (hQ : ∀ h', Sw h h' l → Q (.tuple ⟨[]⟩) h') : F95.T l lo hi h Q := by
  unfold F95.T F95.G
  rw [wr64 (x := hi - lo) (by omega) (by omega)]
  have hd : Int.tdiv (hi - lo) 4 = (hi - lo) / 4 := Int.tdiv_eq_ediv_of_nonneg (by omega)
  rw [hd, wr64 (x := (hi - lo) / 4) (by omega) (by omega), wr64 (x := (hi - lo) / 4 * 2) (by omega) (by omega), wr64 (x := lo + (hi - lo) / 4 * 2) (by omega) (by omega), wr64 (x := lo + (hi - lo) / 4 * 2 - 1) (by omega) (by omega), wr64 (x := lo + (hi - lo) / 4 * 2 + 1) (by omega) (by omega)]
  refine ⟨fun h8 => ?_, fun _ => hQ h (Sw.refl U)⟩
  intro b hb
  have hnb : (h.new b (.cells ⟨[.int .u64 0]⟩ 172 (0, 0))) b = some (.cells ⟨[.int .u64 0]⟩ 172 (0, 0)) := new_self h b _
  have R0 : Rn h (h.new b (.cells ⟨[.int .u64 0]⟩ 172 (0, 0))) l b := ⟨⟨U.keep (Keep.new hb _), Upd.of_keep (Keep.new hb _) l⟩, hb, 0, hnb⟩
  refine ⟨⟨_, _, _, hnb, Nat.le_refl _, fun j _ _ => by simp⟩, ?_⟩
  have R1 : Rn h ((h.new b (.cells ⟨[.int .u64 0]⟩ 172 (0, 0))).wr b 0 [.int .u64 (IntKind.wrap .u64 (hi - lo))]) l b := R0.draw (r' := IntKind.wrap .u64 (hi - lo)) (by rw [wr_at hnb]; rfl) fun k hk => by unfold Hp.wr; rw [if_neg hk]
  generalize ((h.new b (.cells ⟨[.int .u64 0]⟩ 172 (0, 0))).wr b 0 [.int .u64 (IntKind.wrap .u64 (hi - lo))]) = g1 at R1 ⊢
  obtain ⟨n, hnn⟩ : ∃ n : Nat, hi - lo = (n : Int) := ⟨(hi - lo).toNat, by omega⟩
  rw [hnn] at h8 ⊢
  refine next_pow (by omega) (by omega) fun m m1 m2 => ⟨_, rfl, by decide, ?_⟩
  refine ⟨fun i g => Rn h g l b ∧ lo ≤ i ∧ i ≤ hi, fun i _ => (hi + 1 - i).toNat, ⟨R1, by omega, by omega⟩, ?_⟩
  rintro i g ⟨R, i0, i1⟩
  refine ⟨by decide, fun hle => ?_, fun _ => hQ g R.s⟩
  obtain ⟨r, hr⟩ := R.c
  refine next_rnd hr fun v g2 r' hg hot => ⟨v, rfl, ?_⟩
  have R2 := R.draw hg hot
  obtain ⟨q, hq, hqm⟩ := and_le (x := v) (m := m - 1) (by omega)
  have hw : IntKind.wrap .u64 ((m : Int) - 1) = ((m - 1 : Nat) : Int) := by rw [wrap_u64 (by omega) (by omega)]; omega
  rw [hw, hq, wr64 (x := (q : Int)) (by omega) (by omega)]
  have S : Sw g2 g2 l := Sw.refl R2.s.u
  clear hg hot hr
  refine ⟨fun hge => ?_, fun hlt => ?_⟩
  · rw [wr64 (x := (q : Int) - (n : Int)) (by omega) (by omega), wr64 (x := lo + ((q : Int) - (n : Int))) (by omega) (by omega), wr64 (x := i + 1) (by omega) (by omega)]
    refine Us.rd S.u (i := lo + ((q : Int) - (n : Int))) (by omega) (by omega) fun b1 v1 => Us.rd S.u (i := i) (by omega) (by omega) fun b2 v2 => Us.wr (v := v1) S.u (i := i) (by omega) (by omega) fun b3 U3 p3 => Us.wr (v := v2) U3 (i := lo + ((q : Int) - (n : Int))) (by omega) (by omega) fun b4 U4 p4 => ?_
    have S3 : Sw g2 ((g2.wr b3 (0 + (i).toNat) [.int .u64 v1]).wr b4 (0 + (lo + ((q : Int) - (n : Int))).toNat) [.int .u64 v2]) l := ⟨U4, (S.up.trans p3).trans p4⟩
    generalize ((g2.wr b3 (0 + (i).toNat) [.int .u64 v1]).wr b4 (0 + (lo + ((q : Int) - (n : Int))).toNat) [.int .u64 v2]) = g3 at S3 ⊢
    clear U3 p3 U4 p4 b1 b2 b3 b4 v1 v2
    exact ⟨⟨R2.sw S3, by omega, by omega⟩, by dsimp only; omega⟩
  · rw [wr64 (x := lo + (q : Int)) (by omega) (by omega), wr64 (x := i + 1) (by omega) (by omega)]
    refine Us.rd S.u (i := lo + (q : Int)) (by omega) (by omega) fun b1 v1 => Us.rd S.u (i := i) (by omega) (by omega) fun b2 v2 => Us.wr (v := v1) S.u (i := i) (by omega) (by omega) fun b3 U3 p3 => Us.wr (v := v2) U3 (i := lo + (q : Int)) (by omega) (by omega) fun b4 U4 p4 => ?_
    have S3 : Sw g2 ((g2.wr b3 (0 + (i).toNat) [.int .u64 v1]).wr b4 (0 + (lo + (q : Int)).toNat) [.int .u64 v2]) l := ⟨U4, (S.up.trans p3).trans p4⟩
    generalize ((g2.wr b3 (0 + (i).toNat) [.int .u64 v1]).wr b4 (0 + (lo + (q : Int)).toNat) [.int .u64 v2]) = g3 at S3 ⊢
    clear U3 p3 U4 p4 b1 b2 b3 b4 v1 v2
    exact ⟨⟨R2.sw S3, by omega, by omega⟩, by dsimp only; omega⟩
theorem partEq {h : Hp} {l : Sl} {lo hi p : Int} {Q : Value → Hp → Prop} (U : Us h l) (h1 : 0 ≤ lo) (h2 : hi ≤ (l.n : Int)) (hn : l.n ≤ 60000) (p0 : lo ≤ p) (p1 : p < hi)
    (hQ : ∀ h' x, Sw h h' l → lo + 1 ≤ x → x ≤ hi → Q (.int .i64 x) h') : F100.T l lo hi p h Q := by
  unfold F100.T F100.G
  have S := Sw.refl U
  refine Us.rd S.u (i := p) (by omega) (by omega) fun b1 v1 => Us.rd S.u (i := lo) (by omega) (by omega) fun b2 v2 => Us.wr (v := v1) S.u (i := lo) (by omega) (by omega) fun b3 U3 p3 => Us.wr (v := v2) U3 (i := p) (by omega) (by omega) fun b4 U4 p4 => ?_
  have S : Sw h ((h.wr b3 (0 + (lo).toNat) [.int .u64 v1]).wr b4 (0 + (p).toNat) [.int .u64 v2]) l := ⟨U4, (S.up.trans p3).trans p4⟩
  generalize ((h.wr b3 (0 + (lo).toNat) [.int .u64 v1]).wr b4 (0 + (p).toNat) [.int .u64 v2]) = g at S ⊢
  clear U3 p3 U4 p4 b1 b2 b3 b4 v1 v2
  rw [wr64 (x := lo + 1) (by omega) (by omega), wr64 (x := hi - 1) (by omega) (by omega)]
  refine ⟨fun i j g => Sw h g l ∧ lo + 1 ≤ i ∧ i ≤ j + 2 ∧ j < hi ∧ i ≤ hi, fun i j _ => (j - i + 2).toNat, ⟨S, by omega, by omega, by omega, by omega⟩, ?_⟩
  rintro i0 j0 g ⟨S, a0, a1, a2, a3⟩
  refine ⟨fun i g => Sw h g l ∧ i0 ≤ i ∧ i ≤ j0 + 2 ∧ i ≤ hi, ?_, ?_⟩
  · rintro i g ⟨S, c0, c1, c2⟩
    refine ⟨fun j g => Sw h g l ∧ i - 2 ≤ j ∧ j ≤ j0, fun j _ => (j - i + 2).toNat, ⟨S, by omega, by omega⟩, ?_⟩
    rintro j g ⟨S, d0, d1⟩
    refine ⟨fun hle => ?_, fun hgt => ⟨fun _ => hQ g i S (by omega) (by omega), fun hc => absurd hc (by omega)⟩⟩
    refine Us.rd S.u (by omega) (by omega) fun b1 v1 => Us.rd S.u (by omega) (by omega) fun b2 v2 => less_any fun q => ⟨q, rfl, fun _ => ?_, fun _ => ⟨fun hc => absurd hc (by omega), fun _ => ?_⟩⟩
    · rw [wr64 (x := j - 1) (by omega) (by omega)]
      exact ⟨⟨S, by omega, by omega⟩, by dsimp only; omega⟩
    · clear b1 v1 b2 v2
      rw [wr64 (x := i + 1) (by omega) (by omega), wr64 (x := j - 1) (by omega) (by omega)]
      refine Us.rd S.u (i := j) (by omega) (by omega) fun b1 v1 => Us.rd S.u (i := i) (by omega) (by omega) fun b2 v2 => Us.wr (v := v1) S.u (i := i) (by omega) (by omega) fun b3 U3 p3 => Us.wr (v := v2) U3 (i := j) (by omega) (by omega) fun b4 U4 p4 => ?_
      have S2 : Sw h ((g.wr b3 (0 + (i).toNat) [.int .u64 v1]).wr b4 (0 + (j).toNat) [.int .u64 v2]) l := ⟨U4, (S.up.trans p3).trans p4⟩
      generalize ((g.wr b3 (0 + (i).toNat) [.int .u64 v1]).wr b4 (0 + (j).toNat) [.int .u64 v2]) = g2 at S2 ⊢
      clear U3 p3 U4 p4 b1 b2 b3 b4 v1 v2
      exact ⟨⟨S2, by omega, by omega, by omega, by omega⟩, by dsimp only; omega⟩
  · refine ⟨fun i g => Sw h g l ∧ i0 ≤ i ∧ i ≤ j0 + 2 ∧ i ≤ hi, fun i _ => (j0 + 1 - i).toNat, ⟨S, by omega, by omega, by omega⟩, ?_⟩
    rintro i g ⟨S, c0, c1, c2⟩
    refine ⟨fun hle => ?_, fun hgt => ⟨S, by omega, by omega, by omega⟩⟩
    refine Us.rd S.u (by omega) (by omega) fun b1 v1 => Us.rd S.u (by omega) (by omega) fun b2 v2 => less_any fun q => ⟨q, rfl, fun _ => ⟨S, by omega, by omega, by omega⟩, fun _ => ?_⟩
    rw [wr64 (x := i + 1) (by omega) (by omega)]
    exact ⟨⟨S, by omega, by omega, by omega⟩, by dsimp only; omega⟩
theorem part_u {h : Hp} {l : Sl} {lo hi p : Int} {Q : Value → Hp → Prop} (U : Us h l) (h1 : 0 ≤ lo) (h2 : hi ≤ (l.n : Int)) (hn : l.n ≤ 60000) (p0 : lo ≤ p) (p1 : p < hi)
    (hQ : ∀ h' x b, Sw h h' l → lo ≤ x → x < hi → Q (.tuple ⟨[.int .i64 x, .bool b]⟩) h') : F101.T l lo hi p h Q := by
  unfold F101.T F101.G
  have S := Sw.refl U
  refine Us.rd S.u (i := p) (by omega) (by omega) fun b1 v1 => Us.rd S.u (i := lo) (by omega) (by omega) fun b2 v2 => Us.wr (v := v1) S.u (i := lo) (by omega) (by omega) fun b3 U3 p3 => Us.wr (v := v2) U3 (i := p) (by omega) (by omega) fun b4 U4 p4 => ?_
  have S : Sw h ((h.wr b3 (0 + (lo).toNat) [.int .u64 v1]).wr b4 (0 + (p).toNat) [.int .u64 v2]) l := ⟨U4, (S.up.trans p3).trans p4⟩
  generalize ((h.wr b3 (0 + (lo).toNat) [.int .u64 v1]).wr b4 (0 + (p).toNat) [.int .u64 v2]) = g at S ⊢
  clear U3 p3 U4 p4 b1 b2 b3 b4 v1 v2
  rw [wr64 (x := lo + 1) (by omega) (by omega), wr64 (x := hi - 1) (by omega) (by omega)]
  refine ⟨fun i g => Sw h g l ∧ lo + 1 ≤ i ∧ i ≤ hi, ?_, ?_⟩
  · rintro i0 g ⟨S, a0, a1⟩
    refine ⟨fun j g => Sw h g l ∧ i0 - 1 ≤ j ∧ j < hi, ?_, ?_⟩
    · rintro j0 g ⟨S, b0, b1⟩
      refine ⟨fun hlt => ?_, fun hge => ?_⟩
      · refine Us.rd S.u (i := lo) (by omega) (by omega) fun b1 v1 => Us.rd S.u (i := j0) (by omega) (by omega) fun b2 v2 => Us.wr (v := v1) S.u (i := j0) (by omega) (by omega) fun b3 U3 p3 => Us.wr (v := v2) U3 (i := lo) (by omega) (by omega) fun b4 U4 p4 => ?_
        have S2 : Sw h ((g.wr b3 (0 + (j0).toNat) [.int .u64 v1]).wr b4 (0 + (lo).toNat) [.int .u64 v2]) l := ⟨U4, (S.up.trans p3).trans p4⟩
        generalize ((g.wr b3 (0 + (j0).toNat) [.int .u64 v1]).wr b4 (0 + (lo).toNat) [.int .u64 v2]) = g2 at S2 ⊢
        clear U3 p3 U4 p4 b1 b2 b3 b4 v1 v2
        exact hQ g2 j0 true S2 (by omega) (by omega)
      · rw [wr64 (x := i0 + 1) (by omega) (by omega), wr64 (x := j0 - 1) (by omega) (by omega)]
        refine Us.rd S.u (i := j0) (by omega) (by omega) fun b1 v1 => Us.rd S.u (i := i0) (by omega) (by omega) fun b2 v2 => Us.wr (v := v1) S.u (i := i0) (by omega) (by omega) fun b3 U3 p3 => Us.wr (v := v2) U3 (i := j0) (by omega) (by omega) fun b4 U4 p4 => ?_
        have S2 : Sw h ((g.wr b3 (0 + (i0).toNat) [.int .u64 v1]).wr b4 (0 + (j0).toNat) [.int .u64 v2]) l := ⟨U4, (S.up.trans p3).trans p4⟩
        generalize ((g.wr b3 (0 + (i0).toNat) [.int .u64 v1]).wr b4 (0 + (j0).toNat) [.int .u64 v2]) = g2 at S2 ⊢
        clear U3 p3 U4 p4 b1 b2 b3 b4 v1 v2
        refine ⟨fun i j g => Sw h g l ∧ lo + 2 ≤ i ∧ i ≤ j + 2 ∧ j < hi, fun i j _ => (j - i + 2).toNat, ⟨S2, by omega, by omega, by omega⟩, ?_⟩
        rintro i1 j1 g ⟨S, c0, c1, c2⟩
        refine ⟨fun i g => Sw h g l ∧ i1 ≤ i ∧ i ≤ j1 + 2, ?_, ?_⟩
        · rintro i g ⟨S, d0, d1⟩
          refine ⟨fun j g => Sw h g l ∧ i - 2 ≤ j ∧ j ≤ j1, fun j _ => (j - i + 2).toNat, ⟨S, by omega, by omega⟩, ?_⟩
          rintro j g ⟨S, e0, e1⟩
          refine ⟨fun hle => ?_, fun hgt => ⟨fun hc => ?_, fun hc => absurd hc (by omega)⟩⟩
          · refine Us.rd S.u (by omega) (by omega) fun b1 v1 => Us.rd S.u (by omega) (by omega) fun b2 v2 => less_any fun q => ⟨q, rfl, fun _ => ⟨fun hc => absurd hc (by omega), fun _ => ?_⟩, fun _ => ?_⟩
            · clear b1 v1 b2 v2
              rw [wr64 (x := i + 1) (by omega) (by omega), wr64 (x := j - 1) (by omega) (by omega)]
              refine Us.rd S.u (i := j) (by omega) (by omega) fun b1 v1 => Us.rd S.u (i := i) (by omega) (by omega) fun b2 v2 => Us.wr (v := v1) S.u (i := i) (by omega) (by omega) fun b3 U3 p3 => Us.wr (v := v2) U3 (i := j) (by omega) (by omega) fun b4 U4 p4 => ?_
              have S2 : Sw h ((g.wr b3 (0 + (i).toNat) [.int .u64 v1]).wr b4 (0 + (j).toNat) [.int .u64 v2]) l := ⟨U4, (S.up.trans p3).trans p4⟩
              generalize ((g.wr b3 (0 + (i).toNat) [.int .u64 v1]).wr b4 (0 + (j).toNat) [.int .u64 v2]) = g2 at S2 ⊢
              clear U3 p3 U4 p4 b1 b2 b3 b4 v1 v2
              exact ⟨⟨S2, by omega, by omega, by omega⟩, by dsimp only; omega⟩
            · rw [wr64 (x := j - 1) (by omega) (by omega)]
              exact ⟨⟨S, by omega, by omega⟩, by dsimp only; omega⟩
          · refine Us.rd S.u (i := lo) (by omega) (by omega) fun b1 v1 => Us.rd S.u (i := j) (by omega) (by omega) fun b2 v2 => Us.wr (v := v1) S.u (i := j) (by omega) (by omega) fun b3 U3 p3 => Us.wr (v := v2) U3 (i := lo) (by omega) (by omega) fun b4 U4 p4 => ?_
            have S2 : Sw h ((g.wr b3 (0 + (j).toNat) [.int .u64 v1]).wr b4 (0 + (lo).toNat) [.int .u64 v2]) l := ⟨U4, (S.up.trans p3).trans p4⟩
            generalize ((g.wr b3 (0 + (j).toNat) [.int .u64 v1]).wr b4 (0 + (lo).toNat) [.int .u64 v2]) = g2 at S2 ⊢
            clear U3 p3 U4 p4 b1 b2 b3 b4 v1 v2
            exact hQ g2 j false S2 (by omega) (by omega)
        · refine ⟨fun i g => Sw h g l ∧ i1 ≤ i ∧ i ≤ j1 + 2, fun i _ => (j1 + 1 - i).toNat, ⟨S, by omega, by omega⟩, ?_⟩
          rintro i g ⟨S, d0, d1⟩
          refine ⟨fun hle => ?_, fun hgt => ⟨S, by omega, by omega⟩⟩
          refine Us.rd S.u (by omega) (by omega) fun b1 v1 => Us.rd S.u (by omega) (by omega) fun b2 v2 => less_any fun q => ⟨q, rfl, fun _ => ?_, fun _ => ⟨S, by omega, by omega⟩⟩
          rw [wr64 (x := i + 1) (by omega) (by omega)]
          exact ⟨⟨S, by omega, by omega⟩, by dsimp only; omega⟩
    · refine ⟨fun j g => Sw h g l ∧ i0 - 1 ≤ j ∧ j < hi, fun j _ => (j - i0 + 1).toNat, ⟨S, by omega, by omega⟩, ?_⟩
      rintro j g ⟨S, b0, b1⟩
      refine ⟨fun hle => ?_, fun hgt => ⟨S, by omega, by omega⟩⟩
      refine Us.rd S.u (by omega) (by omega) fun b1 v1 => Us.rd S.u (by omega) (by omega) fun b2 v2 => less_any fun q => ⟨q, rfl, fun _ => ⟨S, by omega, by omega⟩, fun _ => ?_⟩
      rw [wr64 (x := j - 1) (by omega) (by omega)]
      exact ⟨⟨S, by omega, by omega⟩, by dsimp only; omega⟩
  · refine ⟨fun i g => Sw h g l ∧ lo + 1 ≤ i ∧ i ≤ hi, fun i _ => (hi - i).toNat, ⟨S, by omega, by omega⟩, ?_⟩
    rintro i g ⟨S, a0, a1⟩
    refine ⟨fun hle => ?_, fun hgt => ⟨S, by omega, by omega⟩⟩
    refine Us.rd S.u (by omega) (by omega) fun b1 v1 => Us.rd S.u (by omega) (by omega) fun b2 v2 => less_any fun q => ⟨q, rfl, fun _ => ?_, fun _ => ⟨S, by omega, by omega⟩⟩
    rw [wr64 (x := i + 1) (by omega) (by omega)]
    exact ⟨⟨S, by omega, by omega⟩, by dsimp only; omega⟩
end Go.Eng.YtbjnlacacapjiaaGreat
end
section
set_option maxRecDepth 100000
namespace Go.Eng.YtbjnlacacapjiaaGreat
def SortOk (l : Sl) (T : Sl → Int → Int → Int → PT) (N : Int) : Prop := ∀ (lo hi lim : Int) (h : Hp) (Q : Value → Hp → Prop), Us h l → 0 ≤ lo → lo ≤ hi → hi ≤ (l.n : Int) → hi - lo < N → (∀ h', Sw h h' l → Q (.tuple ⟨[]⟩) h') → T l lo hi lim h Q
theorem pdq_step {l : Sl} (hn : l.n ≤ 60000) {T : Sl → Int → Int → Int → PT} {N : Int} (hT : SortOk l T N) {lo hi lim : Int} {h : Hp} {Q : Value → Hp → Prop} (U : Us h l) (h1 : 0 ≤ lo) (h3 : lo ≤ hi) (h2 : hi ≤ (l.n : Int)) (hN : hi - lo ≤ N)
    (hQ : ∀ h', Sw h h' l → Q (.tuple ⟨[]⟩) h') : F86.G T l lo hi lim h Q := by
  unfold F86.G
  refine ⟨fun a b lim _ _ g => Sw h g l ∧ lo ≤ a ∧ a ≤ b ∧ b ≤ hi, fun a b _ _ _ _ => (b - a).toNat, ⟨Sw.refl U, by omega, by omega, by omega⟩, ?_⟩
  intro a b lim
  have ins : ∀ {g : Hp}, Sw h g l → lo ≤ a → a ≤ b → b ≤ hi → F93.T l a b g fun r h2 => Q (.tuple ⟨[]⟩) h2 := fun S x y z => insertion S.u (by omega) (by omega) hn (by omega) fun g' S' => hQ g' (S.trans S')
  have hea : ∀ {g : Hp}, Sw h g l → lo ≤ a → a ≤ b → b ≤ hi → F94.T l a b g fun r h2 => Q (.tuple ⟨[]⟩) h2 := fun S x y z => heap_u S.u (by omega) (by omega) hn (by omega) fun g' S' => hQ g' (S.trans S')
  refine ⟨⟨?_, ?_⟩, ⟨?_, ?_⟩⟩
  · rintro g ⟨S, a0, a1, a2⟩
    rw [wr64 (x := b - a) (by omega) (by omega)]
    refine ⟨fun _ => ins S a0 a1 a2, fun hbig => ⟨fun _ => hea S a0 a1 a2, fun _ => ?_⟩⟩
    refine choose_pivot S.u (by omega) (by omega) (by omega) hn fun g1 p hint K1 p0 p1 => ⟨p, hint, rfl, ?_⟩
    have S1 : Sw h g1 l := S.trans ⟨S.u.keep K1, Upd.of_keep K1 l⟩
    clear K1
    refine ⟨fun p _ g => Sw h g l ∧ a ≤ p ∧ p < b, ?_, fun _ => ?_, fun _ => ⟨S1, p0, p1⟩⟩
    · rintro p hint g ⟨S, p0, p1⟩
      refine ⟨fun g => Sw h g l, ?_, ?_⟩
      · intro g S
        refine ⟨fun x g => Sw h g l ∧ x = a, ?_, fun _ => ?_, fun _ => ⟨S, rfl⟩⟩
        · rintro x g ⟨S, rfl⟩
          refine part_u S.u (by omega) (by omega) hn p0 p1 fun g2 m q S2 m0 m1 => ⟨m, q, fun hq => ?_, fun hq => ?_⟩
          all_goals
            subst hq
            refine ⟨rfl, by decide, ?_⟩
            rw [wr64 (x := m - x) (by omega) (by omega), wr64 (x := b - m) (by omega) (by omega), wr64 (x := m + 1) (by omega) (by omega)]
            refine ⟨fun _ => ⟨fun _ => ?_, fun _ => ?_⟩, fun _ => ⟨fun _ => ?_, fun _ => ?_⟩⟩
            · exact hT _ _ _ _ _ S2.u (by omega) (by omega) (by omega) (by omega) fun g3 S3 => ⟨⟨(S.trans S2).trans S3, by omega, by omega, by omega⟩, by dsimp only; omega⟩
            · exact hT _ _ _ _ _ S2.u (by omega) (by omega) (by omega) (by omega) fun g3 S3 => ⟨⟨(S.trans S2).trans S3, by omega, by omega, by omega⟩, by dsimp only; omega⟩
            · exact hT _ _ _ _ _ S2.u (by omega) (by omega) (by omega) (by omega) fun g3 S3 => ⟨⟨(S.trans S2).trans S3, by omega, by omega, by omega⟩, by dsimp only; omega⟩
            · exact hT _ _ _ _ _ S2.u (by omega) (by omega) (by omega) (by omega) fun g3 S3 => ⟨⟨(S.trans S2).trans S3, by omega, by omega, by omega⟩, by dsimp only; omega⟩
        · rw [wr64 (x := a - 1) (by omega) (by omega)]
          refine Us.rd S.u (by omega) (by omega) fun b1 v1 => Us.rd S.u (by omega) (by omega) fun b2 v2 => less_any fun q => ⟨q, rfl, fun _ => ⟨S, rfl⟩, fun _ => ?_⟩
          exact partEq S.u (by omega) (by omega) hn p0 p1 fun g2 m S2 m0 m1 => ⟨m, rfl, ⟨S.trans S2, by omega, by omega, by omega⟩, by dsimp only; omega⟩
      · refine ⟨fun _ => partial_u S.u (by omega) (by omega) hn (by omega) fun g2 q S2 => ⟨q, rfl, fun _ => hQ g2 (S.trans S2), fun _ => S.trans S2⟩, fun _ => S⟩
    · refine reverse_u S1.u (by omega) (by omega) hn (by omega) (by omega) fun g2 S2 => ?_
      rw [wr64 (x := b - 1) (by omega) (by omega), wr64 (x := p - a) (by omega) (by omega), wr64 (x := b - 1 - (p - a)) (by omega) (by omega)]
      exact ⟨S1.trans S2, by omega, by omega⟩
  · rintro g ⟨S, a0, a1, a2⟩
    rw [wr64 (x := b - a) (by omega) (by omega)]
    refine ⟨fun _ => ins S a0 a1 a2, fun hbig => ⟨fun _ => hea S a0 a1 a2, fun _ => ?_⟩⟩
    refine choose_pivot S.u (by omega) (by omega) (by omega) hn fun g1 p hint K1 p0 p1 => ⟨p, hint, rfl, ?_⟩
    have S1 : Sw h g1 l := S.trans ⟨S.u.keep K1, Upd.of_keep K1 l⟩
    clear K1
    refine ⟨fun p _ g => Sw h g l ∧ a ≤ p ∧ p < b, ?_, fun _ => ?_, fun _ => ⟨S1, p0, p1⟩⟩
    · rintro p hint g ⟨S, p0, p1⟩
      refine ⟨fun g => Sw h g l, ?_, ?_⟩
      · intro g S
        refine ⟨fun x g => Sw h g l ∧ x = a, ?_, fun _ => ?_, fun _ => ⟨S, rfl⟩⟩
        · rintro x g ⟨S, rfl⟩
          refine part_u S.u (by omega) (by omega) hn p0 p1 fun g2 m q S2 m0 m1 => ⟨m, q, fun hq => ?_, fun hq => ?_⟩
          all_goals
            subst hq
            refine ⟨rfl, by decide, ?_⟩
            rw [wr64 (x := m - x) (by omega) (by omega), wr64 (x := b - m) (by omega) (by omega), wr64 (x := m + 1) (by omega) (by omega)]
            refine ⟨fun _ => ⟨fun _ => ?_, fun _ => ?_⟩, fun _ => ⟨fun _ => ?_, fun _ => ?_⟩⟩
            · exact hT _ _ _ _ _ S2.u (by omega) (by omega) (by omega) (by omega) fun g3 S3 => ⟨⟨(S.trans S2).trans S3, by omega, by omega, by omega⟩, by dsimp only; omega⟩
            · exact hT _ _ _ _ _ S2.u (by omega) (by omega) (by omega) (by omega) fun g3 S3 => ⟨⟨(S.trans S2).trans S3, by omega, by omega, by omega⟩, by dsimp only; omega⟩
            · exact hT _ _ _ _ _ S2.u (by omega) (by omega) (by omega) (by omega) fun g3 S3 => ⟨⟨(S.trans S2).trans S3, by omega, by omega, by omega⟩, by dsimp only; omega⟩
            · exact hT _ _ _ _ _ S2.u (by omega) (by omega) (by omega) (by omega) fun g3 S3 => ⟨⟨(S.trans S2).trans S3, by omega, by omega, by omega⟩, by dsimp only; omega⟩
        · rw [wr64 (x := a - 1) (by omega) (by omega)]
          refine Us.rd S.u (by omega) (by omega) fun b1 v1 => Us.rd S.u (by omega) (by omega) fun b2 v2 => less_any fun q => ⟨q, rfl, fun _ => ⟨S, rfl⟩, fun _ => ?_⟩
          exact partEq S.u (by omega) (by omega) hn p0 p1 fun g2 m S2 m0 m1 => ⟨m, rfl, ⟨S.trans S2, by omega, by omega, by omega⟩, by dsimp only; omega⟩
      · exact S
    · refine reverse_u S1.u (by omega) (by omega) hn (by omega) (by omega) fun g2 S2 => ?_
      rw [wr64 (x := b - 1) (by omega) (by omega), wr64 (x := p - a) (by omega) (by omega), wr64 (x := b - 1 - (p - a)) (by omega) (by omega)]
      exact ⟨S1.trans S2, by omega, by omega⟩
  · rintro g ⟨S, a0, a1, a2⟩
    rw [wr64 (x := b - a) (by omega) (by omega)]
    refine ⟨fun _ => ins S a0 a1 a2, fun hbig => ⟨fun _ => hea S a0 a1 a2, fun _ => ?_⟩⟩
    refine break_u S.u (by omega) (by omega) hn (by omega) fun g0 S0 => ?_
    replace S := S.trans S0
    clear S0
    refine choose_pivot S.u (by omega) (by omega) (by omega) hn fun g1 p hint K1 p0 p1 => ⟨p, hint, rfl, ?_⟩
    have S1 : Sw h g1 l := S.trans ⟨S.u.keep K1, Upd.of_keep K1 l⟩
    clear K1
    refine ⟨fun p _ g => Sw h g l ∧ a ≤ p ∧ p < b, ?_, fun _ => ?_, fun _ => ⟨S1, p0, p1⟩⟩
    · rintro p hint g ⟨S, p0, p1⟩
      refine ⟨fun g => Sw h g l, ?_, ?_⟩
      · intro g S
        refine ⟨fun x g => Sw h g l ∧ x = a, ?_, fun _ => ?_, fun _ => ⟨S, rfl⟩⟩
        · rintro x g ⟨S, rfl⟩
          refine part_u S.u (by omega) (by omega) hn p0 p1 fun g2 m q S2 m0 m1 => ⟨m, q, fun hq => ?_, fun hq => ?_⟩
          all_goals
            subst hq
            refine ⟨rfl, by decide, ?_⟩
            rw [wr64 (x := m - x) (by omega) (by omega), wr64 (x := b - m) (by omega) (by omega), wr64 (x := m + 1) (by omega) (by omega)]
            refine ⟨fun _ => ⟨fun _ => ?_, fun _ => ?_⟩, fun _ => ⟨fun _ => ?_, fun _ => ?_⟩⟩
            · exact hT _ _ _ _ _ S2.u (by omega) (by omega) (by omega) (by omega) fun g3 S3 => ⟨⟨(S.trans S2).trans S3, by omega, by omega, by omega⟩, by dsimp only; omega⟩
            · exact hT _ _ _ _ _ S2.u (by omega) (by omega) (by omega) (by omega) fun g3 S3 => ⟨⟨(S.trans S2).trans S3, by omega, by omega, by omega⟩, by dsimp only; omega⟩
            · exact hT _ _ _ _ _ S2.u (by omega) (by omega) (by omega) (by omega) fun g3 S3 => ⟨⟨(S.trans S2).trans S3, by omega, by omega, by omega⟩, by dsimp only; omega⟩
            · exact hT _ _ _ _ _ S2.u (by omega) (by omega) (by omega) (by omega) fun g3 S3 => ⟨⟨(S.trans S2).trans S3, by omega, by omega, by omega⟩, by dsimp only; omega⟩
        · rw [wr64 (x := a - 1) (by omega) (by omega)]
          refine Us.rd S.u (by omega) (by omega) fun b1 v1 => Us.rd S.u (by omega) (by omega) fun b2 v2 => less_any fun q => ⟨q, rfl, fun _ => ⟨S, rfl⟩, fun _ => ?_⟩
          exact partEq S.u (by omega) (by omega) hn p0 p1 fun g2 m S2 m0 m1 => ⟨m, rfl, ⟨S.trans S2, by omega, by omega, by omega⟩, by dsimp only; omega⟩
      · exact S
    · refine reverse_u S1.u (by omega) (by omega) hn (by omega) (by omega) fun g2 S2 => ?_
      rw [wr64 (x := b - 1) (by omega) (by omega), wr64 (x := p - a) (by omega) (by omega), wr64 (x := b - 1 - (p - a)) (by omega) (by omega)]
      exact ⟨S1.trans S2, by omega, by omega⟩
  · rintro g ⟨S, a0, a1, a2⟩
    rw [wr64 (x := b - a) (by omega) (by omega)]
    refine ⟨fun _ => ins S a0 a1 a2, fun hbig => ⟨fun _ => hea S a0 a1 a2, fun _ => ?_⟩⟩
    refine break_u S.u (by omega) (by omega) hn (by omega) fun g0 S0 => ?_
    replace S := S.trans S0
    clear S0
    refine choose_pivot S.u (by omega) (by omega) (by omega) hn fun g1 p hint K1 p0 p1 => ⟨p, hint, rfl, ?_⟩
    have S1 : Sw h g1 l := S.trans ⟨S.u.keep K1, Upd.of_keep K1 l⟩
    clear K1
    refine ⟨fun p _ g => Sw h g l ∧ a ≤ p ∧ p < b, ?_, fun _ => ?_, fun _ => ⟨S1, p0, p1⟩⟩
    · rintro p hint g ⟨S, p0, p1⟩
      refine ⟨fun g => Sw h g l, ?_, ?_⟩
      · intro g S
        refine ⟨fun x g => Sw h g l ∧ x = a, ?_, fun _ => ?_, fun _ => ⟨S, rfl⟩⟩
        · rintro x g ⟨S, rfl⟩
          refine part_u S.u (by omega) (by omega) hn p0 p1 fun g2 m q S2 m0 m1 => ⟨m, q, fun hq => ?_, fun hq => ?_⟩
          all_goals
            subst hq
            refine ⟨rfl, by decide, ?_⟩
            rw [wr64 (x := m - x) (by omega) (by omega), wr64 (x := b - m) (by omega) (by omega), wr64 (x := m + 1) (by omega) (by omega)]
            refine ⟨fun _ => ⟨fun _ => ?_, fun _ => ?_⟩, fun _ => ⟨fun _ => ?_, fun _ => ?_⟩⟩
            · exact hT _ _ _ _ _ S2.u (by omega) (by omega) (by omega) (by omega) fun g3 S3 => ⟨⟨(S.trans S2).trans S3, by omega, by omega, by omega⟩, by dsimp only; omega⟩
            · exact hT _ _ _ _ _ S2.u (by omega) (by omega) (by omega) (by omega) fun g3 S3 => ⟨⟨(S.trans S2).trans S3, by omega, by omega, by omega⟩, by dsimp only; omega⟩
            · exact hT _ _ _ _ _ S2.u (by omega) (by omega) (by omega) (by omega) fun g3 S3 => ⟨⟨(S.trans S2).trans S3, by omega, by omega, by omega⟩, by dsimp only; omega⟩
            · exact hT _ _ _ _ _ S2.u (by omega) (by omega) (by omega) (by omega) fun g3 S3 => ⟨⟨(S.trans S2).trans S3, by omega, by omega, by omega⟩, by dsimp only; omega⟩
        · rw [wr64 (x := a - 1) (by omega) (by omega)]
          refine Us.rd S.u (by omega) (by omega) fun b1 v1 => Us.rd S.u (by omega) (by omega) fun b2 v2 => less_any fun q => ⟨q, rfl, fun _ => ⟨S, rfl⟩, fun _ => ?_⟩
          exact partEq S.u (by omega) (by omega) hn p0 p1 fun g2 m S2 m0 m1 => ⟨m, rfl, ⟨S.trans S2, by omega, by omega, by omega⟩, by dsimp only; omega⟩
      · exact S
    · refine reverse_u S1.u (by omega) (by omega) hn (by omega) (by omega) fun g2 S2 => ?_
      rw [wr64 (x := b - 1) (by omega) (by omega), wr64 (x := p - a) (by omega) (by omega), wr64 (x := b - 1 - (p - a)) (by omega) (by omega)]
      exact ⟨S1.trans S2, by omega, by omega⟩
theorem pdq {l : Sl} (hn : l.n ≤ 60000) : ∀ (nf : Nat), SortOk l (F86.TN nf) (nf : Int)
  | 0 => fun lo hi lim h Q U h1 h2 h3 h4 hQ => absurd h4 (by omega)
  | nf + 1 => fun lo hi lim h Q U h1 h2 h3 h4 hQ => pdq_step hn (pdq hn nf) U h1 h2 h3 (by omega) hQ
theorem sort_u {h : Hp} {l : Sl} {Q : Value → Hp → Prop} (U : Us h l) (hn : l.n ≤ 60000) (hQ : ∀ h', Sw h h' l → Q (.tuple ⟨[]⟩) h') : F79.T l h Q := by
  unfold F79.T F79.G
  rw [wrap_u64 (by omega) (by omega)]
  refine bits_len (by omega) fun r => ⟨r, rfl, l.n + 1, ?_⟩
  exact pdq hn (l.n + 1) 0 (l.n : Int) r h _ U (by omega) (by omega) (by omega) (by omega) hQ
end Go.Eng.YtbjnlacacapjiaaGreat
end
section
set_option maxRecDepth 100000
namespace Go.Eng.YtbjnlacacapjiaaGreat
theorem VerR.one {h h' : Hp} {b vb : Nat} {es : Array MapEntry} {c : Nat} {lv : Lv} (V : VerR h vb lv) (O : One b h h') (hb : h b = some (.map es c)) : VerR h' vb lv := by
  obtain ⟨ls, xs, h1, h2, h3, h4⟩ := V
  exact ⟨ls, xs, O.keep _ _ (by rintro rfl; rw [hb] at h1; cases h1) h1, O.row hb h2, fun x hx => O.row hb (h3 x hx), h4⟩
theorem Ver.base {g h h' : Hp} {vb : Nat} {ls : Sl} {xs : List (Sl × List Tab)} (K : Keep g h) (V : Ver h h' vb ls xs) : Ver g h' vb ls xs :=
  ⟨⟨K.trans V.L.k, V.L.nl.mono K.dom, V.L.l, V.L.t, fun x hx => (V.L.n x hx).mono K.dom, V.L.d⟩, K.dom _ V.nv, V.v⟩
structure SetA (g h : Hp) (sb vb pm cm : Nat) (ps ls : Sl) (xs : List (Sl × List Tab)) (ptrs : List ByteArray) : Prop where
  V : Ver g h vb ls xs
  ns : g sb = none
  s : h sb = some (.cells ⟨[.pointer (some ⟨vb, 0, none⟩), .map (some pm), .slice ps.a ps.n ps.c, .map (some cm)]⟩ 100 (0, 0))
  np : NewN g ps
  p : Buf h ps 1 9 (ptrV ptrs)
  m : ∃ c, h pm = some (.map #[] c)
  nc : g cm = none
  c : ∃ es c, h cm = some (.map es c) ∧ U64s es
  ne : pm ≠ cm
def DA (sb cm : Nat) (ps : Sl) (k : Nat) : Prop := k = sb ∨ k = cm ∨ ps.a = some ⟨k, 0, none⟩
structure Chg (D : Nat → Prop) (h h' : Hp) : Prop where
  keep : ∀ k x, ¬ D k → h k = some x → h' k = some x
  dom : ∀ k, h' k = none → h k = none
theorem Chg.trans {D : Nat → Prop} {a b c : Hp} (x : Chg D a b) (y : Chg D b c) : Chg D a c := ⟨fun k o n e => y.keep k o n (x.keep k o n e), fun k e => x.dom k (y.dom k e)⟩
theorem Chg.of_keep {D : Nat → Prop} {a b : Hp} (k : Keep a b) : Chg D a b := ⟨fun i x _ e => k i x e, k.dom⟩
theorem Chg.one {D : Nat → Prop} {b : Nat} {h h' : Hp} (O : One b h h') (hb : D b) : Chg D h h' := ⟨fun k x n e => O.keep k x (by rintro rfl; exact n hb) e, O.dom⟩
theorem Chg.upd {D : Nat → Prop} {h h' : Hp} {s s' : Sl} (U : Upd h h' s s') (hb : ∀ k o, s.a = some ⟨k, o, none⟩ → D k) : Chg D h h' := ⟨fun k x n e => U.keep k x (fun o hs => n (hb k o hs)) e, U.dom⟩
section
variable {g h h' : Hp} {sb vb pm cm : Nat} {ps ls : Sl} {xs : List (Sl × List Tab)} {ptrs : List ByteArray}
theorem SetA.keep (S : SetA g h sb vb pm cm ps ls xs ptrs) (K : Keep h h') : SetA g h' sb vb pm cm ps ls xs ptrs := by
  obtain ⟨c, hc⟩ := S.m
  obtain ⟨es, c2, h2, h3⟩ := S.c
  exact ⟨S.V.keep K, S.ns, K _ _ S.s, S.np, S.p.keep K, ⟨c, K _ _ hc⟩, S.nc, ⟨es, c2, K _ _ h2, h3⟩, S.ne⟩
theorem gone_spec {vb2 : Nat} {lv2 : Lv} {Q : Value → Hp → Prop} (S : SetA g h sb vb pm cm ps ls xs ptrs) (V2 : VerR h vb2 lv2) (hs : totL (xs.map (·.2)) ≤ 60000) (h5 : xs.length ≤ 5) (hs2 : totL lv2 ≤ 60000) (h52 : lv2.length ≤ 5)
    (hQ : ∀ h' (l : Sl), One cm h h' → (∃ es c, h' cm = some (.map es c) ∧ U64s es) → Q (.slice l.a l.n l.c) h') : F52.T (some ⟨sb, 0, none⟩) (some ⟨vb2, 0, none⟩) h Q := by
  obtain ⟨es, c, hc, hu⟩ := S.c
  obtain ⟨c1, hm⟩ := S.m
  refine ⟨sb, 0, rfl, some cm, at_of S.s 3, es, c, hc, sb, 0, rfl, ?_⟩
  show ∃ p2, (h.new cm (.map #[] c)).at sb 0 = _ ∧ _
  have O1 : One cm h (h.new cm (.map #[] c)) := One.new _ (by rw [hc]; simp)
  have hsc : sb ≠ cm := ne_kd S.s hc (by simp [kd])
  have hs1 := O1.keep _ _ hsc S.s
  refine ⟨some ⟨vb, 0, none⟩, at_of hs1 0, sb, 0, rfl, some cm, at_of hs1 3, ?_⟩
  have hc1 := new_at h cm (.map #[] c)
  refine counted_spec (S.V.r.one O1 hc) (Mp.new h cm c) (fun k => ⟨Int.le_refl _, by omega⟩) hs (by rw [List.length_map]; exact h5) fun h2 M2 O2 => ?_
  have O12 := O1.trans O2
  have hs2' := O12.keep _ _ hsc S.s
  have hm2 := O12.keep _ _ S.ne hm
  refine ⟨sb, 0, rfl, some pm, at_of hs2' 1, #[], c1, hm2, fun b4 hb4 => ?_⟩
  have K3 := Keep.new hb4 (.mapIter (some pm) c1 #[] c1)
  have hi := new_at h2 b4 (.mapIter (some pm) c1 #[] c1)
  have V3 := (V2.one O12 hc).keep K3
  have M3 := Mp.keep K3 M2
  have hs3 := K3 _ _ hs2'
  have hm3 := K3 _ _ hm2
  have O3 : One cm h (h2.new b4 (.mapIter (some pm) c1 #[] c1)) := O12.trans ⟨fun k x _ e => K3 k x e, K3.dom⟩
  generalize h2.new b4 (.mapIter (some pm) c1 #[] c1) = h3 at hi V3 M3 hs3 hm3 O3 ⊢
  clear K3 hs2' hm2 M2
  refine ⟨fun hh => hh = h3, fun _ => 0, rfl, ?_⟩
  intro hh e
  have e' := e.symm
  subst e'
  refine ⟨b4, some pm, c1, #[], c1, #[], c1, rfl, hi, hm3, rfl, fun e he => by simp at he, fun _ => ?_⟩
  obtain ⟨ls2, xs2, v1, v2, v3, rfl⟩ := V3
  have hn2 : ls2.n = xs2.length := by have := v2.1; rw [slV_length, List.length_map] at this; omega
  rw [List.length_map] at h52
  refine ⟨vb2, 0, rfl, ls2, at_of v1 0, fun l1 n1 h4 => ∃ P R vs, xs2 = P ++ R ∧ n1 = (P.length : Int) ∧ Buf h4 l1 1 55 (uvs vs) ∧ NewN h3 l1 ∧ Keep h3 h4 ∧ vs.length ≤ totL (P.map (·.2)), fun _ n1 _ => xs2.length - n1.toNat, ⟨[], xs2, [], rfl, rfl, Buf.nil _ _ _, .inl rfl, Keep.refl _, Nat.zero_le _⟩, ?_⟩
  rintro l1 n1 h4 ⟨P, R, vs, rfl, rfl, B4, N4, K4, hv4⟩
  rw [List.length_append] at hn2 h52
  have htot : totL (P.map (·.2)) + totL (R.map (·.2)) ≤ 60000 := by
    unfold totL at hs2 ⊢
    rw [List.map_append, List.map_append, List.sum_append] at hs2
    exact hs2
  refine ⟨fun hlt => ?_, fun hge => ?_⟩
  · rcases R with _ | ⟨x, R⟩
    · exact absurd hlt (by simp at hn2; omega)
    rw [List.length_cons] at hn2 h52
    obtain ⟨_, b1, o1, ha1, hat1⟩ := rows_rd (K4.row v2) (i := P.length) (x := x) (by simp)
    have htx := v3 x (by simp)
    have hxn : x.1.n = x.2.length := by have := htx.1; rw [tabV_len] at this; omega
    have hxt : totL ((x :: R).map (·.2)) = x.2.length + totL (R.map (·.2)) := by simp [totL]
    refine ⟨b1, o1, ha1, ⟨by omega, hlt⟩, x.1, by rw [Int.toNat_natCast]; exact hat1, fun l3 n2 h5 => ∃ A B vs, x.2 = A ++ B ∧ n2 = (A.length : Int) ∧ Buf h5 l3 1 55 (uvs vs) ∧ NewN h3 l3 ∧ Keep h3 h5 ∧ vs.length ≤ totL (P.map (·.2)) + A.length, fun _ n2 _ => x.2.length - n2.toNat, ⟨[], x.2, vs, rfl, rfl, B4, N4, K4, by simpa using hv4⟩, ?_⟩
    rintro l3 n2 h5 ⟨A, B, vs5, eAB, rfl, B5, N5, K5, hv5⟩
    refine ⟨fun hlt1 => ?_, fun hge1 => ?_⟩
    · rcases B with _ | ⟨t, B⟩
      · exact absurd hlt1 (by rw [hxn, eAB]; simp)
      rw [eAB] at htx
      have eL : x.2.length = A.length + (B.length + 1) := by rw [eAB, List.length_append, List.length_cons]
      refine tab_rd (K5.row htx) rfl fun b2 o2 => ?_
      refine ⟨sb, 0, rfl, some cm, at_of (K5 _ _ hs3) 3, ?_⟩
      refine Mp.get (Mp.keep K5 M3) t.num fun es4 c4 => ⟨fun _ => ?_, fun _ => ?_⟩
      · have h5n : l3.n = vs5.length := by have := B5.len; rw [uvs_len] at this; omega
        refine append_buf B5 rfl rfl (by omega) fun l4 h6 B6 hl6 U6 => ?_
        obtain ⟨K6, N6⟩ := N5.upd K5 U6
        rw [next_i (n := 70000) (by omega) (by omega)]
        refine ⟨⟨A ++ [t], B, vs5 ++ [t.num], by rw [eAB]; simp, by simp, by unfold uvs at B6 ⊢; rw [List.map_append]; exact B6, N6, K6, by simp only [List.length_append, List.length_singleton]; omega⟩, by (try dsimp only); rw [eL]; omega⟩
      · rw [next_i (n := 70000) (by omega) (by omega)]
        refine ⟨⟨A ++ [t], B, vs5, by rw [eAB]; simp, by simp, B5, N5, K5, by simp only [List.length_append, List.length_singleton]; omega⟩, by (try dsimp only); rw [eL]; omega⟩
    · have hB : B = [] := List.eq_nil_of_length_eq_zero (by have := congrArg List.length eAB; rw [List.length_append] at this; omega)
      subst hB
      rw [List.append_nil] at eAB
      rw [next_i (n := 100) (by omega) (by omega)]
      refine ⟨⟨P ++ [x], R, vs5, by simp, by simp, B5, N5, K5, ?_⟩, by (try dsimp only); rw [List.length_append, List.length_cons]; omega⟩
      have : totL ((P ++ [x]).map (·.2)) = totL (P.map (·.2)) + x.2.length := by simp [totL]
      rw [this, eAB]; exact hv5
  · have h4n : l1.n = vs.length := by have := B4.len; rw [uvs_len] at this; omega
    refine sort_u ⟨vs, B4⟩ (by omega) fun h7 S7 => ?_
    obtain ⟨K7, N7⟩ := N4.upd K4 S7.up
    obtain ⟨es7, c7, e7, u7, _⟩ := Mp.keep K7 M3
    exact hQ h7 l1 (O3.trans ⟨fun k x _ e => K7 k x e, K7.dom⟩) ⟨es7, c7, e7, u7⟩
end
end Go.Eng.YtbjnlacacapjiaaGreat
end
section
set_option maxRecDepth 100000
namespace Go.Eng.YtbjnlacacapjiaaGreat
theorem ptrV_length (l : List ByteArray) : (ptrV l).length = l.length := List.length_map _
theorem ptr_one (l : List ByteArray) : ∀ v ∈ ptrV l, Value.oneCell' v = true := fun v hv => by
  unfold ptrV at hv
  obtain ⟨s, _, rfl⟩ := List.mem_map.1 hv
  rfl
theorem apply_spec {g h : Hp} {sb vb pm cm : Nat} {ps ls l l1 l2 : Sl} {xs : List (Sl × List Tab)} {ptrs : List ByteArray} {e : Edit} {a b c : Int} {Q : Value → Hp → Prop}
    (S : SetA g h sb vb pm cm ps ls xs ptrs) (E : EdAt g e l l1 l2) (hp : ptrs.length = xs.length) (h1 : 1 ≤ xs.length) (h5 : xs.length ≤ 5) (hs : totL (xs.map (·.2)) + e.inn.length ≤ 50000) (ho : e.out.length ≤ 50000)
    (hQ : ∀ h' c (r : Sl) vb' ls' xs' ptrs', Chg (DA sb cm ps) h h' → SetA g h' sb vb' pm cm ps ls' xs' ptrs' → Res (xs.map (·.2)) e c (xs'.map (·.2)) → (c = 0 → ptrs' = e.ptr) → (c ≠ 0 → xs' = xs ∧ ptrs' = ptrs) → Q (.tuple ⟨[.slice r.a r.n r.c, .int .i64 c]⟩) h') : F18.T (some ⟨sb, 0, none⟩) a b c l l1 l2 h Q := by
  have Eh := E.keep S.V.L.k
  have hl2 : l2.n = e.ptr.length := by have := E.ptr.1; rw [ptrV_length] at this; omega
  have hln := S.V.L.len
  refine ⟨sb, 0, rfl, some ⟨vb, 0, none⟩, at_of S.s 0, vb, 0, rfl, ls, at_of S.V.v 0, fun hlen => ?_, fun hlen => ?_⟩
  · have hpl : e.ptr.length = (xs.map (·.2)).length := by rw [List.length_map]; omega
    refine ⟨sb, 0, rfl, some ⟨vb, 0, none⟩, at_of S.s 0, ?_⟩
    refine copied_ver S.V.r (by rw [List.length_map]; exact h5) (by omega) fun h1 vb1 ls1 xs1 V1 e1 => ⟨some ⟨vb1, 0, none⟩, rfl, ?_⟩
    have hx1l : xs1.length = xs.length := by have := congrArg List.length e1; simpa using this
    refine out_spec V1 Eh.out (by rw [e1]; omega) (by omega) fun h2 xs2 V2 C2 e2 => ⟨_, rfl, fun hc => ?_, fun hc => ?_⟩
    · rw [e1] at hc e2
      have so := outM_sum e.out (xs.map (·.2))
      have hx2l : xs2.length = xs.length := by have := congrArg List.length e2; rw [List.length_map, so.2.1, List.length_map] at this; exact this
      refine in_spec V2 Eh.inn (by rw [e2]; omega) (by omega) (by omega) fun h3 c3 xs3 V3 C3 r3 => ⟨c3, rfl, fun hc3 => ?_, fun hc3 => ?_⟩
      · subst hc3
        have S3 := S.keep V3.L.k
        have V3g := V3.base S.V.L.k
        have hR : Res (xs.map (·.2)) e 0 (xs3.map (·.2)) := by
          unfold Res
          rw [if_pos hpl, if_pos hc]
          unfold InR at r3
          rw [e2] at r3
          exact r3
        refine ⟨sb, 0, rfl, some ⟨vb, 0, none⟩, at_of S3.s 0, sb, 0, rfl, canW_new S3.s (by simp), sb, 0, rfl, ?_⟩
        have C4 : Ck [102] h3 (h3.wr sb 0 [.pointer (some ⟨vb1, 0, none⟩)]) := Ck.wr S3.s
        have K4 : Keep g (h3.wr sb 0 [.pointer (some ⟨vb1, 0, none⟩)]) := V3g.L.k.wr S.ns _ _
        have s4 := wr_at (o := 0) (vs := [.pointer (some ⟨vb1, 0, none⟩)]) S3.s
        have Cg4 : Chg (DA sb cm ps) h (h3.wr sb 0 [.pointer (some ⟨vb1, 0, none⟩)]) := by
          refine (Chg.of_keep V3.L.k).trans ⟨fun k x n ek => ?_, C4.dom⟩
          unfold Hp.wr
          rw [if_neg (fun hk => n (.inl hk))]; exact ek
        have V4 := V3g.ck C4 K4 (by decide) (by decide) (by decide)
        have Vo4 := S3.V.ck C4 K4 (by decide) (by decide) (by decide)
        have p4 := C4.buf (by decide) S3.p
        obtain ⟨cp, hcp⟩ := S3.m
        have m4 := C4.keep _ _ hcp (by simp [kd])
        obtain ⟨es, ce, hce, hue⟩ := S3.c
        have c4 := C4.keep _ _ hce (by simp [kd])
        clear C4
        generalize h3.wr sb 0 [.pointer (some ⟨vb1, 0, none⟩)] = h4 at K4 s4 Cg4 V4 Vo4 p4 m4 c4 ⊢
        have hpn : ps.n = ptrs.length := by have := p4.len; rw [ptrV_length] at this; omega
        have hmin : Nat.min l2.n ps.n = l2.n := Nat.min_eq_left (by omega)
        refine ⟨ps, at_of s4 2, ptrV e.ptr, ?_⟩
        rw [hmin, Nat.mul_one]
        obtain ⟨bp, hbp⟩ := buf_b p4 (by rw [ptrV_length]; omega)
        obtain ⟨w5, U5, B5⟩ := bufWr' (A := []) (U := ptrV ptrs) (V := ptrV e.ptr) (B := []) (by rw [List.nil_append, List.append_nil]; exact p4) (by rw [ptrV_length, ptrV_length]; omega) hbp
        simp only [List.nil_append, List.append_nil, List.length_nil] at w5 U5 B5
        rw [← hbp] at w5 U5 B5
        refine ⟨K4.row E.ptr, ptr_one _, w5, ?_⟩
        have C5 : Ck [11] h4 (h4.wrA ps.a (ptrV e.ptr)) := Ck.of_upd p4 U5
        have K5 := (S.np.upd K4 U5).1
        have S5 : SetA g (h4.wrA ps.a (ptrV e.ptr)) sb vb1 pm cm ps ls1 xs3 e.ptr := ⟨V4.ck C5 K5 (by decide) (by decide) (by decide), S.ns, C5.keep _ _ s4 (show 102 ∉ [11] by decide), S.np, B5, ⟨cp, C5.keep _ _ m4 (show 0 ∉ [11] by decide)⟩, S.nc, ⟨es, ce, C5.keep _ _ c4 (show 0 ∉ [11] by decide), hue⟩, S.ne⟩
        have Vo5 := Vo4.ck C5 K5 (by decide) (by decide) (by decide)
        have Cg5 : Chg (DA sb cm ps) h (h4.wrA ps.a (ptrV e.ptr)) := Cg4.trans (Chg.upd U5 fun k o hk => .inr (.inr (by rw [hbp] at hk ⊢; simp only [Option.some.injEq, Addr.mk.injEq, and_true] at hk; rw [hk.1])))
        obtain ⟨_, l2', hS, hT2, hl2', _⟩ := hR.ok
        have t3 : totL (xs3.map (·.2)) ≤ 60000 := by rw [hS.totL]; omega
        have n3 : xs3.length = xs.length := by have := hS.1; rw [List.length_map, hl2', List.length_map] at this; exact this
        refine gone_spec S5 Vo5.r t3 (by omega) (by omega) (by rw [List.length_map]; exact h5) fun h6 r O6 c6 => ⟨r, rfl, ?_⟩
        obtain ⟨es5, ce5, hce5, _⟩ := S5.c
        have K6 := K5.one O6 S.nc
        have S6 : SetA g h6 sb vb1 pm cm ps ls1 xs3 e.ptr := by
          obtain ⟨cp5, hcp5⟩ := S5.m
          have C6 := O6.ck hce5
          exact ⟨S5.V.ck C6 K6 (by simp [kd]) (by simp [kd]) (by simp [kd]), S.ns, O6.keep _ _ (ne_kd S5.s hce5 (by simp [kd])) S5.s, S.np, C6.buf (by simp [kd]) S5.p, ⟨cp5, O6.keep _ _ S.ne hcp5⟩, S.nc, c6, S.ne⟩
        exact hQ h6 0 r vb1 ls1 xs3 e.ptr (Cg5.trans (Chg.one O6 (.inr (.inl rfl)))) S6 hR (fun _ => rfl) (fun h0 => absurd rfl h0)
      · refine hQ h3 c3 ⟨none, 0, 0⟩ vb ls xs ptrs (Chg.of_keep V3.L.k) (S.keep V3.L.k) ?_ (fun h0 => absurd h0 hc3) (fun _ => ⟨rfl, rfl⟩)
        unfold Res
        rw [if_pos hpl, if_pos hc]
        unfold InR at r3
        rw [e2] at r3
        split
        · next h0 =>
          rw [if_pos h0] at r3
          exact r3.imp id fun k => absurd k.1 hc3
        · next h0 => rw [if_neg h0] at r3; exact r3
    · rw [e1] at hc
      rw [e1]
      refine hQ h2 _ ⟨none, 0, 0⟩ vb ls xs ptrs (Chg.of_keep V2.L.k) (S.keep V2.L.k) ?_ (fun h0 => absurd h0 hc) (fun _ => ⟨rfl, rfl⟩)
      unfold Res
      rw [if_pos hpl, if_neg hc]
  · refine hQ h 133 ⟨none, 0, 0⟩ vb ls xs ptrs (Chg.of_keep (Keep.refl h)) S ?_ (fun h0 => absurd h0 (by decide)) (fun _ => ⟨rfl, rfl⟩)
    unfold Res
    rw [if_neg (by rw [List.length_map]; omega)]
theorem new_spec {h : Hp} {n : Int} {k : Nat} {Q : Value → Hp → Prop} (hk : n = (k : Int)) (k1 : 1 ≤ k) (k5 : k ≤ 5)
    (hQ : ∀ h' sb vb pm cm ps ls xs, SetA h h' sb vb pm cm ps ls xs (List.replicate k ⟨#[]⟩) → xs.map (·.2) = List.replicate k [] → Q (.pointer (some ⟨sb, 0, none⟩)) h') : F17.T n h Q := by
  subst hk
  have hm : iMin (iMax (k : Int) 1) 5 = (k : Int) := by
    unfold iMin iMax
    by_cases h1 : (k : Int) < 1
    · omega
    · rw [if_neg h1]
      by_cases h5 : 5 < (k : Int)
      · omega
      · rw [if_neg h5]
  unfold F17.T
  rw [hm]
  simp only [Int.toNat_natCast]
  refine ⟨⟨by omega, by omega, by omega⟩, ⟨by omega, by omega, by omega⟩, ⟨by omega, by omega, by omega⟩, fun b hb => ⟨⟨by omega, by omega, by omega⟩, fun b1 hb1 => ⟨⟨by omega, by omega, by omega⟩, fun b2 hb2 => ⟨⟨by omega, by omega, by omega⟩, ⟨by omega, by omega, by omega⟩, fun b3 hb3 b4 hb4 b5 hb5 => ?_⟩⟩⟩⟩
  have K0 := Keep.new hb (.cells (Builtin.zeroCells (List.toArray [.slice none 0 0]) k) 75 (0, 0))
  have B0 := buf_make h b k 75 [.slice none 0 0] (by decide)
  rw [zerosV_one] at B0
  generalize h.new b (.cells (Builtin.zeroCells (List.toArray [.slice none 0 0]) k) 75 (0, 0)) = g0 at *
  have K1 := Keep.new hb1 (.cells ⟨[.slice (some ⟨b, 0, none⟩) k k]⟩ 96 (0, 0))
  have x1 := new_at g0 b1 (.cells ⟨[.slice (some ⟨b, 0, none⟩) k k]⟩ 96 (0, 0))
  generalize g0.new b1 (.cells ⟨[.slice (some ⟨b, 0, none⟩) k k]⟩ 96 (0, 0)) = g1 at *
  have K2 := Keep.new hb2 (.map #[] 0)
  have x2 := new_at g1 b2 (.map #[] 0)
  generalize g1.new b2 (.map #[] 0) = g2 at *
  have K3 := Keep.new hb3 (.cells (Builtin.zeroCells (List.toArray [.string (ByteArray.mk #[])]) k) 9 (0, 0))
  have B3 := buf_make g2 b3 k 9 [.string (ByteArray.mk #[])] (by decide)
  rw [zerosV_one] at B3
  generalize g2.new b3 (.cells (Builtin.zeroCells (List.toArray [.string (ByteArray.mk #[])]) k) 9 (0, 0)) = g3 at *
  have K4 := Keep.new hb4 (.map #[] 0)
  have x4 := new_at g3 b4 (.map #[] 0)
  generalize g3.new b4 (.map #[] 0) = g4 at *
  have K5 := Keep.new hb5 (.cells ⟨[.pointer (some ⟨b1, 0, none⟩), .map (some b2), .slice (some ⟨b3, 0, none⟩) k k, .map (some b4)]⟩ 100 (0, 0))
  have x5 := new_at g4 b5 (.cells ⟨[.pointer (some ⟨b1, 0, none⟩), .map (some b2), .slice (some ⟨b3, 0, none⟩) k k, .map (some b4)]⟩ 100 (0, 0))
  generalize g4.new b5 (.cells ⟨[.pointer (some ⟨b1, 0, none⟩), .map (some b2), .slice (some ⟨b3, 0, none⟩) k k, .map (some b4)]⟩ 100 (0, 0)) = g5 at *
  have K15 := ((K2.trans K3).trans K4).trans K5
  have Kall := (K0.trans K1).trans K15
  have d1 := K0.dom
  have d2 := (K0.trans K1).dom
  have d3 := ((K0.trans K1).trans K2).dom
  have d4 := (((K0.trans K1).trans K2).trans K3).dom
  have d5 := ((((K0.trans K1).trans K2).trans K3).trans K4).dom
  have hmem : ∀ x ∈ List.replicate k ((⟨none, 0, 0⟩ : Sl), ([] : List Tab)), x = ((⟨none, 0, 0⟩ : Sl), ([] : List Tab)) := fun x hx => (List.mem_replicate.1 hx).2
  refine hQ g5 b5 b1 b2 b4 ⟨some ⟨b3, 0, none⟩, k, k⟩ ⟨some ⟨b, 0, none⟩, k, k⟩ (List.replicate k (⟨none, 0, 0⟩, [])) ⟨⟨⟨Kall, .inr ⟨b, rfl, hb⟩, ?_, fun x hx => by rw [hmem x hx]; exact Buf.nil _ _ _, fun x hx => by rw [hmem x hx]; exact .inl rfl, fun i j x y hx _ _ => by rw [hmem x (List.mem_of_getElem? hx)]; exact off_nil (.inl rfl)⟩, d1 _ hb1, K15 _ _ x1⟩, d5 _ hb5, x5, .inr ⟨b3, rfl, d3 _ hb3⟩, ?_, ⟨0, ((K3.trans K4).trans K5) _ _ x2⟩, d4 _ hb4, ⟨#[], 0, K5 _ _ x4, fun e he => by simp at he⟩, ?_⟩ (by simp)
  · have : slV ((List.replicate k ((⟨none, 0, 0⟩ : Sl), ([] : List Tab))).map (·.1)) = List.replicate k (.slice none 0 0) := by simp [slV]
    rw [this]
    exact (B0.keep K1).keep K15
  · have : ptrV (List.replicate k (⟨#[]⟩ : ByteArray)) = List.replicate k (.string ⟨#[]⟩) := by simp [ptrV]
    rw [this]
    exact B3.keep (K4.trans K5)
  · exact ne_of (K3 _ _ x2) hb4
end Go.Eng.YtbjnlacacapjiaaGreat
end
section
set_option maxRecDepth 100000
namespace Go.Eng.YtbjnlacacapjiaaGreat
theorem row_one {h : Hp} {s : Sl} {t : Nat} {vs : List Value} (B : Buf h s 1 t vs) : h.row s.a s.n vs := by have := B.row; rwa [Nat.mul_one] at this
section
variable {g h : Hp} {sb vb pm cm : Nat} {ps ls : Sl} {xs : List (Sl × List Tab)} {ptrs : List ByteArray} {Q : Value → Hp → Prop}
theorem current_spec (S : SetA g h sb vb pm cm ps ls xs ptrs) (hQ : Q (.pointer (some ⟨vb, 0, none⟩)) h) : F19.T (some ⟨sb, 0, none⟩) h Q := ⟨sb, 0, rfl, some ⟨vb, 0, none⟩, at_of S.s 0, hQ⟩
theorem levels_spec (V : Ver g h vb ls xs) (hQ : Q (.int .i64 (xs.length : Int)) h) : F34.T (some ⟨vb, 0, none⟩) h Q := ⟨vb, 0, rfl, ls, at_of V.v 0, by rw [V.L.len]; exact hQ⟩
end
def plc (i : Int) (t : Tab) : Placed := ⟨i, t.num, t.weight, t.bytes, t.entries, t.least, t.greatest⟩
def wholeM : Nat → Lv → List Placed
  | _, [] => []
  | i, l :: lv => l.map (plc i) ++ wholeM (i + 1) lv
end Go.Eng.YtbjnlacacapjiaaGreat
end
section
set_option maxRecDepth 100000
open Go.Proofs
namespace Go.Eng.YtbjnlacacapjiaaGreat
@[reducible] def F56.G (T34 : Option Addr → PT) (n n1 n2 n3 n4 n5 n6 n7 n8 n9 n10 n11 n12 n13 n14 n15 n16 n17 n18 n19 n20 n21 n22 n23 n24 n25 n26 : Int) (p : Option Addr) : PT := fun h Q =>
  T34 p h fun r h1 => ∃ n27 : Int, r = .int .i64 n27 ∧ Q (.int .i64 (IntKind.wrap .i64 ((iMin n8 n27) - 1))) h1
def F56.T := F56.G F34.T
theorem F56.gen (V T34 n n1 n2 n3 n4 n5 n6 n7 n8 n9 n10 n11 n12 n13 n14 n15 n16 n17 n18 n19 n20 n21 n22 n23 n24 n25 n26 p) : denF Tryz.prog [2] [(34, F34.W T34)] V [(6, .order [0, 1, 2, 3, 4, 5, 6])] Tryz.f56 [.v (.agg ⟨[.int .i64 n, .int .i64 n1, .int .i64 n2, .int .i64 n3, .int .i64 n4, .int .i64 n5, .int .i64 n6, .int .i64 n7, .int .i64 n8, .int .i64 n9, .int .i64 n10, .int .i64 n11, .int .i64 n12, .int .i64 n13, .int .i64 n14, .int .i64 n15, .int .i64 n16, .int .i64 n17, .int .i64 n18, .int .i64 n19, .int .i64 n20, .int .i64 n21, .int .i64 n22, .int .i64 n23, .int .i64 n24, .int .i64 n25, .int .i64 n26]⟩), .v (.pointer p)] = F56.G T34 n n1 n2 n3 n4 n5 n6 n7 n8 n9 n10 n11 n12 n13 n14 n15 n16 n17 n18 n19 n20 n21 n22 n23 n24 n25 n26 p := by kernel_rfl
def F56.W (T56 : I9 <| I9 <| I9 <| Option Addr → PT) (args : List Value) : PT := match args with
  | [.agg ⟨[.int .i64 n, .int .i64 n1, .int .i64 n2, .int .i64 n3, .int .i64 n4, .int .i64 n5, .int .i64 n6, .int .i64 n7, .int .i64 n8, .int .i64 n9, .int .i64 n10, .int .i64 n11, .int .i64 n12, .int .i64 n13, .int .i64 n14, .int .i64 n15, .int .i64 n16, .int .i64 n17, .int .i64 n18, .int .i64 n19, .int .i64 n20, .int .i64 n21, .int .i64 n22, .int .i64 n23, .int .i64 n24, .int .i64 n25, .int .i64 n26]⟩, .pointer p] => T56 n n1 n2 n3 n4 n5 n6 n7 n8 n9 n10 n11 n12 n13 n14 n15 n16 n17 n18 n19 n20 n21 n22 n23 n24 n25 n26 p
  | _ => fun _ _ => False
def F56.V : List Value → PT := F56.W F56.T
theorem F56.ok : FOk Tryz.prog 56 F56.V := by
  refine ⟨⟨_, Tryz.func56, rfl, rfl⟩, fun args => ?_⟩
  unfold F56.V F56.W
  split
  · exact denF_okE (GOk.cons F34.ok (GOk.nil)) noV_ok Tryz.func56 (F56.gen noV F34.T _ _ _ _ _ _ _ _ _ _ _ _ _ _ _ _ _ _ _ _ _ _ _ _ _ _ _ _)
  · exact fun _ _ h => h.elim
def F57.T (n n1 : Int) : PT := fun h Q =>
  par (n1 = 0) (Q (.int .i64 0) h) (n1 ≠ 0 ∧ Q (.int .i64 (IntKind.wrap .i64 (Int.tdiv (IntKind.wrap .i64 (1000 * n)) n1))) h)
theorem F57.den (V n n1) : denF Tryz.prog [] [] V [] Tryz.f57 [.v (.int .i64 n), .v (.int .i64 n1)] = F57.T n n1 := by kernel_rfl
def F57.W (T57 : Int → Int → PT) (args : List Value) : PT := match args with
  | [.int .i64 n, .int .i64 n1] => T57 n n1
  | _ => fun _ _ => False
def F57.V : List Value → PT := F57.W F57.T
theorem F57.ok : FOk Tryz.prog 57 F57.V := by
  refine ⟨⟨_, Tryz.func57, rfl, rfl⟩, fun args => ?_⟩
  unfold F57.V F57.W
  split
  · exact denF_okE (GOk.nil) noV_ok Tryz.func57 (F57.den noV _ _)
  · exact fun _ _ h => h.elim
@[reducible] def F24.G (T20 : Option Addr → Int → PT) (T56 : I9 <| I9 <| I9 <| Option Addr → PT) (T57 : Int → Int → PT) (T58 : Option Addr → Int → PT) (n n1 n2 n3 n4 n5 n6 n7 n8 n9 n10 n11 n12 n13 n14 n15 n16 n17 n18 n19 n20 n21 n22 n23 n24 n25 n26 : Int) (p : Option Addr) : PT := fun h Q =>
  T56 n n1 n2 n3 n4 n5 n6 n7 n8 n9 n10 n11 n12 n13 n14 n15 n16 n17 n18 n19 n20 n21 n22 n23 n24 n25 n26 p h fun r h1 => ∃ n27 : Int, r = .int .i64 n27 ∧ ∃ (I : Sl → Int → Int → Hp → Prop) (m : Sl → Int → Int → Hp → Nat), I ⟨none, 0, 0⟩ n9 0 h1 ∧ (∀ l : Sl, ∀ n28 n29 : Int, ∀ h2 : Hp, I l n28 n29 h2 → par (n29 < (iMax n27 0)) (par (n29 = 0) (T20 p 0 h2 fun r1 h3 => ∃ l1 : Sl, r1 = .slice l1.a l1.n l1.c ∧ T57 (l1.n : Int) n5 h3 fun r2 h4 => ∃ n30 : Int, r2 = .int .i64 n30 ∧ appendD l 3 1 8 [.int .i64 0] 1 [.int .i64 n30] h4 fun l2 h5 => I l2 n28 (IntKind.wrap .i64 (n29 + 1)) h5 ∧ m l2 n28 (IntKind.wrap .i64 (n29 + 1)) h5 < m l n28 n29 h2) (T58 p n29 h2 fun r3 h6 => ∃ n31 : Int, r3 = .int .i64 n31 ∧ T57 n31 n28 h6 fun r4 h7 => ∃ n32 : Int, r4 = .int .i64 n32 ∧ appendD l 3 1 8 [.int .i64 0] 1 [.int .i64 n32] h7 fun l3 h8 => I l3 (IntKind.wrap .i64 (n28 * n10)) (IntKind.wrap .i64 (n29 + 1)) h8 ∧ m l3 (IntKind.wrap .i64 (n28 * n10)) (IntKind.wrap .i64 (n29 + 1)) h8 < m l n28 n29 h2)) (Q (.slice l.a l.n l.c) h2))
def F24.T := F24.G F20.T F56.T F57.T F58.T
theorem F24.gen (V T20 T56 T57 T58 n n1 n2 n3 n4 n5 n6 n7 n8 n9 n10 n11 n12 n13 n14 n15 n16 n17 n18 n19 n20 n21 n22 n23 n24 n25 n26 p) : denF Tryz.prog [2, 26, 34] [(20, F20.W T20), (56, F56.W T56), (57, F57.W T57), (58, F58.W T58)] V [(122, .loop [(5, .sl), (6, .int .i64), (14, .int .i64)] []), (125332, .order [0, 1, 4, 5, 2, 3, 6, 7, 8, 9])] Tryz.f24 [.v (.agg ⟨[.int .i64 n, .int .i64 n1, .int .i64 n2, .int .i64 n3, .int .i64 n4, .int .i64 n5, .int .i64 n6, .int .i64 n7, .int .i64 n8, .int .i64 n9, .int .i64 n10, .int .i64 n11, .int .i64 n12, .int .i64 n13, .int .i64 n14, .int .i64 n15, .int .i64 n16, .int .i64 n17, .int .i64 n18, .int .i64 n19, .int .i64 n20, .int .i64 n21, .int .i64 n22, .int .i64 n23, .int .i64 n24, .int .i64 n25, .int .i64 n26]⟩), .v (.pointer p)] = F24.G T20 T56 T57 T58 n n1 n2 n3 n4 n5 n6 n7 n8 n9 n10 n11 n12 n13 n14 n15 n16 n17 n18 n19 n20 n21 n22 n23 n24 n25 n26 p := by kernel_rfl
def F24.W (T24 : I9 <| I9 <| I9 <| Option Addr → PT) (args : List Value) : PT := match args with
  | [.agg ⟨[.int .i64 n, .int .i64 n1, .int .i64 n2, .int .i64 n3, .int .i64 n4, .int .i64 n5, .int .i64 n6, .int .i64 n7, .int .i64 n8, .int .i64 n9, .int .i64 n10, .int .i64 n11, .int .i64 n12, .int .i64 n13, .int .i64 n14, .int .i64 n15, .int .i64 n16, .int .i64 n17, .int .i64 n18, .int .i64 n19, .int .i64 n20, .int .i64 n21, .int .i64 n22, .int .i64 n23, .int .i64 n24, .int .i64 n25, .int .i64 n26]⟩, .pointer p] => T24 n n1 n2 n3 n4 n5 n6 n7 n8 n9 n10 n11 n12 n13 n14 n15 n16 n17 n18 n19 n20 n21 n22 n23 n24 n25 n26 p
  | _ => fun _ _ => False
def F24.V : List Value → PT := F24.W F24.T
theorem F24.ok : FOk Tryz.prog 24 F24.V := by
  refine ⟨⟨_, Tryz.func24, rfl, rfl⟩, fun args => ?_⟩
  unfold F24.V F24.W
  split
  · exact denF_okE (GOk.cons F20.ok (GOk.cons F56.ok (GOk.cons F57.ok (GOk.cons F58.ok (GOk.nil))))) noV_ok Tryz.func24 (F24.gen noV F20.T F56.T F57.T F58.T _ _ _ _ _ _ _ _ _ _ _ _ _ _ _ _ _ _ _ _ _ _ _ _ _ _ _ _)
  · exact fun _ _ h => h.elim
@[reducible] def F60.G (T20 : Option Addr → Int → PT) (n n1 n2 n3 n4 n5 n6 n7 n8 n9 n10 n11 n12 n13 n14 n15 n16 n17 n18 n19 n20 n21 n22 n23 n24 n25 n26 : Int) (p : Option Addr) : PT := fun h Q =>
  T20 p 0 h fun r h1 => ∃ l : Sl, r = .slice l.a l.n l.c ∧ par (n7 ≤ (l.n : Int)) (Q (.bool true) h1) (Q (.bool false) h1)
def F60.T := F60.G F20.T
theorem F60.gen (V T20 n n1 n2 n3 n4 n5 n6 n7 n8 n9 n10 n11 n12 n13 n14 n15 n16 n17 n18 n19 n20 n21 n22 n23 n24 n25 n26 p) : denF Tryz.prog [2] [(20, F20.W T20)] V [(6, .order [0, 3, 4, 1, 2, 5, 6])] Tryz.f60 [.v (.agg ⟨[.int .i64 n, .int .i64 n1, .int .i64 n2, .int .i64 n3, .int .i64 n4, .int .i64 n5, .int .i64 n6, .int .i64 n7, .int .i64 n8, .int .i64 n9, .int .i64 n10, .int .i64 n11, .int .i64 n12, .int .i64 n13, .int .i64 n14, .int .i64 n15, .int .i64 n16, .int .i64 n17, .int .i64 n18, .int .i64 n19, .int .i64 n20, .int .i64 n21, .int .i64 n22, .int .i64 n23, .int .i64 n24, .int .i64 n25, .int .i64 n26]⟩), .v (.pointer p)] = F60.G T20 n n1 n2 n3 n4 n5 n6 n7 n8 n9 n10 n11 n12 n13 n14 n15 n16 n17 n18 n19 n20 n21 n22 n23 n24 n25 n26 p := by kernel_rfl
def F60.W (T60 : I9 <| I9 <| I9 <| Option Addr → PT) (args : List Value) : PT := match args with
  | [.agg ⟨[.int .i64 n, .int .i64 n1, .int .i64 n2, .int .i64 n3, .int .i64 n4, .int .i64 n5, .int .i64 n6, .int .i64 n7, .int .i64 n8, .int .i64 n9, .int .i64 n10, .int .i64 n11, .int .i64 n12, .int .i64 n13, .int .i64 n14, .int .i64 n15, .int .i64 n16, .int .i64 n17, .int .i64 n18, .int .i64 n19, .int .i64 n20, .int .i64 n21, .int .i64 n22, .int .i64 n23, .int .i64 n24, .int .i64 n25, .int .i64 n26]⟩, .pointer p] => T60 n n1 n2 n3 n4 n5 n6 n7 n8 n9 n10 n11 n12 n13 n14 n15 n16 n17 n18 n19 n20 n21 n22 n23 n24 n25 n26 p
  | _ => fun _ _ => False
def F60.V : List Value → PT := F60.W F60.T
theorem F60.ok : FOk Tryz.prog 60 F60.V := by
  refine ⟨⟨_, Tryz.func60, rfl, rfl⟩, fun args => ?_⟩
  unfold F60.V F60.W
  split
  · exact denF_okE (GOk.cons F20.ok (GOk.nil)) noV_ok Tryz.func60 (F60.gen noV F20.T _ _ _ _ _ _ _ _ _ _ _ _ _ _ _ _ _ _ _ _ _ _ _ _ _ _ _ _)
  · exact fun _ _ h => h.elim
def F81.T (n : Int) : PT := fun h Q =>
  par (n = n) (Q (.bool false) h) (Q (.bool true) h)
theorem F81.den (V n) : denF Tryz.prog [] [] V [] Tryz.f81 [.v (.int .i64 n)] = F81.T n := by kernel_rfl
def F81.W (T81 : Int → PT) (args : List Value) : PT := match args with
  | [.int .i64 n] => T81 n
  | _ => fun _ _ => False
def F81.V : List Value → PT := F81.W F81.T
theorem F81.ok : FOk Tryz.prog 81 F81.V := by
  refine ⟨⟨_, Tryz.func81, rfl, rfl⟩, fun args => ?_⟩
  unfold F81.V F81.W
  split
  · exact denF_okE (GOk.nil) noV_ok Tryz.func81 (F81.den noV _)
  · exact fun _ _ h => h.elim
@[reducible] def F63.G (T81 : Int → PT) (n n1 : Int) : PT := fun h Q =>
  T81 n h fun r h1 => ∃ b : Bool, r = .bool b ∧ parB b (T81 n1 h1 fun r1 h2 => ∃ b1 : Bool, r1 = .bool b1 ∧ parB b1 (Q (.int .i64 0) h2) (Q (.int .i64 (-1)) h2)) (T81 n1 h1 fun r2 h3 => ∃ b2 : Bool, r2 = .bool b2 ∧ parB b2 (Q (.int .i64 1) h3) (par (n < n1) (Q (.int .i64 (-1)) h3) (par (n1 < n) (Q (.int .i64 1) h3) (Q (.int .i64 0) h3))))
def F63.T := F63.G F81.T
theorem F63.gen (V T81 n n1) : denF Tryz.prog [] [(81, F81.W T81)] V [] Tryz.f63 [.v (.int .i64 n), .v (.int .i64 n1)] = F63.G T81 n n1 := by kernel_rfl
def F63.W (T63 : Int → Int → PT) (args : List Value) : PT := match args with
  | [.int .i64 n, .int .i64 n1] => T63 n n1
  | _ => fun _ _ => False
def F63.V : List Value → PT := F63.W F63.T
theorem F63.ok : FOk Tryz.prog 63 F63.V := by
  refine ⟨⟨_, Tryz.func63, rfl, rfl⟩, fun args => ?_⟩
  unfold F63.V F63.W
  split
  · exact denF_okE (GOk.cons F81.ok (GOk.nil)) noV_ok Tryz.func63 (F63.gen noV F81.T _ _)
  · exact fun _ _ h => h.elim
@[reducible] def F62.G (T60 : I9 <| I9 <| I9 <| Option Addr → PT) (T63 : Int → Int → PT) (n n1 : Int) (b o b1 o1 b2 o2 : Nat) : PT := fun h Q =>
  ∃ J : Hp → Prop, (∀ h1 : Hp, J h1 → ∃ l : Sl, h1.at b2 o2 = some (.slice l.a l.n l.c) ∧ ∃ b3 o3, (l.a : Option Addr) = some ⟨b3, o3, none⟩ ∧ ((0 : Int) ≤ n1 ∧ n1 < (l.n : Int)) ∧ ∃ n2 : Int, h1.at b3 (o3 + n1.toNat) = some (.int .i64 n2) ∧ ∃ l1 : Sl, h1.at b2 o2 = some (.slice l1.a l1.n l1.c) ∧ ∃ b4 o4, (l1.a : Option Addr) = some ⟨b4, o4, none⟩ ∧ ((0 : Int) ≤ n ∧ n < (l1.n : Int)) ∧ ∃ n3 : Int, h1.at b4 (o4 + n.toNat) = some (.int .i64 n3) ∧ T63 n2 n3 h1 fun r h2 => ∃ n4 : Int, r = .int .i64 n4 ∧ Q (.int .i64 n4) h2) ∧ (par (n = 0) (par (n = n1) (J h) (∃ n5 : Int, h.at b o = some (.int .i64 n5) ∧ ∃ n6 : Int, h.at b (o + 1) = some (.int .i64 n6) ∧ ∃ n7 : Int, h.at b (o + 2) = some (.int .i64 n7) ∧ ∃ n8 : Int, h.at b (o + 3) = some (.int .i64 n8) ∧ ∃ n9 : Int, h.at b (o + 4) = some (.int .i64 n9) ∧ ∃ n10 : Int, h.at b (o + 5) = some (.int .i64 n10) ∧ ∃ n11 : Int, h.at b (o + 6) = some (.int .i64 n11) ∧ ∃ n12 : Int, h.at b (o + 7) = some (.int .i64 n12) ∧ ∃ n13 : Int, h.at b (o + 8) = some (.int .i64 n13) ∧ ∃ n14 : Int, h.at b (o + 9) = some (.int .i64 n14) ∧ ∃ n15 : Int, h.at b (o + 10) = some (.int .i64 n15) ∧ ∃ n16 : Int, h.at b (o + 11) = some (.int .i64 n16) ∧ ∃ n17 : Int, h.at b (o + 12) = some (.int .i64 n17) ∧ ∃ n18 : Int, h.at b (o + 13) = some (.int .i64 n18) ∧ ∃ n19 : Int, h.at b (o + 14) = some (.int .i64 n19) ∧ ∃ n20 : Int, h.at b (o + 15) = some (.int .i64 n20) ∧ ∃ n21 : Int, h.at b (o + 16) = some (.int .i64 n21) ∧ ∃ n22 : Int, h.at b (o + 17) = some (.int .i64 n22) ∧ ∃ n23 : Int, h.at b (o + 18) = some (.int .i64 n23) ∧ ∃ n24 : Int, h.at b (o + 19) = some (.int .i64 n24) ∧ ∃ n25 : Int, h.at b (o + 20) = some (.int .i64 n25) ∧ ∃ n26 : Int, h.at b (o + 21) = some (.int .i64 n26) ∧ ∃ n27 : Int, h.at b (o + 22) = some (.int .i64 n27) ∧ ∃ n28 : Int, h.at b (o + 23) = some (.int .i64 n28) ∧ ∃ n29 : Int, h.at b (o + 24) = some (.int .i64 n29) ∧ ∃ n30 : Int, h.at b (o + 25) = some (.int .i64 n30) ∧ ∃ n31 : Int, h.at b (o + 26) = some (.int .i64 n31) ∧ ∃ p : Option Addr, h.at b1 o1 = some (.pointer p) ∧ T60 n5 n6 n7 n8 n9 n10 n11 n12 n13 n14 n15 n16 n17 n18 n19 n20 n21 n22 n23 n24 n25 n26 n27 n28 n29 n30 n31 p h fun r1 h3 => ∃ b5 : Bool, r1 = .bool b5 ∧ parB b5 (T63 n n1 h3 fun r2 h4 => ∃ n32 : Int, r2 = .int .i64 n32 ∧ Q (.int .i64 n32) h4) (J h3))) (par (n1 = 0) (par (n = n1) (J h) (∃ n33 : Int, h.at b o = some (.int .i64 n33) ∧ ∃ n34 : Int, h.at b (o + 1) = some (.int .i64 n34) ∧ ∃ n35 : Int, h.at b (o + 2) = some (.int .i64 n35) ∧ ∃ n36 : Int, h.at b (o + 3) = some (.int .i64 n36) ∧ ∃ n37 : Int, h.at b (o + 4) = some (.int .i64 n37) ∧ ∃ n38 : Int, h.at b (o + 5) = some (.int .i64 n38) ∧ ∃ n39 : Int, h.at b (o + 6) = some (.int .i64 n39) ∧ ∃ n40 : Int, h.at b (o + 7) = some (.int .i64 n40) ∧ ∃ n41 : Int, h.at b (o + 8) = some (.int .i64 n41) ∧ ∃ n42 : Int, h.at b (o + 9) = some (.int .i64 n42) ∧ ∃ n43 : Int, h.at b (o + 10) = some (.int .i64 n43) ∧ ∃ n44 : Int, h.at b (o + 11) = some (.int .i64 n44) ∧ ∃ n45 : Int, h.at b (o + 12) = some (.int .i64 n45) ∧ ∃ n46 : Int, h.at b (o + 13) = some (.int .i64 n46) ∧ ∃ n47 : Int, h.at b (o + 14) = some (.int .i64 n47) ∧ ∃ n48 : Int, h.at b (o + 15) = some (.int .i64 n48) ∧ ∃ n49 : Int, h.at b (o + 16) = some (.int .i64 n49) ∧ ∃ n50 : Int, h.at b (o + 17) = some (.int .i64 n50) ∧ ∃ n51 : Int, h.at b (o + 18) = some (.int .i64 n51) ∧ ∃ n52 : Int, h.at b (o + 19) = some (.int .i64 n52) ∧ ∃ n53 : Int, h.at b (o + 20) = some (.int .i64 n53) ∧ ∃ n54 : Int, h.at b (o + 21) = some (.int .i64 n54) ∧ ∃ n55 : Int, h.at b (o + 22) = some (.int .i64 n55) ∧ ∃ n56 : Int, h.at b (o + 23) = some (.int .i64 n56) ∧ ∃ n57 : Int, h.at b (o + 24) = some (.int .i64 n57) ∧ ∃ n58 : Int, h.at b (o + 25) = some (.int .i64 n58) ∧ ∃ n59 : Int, h.at b (o + 26) = some (.int .i64 n59) ∧ ∃ p1 : Option Addr, h.at b1 o1 = some (.pointer p1) ∧ T60 n33 n34 n35 n36 n37 n38 n39 n40 n41 n42 n43 n44 n45 n46 n47 n48 n49 n50 n51 n52 n53 n54 n55 n56 n57 n58 n59 p1 h fun r3 h5 => ∃ b6 : Bool, r3 = .bool b6 ∧ parB b6 (T63 n n1 h5 fun r4 h6 => ∃ n60 : Int, r4 = .int .i64 n60 ∧ Q (.int .i64 n60) h6) (J h5))) (J h)))
def F62.T := F62.G F60.T F63.T
theorem F62.gen (V T60 T63 n n1 b o b1 o1 b2 o2) : denF Tryz.prog [] [(60, F60.W T60), (63, F63.W T63)] V [(3, .join [] []), (14, .order [0, 1, 2, 3, 4, 5, 6, 7, 8, 9])] Tryz.f62 [.v (.int .i64 n), .v (.int .i64 n1), .p b o, .p b1 o1, .p b2 o2] = F62.G T60 T63 n n1 b o b1 o1 b2 o2 := by kernel_rfl
def F62.W (T62 : Int → Int → Nat → Nat → Nat → Nat → Nat → Nat → PT) (args : List Value) : PT := match args with
  | [.int .i64 n, .int .i64 n1, .pointer (some ⟨b, o, none⟩), .pointer (some ⟨b1, o1, none⟩), .pointer (some ⟨b2, o2, none⟩)] => T62 n n1 b o b1 o1 b2 o2
  | _ => fun _ _ => False
def F62.V : List Value → PT := F62.W F62.T
theorem F62.ok : FOk Tryz.prog 62 F62.V := by
  refine ⟨⟨_, Tryz.func62, rfl, rfl⟩, fun args => ?_⟩
  unfold F62.V F62.W
  split
  · exact denF_okEA (xs := [.v _, .v _, .p _ _, .p _ _, .p _ _]) (GOk.cons F60.ok (GOk.cons F63.ok (GOk.nil))) noV_ok Tryz.func62 (inStep_cons rfl (inStep_cons rfl (inStep_cons rfl (inStep_cons rfl (inStep_cons rfl (inStep_nil _)))))) (by intro x hx; simp only [List.mem_cons, List.not_mem_nil, or_false] at hx; rcases hx with rfl | rfl | rfl | rfl | rfl <;> rfl) (F62.gen noV F60.T F63.T _ _ _ _ _ _ _ _)
  · exact fun _ _ h => h.elim
def F112.T (l : Sl) (n n1 n2 : Int) (b o b1 o1 b2 o2 : Nat) : PT := fun h Q =>
  ∃ (I : Int → Hp → Prop) (m : Int → Hp → Nat), I 0 h ∧ (∀ n3 : Int, ∀ h1 : Hp, I n3 h1 → par (n3 < n2) (∃ b3 o3, (l.a : Option Addr) = some ⟨b3, o3, none⟩ ∧ ((0 : Int) ≤ (IntKind.wrap .i64 (n1 + n3)) ∧ (IntKind.wrap .i64 (n1 + n3)) < (l.n : Int)) ∧ ∃ n4 : Int, h1.at b3 (o3 + ((IntKind.wrap .i64 (n1 + n3))).toNat) = some (.int .i64 n4) ∧ ∃ b4 o4, (l.a : Option Addr) = some ⟨b4, o4, none⟩ ∧ ((0 : Int) ≤ (IntKind.wrap .i64 (n + n3)) ∧ (IntKind.wrap .i64 (n + n3)) < (l.n : Int)) ∧ ∃ n5 : Int, h1.at b4 (o4 + ((IntKind.wrap .i64 (n + n3))).toNat) = some (.int .i64 n5) ∧ ∃ b5 o5, (l.a : Option Addr) = some ⟨b5, o5, none⟩ ∧ ((0 : Int) ≤ (IntKind.wrap .i64 (n + n3)) ∧ (IntKind.wrap .i64 (n + n3)) < (l.n : Int)) ∧ h1.canW b5 (o5 + ((IntKind.wrap .i64 (n + n3))).toNat) 1 ∧ ∃ b6 o6, (l.a : Option Addr) = some ⟨b6, o6, none⟩ ∧ ((0 : Int) ≤ (IntKind.wrap .i64 (n1 + n3)) ∧ (IntKind.wrap .i64 (n1 + n3)) < (l.n : Int)) ∧ (h1.wr b5 (o5 + ((IntKind.wrap .i64 (n + n3))).toNat) [.int .i64 n4]).canW b6 (o6 + ((IntKind.wrap .i64 (n1 + n3))).toNat) 1 ∧ I (IntKind.wrap .i64 (n3 + 1)) ((h1.wr b5 (o5 + ((IntKind.wrap .i64 (n + n3))).toNat) [.int .i64 n4]).wr b6 (o6 + ((IntKind.wrap .i64 (n1 + n3))).toNat) [.int .i64 n5]) ∧ m (IntKind.wrap .i64 (n3 + 1)) ((h1.wr b5 (o5 + ((IntKind.wrap .i64 (n + n3))).toNat) [.int .i64 n4]).wr b6 (o6 + ((IntKind.wrap .i64 (n1 + n3))).toNat) [.int .i64 n5]) < m n3 h1) (Q (.tuple ⟨[]⟩) h1))
theorem F112.den (V l n n1 n2 b o b1 o1 b2 o2) : denF Tryz.prog [] [] V [(6, .loop [(10, .int .i64)] []), (100, .order [0, 1, 2, 3, 4, 5, 6, 7, 8, 9, 10, 11, 12, 13, 14, 15, 16, 17, 18, 19, 20, 21, 22, 23])] Tryz.f112 [.v (.slice l.a l.n l.c), .v (.int .i64 n), .v (.int .i64 n1), .v (.int .i64 n2), .v (.func (.func 62) ⟨[]⟩ ⟨[.pointer (some ⟨b, o, none⟩), .pointer (some ⟨b1, o1, none⟩), .pointer (some ⟨b2, o2, none⟩)]⟩)] = F112.T l n n1 n2 b o b1 o1 b2 o2 := by kernel_rfl
def F112.W (T112 : Sl → Int → Int → Int → Nat → Nat → Nat → Nat → Nat → Nat → PT) (args : List Value) : PT := match args with
  | [.slice l_a l_n l_c, .int .i64 n, .int .i64 n1, .int .i64 n2, .func (.func 62) ⟨[]⟩ ⟨[.pointer (some ⟨b, o, none⟩), .pointer (some ⟨b1, o1, none⟩), .pointer (some ⟨b2, o2, none⟩)]⟩] => T112 ⟨l_a, l_n, l_c⟩ n n1 n2 b o b1 o1 b2 o2
  | _ => fun _ _ => False
def F112.V : List Value → PT := F112.W F112.T
theorem F112.ok : FOk Tryz.prog 112 F112.V := by
  refine ⟨⟨_, Tryz.func112, rfl, rfl⟩, fun args => ?_⟩
  unfold F112.V F112.W
  split
  · exact denF_okE (GOk.nil) noV_ok Tryz.func112 (F112.den noV ⟨_, _, _⟩ _ _ _ _ _ _ _ _ _)
  · exact fun _ _ h => h.elim
@[reducible] def F104.G (T112 : Sl → Int → Int → Int → Nat → Nat → Nat → Nat → Nat → Nat → PT) (l : Sl) (n n1 n2 : Int) (b o b1 o1 b2 o2 : Nat) : PT := fun h Q =>
  ∃ (I : Int → Int → Hp → Prop) (m : Int → Int → Hp → Nat), I (IntKind.wrap .i64 (n1 - n)) (IntKind.wrap .i64 (n2 - n1)) h ∧ (∀ n3 n4 : Int, ∀ h1 : Hp, I n3 n4 h1 → par (n3 = n4) (T112 l (IntKind.wrap .i64 (n1 - n3)) n1 n3 b o b1 o1 b2 o2 h1 fun r h2 => Q (.tuple ⟨[]⟩) h2) (par (n4 < n3) (T112 l (IntKind.wrap .i64 (n1 - n3)) n1 n4 b o b1 o1 b2 o2 h1 fun r1 h3 => I (IntKind.wrap .i64 (n3 - n4)) n4 h3 ∧ m (IntKind.wrap .i64 (n3 - n4)) n4 h3 < m n3 n4 h1) (T112 l (IntKind.wrap .i64 (n1 - n3)) (IntKind.wrap .i64 ((IntKind.wrap .i64 (n1 + n4)) - n3)) n3 b o b1 o1 b2 o2 h1 fun r2 h4 => I n3 (IntKind.wrap .i64 (n4 - n3)) h4 ∧ m n3 (IntKind.wrap .i64 (n4 - n3)) h4 < m n3 n4 h1)))
def F104.T := F104.G F112.T
theorem F104.gen (V T112 l n n1 n2 b o b1 o1 b2 o2) : denF Tryz.prog [] [(112, F112.W T112)] V [(28, .loop [(10, .int .i64), (11, .int .i64)] [])] Tryz.f104 [.v (.slice l.a l.n l.c), .v (.int .i64 n), .v (.int .i64 n1), .v (.int .i64 n2), .v (.func (.func 62) ⟨[]⟩ ⟨[.pointer (some ⟨b, o, none⟩), .pointer (some ⟨b1, o1, none⟩), .pointer (some ⟨b2, o2, none⟩)]⟩)] = F104.G T112 l n n1 n2 b o b1 o1 b2 o2 := by kernel_rfl
def F104.W (T104 : Sl → Int → Int → Int → Nat → Nat → Nat → Nat → Nat → Nat → PT) (args : List Value) : PT := match args with
  | [.slice l_a l_n l_c, .int .i64 n, .int .i64 n1, .int .i64 n2, .func (.func 62) ⟨[]⟩ ⟨[.pointer (some ⟨b, o, none⟩), .pointer (some ⟨b1, o1, none⟩), .pointer (some ⟨b2, o2, none⟩)]⟩] => T104 ⟨l_a, l_n, l_c⟩ n n1 n2 b o b1 o1 b2 o2
  | _ => fun _ _ => False
def F104.V : List Value → PT := F104.W F104.T
theorem F104.ok : FOk Tryz.prog 104 F104.V := by
  refine ⟨⟨_, Tryz.func104, rfl, rfl⟩, fun args => ?_⟩
  unfold F104.V F104.W
  split
  · exact denF_okE (GOk.cons F112.ok (GOk.nil)) noV_ok Tryz.func104 (F104.gen noV F112.T ⟨_, _, _⟩ _ _ _ _ _ _ _ _ _)
  · exact fun _ _ h => h.elim
@[reducible] def F88.G (T62 : Int → Int → Nat → Nat → Nat → Nat → Nat → Nat → PT) (l : Sl) (n n1 : Int) (b o b1 o1 b2 o2 : Nat) : PT := fun h Q =>
  ∃ (I : Int → Hp → Prop) (m : Int → Hp → Nat), I (IntKind.wrap .i64 (n + 1)) h ∧ (∀ n2 : Int, ∀ h1 : Hp, I n2 h1 → par (n2 < n1) (∃ (I1 : Int → Hp → Prop) (m1 : Int → Hp → Nat), I1 n2 h1 ∧ (∀ n3 : Int, ∀ h2 : Hp, I1 n3 h2 → par (n < n3) (∃ b3 o3, (l.a : Option Addr) = some ⟨b3, o3, none⟩ ∧ ((0 : Int) ≤ n3 ∧ n3 < (l.n : Int)) ∧ ∃ n4 : Int, h2.at b3 (o3 + n3.toNat) = some (.int .i64 n4) ∧ ∃ b4 o4, (l.a : Option Addr) = some ⟨b4, o4, none⟩ ∧ ((0 : Int) ≤ (IntKind.wrap .i64 (n3 - 1)) ∧ (IntKind.wrap .i64 (n3 - 1)) < (l.n : Int)) ∧ ∃ n5 : Int, h2.at b4 (o4 + ((IntKind.wrap .i64 (n3 - 1))).toNat) = some (.int .i64 n5) ∧ T62 n4 n5 b o b1 o1 b2 o2 h2 fun r h3 => ∃ n6 : Int, r = .int .i64 n6 ∧ par (n6 < 0) (∃ b5 o5, (l.a : Option Addr) = some ⟨b5, o5, none⟩ ∧ ((0 : Int) ≤ (IntKind.wrap .i64 (n3 - 1)) ∧ (IntKind.wrap .i64 (n3 - 1)) < (l.n : Int)) ∧ ∃ n7 : Int, h3.at b5 (o5 + ((IntKind.wrap .i64 (n3 - 1))).toNat) = some (.int .i64 n7) ∧ ∃ b6 o6, (l.a : Option Addr) = some ⟨b6, o6, none⟩ ∧ ((0 : Int) ≤ n3 ∧ n3 < (l.n : Int)) ∧ ∃ n8 : Int, h3.at b6 (o6 + n3.toNat) = some (.int .i64 n8) ∧ ∃ b7 o7, (l.a : Option Addr) = some ⟨b7, o7, none⟩ ∧ ((0 : Int) ≤ n3 ∧ n3 < (l.n : Int)) ∧ h3.canW b7 (o7 + n3.toNat) 1 ∧ ∃ b8 o8, (l.a : Option Addr) = some ⟨b8, o8, none⟩ ∧ ((0 : Int) ≤ (IntKind.wrap .i64 (n3 - 1)) ∧ (IntKind.wrap .i64 (n3 - 1)) < (l.n : Int)) ∧ (h3.wr b7 (o7 + n3.toNat) [.int .i64 n7]).canW b8 (o8 + ((IntKind.wrap .i64 (n3 - 1))).toNat) 1 ∧ I1 (IntKind.wrap .i64 (n3 - 1)) ((h3.wr b7 (o7 + n3.toNat) [.int .i64 n7]).wr b8 (o8 + ((IntKind.wrap .i64 (n3 - 1))).toNat) [.int .i64 n8]) ∧ m1 (IntKind.wrap .i64 (n3 - 1)) ((h3.wr b7 (o7 + n3.toNat) [.int .i64 n7]).wr b8 (o8 + ((IntKind.wrap .i64 (n3 - 1))).toNat) [.int .i64 n8]) < m1 n3 h2) (I (IntKind.wrap .i64 (n2 + 1)) h3 ∧ m (IntKind.wrap .i64 (n2 + 1)) h3 < m n2 h1)) (I (IntKind.wrap .i64 (n2 + 1)) h2 ∧ m (IntKind.wrap .i64 (n2 + 1)) h2 < m n2 h1))) (Q (.tuple ⟨[]⟩) h1))
def F88.T := F88.G F62.T
theorem F88.gen (V T62 l n n1 b o b1 o1 b2 o2) : denF Tryz.prog [] [(62, F62.W T62)] V [(6, .loop [(8, .int .i64)] []), (402, .loop [(9, .int .i64)] []), (3216, .order [0, 1, 2, 3, 4, 5, 6, 7, 8, 9, 10, 11, 12, 13, 14, 15, 16]), (6436, .order [0, 1, 2, 3, 4, 5, 6, 7, 8, 9, 10, 11, 12, 13, 14, 15, 16, 17])] Tryz.f88 [.v (.slice l.a l.n l.c), .v (.int .i64 n), .v (.int .i64 n1), .v (.func (.func 62) ⟨[]⟩ ⟨[.pointer (some ⟨b, o, none⟩), .pointer (some ⟨b1, o1, none⟩), .pointer (some ⟨b2, o2, none⟩)]⟩)] = F88.G T62 l n n1 b o b1 o1 b2 o2 := by kernel_rfl
def F88.W (T88 : Sl → Int → Int → Nat → Nat → Nat → Nat → Nat → Nat → PT) (args : List Value) : PT := match args with
  | [.slice l_a l_n l_c, .int .i64 n, .int .i64 n1, .func (.func 62) ⟨[]⟩ ⟨[.pointer (some ⟨b, o, none⟩), .pointer (some ⟨b1, o1, none⟩), .pointer (some ⟨b2, o2, none⟩)]⟩] => T88 ⟨l_a, l_n, l_c⟩ n n1 b o b1 o1 b2 o2
  | _ => fun _ _ => False
def F88.V : List Value → PT := F88.W F88.T
theorem F88.ok : FOk Tryz.prog 88 F88.V := by
  refine ⟨⟨_, Tryz.func88, rfl, rfl⟩, fun args => ?_⟩
  unfold F88.V F88.W
  split
  · exact denF_okE (GOk.cons F62.ok (GOk.nil)) noV_ok Tryz.func88 (F88.gen noV F62.T ⟨_, _, _⟩ _ _ _ _ _ _ _ _)
  · exact fun _ _ h => h.elim
def F89.G (T89 : Sl → Int → Int → Int → Nat → Nat → Nat → Nat → Nat → Nat → PT) (l : Sl) (n n1 n2 : Int) (b o b1 o1 b2 o2 : Nat) : PT := fun h Q =>
  par ((IntKind.wrap .i64 (n1 - n)) = 1) (∃ (I : Int → Int → Hp → Prop) (m : Int → Int → Hp → Nat), I n1 n2 h ∧ (∀ n3 n4 : Int, ∀ h1 : Hp, I n3 n4 h1 → par (n3 < n4) ((0 : Int) ≤ 1 ∧ ∃ b3 o3, (l.a : Option Addr) = some ⟨b3, o3, none⟩ ∧ ((0 : Int) ≤ (IntKind.wrap .i64 (shrI .u64 (IntKind.wrap .u64 (IntKind.wrap .i64 (n3 + n4))) 1)) ∧ (IntKind.wrap .i64 (shrI .u64 (IntKind.wrap .u64 (IntKind.wrap .i64 (n3 + n4))) 1)) < (l.n : Int)) ∧ ∃ n5 : Int, h1.at b3 (o3 + ((IntKind.wrap .i64 (shrI .u64 (IntKind.wrap .u64 (IntKind.wrap .i64 (n3 + n4))) 1))).toNat) = some (.int .i64 n5) ∧ ∃ b4 o4, (l.a : Option Addr) = some ⟨b4, o4, none⟩ ∧ ((0 : Int) ≤ n ∧ n < (l.n : Int)) ∧ ∃ n6 : Int, h1.at b4 (o4 + n.toNat) = some (.int .i64 n6) ∧ F62.T n5 n6 b o b1 o1 b2 o2 h1 fun r h2 => ∃ n7 : Int, r = .int .i64 n7 ∧ par (n7 < 0) (I (IntKind.wrap .i64 ((IntKind.wrap .i64 (shrI .u64 (IntKind.wrap .u64 (IntKind.wrap .i64 (n3 + n4))) 1)) + 1)) n4 h2 ∧ m (IntKind.wrap .i64 ((IntKind.wrap .i64 (shrI .u64 (IntKind.wrap .u64 (IntKind.wrap .i64 (n3 + n4))) 1)) + 1)) n4 h2 < m n3 n4 h1) (I n3 (IntKind.wrap .i64 (shrI .u64 (IntKind.wrap .u64 (IntKind.wrap .i64 (n3 + n4))) 1)) h2 ∧ m n3 (IntKind.wrap .i64 (shrI .u64 (IntKind.wrap .u64 (IntKind.wrap .i64 (n3 + n4))) 1)) h2 < m n3 n4 h1)) (∃ (I1 : Int → Hp → Prop) (m1 : Int → Hp → Nat), I1 n h1 ∧ (∀ n8 : Int, ∀ h3 : Hp, I1 n8 h3 → par (n8 < (IntKind.wrap .i64 (n3 - 1))) (∃ b5 o5, (l.a : Option Addr) = some ⟨b5, o5, none⟩ ∧ ((0 : Int) ≤ (IntKind.wrap .i64 (n8 + 1)) ∧ (IntKind.wrap .i64 (n8 + 1)) < (l.n : Int)) ∧ ∃ n9 : Int, h3.at b5 (o5 + ((IntKind.wrap .i64 (n8 + 1))).toNat) = some (.int .i64 n9) ∧ ∃ b6 o6, (l.a : Option Addr) = some ⟨b6, o6, none⟩ ∧ ((0 : Int) ≤ n8 ∧ n8 < (l.n : Int)) ∧ ∃ n10 : Int, h3.at b6 (o6 + n8.toNat) = some (.int .i64 n10) ∧ ∃ b7 o7, (l.a : Option Addr) = some ⟨b7, o7, none⟩ ∧ ((0 : Int) ≤ n8 ∧ n8 < (l.n : Int)) ∧ h3.canW b7 (o7 + n8.toNat) 1 ∧ ∃ b8 o8, (l.a : Option Addr) = some ⟨b8, o8, none⟩ ∧ ((0 : Int) ≤ (IntKind.wrap .i64 (n8 + 1)) ∧ (IntKind.wrap .i64 (n8 + 1)) < (l.n : Int)) ∧ (h3.wr b7 (o7 + n8.toNat) [.int .i64 n9]).canW b8 (o8 + ((IntKind.wrap .i64 (n8 + 1))).toNat) 1 ∧ I1 (IntKind.wrap .i64 (n8 + 1)) ((h3.wr b7 (o7 + n8.toNat) [.int .i64 n9]).wr b8 (o8 + ((IntKind.wrap .i64 (n8 + 1))).toNat) [.int .i64 n10]) ∧ m1 (IntKind.wrap .i64 (n8 + 1)) ((h3.wr b7 (o7 + n8.toNat) [.int .i64 n9]).wr b8 (o8 + ((IntKind.wrap .i64 (n8 + 1))).toNat) [.int .i64 n10]) < m1 n8 h3) (Q (.tuple ⟨[]⟩) h3))))) (par ((IntKind.wrap .i64 (n2 - n1)) = 1) (∃ (I2 : Int → Int → Hp → Prop) (m2 : Int → Int → Hp → Nat), I2 n n1 h ∧ (∀ n11 n12 : Int, ∀ h4 : Hp, I2 n11 n12 h4 → par (n11 < n12) ((0 : Int) ≤ 1 ∧ ∃ b9 o9, (l.a : Option Addr) = some ⟨b9, o9, none⟩ ∧ ((0 : Int) ≤ n1 ∧ n1 < (l.n : Int)) ∧ ∃ n13 : Int, h4.at b9 (o9 + n1.toNat) = some (.int .i64 n13) ∧ ∃ b10 o10, (l.a : Option Addr) = some ⟨b10, o10, none⟩ ∧ ((0 : Int) ≤ (IntKind.wrap .i64 (shrI .u64 (IntKind.wrap .u64 (IntKind.wrap .i64 (n11 + n12))) 1)) ∧ (IntKind.wrap .i64 (shrI .u64 (IntKind.wrap .u64 (IntKind.wrap .i64 (n11 + n12))) 1)) < (l.n : Int)) ∧ ∃ n14 : Int, h4.at b10 (o10 + ((IntKind.wrap .i64 (shrI .u64 (IntKind.wrap .u64 (IntKind.wrap .i64 (n11 + n12))) 1))).toNat) = some (.int .i64 n14) ∧ F62.T n13 n14 b o b1 o1 b2 o2 h4 fun r1 h5 => ∃ n15 : Int, r1 = .int .i64 n15 ∧ par (n15 < 0) (I2 n11 (IntKind.wrap .i64 (shrI .u64 (IntKind.wrap .u64 (IntKind.wrap .i64 (n11 + n12))) 1)) h5 ∧ m2 n11 (IntKind.wrap .i64 (shrI .u64 (IntKind.wrap .u64 (IntKind.wrap .i64 (n11 + n12))) 1)) h5 < m2 n11 n12 h4) (I2 (IntKind.wrap .i64 ((IntKind.wrap .i64 (shrI .u64 (IntKind.wrap .u64 (IntKind.wrap .i64 (n11 + n12))) 1)) + 1)) n12 h5 ∧ m2 (IntKind.wrap .i64 ((IntKind.wrap .i64 (shrI .u64 (IntKind.wrap .u64 (IntKind.wrap .i64 (n11 + n12))) 1)) + 1)) n12 h5 < m2 n11 n12 h4)) (∃ (I3 : Int → Hp → Prop) (m3 : Int → Hp → Nat), I3 n1 h4 ∧ (∀ n16 : Int, ∀ h6 : Hp, I3 n16 h6 → par (n11 < n16) (∃ b11 o11, (l.a : Option Addr) = some ⟨b11, o11, none⟩ ∧ ((0 : Int) ≤ (IntKind.wrap .i64 (n16 - 1)) ∧ (IntKind.wrap .i64 (n16 - 1)) < (l.n : Int)) ∧ ∃ n17 : Int, h6.at b11 (o11 + ((IntKind.wrap .i64 (n16 - 1))).toNat) = some (.int .i64 n17) ∧ ∃ b12 o12, (l.a : Option Addr) = some ⟨b12, o12, none⟩ ∧ ((0 : Int) ≤ n16 ∧ n16 < (l.n : Int)) ∧ ∃ n18 : Int, h6.at b12 (o12 + n16.toNat) = some (.int .i64 n18) ∧ ∃ b13 o13, (l.a : Option Addr) = some ⟨b13, o13, none⟩ ∧ ((0 : Int) ≤ n16 ∧ n16 < (l.n : Int)) ∧ h6.canW b13 (o13 + n16.toNat) 1 ∧ ∃ b14 o14, (l.a : Option Addr) = some ⟨b14, o14, none⟩ ∧ ((0 : Int) ≤ (IntKind.wrap .i64 (n16 - 1)) ∧ (IntKind.wrap .i64 (n16 - 1)) < (l.n : Int)) ∧ (h6.wr b13 (o13 + n16.toNat) [.int .i64 n17]).canW b14 (o14 + ((IntKind.wrap .i64 (n16 - 1))).toNat) 1 ∧ I3 (IntKind.wrap .i64 (n16 - 1)) ((h6.wr b13 (o13 + n16.toNat) [.int .i64 n17]).wr b14 (o14 + ((IntKind.wrap .i64 (n16 - 1))).toNat) [.int .i64 n18]) ∧ m3 (IntKind.wrap .i64 (n16 - 1)) ((h6.wr b13 (o13 + n16.toNat) [.int .i64 n17]).wr b14 (o14 + ((IntKind.wrap .i64 (n16 - 1))).toNat) [.int .i64 n18]) < m3 n16 h6) (Q (.tuple ⟨[]⟩) h6))))) ((0 : Int) ≤ 1 ∧ ∃ J : Int → Int → Hp → Prop, (∀ n19 n20 : Int, ∀ h7 : Hp, J n19 n20 h7 → ∃ (I4 : Int → Int → Hp → Prop) (m4 : Int → Int → Hp → Nat), I4 n19 n20 h7 ∧ (∀ n21 n22 : Int, ∀ h8 : Hp, I4 n21 n22 h8 → par (n21 < n22) ((0 : Int) ≤ 1 ∧ ∃ b15 o15, (l.a : Option Addr) = some ⟨b15, o15, none⟩ ∧ ((0 : Int) ≤ (IntKind.wrap .i64 ((IntKind.wrap .i64 ((IntKind.wrap .i64 ((IntKind.wrap .i64 (shrI .u64 (IntKind.wrap .u64 (IntKind.wrap .i64 (n + n2))) 1)) + n1)) - 1)) - (IntKind.wrap .i64 (shrI .u64 (IntKind.wrap .u64 (IntKind.wrap .i64 (n21 + n22))) 1)))) ∧ (IntKind.wrap .i64 ((IntKind.wrap .i64 ((IntKind.wrap .i64 ((IntKind.wrap .i64 (shrI .u64 (IntKind.wrap .u64 (IntKind.wrap .i64 (n + n2))) 1)) + n1)) - 1)) - (IntKind.wrap .i64 (shrI .u64 (IntKind.wrap .u64 (IntKind.wrap .i64 (n21 + n22))) 1)))) < (l.n : Int)) ∧ ∃ n23 : Int, h8.at b15 (o15 + ((IntKind.wrap .i64 ((IntKind.wrap .i64 ((IntKind.wrap .i64 ((IntKind.wrap .i64 (shrI .u64 (IntKind.wrap .u64 (IntKind.wrap .i64 (n + n2))) 1)) + n1)) - 1)) - (IntKind.wrap .i64 (shrI .u64 (IntKind.wrap .u64 (IntKind.wrap .i64 (n21 + n22))) 1))))).toNat) = some (.int .i64 n23) ∧ ∃ b16 o16, (l.a : Option Addr) = some ⟨b16, o16, none⟩ ∧ ((0 : Int) ≤ (IntKind.wrap .i64 (shrI .u64 (IntKind.wrap .u64 (IntKind.wrap .i64 (n21 + n22))) 1)) ∧ (IntKind.wrap .i64 (shrI .u64 (IntKind.wrap .u64 (IntKind.wrap .i64 (n21 + n22))) 1)) < (l.n : Int)) ∧ ∃ n24 : Int, h8.at b16 (o16 + ((IntKind.wrap .i64 (shrI .u64 (IntKind.wrap .u64 (IntKind.wrap .i64 (n21 + n22))) 1))).toNat) = some (.int .i64 n24) ∧ F62.T n23 n24 b o b1 o1 b2 o2 h8 fun r2 h9 => ∃ n25 : Int, r2 = .int .i64 n25 ∧ par (n25 < 0) (I4 n21 (IntKind.wrap .i64 (shrI .u64 (IntKind.wrap .u64 (IntKind.wrap .i64 (n21 + n22))) 1)) h9 ∧ m4 n21 (IntKind.wrap .i64 (shrI .u64 (IntKind.wrap .u64 (IntKind.wrap .i64 (n21 + n22))) 1)) h9 < m4 n21 n22 h8) (I4 (IntKind.wrap .i64 ((IntKind.wrap .i64 (shrI .u64 (IntKind.wrap .u64 (IntKind.wrap .i64 (n21 + n22))) 1)) + 1)) n22 h9 ∧ m4 (IntKind.wrap .i64 ((IntKind.wrap .i64 (shrI .u64 (IntKind.wrap .u64 (IntKind.wrap .i64 (n21 + n22))) 1)) + 1)) n22 h9 < m4 n21 n22 h8)) (∃ J1 : Hp → Prop, (∀ h10 : Hp, J1 h10 → ∃ J2 : Hp → Prop, (∀ h11 : Hp, J2 h11 → par ((IntKind.wrap .i64 (shrI .u64 (IntKind.wrap .u64 (IntKind.wrap .i64 (n + n2))) 1)) < (IntKind.wrap .i64 ((IntKind.wrap .i64 ((IntKind.wrap .i64 (shrI .u64 (IntKind.wrap .u64 (IntKind.wrap .i64 (n + n2))) 1)) + n1)) - n21))) (par ((IntKind.wrap .i64 ((IntKind.wrap .i64 ((IntKind.wrap .i64 (shrI .u64 (IntKind.wrap .u64 (IntKind.wrap .i64 (n + n2))) 1)) + n1)) - n21)) < n2) (T89 l (IntKind.wrap .i64 (shrI .u64 (IntKind.wrap .u64 (IntKind.wrap .i64 (n + n2))) 1)) (IntKind.wrap .i64 ((IntKind.wrap .i64 ((IntKind.wrap .i64 (shrI .u64 (IntKind.wrap .u64 (IntKind.wrap .i64 (n + n2))) 1)) + n1)) - n21)) n2 b o b1 o1 b2 o2 h11 fun r3 h12 => Q (.tuple ⟨[]⟩) h12) (Q (.tuple ⟨[]⟩) h11)) (Q (.tuple ⟨[]⟩) h11)) ∧ (par (n < n21) (par (n21 < (IntKind.wrap .i64 (shrI .u64 (IntKind.wrap .u64 (IntKind.wrap .i64 (n + n2))) 1))) (T89 l n n21 (IntKind.wrap .i64 (shrI .u64 (IntKind.wrap .u64 (IntKind.wrap .i64 (n + n2))) 1)) b o b1 o1 b2 o2 h10 fun r4 h13 => J2 h13) (J2 h10)) (J2 h10))) ∧ (par (n21 < n1) (par (n1 < (IntKind.wrap .i64 ((IntKind.wrap .i64 ((IntKind.wrap .i64 (shrI .u64 (IntKind.wrap .u64 (IntKind.wrap .i64 (n + n2))) 1)) + n1)) - n21))) (F104.T l n21 n1 (IntKind.wrap .i64 ((IntKind.wrap .i64 ((IntKind.wrap .i64 (shrI .u64 (IntKind.wrap .u64 (IntKind.wrap .i64 (n + n2))) 1)) + n1)) - n21)) b o b1 o1 b2 o2 h8 fun r5 h14 => J1 h14) (J1 h8)) (J1 h8))))) ∧ (par ((IntKind.wrap .i64 (shrI .u64 (IntKind.wrap .u64 (IntKind.wrap .i64 (n + n2))) 1)) < n1) (J (IntKind.wrap .i64 ((IntKind.wrap .i64 ((IntKind.wrap .i64 (shrI .u64 (IntKind.wrap .u64 (IntKind.wrap .i64 (n + n2))) 1)) + n1)) - n2)) (IntKind.wrap .i64 (shrI .u64 (IntKind.wrap .u64 (IntKind.wrap .i64 (n + n2))) 1)) h) (J n n1 h))))
def F89.TN : Nat → Sl → Int → Int → Int → Nat → Nat → Nat → Nat → Nat → Nat → PT
  | 0 => fun _ _ _ _ _ _ _ _ _ _ _ _ => False
  | n + 1 => F89.G (F89.TN n)
def F89.T (l : Sl) (n n1 n2 : Int) (b o b1 o1 b2 o2 : Nat) : PT := fun h Q => ∃ nf, F89.TN nf l n n1 n2 b o b1 o1 b2 o2 h Q
def F89.W (T89 : Sl → Int → Int → Int → Nat → Nat → Nat → Nat → Nat → Nat → PT) (args : List Value) : PT := match args with
  | [.slice l_a l_n l_c, .int .i64 n, .int .i64 n1, .int .i64 n2, .func (.func 62) ⟨[]⟩ ⟨[.pointer (some ⟨b, o, none⟩), .pointer (some ⟨b1, o1, none⟩), .pointer (some ⟨b2, o2, none⟩)]⟩] => T89 ⟨l_a, l_n, l_c⟩ n n1 n2 b o b1 o1 b2 o2
  | _ => fun _ _ => False
def F89.V : List Value → PT := F89.W F89.T
theorem F89.gen (V : Value → List Value → PT) (T62 : Int → Int → Nat → Nat → Nat → Nat → Nat → Nat → PT) (T89 : Sl → Int → Int → Int → Nat → Nat → Nat → Nat → Nat → Nat → PT) (T104 : Sl → Int → Int → Int → Nat → Nat → Nat → Nat → Nat → Nat → PT) (l : Sl) (n n1 n2 : Int) (b : Nat) (o : Nat) (b1 : Nat) (o1 : Nat) (b2 : Nat) (o2 : Nat) : denF Tryz.prog [] [(62, F62.W T62), (89, F89.W T89), (104, F104.W T104)] V [(63, .join [(20, .int .i64), (21, .int .i64)] []), (172, .loop [(10, .int .i64), (11, .int .i64)] []), (428, .loop [(14, .int .i64), (15, .int .i64)] []), (698, .loop [(13, .int .i64)] []), (1020, .loop [(20, .int .i64), (21, .int .i64)] []), (1023, .join [] []), (1722, .loop [(17, .int .i64)] []), (2047, .join [] []), (5514, .order [0, 1, 2, 3, 4, 5, 6, 7, 8, 9, 10]), (11172, .order [0, 1, 2, 3, 4, 5, 6, 7, 8, 9, 10, 11, 12, 13, 14, 15, 16, 17]), (13706, .order [0, 1, 2, 3, 4, 5, 6, 7, 8, 9, 10, 11]), (27556, .order [0, 1, 2, 3, 4, 5, 6, 7, 8, 9, 10, 11, 12, 13, 14, 15, 16, 17]), (32650, .order [0, 1, 2, 3, 4, 5, 6, 7, 8, 9, 10, 11, 12, 13])] Tryz.f89 [.v (.slice l.a l.n l.c), .v (.int .i64 n), .v (.int .i64 n1), .v (.int .i64 n2), .v (.func (.func 62) ⟨[]⟩ ⟨[.pointer (some ⟨b, o, none⟩), .pointer (some ⟨b1, o1, none⟩), .pointer (some ⟨b2, o2, none⟩)]⟩)] = fun h Q =>
  par ((IntKind.wrap .i64 (n1 - n)) = 1) (∃ (I : Int → Int → Hp → Prop) (m : Int → Int → Hp → Nat), I n1 n2 h ∧ (∀ n3 n4 : Int, ∀ h1 : Hp, I n3 n4 h1 → par (n3 < n4) ((0 : Int) ≤ 1 ∧ ∃ b3 o3, (l.a : Option Addr) = some ⟨b3, o3, none⟩ ∧ ((0 : Int) ≤ (IntKind.wrap .i64 (shrI .u64 (IntKind.wrap .u64 (IntKind.wrap .i64 (n3 + n4))) 1)) ∧ (IntKind.wrap .i64 (shrI .u64 (IntKind.wrap .u64 (IntKind.wrap .i64 (n3 + n4))) 1)) < (l.n : Int)) ∧ ∃ n5 : Int, h1.at b3 (o3 + ((IntKind.wrap .i64 (shrI .u64 (IntKind.wrap .u64 (IntKind.wrap .i64 (n3 + n4))) 1))).toNat) = some (.int .i64 n5) ∧ ∃ b4 o4, (l.a : Option Addr) = some ⟨b4, o4, none⟩ ∧ ((0 : Int) ≤ n ∧ n < (l.n : Int)) ∧ ∃ n6 : Int, h1.at b4 (o4 + n.toNat) = some (.int .i64 n6) ∧ T62 n5 n6 b o b1 o1 b2 o2 h1 fun r h2 => ∃ n7 : Int, r = .int .i64 n7 ∧ par (n7 < 0) (I (IntKind.wrap .i64 ((IntKind.wrap .i64 (shrI .u64 (IntKind.wrap .u64 (IntKind.wrap .i64 (n3 + n4))) 1)) + 1)) n4 h2 ∧ m (IntKind.wrap .i64 ((IntKind.wrap .i64 (shrI .u64 (IntKind.wrap .u64 (IntKind.wrap .i64 (n3 + n4))) 1)) + 1)) n4 h2 < m n3 n4 h1) (I n3 (IntKind.wrap .i64 (shrI .u64 (IntKind.wrap .u64 (IntKind.wrap .i64 (n3 + n4))) 1)) h2 ∧ m n3 (IntKind.wrap .i64 (shrI .u64 (IntKind.wrap .u64 (IntKind.wrap .i64 (n3 + n4))) 1)) h2 < m n3 n4 h1)) (∃ (I1 : Int → Hp → Prop) (m1 : Int → Hp → Nat), I1 n h1 ∧ (∀ n8 : Int, ∀ h3 : Hp, I1 n8 h3 → par (n8 < (IntKind.wrap .i64 (n3 - 1))) (∃ b5 o5, (l.a : Option Addr) = some ⟨b5, o5, none⟩ ∧ ((0 : Int) ≤ (IntKind.wrap .i64 (n8 + 1)) ∧ (IntKind.wrap .i64 (n8 + 1)) < (l.n : Int)) ∧ ∃ n9 : Int, h3.at b5 (o5 + ((IntKind.wrap .i64 (n8 + 1))).toNat) = some (.int .i64 n9) ∧ ∃ b6 o6, (l.a : Option Addr) = some ⟨b6, o6, none⟩ ∧ ((0 : Int) ≤ n8 ∧ n8 < (l.n : Int)) ∧ ∃ n10 : Int, h3.at b6 (o6 + n8.toNat) = some (.int .i64 n10) ∧ ∃ b7 o7, (l.a : Option Addr) = some ⟨b7, o7, none⟩ ∧ ((0 : Int) ≤ n8 ∧ n8 < (l.n : Int)) ∧ h3.canW b7 (o7 + n8.toNat) 1 ∧ ∃ b8 o8, (l.a : Option Addr) = some ⟨b8, o8, none⟩ ∧ ((0 : Int) ≤ (IntKind.wrap .i64 (n8 + 1)) ∧ (IntKind.wrap .i64 (n8 + 1)) < (l.n : Int)) ∧ (h3.wr b7 (o7 + n8.toNat) [.int .i64 n9]).canW b8 (o8 + ((IntKind.wrap .i64 (n8 + 1))).toNat) 1 ∧ I1 (IntKind.wrap .i64 (n8 + 1)) ((h3.wr b7 (o7 + n8.toNat) [.int .i64 n9]).wr b8 (o8 + ((IntKind.wrap .i64 (n8 + 1))).toNat) [.int .i64 n10]) ∧ m1 (IntKind.wrap .i64 (n8 + 1)) ((h3.wr b7 (o7 + n8.toNat) [.int .i64 n9]).wr b8 (o8 + ((IntKind.wrap .i64 (n8 + 1))).toNat) [.int .i64 n10]) < m1 n8 h3) (Q (.tuple ⟨[]⟩) h3))))) (par ((IntKind.wrap .i64 (n2 - n1)) = 1) (∃ (I2 : Int → Int → Hp → Prop) (m2 : Int → Int → Hp → Nat), I2 n n1 h ∧ (∀ n11 n12 : Int, ∀ h4 : Hp, I2 n11 n12 h4 → par (n11 < n12) ((0 : Int) ≤ 1 ∧ ∃ b9 o9, (l.a : Option Addr) = some ⟨b9, o9, none⟩ ∧ ((0 : Int) ≤ n1 ∧ n1 < (l.n : Int)) ∧ ∃ n13 : Int, h4.at b9 (o9 + n1.toNat) = some (.int .i64 n13) ∧ ∃ b10 o10, (l.a : Option Addr) = some ⟨b10, o10, none⟩ ∧ ((0 : Int) ≤ (IntKind.wrap .i64 (shrI .u64 (IntKind.wrap .u64 (IntKind.wrap .i64 (n11 + n12))) 1)) ∧ (IntKind.wrap .i64 (shrI .u64 (IntKind.wrap .u64 (IntKind.wrap .i64 (n11 + n12))) 1)) < (l.n : Int)) ∧ ∃ n14 : Int, h4.at b10 (o10 + ((IntKind.wrap .i64 (shrI .u64 (IntKind.wrap .u64 (IntKind.wrap .i64 (n11 + n12))) 1))).toNat) = some (.int .i64 n14) ∧ T62 n13 n14 b o b1 o1 b2 o2 h4 fun r1 h5 => ∃ n15 : Int, r1 = .int .i64 n15 ∧ par (n15 < 0) (I2 n11 (IntKind.wrap .i64 (shrI .u64 (IntKind.wrap .u64 (IntKind.wrap .i64 (n11 + n12))) 1)) h5 ∧ m2 n11 (IntKind.wrap .i64 (shrI .u64 (IntKind.wrap .u64 (IntKind.wrap .i64 (n11 + n12))) 1)) h5 < m2 n11 n12 h4) (I2 (IntKind.wrap .i64 ((IntKind.wrap .i64 (shrI .u64 (IntKind.wrap .u64 (IntKind.wrap .i64 (n11 + n12))) 1)) + 1)) n12 h5 ∧ m2 (IntKind.wrap .i64 ((IntKind.wrap .i64 (shrI .u64 (IntKind.wrap .u64 (IntKind.wrap .i64 (n11 + n12))) 1)) + 1)) n12 h5 < m2 n11 n12 h4)) (∃ (I3 : Int → Hp → Prop) (m3 : Int → Hp → Nat), I3 n1 h4 ∧ (∀ n16 : Int, ∀ h6 : Hp, I3 n16 h6 → par (n11 < n16) (∃ b11 o11, (l.a : Option Addr) = some ⟨b11, o11, none⟩ ∧ ((0 : Int) ≤ (IntKind.wrap .i64 (n16 - 1)) ∧ (IntKind.wrap .i64 (n16 - 1)) < (l.n : Int)) ∧ ∃ n17 : Int, h6.at b11 (o11 + ((IntKind.wrap .i64 (n16 - 1))).toNat) = some (.int .i64 n17) ∧ ∃ b12 o12, (l.a : Option Addr) = some ⟨b12, o12, none⟩ ∧ ((0 : Int) ≤ n16 ∧ n16 < (l.n : Int)) ∧ ∃ n18 : Int, h6.at b12 (o12 + n16.toNat) = some (.int .i64 n18) ∧ ∃ b13 o13, (l.a : Option Addr) = some ⟨b13, o13, none⟩ ∧ ((0 : Int) ≤ n16 ∧ n16 < (l.n : Int)) ∧ h6.canW b13 (o13 + n16.toNat) 1 ∧ ∃ b14 o14, (l.a : Option Addr) = some ⟨b14, o14, none⟩ ∧ ((0 : Int) ≤ (IntKind.wrap .i64 (n16 - 1)) ∧ (IntKind.wrap .i64 (n16 - 1)) < (l.n : Int)) ∧ (h6.wr b13 (o13 + n16.toNat) [.int .i64 n17]).canW b14 (o14 + ((IntKind.wrap .i64 (n16 - 1))).toNat) 1 ∧ I3 (IntKind.wrap .i64 (n16 - 1)) ((h6.wr b13 (o13 + n16.toNat) [.int .i64 n17]).wr b14 (o14 + ((IntKind.wrap .i64 (n16 - 1))).toNat) [.int .i64 n18]) ∧ m3 (IntKind.wrap .i64 (n16 - 1)) ((h6.wr b13 (o13 + n16.toNat) [.int .i64 n17]).wr b14 (o14 + ((IntKind.wrap .i64 (n16 - 1))).toNat) [.int .i64 n18]) < m3 n16 h6) (Q (.tuple ⟨[]⟩) h6))))) ((0 : Int) ≤ 1 ∧ ∃ J : Int → Int → Hp → Prop, (∀ n19 n20 : Int, ∀ h7 : Hp, J n19 n20 h7 → ∃ (I4 : Int → Int → Hp → Prop) (m4 : Int → Int → Hp → Nat), I4 n19 n20 h7 ∧ (∀ n21 n22 : Int, ∀ h8 : Hp, I4 n21 n22 h8 → par (n21 < n22) ((0 : Int) ≤ 1 ∧ ∃ b15 o15, (l.a : Option Addr) = some ⟨b15, o15, none⟩ ∧ ((0 : Int) ≤ (IntKind.wrap .i64 ((IntKind.wrap .i64 ((IntKind.wrap .i64 ((IntKind.wrap .i64 (shrI .u64 (IntKind.wrap .u64 (IntKind.wrap .i64 (n + n2))) 1)) + n1)) - 1)) - (IntKind.wrap .i64 (shrI .u64 (IntKind.wrap .u64 (IntKind.wrap .i64 (n21 + n22))) 1)))) ∧ (IntKind.wrap .i64 ((IntKind.wrap .i64 ((IntKind.wrap .i64 ((IntKind.wrap .i64 (shrI .u64 (IntKind.wrap .u64 (IntKind.wrap .i64 (n + n2))) 1)) + n1)) - 1)) - (IntKind.wrap .i64 (shrI .u64 (IntKind.wrap .u64 (IntKind.wrap .i64 (n21 + n22))) 1)))) < (l.n : Int)) ∧ ∃ n23 : Int, h8.at b15 (o15 + ((IntKind.wrap .i64 ((IntKind.wrap .i64 ((IntKind.wrap .i64 ((IntKind.wrap .i64 (shrI .u64 (IntKind.wrap .u64 (IntKind.wrap .i64 (n + n2))) 1)) + n1)) - 1)) - (IntKind.wrap .i64 (shrI .u64 (IntKind.wrap .u64 (IntKind.wrap .i64 (n21 + n22))) 1))))).toNat) = some (.int .i64 n23) ∧ ∃ b16 o16, (l.a : Option Addr) = some ⟨b16, o16, none⟩ ∧ ((0 : Int) ≤ (IntKind.wrap .i64 (shrI .u64 (IntKind.wrap .u64 (IntKind.wrap .i64 (n21 + n22))) 1)) ∧ (IntKind.wrap .i64 (shrI .u64 (IntKind.wrap .u64 (IntKind.wrap .i64 (n21 + n22))) 1)) < (l.n : Int)) ∧ ∃ n24 : Int, h8.at b16 (o16 + ((IntKind.wrap .i64 (shrI .u64 (IntKind.wrap .u64 (IntKind.wrap .i64 (n21 + n22))) 1))).toNat) = some (.int .i64 n24) ∧ T62 n23 n24 b o b1 o1 b2 o2 h8 fun r2 h9 => ∃ n25 : Int, r2 = .int .i64 n25 ∧ par (n25 < 0) (I4 n21 (IntKind.wrap .i64 (shrI .u64 (IntKind.wrap .u64 (IntKind.wrap .i64 (n21 + n22))) 1)) h9 ∧ m4 n21 (IntKind.wrap .i64 (shrI .u64 (IntKind.wrap .u64 (IntKind.wrap .i64 (n21 + n22))) 1)) h9 < m4 n21 n22 h8) (I4 (IntKind.wrap .i64 ((IntKind.wrap .i64 (shrI .u64 (IntKind.wrap .u64 (IntKind.wrap .i64 (n21 + n22))) 1)) + 1)) n22 h9 ∧ m4 (IntKind.wrap .i64 ((IntKind.wrap .i64 (shrI .u64 (IntKind.wrap .u64 (IntKind.wrap .i64 (n21 + n22))) 1)) + 1)) n22 h9 < m4 n21 n22 h8)) (∃ J1 : Hp → Prop, (∀ h10 : Hp, J1 h10 → ∃ J2 : Hp → Prop, (∀ h11 : Hp, J2 h11 → par ((IntKind.wrap .i64 (shrI .u64 (IntKind.wrap .u64 (IntKind.wrap .i64 (n + n2))) 1)) < (IntKind.wrap .i64 ((IntKind.wrap .i64 ((IntKind.wrap .i64 (shrI .u64 (IntKind.wrap .u64 (IntKind.wrap .i64 (n + n2))) 1)) + n1)) - n21))) (par ((IntKind.wrap .i64 ((IntKind.wrap .i64 ((IntKind.wrap .i64 (shrI .u64 (IntKind.wrap .u64 (IntKind.wrap .i64 (n + n2))) 1)) + n1)) - n21)) < n2) (T89 l (IntKind.wrap .i64 (shrI .u64 (IntKind.wrap .u64 (IntKind.wrap .i64 (n + n2))) 1)) (IntKind.wrap .i64 ((IntKind.wrap .i64 ((IntKind.wrap .i64 (shrI .u64 (IntKind.wrap .u64 (IntKind.wrap .i64 (n + n2))) 1)) + n1)) - n21)) n2 b o b1 o1 b2 o2 h11 fun r3 h12 => Q (.tuple ⟨[]⟩) h12) (Q (.tuple ⟨[]⟩) h11)) (Q (.tuple ⟨[]⟩) h11)) ∧ (par (n < n21) (par (n21 < (IntKind.wrap .i64 (shrI .u64 (IntKind.wrap .u64 (IntKind.wrap .i64 (n + n2))) 1))) (T89 l n n21 (IntKind.wrap .i64 (shrI .u64 (IntKind.wrap .u64 (IntKind.wrap .i64 (n + n2))) 1)) b o b1 o1 b2 o2 h10 fun r4 h13 => J2 h13) (J2 h10)) (J2 h10))) ∧ (par (n21 < n1) (par (n1 < (IntKind.wrap .i64 ((IntKind.wrap .i64 ((IntKind.wrap .i64 (shrI .u64 (IntKind.wrap .u64 (IntKind.wrap .i64 (n + n2))) 1)) + n1)) - n21))) (T104 l n21 n1 (IntKind.wrap .i64 ((IntKind.wrap .i64 ((IntKind.wrap .i64 (shrI .u64 (IntKind.wrap .u64 (IntKind.wrap .i64 (n + n2))) 1)) + n1)) - n21)) b o b1 o1 b2 o2 h8 fun r5 h14 => J1 h14) (J1 h8)) (J1 h8))))) ∧ (par ((IntKind.wrap .i64 (shrI .u64 (IntKind.wrap .u64 (IntKind.wrap .i64 (n + n2))) 1)) < n1) (J (IntKind.wrap .i64 ((IntKind.wrap .i64 ((IntKind.wrap .i64 (shrI .u64 (IntKind.wrap .u64 (IntKind.wrap .i64 (n + n2))) 1)) + n1)) - n2)) (IntKind.wrap .i64 (shrI .u64 (IntKind.wrap .u64 (IntKind.wrap .i64 (n + n2))) 1)) h) (J n n1 h)))) := by kernel_rfl
theorem F89.den (V : Value → List Value → PT) (nf : Nat) (l : Sl) (n n1 n2 : Int) (b : Nat) (o : Nat) (b1 : Nat) (o1 : Nat) (b2 : Nat) (o2 : Nat) : denF Tryz.prog [] [(62, F62.V), (89, F89.W (F89.TN nf)), (104, F104.V)] V [(63, .join [(20, .int .i64), (21, .int .i64)] []), (172, .loop [(10, .int .i64), (11, .int .i64)] []), (428, .loop [(14, .int .i64), (15, .int .i64)] []), (698, .loop [(13, .int .i64)] []), (1020, .loop [(20, .int .i64), (21, .int .i64)] []), (1023, .join [] []), (1722, .loop [(17, .int .i64)] []), (2047, .join [] []), (5514, .order [0, 1, 2, 3, 4, 5, 6, 7, 8, 9, 10]), (11172, .order [0, 1, 2, 3, 4, 5, 6, 7, 8, 9, 10, 11, 12, 13, 14, 15, 16, 17]), (13706, .order [0, 1, 2, 3, 4, 5, 6, 7, 8, 9, 10, 11]), (27556, .order [0, 1, 2, 3, 4, 5, 6, 7, 8, 9, 10, 11, 12, 13, 14, 15, 16, 17]), (32650, .order [0, 1, 2, 3, 4, 5, 6, 7, 8, 9, 10, 11, 12, 13])] Tryz.f89 [.v (.slice l.a l.n l.c), .v (.int .i64 n), .v (.int .i64 n1), .v (.int .i64 n2), .v (.func (.func 62) ⟨[]⟩ ⟨[.pointer (some ⟨b, o, none⟩), .pointer (some ⟨b1, o1, none⟩), .pointer (some ⟨b2, o2, none⟩)]⟩)] = F89.TN (nf + 1) l n n1 n2 b o b1 o1 b2 o2 := F89.gen V F62.T (F89.TN nf) F104.T l n n1 n2 b o b1 o1 b2 o2
theorem F89.okN : ∀ n, FOk Tryz.prog 89 (F89.W (F89.TN n))
  | 0 => by
    refine ⟨⟨_, Tryz.func89, rfl, rfl⟩, fun args => ?_⟩
    unfold F89.W
    split
    · exact fun h Q hq => hq.elim
    · exact fun h Q hq => hq.elim
  | nf + 1 => by
    refine ⟨⟨_, Tryz.func89, rfl, rfl⟩, fun args => ?_⟩
    have hG : GOk Tryz.prog [(62, F62.V), (89, F89.W (F89.TN nf)), (104, F104.V)] := GOk.cons F62.ok (GOk.cons (F89.okN nf) (GOk.cons F104.ok (GOk.nil)))
    have hV : VOk Tryz.prog noV := noV_ok
    unfold F89.W
    split
    · exact denF_okV hG hV Tryz.func89 (fun h Q hq => (F89.den _ nf _ _ _ _ _ _ _ _ _ _) ▸ hq)
    · exact fun h Q hq => hq.elim
theorem F89.ok : FOk Tryz.prog 89 F89.V := by
  refine ⟨(F89.okN 0).1, fun args h Q hq => ?_⟩
  unfold F89.V F89.W at hq
  split at hq
  · obtain ⟨nf, hn⟩ := hq
    exact (F89.okN nf).2 _ h Q hn
  · exact hq.elim
@[reducible] def F80.G (T88 : Sl → Int → Int → Nat → Nat → Nat → Nat → Nat → Nat → PT) (T89 : Sl → Int → Int → Int → Nat → Nat → Nat → Nat → Nat → Nat → PT) (l : Sl) (n : Int) (b o b1 o1 b2 o2 : Nat) : PT := fun h Q =>
  ∃ (I : Int → Int → Hp → Prop) (m : Int → Int → Hp → Nat), I 0 20 h ∧ (∀ n1 n2 : Int, ∀ h1 : Hp, I n1 n2 h1 → par (n2 ≤ n) (T88 l n1 n2 b o b1 o1 b2 o2 h1 fun r h2 => I n2 (IntKind.wrap .i64 (n2 + 20)) h2 ∧ m n2 (IntKind.wrap .i64 (n2 + 20)) h2 < m n1 n2 h1) (T88 l n1 n b o b1 o1 b2 o2 h1 fun r1 h3 => ∃ (I1 : Int → Hp → Prop) (m1 : Int → Hp → Nat), I1 20 h3 ∧ (∀ n3 : Int, ∀ h4 : Hp, I1 n3 h4 → par (n3 < n) (∃ (I2 : Int → Int → Hp → Prop) (m2 : Int → Int → Hp → Nat), I2 0 (IntKind.wrap .i64 (2 * n3)) h4 ∧ (∀ n4 n5 : Int, ∀ h5 : Hp, I2 n4 n5 h5 → par (n5 ≤ n) (T89 l n4 (IntKind.wrap .i64 (n4 + n3)) n5 b o b1 o1 b2 o2 h5 fun r2 h6 => I2 n5 (IntKind.wrap .i64 (n5 + (IntKind.wrap .i64 (2 * n3)))) h6 ∧ m2 n5 (IntKind.wrap .i64 (n5 + (IntKind.wrap .i64 (2 * n3)))) h6 < m2 n4 n5 h5) (par ((IntKind.wrap .i64 (n4 + n3)) < n) (T89 l n4 (IntKind.wrap .i64 (n4 + n3)) n b o b1 o1 b2 o2 h5 fun r3 h7 => I1 (IntKind.wrap .i64 (n3 * 2)) h7 ∧ m1 (IntKind.wrap .i64 (n3 * 2)) h7 < m1 n3 h4) (I1 (IntKind.wrap .i64 (n3 * 2)) h5 ∧ m1 (IntKind.wrap .i64 (n3 * 2)) h5 < m1 n3 h4)))) (Q (.tuple ⟨[]⟩) h4))))
def F80.T := F80.G F88.T F89.T
theorem F80.gen (V T88 T89 l n b o b1 o1 b2 o2) : denF Tryz.prog [] [(88, F88.W T88), (89, F89.W T89)] V [(28, .loop [(7, .int .i64), (8, .int .i64)] []), (62, .loop [(6, .int .i64)] []), (3988, .loop [(7, .int .i64), (8, .int .i64)] [])] Tryz.f80 [.v (.slice l.a l.n l.c), .v (.int .i64 n), .v (.func (.func 62) ⟨[]⟩ ⟨[.pointer (some ⟨b, o, none⟩), .pointer (some ⟨b1, o1, none⟩), .pointer (some ⟨b2, o2, none⟩)]⟩)] = F80.G T88 T89 l n b o b1 o1 b2 o2 := by kernel_rfl
def F80.W (T80 : Sl → Int → Nat → Nat → Nat → Nat → Nat → Nat → PT) (args : List Value) : PT := match args with
  | [.slice l_a l_n l_c, .int .i64 n, .func (.func 62) ⟨[]⟩ ⟨[.pointer (some ⟨b, o, none⟩), .pointer (some ⟨b1, o1, none⟩), .pointer (some ⟨b2, o2, none⟩)]⟩] => T80 ⟨l_a, l_n, l_c⟩ n b o b1 o1 b2 o2
  | _ => fun _ _ => False
def F80.V : List Value → PT := F80.W F80.T
theorem F80.ok : FOk Tryz.prog 80 F80.V := by
  refine ⟨⟨_, Tryz.func80, rfl, rfl⟩, fun args => ?_⟩
  unfold F80.V F80.W
  split
  · exact denF_okE (GOk.cons F88.ok (GOk.cons F89.ok (GOk.nil))) noV_ok Tryz.func80 (F80.gen noV F88.T F89.T ⟨_, _, _⟩ _ _ _ _ _ _ _)
  · exact fun _ _ h => h.elim
@[reducible] def F61.G (T80 : Sl → Int → Nat → Nat → Nat → Nat → Nat → Nat → PT) (l : Sl) (b o b1 o1 b2 o2 : Nat) : PT := fun h Q =>
  T80 l (l.n : Int) b o b1 o1 b2 o2 h fun r h1 => Q (.tuple ⟨[]⟩) h1
def F61.T := F61.G F80.T
theorem F61.gen (V T80 l b o b1 o1 b2 o2) : denF Tryz.prog [] [(80, F80.W T80)] V [] Tryz.f61 [.v (.slice l.a l.n l.c), .v (.func (.func 62) ⟨[]⟩ ⟨[.pointer (some ⟨b, o, none⟩), .pointer (some ⟨b1, o1, none⟩), .pointer (some ⟨b2, o2, none⟩)]⟩)] = F61.G T80 l b o b1 o1 b2 o2 := by kernel_rfl
def F61.W (T61 : Sl → Nat → Nat → Nat → Nat → Nat → Nat → PT) (args : List Value) : PT := match args with
  | [.slice l_a l_n l_c, .func (.func 62) ⟨[]⟩ ⟨[.pointer (some ⟨b, o, none⟩), .pointer (some ⟨b1, o1, none⟩), .pointer (some ⟨b2, o2, none⟩)]⟩] => T61 ⟨l_a, l_n, l_c⟩ b o b1 o1 b2 o2
  | _ => fun _ _ => False
def F61.V : List Value → PT := F61.W F61.T
theorem F61.ok : FOk Tryz.prog 61 F61.V := by
  refine ⟨⟨_, Tryz.func61, rfl, rfl⟩, fun args => ?_⟩
  unfold F61.V F61.W
  split
  · exact denF_okE (GOk.cons F80.ok (GOk.nil)) noV_ok Tryz.func61 (F61.gen noV F80.T ⟨_, _, _⟩ _ _ _ _ _ _)
  · exact fun _ _ h => h.elim
@[reducible] def F26.G (T24 T60 : I9 <| I9 <| I9 <| Option Addr → PT) (T61 : Sl → Nat → Nat → Nat → Nat → Nat → Nat → PT) (n n1 n2 n3 n4 n5 n6 n7 n8 n9 n10 n11 n12 n13 n14 n15 n16 n17 n18 n19 n20 n21 n22 n23 n24 n25 n26 : Int) (p : Option Addr) : PT := fun h Q =>
  ∀ b, h b = none → ∀ b1, (h.new b (.cells ⟨[.int .i64 n, .int .i64 n1, .int .i64 n2, .int .i64 n3, .int .i64 n4, .int .i64 n5, .int .i64 n6, .int .i64 n7, .int .i64 n8, .int .i64 n9, .int .i64 n10, .int .i64 n11, .int .i64 n12, .int .i64 n13, .int .i64 n14, .int .i64 n15, .int .i64 n16, .int .i64 n17, .int .i64 n18, .int .i64 n19, .int .i64 n20, .int .i64 n21, .int .i64 n22, .int .i64 n23, .int .i64 n24, .int .i64 n25, .int .i64 n26]⟩ 23 (0, 0))) b1 = none → ∃ n27 : Int, ((h.new b (.cells ⟨[.int .i64 n, .int .i64 n1, .int .i64 n2, .int .i64 n3, .int .i64 n4, .int .i64 n5, .int .i64 n6, .int .i64 n7, .int .i64 n8, .int .i64 n9, .int .i64 n10, .int .i64 n11, .int .i64 n12, .int .i64 n13, .int .i64 n14, .int .i64 n15, .int .i64 n16, .int .i64 n17, .int .i64 n18, .int .i64 n19, .int .i64 n20, .int .i64 n21, .int .i64 n22, .int .i64 n23, .int .i64 n24, .int .i64 n25, .int .i64 n26]⟩ 23 (0, 0))).new b1 (.cells ⟨[.pointer p]⟩ 29 (0, 0))).at b 0 = some (.int .i64 n27) ∧ ∃ n28 : Int, ((h.new b (.cells ⟨[.int .i64 n, .int .i64 n1, .int .i64 n2, .int .i64 n3, .int .i64 n4, .int .i64 n5, .int .i64 n6, .int .i64 n7, .int .i64 n8, .int .i64 n9, .int .i64 n10, .int .i64 n11, .int .i64 n12, .int .i64 n13, .int .i64 n14, .int .i64 n15, .int .i64 n16, .int .i64 n17, .int .i64 n18, .int .i64 n19, .int .i64 n20, .int .i64 n21, .int .i64 n22, .int .i64 n23, .int .i64 n24, .int .i64 n25, .int .i64 n26]⟩ 23 (0, 0))).new b1 (.cells ⟨[.pointer p]⟩ 29 (0, 0))).at b 1 = some (.int .i64 n28) ∧ ∃ n29 : Int, ((h.new b (.cells ⟨[.int .i64 n, .int .i64 n1, .int .i64 n2, .int .i64 n3, .int .i64 n4, .int .i64 n5, .int .i64 n6, .int .i64 n7, .int .i64 n8, .int .i64 n9, .int .i64 n10, .int .i64 n11, .int .i64 n12, .int .i64 n13, .int .i64 n14, .int .i64 n15, .int .i64 n16, .int .i64 n17, .int .i64 n18, .int .i64 n19, .int .i64 n20, .int .i64 n21, .int .i64 n22, .int .i64 n23, .int .i64 n24, .int .i64 n25, .int .i64 n26]⟩ 23 (0, 0))).new b1 (.cells ⟨[.pointer p]⟩ 29 (0, 0))).at b 2 = some (.int .i64 n29) ∧ ∃ n30 : Int, ((h.new b (.cells ⟨[.int .i64 n, .int .i64 n1, .int .i64 n2, .int .i64 n3, .int .i64 n4, .int .i64 n5, .int .i64 n6, .int .i64 n7, .int .i64 n8, .int .i64 n9, .int .i64 n10, .int .i64 n11, .int .i64 n12, .int .i64 n13, .int .i64 n14, .int .i64 n15, .int .i64 n16, .int .i64 n17, .int .i64 n18, .int .i64 n19, .int .i64 n20, .int .i64 n21, .int .i64 n22, .int .i64 n23, .int .i64 n24, .int .i64 n25, .int .i64 n26]⟩ 23 (0, 0))).new b1 (.cells ⟨[.pointer p]⟩ 29 (0, 0))).at b 3 = some (.int .i64 n30) ∧ ∃ n31 : Int, ((h.new b (.cells ⟨[.int .i64 n, .int .i64 n1, .int .i64 n2, .int .i64 n3, .int .i64 n4, .int .i64 n5, .int .i64 n6, .int .i64 n7, .int .i64 n8, .int .i64 n9, .int .i64 n10, .int .i64 n11, .int .i64 n12, .int .i64 n13, .int .i64 n14, .int .i64 n15, .int .i64 n16, .int .i64 n17, .int .i64 n18, .int .i64 n19, .int .i64 n20, .int .i64 n21, .int .i64 n22, .int .i64 n23, .int .i64 n24, .int .i64 n25, .int .i64 n26]⟩ 23 (0, 0))).new b1 (.cells ⟨[.pointer p]⟩ 29 (0, 0))).at b 4 = some (.int .i64 n31) ∧ ∃ n32 : Int, ((h.new b (.cells ⟨[.int .i64 n, .int .i64 n1, .int .i64 n2, .int .i64 n3, .int .i64 n4, .int .i64 n5, .int .i64 n6, .int .i64 n7, .int .i64 n8, .int .i64 n9, .int .i64 n10, .int .i64 n11, .int .i64 n12, .int .i64 n13, .int .i64 n14, .int .i64 n15, .int .i64 n16, .int .i64 n17, .int .i64 n18, .int .i64 n19, .int .i64 n20, .int .i64 n21, .int .i64 n22, .int .i64 n23, .int .i64 n24, .int .i64 n25, .int .i64 n26]⟩ 23 (0, 0))).new b1 (.cells ⟨[.pointer p]⟩ 29 (0, 0))).at b 5 = some (.int .i64 n32) ∧ ∃ n33 : Int, ((h.new b (.cells ⟨[.int .i64 n, .int .i64 n1, .int .i64 n2, .int .i64 n3, .int .i64 n4, .int .i64 n5, .int .i64 n6, .int .i64 n7, .int .i64 n8, .int .i64 n9, .int .i64 n10, .int .i64 n11, .int .i64 n12, .int .i64 n13, .int .i64 n14, .int .i64 n15, .int .i64 n16, .int .i64 n17, .int .i64 n18, .int .i64 n19, .int .i64 n20, .int .i64 n21, .int .i64 n22, .int .i64 n23, .int .i64 n24, .int .i64 n25, .int .i64 n26]⟩ 23 (0, 0))).new b1 (.cells ⟨[.pointer p]⟩ 29 (0, 0))).at b 6 = some (.int .i64 n33) ∧ ∃ n34 : Int, ((h.new b (.cells ⟨[.int .i64 n, .int .i64 n1, .int .i64 n2, .int .i64 n3, .int .i64 n4, .int .i64 n5, .int .i64 n6, .int .i64 n7, .int .i64 n8, .int .i64 n9, .int .i64 n10, .int .i64 n11, .int .i64 n12, .int .i64 n13, .int .i64 n14, .int .i64 n15, .int .i64 n16, .int .i64 n17, .int .i64 n18, .int .i64 n19, .int .i64 n20, .int .i64 n21, .int .i64 n22, .int .i64 n23, .int .i64 n24, .int .i64 n25, .int .i64 n26]⟩ 23 (0, 0))).new b1 (.cells ⟨[.pointer p]⟩ 29 (0, 0))).at b 7 = some (.int .i64 n34) ∧ ∃ n35 : Int, ((h.new b (.cells ⟨[.int .i64 n, .int .i64 n1, .int .i64 n2, .int .i64 n3, .int .i64 n4, .int .i64 n5, .int .i64 n6, .int .i64 n7, .int .i64 n8, .int .i64 n9, .int .i64 n10, .int .i64 n11, .int .i64 n12, .int .i64 n13, .int .i64 n14, .int .i64 n15, .int .i64 n16, .int .i64 n17, .int .i64 n18, .int .i64 n19, .int .i64 n20, .int .i64 n21, .int .i64 n22, .int .i64 n23, .int .i64 n24, .int .i64 n25, .int .i64 n26]⟩ 23 (0, 0))).new b1 (.cells ⟨[.pointer p]⟩ 29 (0, 0))).at b 8 = some (.int .i64 n35) ∧ ∃ n36 : Int, ((h.new b (.cells ⟨[.int .i64 n, .int .i64 n1, .int .i64 n2, .int .i64 n3, .int .i64 n4, .int .i64 n5, .int .i64 n6, .int .i64 n7, .int .i64 n8, .int .i64 n9, .int .i64 n10, .int .i64 n11, .int .i64 n12, .int .i64 n13, .int .i64 n14, .int .i64 n15, .int .i64 n16, .int .i64 n17, .int .i64 n18, .int .i64 n19, .int .i64 n20, .int .i64 n21, .int .i64 n22, .int .i64 n23, .int .i64 n24, .int .i64 n25, .int .i64 n26]⟩ 23 (0, 0))).new b1 (.cells ⟨[.pointer p]⟩ 29 (0, 0))).at b 9 = some (.int .i64 n36) ∧ ∃ n37 : Int, ((h.new b (.cells ⟨[.int .i64 n, .int .i64 n1, .int .i64 n2, .int .i64 n3, .int .i64 n4, .int .i64 n5, .int .i64 n6, .int .i64 n7, .int .i64 n8, .int .i64 n9, .int .i64 n10, .int .i64 n11, .int .i64 n12, .int .i64 n13, .int .i64 n14, .int .i64 n15, .int .i64 n16, .int .i64 n17, .int .i64 n18, .int .i64 n19, .int .i64 n20, .int .i64 n21, .int .i64 n22, .int .i64 n23, .int .i64 n24, .int .i64 n25, .int .i64 n26]⟩ 23 (0, 0))).new b1 (.cells ⟨[.pointer p]⟩ 29 (0, 0))).at b 10 = some (.int .i64 n37) ∧ ∃ n38 : Int, ((h.new b (.cells ⟨[.int .i64 n, .int .i64 n1, .int .i64 n2, .int .i64 n3, .int .i64 n4, .int .i64 n5, .int .i64 n6, .int .i64 n7, .int .i64 n8, .int .i64 n9, .int .i64 n10, .int .i64 n11, .int .i64 n12, .int .i64 n13, .int .i64 n14, .int .i64 n15, .int .i64 n16, .int .i64 n17, .int .i64 n18, .int .i64 n19, .int .i64 n20, .int .i64 n21, .int .i64 n22, .int .i64 n23, .int .i64 n24, .int .i64 n25, .int .i64 n26]⟩ 23 (0, 0))).new b1 (.cells ⟨[.pointer p]⟩ 29 (0, 0))).at b 11 = some (.int .i64 n38) ∧ ∃ n39 : Int, ((h.new b (.cells ⟨[.int .i64 n, .int .i64 n1, .int .i64 n2, .int .i64 n3, .int .i64 n4, .int .i64 n5, .int .i64 n6, .int .i64 n7, .int .i64 n8, .int .i64 n9, .int .i64 n10, .int .i64 n11, .int .i64 n12, .int .i64 n13, .int .i64 n14, .int .i64 n15, .int .i64 n16, .int .i64 n17, .int .i64 n18, .int .i64 n19, .int .i64 n20, .int .i64 n21, .int .i64 n22, .int .i64 n23, .int .i64 n24, .int .i64 n25, .int .i64 n26]⟩ 23 (0, 0))).new b1 (.cells ⟨[.pointer p]⟩ 29 (0, 0))).at b 12 = some (.int .i64 n39) ∧ ∃ n40 : Int, ((h.new b (.cells ⟨[.int .i64 n, .int .i64 n1, .int .i64 n2, .int .i64 n3, .int .i64 n4, .int .i64 n5, .int .i64 n6, .int .i64 n7, .int .i64 n8, .int .i64 n9, .int .i64 n10, .int .i64 n11, .int .i64 n12, .int .i64 n13, .int .i64 n14, .int .i64 n15, .int .i64 n16, .int .i64 n17, .int .i64 n18, .int .i64 n19, .int .i64 n20, .int .i64 n21, .int .i64 n22, .int .i64 n23, .int .i64 n24, .int .i64 n25, .int .i64 n26]⟩ 23 (0, 0))).new b1 (.cells ⟨[.pointer p]⟩ 29 (0, 0))).at b 13 = some (.int .i64 n40) ∧ ∃ n41 : Int, ((h.new b (.cells ⟨[.int .i64 n, .int .i64 n1, .int .i64 n2, .int .i64 n3, .int .i64 n4, .int .i64 n5, .int .i64 n6, .int .i64 n7, .int .i64 n8, .int .i64 n9, .int .i64 n10, .int .i64 n11, .int .i64 n12, .int .i64 n13, .int .i64 n14, .int .i64 n15, .int .i64 n16, .int .i64 n17, .int .i64 n18, .int .i64 n19, .int .i64 n20, .int .i64 n21, .int .i64 n22, .int .i64 n23, .int .i64 n24, .int .i64 n25, .int .i64 n26]⟩ 23 (0, 0))).new b1 (.cells ⟨[.pointer p]⟩ 29 (0, 0))).at b 14 = some (.int .i64 n41) ∧ ∃ n42 : Int, ((h.new b (.cells ⟨[.int .i64 n, .int .i64 n1, .int .i64 n2, .int .i64 n3, .int .i64 n4, .int .i64 n5, .int .i64 n6, .int .i64 n7, .int .i64 n8, .int .i64 n9, .int .i64 n10, .int .i64 n11, .int .i64 n12, .int .i64 n13, .int .i64 n14, .int .i64 n15, .int .i64 n16, .int .i64 n17, .int .i64 n18, .int .i64 n19, .int .i64 n20, .int .i64 n21, .int .i64 n22, .int .i64 n23, .int .i64 n24, .int .i64 n25, .int .i64 n26]⟩ 23 (0, 0))).new b1 (.cells ⟨[.pointer p]⟩ 29 (0, 0))).at b 15 = some (.int .i64 n42) ∧ ∃ n43 : Int, ((h.new b (.cells ⟨[.int .i64 n, .int .i64 n1, .int .i64 n2, .int .i64 n3, .int .i64 n4, .int .i64 n5, .int .i64 n6, .int .i64 n7, .int .i64 n8, .int .i64 n9, .int .i64 n10, .int .i64 n11, .int .i64 n12, .int .i64 n13, .int .i64 n14, .int .i64 n15, .int .i64 n16, .int .i64 n17, .int .i64 n18, .int .i64 n19, .int .i64 n20, .int .i64 n21, .int .i64 n22, .int .i64 n23, .int .i64 n24, .int .i64 n25, .int .i64 n26]⟩ 23 (0, 0))).new b1 (.cells ⟨[.pointer p]⟩ 29 (0, 0))).at b 16 = some (.int .i64 n43) ∧ ∃ n44 : Int, ((h.new b (.cells ⟨[.int .i64 n, .int .i64 n1, .int .i64 n2, .int .i64 n3, .int .i64 n4, .int .i64 n5, .int .i64 n6, .int .i64 n7, .int .i64 n8, .int .i64 n9, .int .i64 n10, .int .i64 n11, .int .i64 n12, .int .i64 n13, .int .i64 n14, .int .i64 n15, .int .i64 n16, .int .i64 n17, .int .i64 n18, .int .i64 n19, .int .i64 n20, .int .i64 n21, .int .i64 n22, .int .i64 n23, .int .i64 n24, .int .i64 n25, .int .i64 n26]⟩ 23 (0, 0))).new b1 (.cells ⟨[.pointer p]⟩ 29 (0, 0))).at b 17 = some (.int .i64 n44) ∧ ∃ n45 : Int, ((h.new b (.cells ⟨[.int .i64 n, .int .i64 n1, .int .i64 n2, .int .i64 n3, .int .i64 n4, .int .i64 n5, .int .i64 n6, .int .i64 n7, .int .i64 n8, .int .i64 n9, .int .i64 n10, .int .i64 n11, .int .i64 n12, .int .i64 n13, .int .i64 n14, .int .i64 n15, .int .i64 n16, .int .i64 n17, .int .i64 n18, .int .i64 n19, .int .i64 n20, .int .i64 n21, .int .i64 n22, .int .i64 n23, .int .i64 n24, .int .i64 n25, .int .i64 n26]⟩ 23 (0, 0))).new b1 (.cells ⟨[.pointer p]⟩ 29 (0, 0))).at b 18 = some (.int .i64 n45) ∧ ∃ n46 : Int, ((h.new b (.cells ⟨[.int .i64 n, .int .i64 n1, .int .i64 n2, .int .i64 n3, .int .i64 n4, .int .i64 n5, .int .i64 n6, .int .i64 n7, .int .i64 n8, .int .i64 n9, .int .i64 n10, .int .i64 n11, .int .i64 n12, .int .i64 n13, .int .i64 n14, .int .i64 n15, .int .i64 n16, .int .i64 n17, .int .i64 n18, .int .i64 n19, .int .i64 n20, .int .i64 n21, .int .i64 n22, .int .i64 n23, .int .i64 n24, .int .i64 n25, .int .i64 n26]⟩ 23 (0, 0))).new b1 (.cells ⟨[.pointer p]⟩ 29 (0, 0))).at b 19 = some (.int .i64 n46) ∧ ∃ n47 : Int, ((h.new b (.cells ⟨[.int .i64 n, .int .i64 n1, .int .i64 n2, .int .i64 n3, .int .i64 n4, .int .i64 n5, .int .i64 n6, .int .i64 n7, .int .i64 n8, .int .i64 n9, .int .i64 n10, .int .i64 n11, .int .i64 n12, .int .i64 n13, .int .i64 n14, .int .i64 n15, .int .i64 n16, .int .i64 n17, .int .i64 n18, .int .i64 n19, .int .i64 n20, .int .i64 n21, .int .i64 n22, .int .i64 n23, .int .i64 n24, .int .i64 n25, .int .i64 n26]⟩ 23 (0, 0))).new b1 (.cells ⟨[.pointer p]⟩ 29 (0, 0))).at b 20 = some (.int .i64 n47) ∧ ∃ n48 : Int, ((h.new b (.cells ⟨[.int .i64 n, .int .i64 n1, .int .i64 n2, .int .i64 n3, .int .i64 n4, .int .i64 n5, .int .i64 n6, .int .i64 n7, .int .i64 n8, .int .i64 n9, .int .i64 n10, .int .i64 n11, .int .i64 n12, .int .i64 n13, .int .i64 n14, .int .i64 n15, .int .i64 n16, .int .i64 n17, .int .i64 n18, .int .i64 n19, .int .i64 n20, .int .i64 n21, .int .i64 n22, .int .i64 n23, .int .i64 n24, .int .i64 n25, .int .i64 n26]⟩ 23 (0, 0))).new b1 (.cells ⟨[.pointer p]⟩ 29 (0, 0))).at b 21 = some (.int .i64 n48) ∧ ∃ n49 : Int, ((h.new b (.cells ⟨[.int .i64 n, .int .i64 n1, .int .i64 n2, .int .i64 n3, .int .i64 n4, .int .i64 n5, .int .i64 n6, .int .i64 n7, .int .i64 n8, .int .i64 n9, .int .i64 n10, .int .i64 n11, .int .i64 n12, .int .i64 n13, .int .i64 n14, .int .i64 n15, .int .i64 n16, .int .i64 n17, .int .i64 n18, .int .i64 n19, .int .i64 n20, .int .i64 n21, .int .i64 n22, .int .i64 n23, .int .i64 n24, .int .i64 n25, .int .i64 n26]⟩ 23 (0, 0))).new b1 (.cells ⟨[.pointer p]⟩ 29 (0, 0))).at b 22 = some (.int .i64 n49) ∧ ∃ n50 : Int, ((h.new b (.cells ⟨[.int .i64 n, .int .i64 n1, .int .i64 n2, .int .i64 n3, .int .i64 n4, .int .i64 n5, .int .i64 n6, .int .i64 n7, .int .i64 n8, .int .i64 n9, .int .i64 n10, .int .i64 n11, .int .i64 n12, .int .i64 n13, .int .i64 n14, .int .i64 n15, .int .i64 n16, .int .i64 n17, .int .i64 n18, .int .i64 n19, .int .i64 n20, .int .i64 n21, .int .i64 n22, .int .i64 n23, .int .i64 n24, .int .i64 n25, .int .i64 n26]⟩ 23 (0, 0))).new b1 (.cells ⟨[.pointer p]⟩ 29 (0, 0))).at b 23 = some (.int .i64 n50) ∧ ∃ n51 : Int, ((h.new b (.cells ⟨[.int .i64 n, .int .i64 n1, .int .i64 n2, .int .i64 n3, .int .i64 n4, .int .i64 n5, .int .i64 n6, .int .i64 n7, .int .i64 n8, .int .i64 n9, .int .i64 n10, .int .i64 n11, .int .i64 n12, .int .i64 n13, .int .i64 n14, .int .i64 n15, .int .i64 n16, .int .i64 n17, .int .i64 n18, .int .i64 n19, .int .i64 n20, .int .i64 n21, .int .i64 n22, .int .i64 n23, .int .i64 n24, .int .i64 n25, .int .i64 n26]⟩ 23 (0, 0))).new b1 (.cells ⟨[.pointer p]⟩ 29 (0, 0))).at b 24 = some (.int .i64 n51) ∧ ∃ n52 : Int, ((h.new b (.cells ⟨[.int .i64 n, .int .i64 n1, .int .i64 n2, .int .i64 n3, .int .i64 n4, .int .i64 n5, .int .i64 n6, .int .i64 n7, .int .i64 n8, .int .i64 n9, .int .i64 n10, .int .i64 n11, .int .i64 n12, .int .i64 n13, .int .i64 n14, .int .i64 n15, .int .i64 n16, .int .i64 n17, .int .i64 n18, .int .i64 n19, .int .i64 n20, .int .i64 n21, .int .i64 n22, .int .i64 n23, .int .i64 n24, .int .i64 n25, .int .i64 n26]⟩ 23 (0, 0))).new b1 (.cells ⟨[.pointer p]⟩ 29 (0, 0))).at b 25 = some (.int .i64 n52) ∧ ∃ n53 : Int, ((h.new b (.cells ⟨[.int .i64 n, .int .i64 n1, .int .i64 n2, .int .i64 n3, .int .i64 n4, .int .i64 n5, .int .i64 n6, .int .i64 n7, .int .i64 n8, .int .i64 n9, .int .i64 n10, .int .i64 n11, .int .i64 n12, .int .i64 n13, .int .i64 n14, .int .i64 n15, .int .i64 n16, .int .i64 n17, .int .i64 n18, .int .i64 n19, .int .i64 n20, .int .i64 n21, .int .i64 n22, .int .i64 n23, .int .i64 n24, .int .i64 n25, .int .i64 n26]⟩ 23 (0, 0))).new b1 (.cells ⟨[.pointer p]⟩ 29 (0, 0))).at b 26 = some (.int .i64 n53) ∧ ∃ p1 : Option Addr, ((h.new b (.cells ⟨[.int .i64 n, .int .i64 n1, .int .i64 n2, .int .i64 n3, .int .i64 n4, .int .i64 n5, .int .i64 n6, .int .i64 n7, .int .i64 n8, .int .i64 n9, .int .i64 n10, .int .i64 n11, .int .i64 n12, .int .i64 n13, .int .i64 n14, .int .i64 n15, .int .i64 n16, .int .i64 n17, .int .i64 n18, .int .i64 n19, .int .i64 n20, .int .i64 n21, .int .i64 n22, .int .i64 n23, .int .i64 n24, .int .i64 n25, .int .i64 n26]⟩ 23 (0, 0))).new b1 (.cells ⟨[.pointer p]⟩ 29 (0, 0))).at b1 0 = some (.pointer p1) ∧ T24 n27 n28 n29 n30 n31 n32 n33 n34 n35 n36 n37 n38 n39 n40 n41 n42 n43 n44 n45 n46 n47 n48 n49 n50 n51 n52 n53 p1 ((h.new b (.cells ⟨[.int .i64 n, .int .i64 n1, .int .i64 n2, .int .i64 n3, .int .i64 n4, .int .i64 n5, .int .i64 n6, .int .i64 n7, .int .i64 n8, .int .i64 n9, .int .i64 n10, .int .i64 n11, .int .i64 n12, .int .i64 n13, .int .i64 n14, .int .i64 n15, .int .i64 n16, .int .i64 n17, .int .i64 n18, .int .i64 n19, .int .i64 n20, .int .i64 n21, .int .i64 n22, .int .i64 n23, .int .i64 n24, .int .i64 n25, .int .i64 n26]⟩ 23 (0, 0))).new b1 (.cells ⟨[.pointer p]⟩ 29 (0, 0))) fun r h1 => ∃ l : Sl, r = .slice l.a l.n l.c ∧ ∀ b2, h1 b2 = none → (h1.new b2 (.cells ⟨[.slice none 0 0]⟩ 35 (0, 0))).canW b2 0 1 ∧ ∃ l1 : Sl, ((h1.new b2 (.cells ⟨[.slice none 0 0]⟩ 35 (0, 0))).wr b2 0 [.slice l.a l.n l.c]).at b2 0 = some (.slice l1.a l1.n l1.c) ∧ ∃ (I : Sl → Int → Hp → Prop) (m : Sl → Int → Hp → Nat), I ⟨none, 0, 0⟩ 0 ((h1.new b2 (.cells ⟨[.slice none 0 0]⟩ 35 (0, 0))).wr b2 0 [.slice l.a l.n l.c]) ∧ (∀ l2 : Sl, ∀ n54 : Int, ∀ h2 : Hp, I l2 n54 h2 → par (n54 < (l1.n : Int)) (∃ b3 o, (l1.a : Option Addr) = some ⟨b3, o, none⟩ ∧ ((0 : Int) ≤ n54 ∧ n54 < (l1.n : Int)) ∧ ∃ n55 : Int, h2.at b3 (o + n54.toNat) = some (.int .i64 n55) ∧ par ((1000 : Int) ≤ n55) (appendD l2 3 1 8 [.int .i64 0] 1 [.int .i64 n54] h2 fun l3 h3 => I l3 (IntKind.wrap .i64 (n54 + 1)) h3 ∧ m l3 (IntKind.wrap .i64 (n54 + 1)) h3 < m l2 n54 h2) (par (n54 = 0) (∃ n56 : Int, h2.at b 0 = some (.int .i64 n56) ∧ ∃ n57 : Int, h2.at b 1 = some (.int .i64 n57) ∧ ∃ n58 : Int, h2.at b 2 = some (.int .i64 n58) ∧ ∃ n59 : Int, h2.at b 3 = some (.int .i64 n59) ∧ ∃ n60 : Int, h2.at b 4 = some (.int .i64 n60) ∧ ∃ n61 : Int, h2.at b 5 = some (.int .i64 n61) ∧ ∃ n62 : Int, h2.at b 6 = some (.int .i64 n62) ∧ ∃ n63 : Int, h2.at b 7 = some (.int .i64 n63) ∧ ∃ n64 : Int, h2.at b 8 = some (.int .i64 n64) ∧ ∃ n65 : Int, h2.at b 9 = some (.int .i64 n65) ∧ ∃ n66 : Int, h2.at b 10 = some (.int .i64 n66) ∧ ∃ n67 : Int, h2.at b 11 = some (.int .i64 n67) ∧ ∃ n68 : Int, h2.at b 12 = some (.int .i64 n68) ∧ ∃ n69 : Int, h2.at b 13 = some (.int .i64 n69) ∧ ∃ n70 : Int, h2.at b 14 = some (.int .i64 n70) ∧ ∃ n71 : Int, h2.at b 15 = some (.int .i64 n71) ∧ ∃ n72 : Int, h2.at b 16 = some (.int .i64 n72) ∧ ∃ n73 : Int, h2.at b 17 = some (.int .i64 n73) ∧ ∃ n74 : Int, h2.at b 18 = some (.int .i64 n74) ∧ ∃ n75 : Int, h2.at b 19 = some (.int .i64 n75) ∧ ∃ n76 : Int, h2.at b 20 = some (.int .i64 n76) ∧ ∃ n77 : Int, h2.at b 21 = some (.int .i64 n77) ∧ ∃ n78 : Int, h2.at b 22 = some (.int .i64 n78) ∧ ∃ n79 : Int, h2.at b 23 = some (.int .i64 n79) ∧ ∃ n80 : Int, h2.at b 24 = some (.int .i64 n80) ∧ ∃ n81 : Int, h2.at b 25 = some (.int .i64 n81) ∧ ∃ n82 : Int, h2.at b 26 = some (.int .i64 n82) ∧ ∃ p2 : Option Addr, h2.at b1 0 = some (.pointer p2) ∧ T60 n56 n57 n58 n59 n60 n61 n62 n63 n64 n65 n66 n67 n68 n69 n70 n71 n72 n73 n74 n75 n76 n77 n78 n79 n80 n81 n82 p2 h2 fun r1 h4 => ∃ b4 : Bool, r1 = .bool b4 ∧ parB b4 (appendD l2 3 1 8 [.int .i64 0] 1 [.int .i64 n54] h4 fun l4 h5 => I l4 (IntKind.wrap .i64 (n54 + 1)) h5 ∧ m l4 (IntKind.wrap .i64 (n54 + 1)) h5 < m l2 n54 h2) (I l2 (IntKind.wrap .i64 (n54 + 1)) h4 ∧ m l2 (IntKind.wrap .i64 (n54 + 1)) h4 < m l2 n54 h2)) (I l2 (IntKind.wrap .i64 (n54 + 1)) h2 ∧ m l2 (IntKind.wrap .i64 (n54 + 1)) h2 < m l2 n54 h2))) (T61 l2 b 0 b1 0 b2 0 h2 fun r2 h6 => Q (.slice l2.a l2.n l2.c) h6))
def F26.T := F26.G F24.T F60.T F61.T
theorem F26.gen (V T24 T60 T61 n n1 n2 n3 n4 n5 n6 n7 n8 n9 n10 n11 n12 n13 n14 n15 n16 n17 n18 n19 n20 n21 n22 n23 n24 n25 n26 p) : denF Tryz.prog [32] [(24, F24.W T24), (60, F60.W T60), (61, F61.W T61)] V [(122, .loop [(6, .sl), (14, .int .i64)] [])] Tryz.f26 [.v (.agg ⟨[.int .i64 n, .int .i64 n1, .int .i64 n2, .int .i64 n3, .int .i64 n4, .int .i64 n5, .int .i64 n6, .int .i64 n7, .int .i64 n8, .int .i64 n9, .int .i64 n10, .int .i64 n11, .int .i64 n12, .int .i64 n13, .int .i64 n14, .int .i64 n15, .int .i64 n16, .int .i64 n17, .int .i64 n18, .int .i64 n19, .int .i64 n20, .int .i64 n21, .int .i64 n22, .int .i64 n23, .int .i64 n24, .int .i64 n25, .int .i64 n26]⟩), .v (.pointer p)] = F26.G T24 T60 T61 n n1 n2 n3 n4 n5 n6 n7 n8 n9 n10 n11 n12 n13 n14 n15 n16 n17 n18 n19 n20 n21 n22 n23 n24 n25 n26 p := by kernel_rfl
def F26.W (T26 : I9 <| I9 <| I9 <| Option Addr → PT) (args : List Value) : PT := match args with
  | [.agg ⟨[.int .i64 n, .int .i64 n1, .int .i64 n2, .int .i64 n3, .int .i64 n4, .int .i64 n5, .int .i64 n6, .int .i64 n7, .int .i64 n8, .int .i64 n9, .int .i64 n10, .int .i64 n11, .int .i64 n12, .int .i64 n13, .int .i64 n14, .int .i64 n15, .int .i64 n16, .int .i64 n17, .int .i64 n18, .int .i64 n19, .int .i64 n20, .int .i64 n21, .int .i64 n22, .int .i64 n23, .int .i64 n24, .int .i64 n25, .int .i64 n26]⟩, .pointer p] => T26 n n1 n2 n3 n4 n5 n6 n7 n8 n9 n10 n11 n12 n13 n14 n15 n16 n17 n18 n19 n20 n21 n22 n23 n24 n25 n26 p
  | _ => fun _ _ => False
def F26.V : List Value → PT := F26.W F26.T
theorem F26.ok : FOk Tryz.prog 26 F26.V := by
  refine ⟨⟨_, Tryz.func26, rfl, rfl⟩, fun args => ?_⟩
  unfold F26.V F26.W
  split
  · exact denF_okE (GOk.cons F24.ok (GOk.cons F60.ok (GOk.cons F61.ok (GOk.nil)))) noV_ok Tryz.func26 (F26.gen noV F24.T F60.T F61.T _ _ _ _ _ _ _ _ _ _ _ _ _ _ _ _ _ _ _ _ _ _ _ _ _ _ _ _)
  · exact fun _ _ h => h.elim
end Go.Eng.YtbjnlacacapjiaaGreat
end
section
set_option maxRecDepth 100000
open Go.Proofs
namespace Go.Eng.YtbjnlacacapjiaaGreat
def F64.T (l : Sl) : PT := fun h Q =>
  ∃ b o, (l.a : Option Addr) = some ⟨b, o, none⟩ ∧ ((0 : Int) ≤ 0 ∧ 0 < (l.n : Int)) ∧ ∃ s : ByteArray, h.at b ((o + (0 : Int).toNat * 6) + 4) = some (.string s) ∧ ∃ b1 o1, (l.a : Option Addr) = some ⟨b1, o1, none⟩ ∧ ((0 : Int) ≤ 0 ∧ 0 < (l.n : Int)) ∧ ∃ s1 : ByteArray, h.at b1 ((o1 + (0 : Int).toNat * 6) + 5) = some (.string s1) ∧ h.at b1 ((o1 + (0 : Int).toNat * 6) + 5) = some (.string s1) ∧ ∃ (I : ByteArray → ByteArray → Int → Hp → Prop) (m : ByteArray → ByteArray → Int → Hp → Nat), I s s1 0 h ∧ (∀ s2 s3 : ByteArray, ∀ n : Int, ∀ h1 : Hp, I s2 s3 n h1 → par (n < (l.n : Int)) (∃ b2 o2, (l.a : Option Addr) = some ⟨b2, o2, none⟩ ∧ ((0 : Int) ≤ n ∧ n < (l.n : Int)) ∧ ∃ n1 : Int, h1.at b2 (o2 + n.toNat * 6) = some (.int .u64 n1) ∧ ∃ n2 : Int, h1.at b2 ((o2 + n.toNat * 6) + 1) = some (.int .i64 n2) ∧ ∃ n3 : Int, h1.at b2 ((o2 + n.toNat * 6) + 2) = some (.int .i64 n3) ∧ ∃ n4 : Int, h1.at b2 ((o2 + n.toNat * 6) + 3) = some (.int .i64 n4) ∧ ∃ s4 : ByteArray, h1.at b2 ((o2 + n.toNat * 6) + 4) = some (.string s4) ∧ ∃ s5 : ByteArray, h1.at b2 ((o2 + n.toNat * 6) + 5) = some (.string s5) ∧ I (sMin s2 s4) (sMax s3 s5) (IntKind.wrap .i64 (n + 1)) h1 ∧ m (sMin s2 s4) (sMax s3 s5) (IntKind.wrap .i64 (n + 1)) h1 < m s2 s3 n h1) (Q (.tuple ⟨[.string s2, .string s3]⟩) h1))
theorem F64.den (V l) : denF Tryz.prog [7] [] V [(6, .order [0, 1, 2, 3, 4, 5, 6, 7, 8, 9]), (58, .loop [(4, .str), (5, .str), (18, .int .i64)] []), (3737, .order [0, 1, 2, 3, 4, 5, 6, 7, 8, 9])] Tryz.f64 [.v (.slice l.a l.n l.c)] = F64.T l := by kernel_rfl
def F64.W (T64 : Sl → PT) (args : List Value) : PT := match args with
  | [.slice l_a l_n l_c] => T64 ⟨l_a, l_n, l_c⟩
  | _ => fun _ _ => False
def F64.V : List Value → PT := F64.W F64.T
theorem F64.ok : FOk Tryz.prog 64 F64.V := by
  refine ⟨⟨_, Tryz.func64, rfl, rfl⟩, fun args => ?_⟩
  unfold F64.V F64.W
  split
  · exact denF_okE (GOk.nil) noV_ok Tryz.func64 (F64.den noV ⟨_, _, _⟩)
  · exact fun _ _ h => h.elim
def F66.T (l : Sl) (s : ByteArray) : PT := fun h Q =>
  ∃ (I : Int → Int → Int → Int → Int → ByteArray → ByteArray → Hp → Prop) (m : Int → Int → Int → Int → Int → ByteArray → ByteArray → Hp → Nat), I 0 0 0 0 0 (ByteArray.mk #[]) (ByteArray.mk #[]) h ∧ (∀ n n1 : Int, ∀ n2 n3 n4 : Int, ∀ s1 s2 : ByteArray, ∀ h1 : Hp, I n n1 n2 n3 n4 s1 s2 h1 → par (n < (l.n : Int)) (∃ b o, (l.a : Option Addr) = some ⟨b, o, none⟩ ∧ ((0 : Int) ≤ n ∧ n < (l.n : Int)) ∧ ∃ n5 : Int, h1.at b (o + n.toNat * 6) = some (.int .u64 n5) ∧ ∃ n6 : Int, h1.at b ((o + n.toNat * 6) + 1) = some (.int .i64 n6) ∧ ∃ n7 : Int, h1.at b ((o + n.toNat * 6) + 2) = some (.int .i64 n7) ∧ ∃ n8 : Int, h1.at b ((o + n.toNat * 6) + 3) = some (.int .i64 n8) ∧ ∃ s3 : ByteArray, h1.at b ((o + n.toNat * 6) + 4) = some (.string s3) ∧ ∃ s4 : ByteArray, h1.at b ((o + n.toNat * 6) + 5) = some (.string s4) ∧ par (sLt s3 s ∨ s3 = s) (I (IntKind.wrap .i64 (n + 1)) n1 n2 n3 n4 s1 s2 h1 ∧ m (IntKind.wrap .i64 (n + 1)) n1 n2 n3 n4 s1 s2 h1 < m n n1 n2 n3 n4 s1 s2 h1) (par (([.int .u64 n1, .int .i64 n2, .int .i64 n3, .int .i64 n4, .string s1, .string s2] : List Value) = [.int .u64 0, .int .i64 0, .int .i64 0, .int .i64 0, .string (ByteArray.mk #[]), .string (ByteArray.mk #[])]) (I (IntKind.wrap .i64 (n + 1)) n5 n6 n7 n8 s3 s4 h1 ∧ m (IntKind.wrap .i64 (n + 1)) n5 n6 n7 n8 s3 s4 h1 < m n n1 n2 n3 n4 s1 s2 h1) (I (IntKind.wrap .i64 (n + 1)) n1 n2 n3 n4 s1 s2 h1 ∧ m (IntKind.wrap .i64 (n + 1)) n1 n2 n3 n4 s1 s2 h1 < m n n1 n2 n3 n4 s1 s2 h1))) (par (([.int .u64 n1, .int .i64 n2, .int .i64 n3, .int .i64 n4, .string s1, .string s2] : List Value) = [.int .u64 0, .int .i64 0, .int .i64 0, .int .i64 0, .string (ByteArray.mk #[]), .string (ByteArray.mk #[])]) (∃ b1 o1, (l.a : Option Addr) = some ⟨b1, o1, none⟩ ∧ ((0 : Int) ≤ 0 ∧ 0 < (l.n : Int)) ∧ ∃ n9 : Int, h1.at b1 (o1 + (0 : Int).toNat * 6) = some (.int .u64 n9) ∧ ∃ n10 : Int, h1.at b1 ((o1 + (0 : Int).toNat * 6) + 1) = some (.int .i64 n10) ∧ ∃ n11 : Int, h1.at b1 ((o1 + (0 : Int).toNat * 6) + 2) = some (.int .i64 n11) ∧ ∃ n12 : Int, h1.at b1 ((o1 + (0 : Int).toNat * 6) + 3) = some (.int .i64 n12) ∧ ∃ s5 : ByteArray, h1.at b1 ((o1 + (0 : Int).toNat * 6) + 4) = some (.string s5) ∧ ∃ s6 : ByteArray, h1.at b1 ((o1 + (0 : Int).toNat * 6) + 5) = some (.string s6) ∧ Q (.agg ⟨[.int .u64 n9, .int .i64 n10, .int .i64 n11, .int .i64 n12, .string s5, .string s6]⟩) h1) (Q (.agg ⟨[.int .u64 n1, .int .i64 n2, .int .i64 n3, .int .i64 n4, .string s1, .string s2]⟩) h1)))
theorem F66.den (V l s) : denF Tryz.prog [4, 5, 7] [] V [(58, .loop [(10, .int .i64)] [(5, [.int .u64, .int .i64, .int .i64, .int .i64, .str, .str])])] Tryz.f66 [.v (.slice l.a l.n l.c), .v (.string s)] = F66.T l s := by kernel_rfl
def F66.W (T66 : Sl → ByteArray → PT) (args : List Value) : PT := match args with
  | [.slice l_a l_n l_c, .string s] => T66 ⟨l_a, l_n, l_c⟩ s
  | _ => fun _ _ => False
def F66.V : List Value → PT := F66.W F66.T
theorem F66.ok : FOk Tryz.prog 66 F66.V := by
  refine ⟨⟨_, Tryz.func66, rfl, rfl⟩, fun args => ?_⟩
  unfold F66.V F66.W
  split
  · exact denF_okE (GOk.nil) noV_ok Tryz.func66 (F66.den noV ⟨_, _, _⟩ _)
  · exact fun _ _ h => h.elim
def F67.T (l : Sl) (n : Int) : PT := fun h Q =>
  par (n < (l.n : Int)) (∃ b o, (l.a : Option Addr) = some ⟨b, o, none⟩ ∧ ((0 : Int) ≤ n ∧ n < (l.n : Int)) ∧ ∃ s : ByteArray, h.at b (o + n.toNat) = some (.string s) ∧ Q (.string s) h) (Q (.string (ByteArray.mk #[])) h)
theorem F67.den (V l n) : denF Tryz.prog [] [] V [] Tryz.f67 [.v (.slice l.a l.n l.c), .v (.int .i64 n)] = F67.T l n := by kernel_rfl
def F67.W (T67 : Sl → Int → PT) (args : List Value) : PT := match args with
  | [.slice l_a l_n l_c, .int .i64 n] => T67 ⟨l_a, l_n, l_c⟩ n
  | _ => fun _ _ => False
def F67.V : List Value → PT := F67.W F67.T
theorem F67.ok : FOk Tryz.prog 67 F67.V := by
  refine ⟨⟨_, Tryz.func67, rfl, rfl⟩, fun args => ?_⟩
  unfold F67.V F67.W
  split
  · exact denF_okE (GOk.nil) noV_ok Tryz.func67 (F67.den noV ⟨_, _, _⟩ _)
  · exact fun _ _ h => h.elim
@[reducible] def F28.G (T20 : Option Addr → Int → PT) (T56 : I9 <| I9 <| I9 <| Option Addr → PT) (T64 : Sl → PT) (T65 : Option Addr → Int → ByteArray → ByteArray → PT) (T66 : Sl → ByteArray → PT) (T67 : Sl → Int → PT) (n n1 n2 n3 n4 n5 n6 n7 n8 n9 n10 n11 n12 n13 n14 n15 n16 n17 n18 n19 n20 n21 n22 n23 n24 n25 n26 : Int) (p : Option Addr) (l : Sl) (n27 : Int) : PT := fun h Q =>
  par (n27 < 0) (Q (.tuple ⟨[.agg ⟨[.int .i64 0, .slice none 0 0, .slice none 0 0, .string (ByteArray.mk #[]), .bool false]⟩, .bool false]⟩) h) (T56 n n1 n2 n3 n4 n5 n6 n7 n8 n9 n10 n11 n12 n13 n14 n15 n16 n17 n18 n19 n20 n21 n22 n23 n24 n25 n26 p h fun r h1 => ∃ n28 : Int, r = .int .i64 n28 ∧ par (n28 ≤ n27) (Q (.tuple ⟨[.agg ⟨[.int .i64 0, .slice none 0 0, .slice none 0 0, .string (ByteArray.mk #[]), .bool false]⟩, .bool false]⟩) h1) (T20 p n27 h1 fun r1 h2 => ∃ l1 : Sl, r1 = .slice l1.a l1.n l1.c ∧ par ((l1.n : Int) = 0) (Q (.tuple ⟨[.agg ⟨[.int .i64 0, .slice none 0 0, .slice none 0 0, .string (ByteArray.mk #[]), .bool false]⟩, .bool false]⟩) h2) (par (n27 = 0) (T64 l1 h2 fun r2 h3 => ∃ s s1 : ByteArray, r2 = .tuple ⟨[.string s, .string s1]⟩ ∧ T65 p 1 s s1 h3 fun r3 h4 => ∃ l2 : Sl, r3 = .slice l2.a l2.n l2.c ∧ Q (.tuple ⟨[.agg ⟨[.int .i64 0, .slice l1.a l1.n l1.c, .slice l2.a l2.n l2.c, .string (ByteArray.mk #[]), .bool false]⟩, .bool true]⟩) h4) (T67 l n27 h2 fun r4 h5 => ∃ s2 : ByteArray, r4 = .string s2 ∧ T66 l1 s2 h5 fun r5 h6 => ∃ n29 n30 : Int, ∃ n31 n32 : Int, ∃ s3 s4 : ByteArray, r5 = .agg ⟨[.int .u64 n29, .int .i64 n30, .int .i64 n31, .int .i64 n32, .string s3, .string s4]⟩ ∧ ∀ b, h6 b = none → T65 p (IntKind.wrap .i64 (n27 + 1)) s3 s4 (h6.new b (.cells ⟨[.int .u64 n29, .int .i64 n30, .int .i64 n31, .int .i64 n32, .string s3, .string s4]⟩ 65 (0, 0))) fun r6 h7 => ∃ l3 : Sl, r6 = .slice l3.a l3.n l3.c ∧ par ((l3.n : Int) = 0) (T56 n n1 n2 n3 n4 n5 n6 n7 n8 n9 n10 n11 n12 n13 n14 n15 n16 n17 n18 n19 n20 n21 n22 n23 n24 n25 n26 p h7 fun r7 h8 => ∃ n33 : Int, r7 = .int .i64 n33 ∧ par ((IntKind.wrap .i64 (n27 + 1)) = n33) (par ((iMax n12 0) < (l3.n : Int)) (∃ b1 o, (l3.a : Option Addr) = some ⟨b1, o, none⟩ ∧ ((0 : Int) ≤ (iMax n12 0) ∧ (iMax n12 0) < (l3.n : Int)) ∧ ∃ s5 : ByteArray, h8.at b1 ((o + ((iMax n12 0)).toNat * 6) + 4) = some (.string s5) ∧ Sl.okCut l3 0 (iMax n12 0) (iMax n12 0) ∧ Q (.tuple ⟨[.agg ⟨[.int .i64 n27, .slice (some ⟨b, 0, none⟩) 1 1, .slice (Sl.cut l3 6 0 (iMax n12 0) (iMax n12 0)).a (Sl.cut l3 6 0 (iMax n12 0) (iMax n12 0)).n (Sl.cut l3 6 0 (iMax n12 0) (iMax n12 0)).c, .string s5, .bool false]⟩, .bool true]⟩) h8) (Q (.tuple ⟨[.agg ⟨[.int .i64 n27, .slice (some ⟨b, 0, none⟩) 1 1, .slice l3.a l3.n l3.c, .string (ByteArray.mk #[]), .bool false]⟩, .bool true]⟩) h8)) (par ((iMax n12 0) < (l3.n : Int)) (∃ b2 o1, (l3.a : Option Addr) = some ⟨b2, o1, none⟩ ∧ ((0 : Int) ≤ (iMax n12 0) ∧ (iMax n12 0) < (l3.n : Int)) ∧ ∃ s6 : ByteArray, h8.at b2 ((o1 + ((iMax n12 0)).toNat * 6) + 4) = some (.string s6) ∧ Sl.okCut l3 0 (iMax n12 0) (iMax n12 0) ∧ Q (.tuple ⟨[.agg ⟨[.int .i64 n27, .slice (some ⟨b, 0, none⟩) 1 1, .slice (Sl.cut l3 6 0 (iMax n12 0) (iMax n12 0)).a (Sl.cut l3 6 0 (iMax n12 0) (iMax n12 0)).n (Sl.cut l3 6 0 (iMax n12 0) (iMax n12 0)).c, .string s6, .bool true]⟩, .bool true]⟩) h8) (Q (.tuple ⟨[.agg ⟨[.int .i64 n27, .slice (some ⟨b, 0, none⟩) 1 1, .slice l3.a l3.n l3.c, .string (ByteArray.mk #[]), .bool true]⟩, .bool true]⟩) h8))) (par ((iMax n12 0) < (l3.n : Int)) (∃ b3 o2, (l3.a : Option Addr) = some ⟨b3, o2, none⟩ ∧ ((0 : Int) ≤ (iMax n12 0) ∧ (iMax n12 0) < (l3.n : Int)) ∧ ∃ s7 : ByteArray, h7.at b3 ((o2 + ((iMax n12 0)).toNat * 6) + 4) = some (.string s7) ∧ Sl.okCut l3 0 (iMax n12 0) (iMax n12 0) ∧ Q (.tuple ⟨[.agg ⟨[.int .i64 n27, .slice (some ⟨b, 0, none⟩) 1 1, .slice (Sl.cut l3 6 0 (iMax n12 0) (iMax n12 0)).a (Sl.cut l3 6 0 (iMax n12 0) (iMax n12 0)).n (Sl.cut l3 6 0 (iMax n12 0) (iMax n12 0)).c, .string s7, .bool false]⟩, .bool true]⟩) h7) (Q (.tuple ⟨[.agg ⟨[.int .i64 n27, .slice (some ⟨b, 0, none⟩) 1 1, .slice l3.a l3.n l3.c, .string (ByteArray.mk #[]), .bool false]⟩, .bool true]⟩) h7))))))
def F28.T := F28.G F20.T F56.T F64.T F65.T F66.T F67.T
theorem F28.gen (V T20 T56 T64 T65 T66 T67 n n1 n2 n3 n4 n5 n6 n7 n8 n9 n10 n11 n12 n13 n14 n15 n16 n17 n18 n19 n20 n21 n22 n23 n24 n25 n26 p l n27) : denF Tryz.prog [4, 8, 13, 14] [(20, F20.W T20), (56, F56.W T56), (64, F64.W T64), (65, F65.W T65), (66, F66.W T66), (67, F67.W T67)] V [] Tryz.f28 [.v (.agg ⟨[.int .i64 n, .int .i64 n1, .int .i64 n2, .int .i64 n3, .int .i64 n4, .int .i64 n5, .int .i64 n6, .int .i64 n7, .int .i64 n8, .int .i64 n9, .int .i64 n10, .int .i64 n11, .int .i64 n12, .int .i64 n13, .int .i64 n14, .int .i64 n15, .int .i64 n16, .int .i64 n17, .int .i64 n18, .int .i64 n19, .int .i64 n20, .int .i64 n21, .int .i64 n22, .int .i64 n23, .int .i64 n24, .int .i64 n25, .int .i64 n26]⟩), .v (.pointer p), .v (.slice l.a l.n l.c), .v (.int .i64 n27)] = F28.G T20 T56 T64 T65 T66 T67 n n1 n2 n3 n4 n5 n6 n7 n8 n9 n10 n11 n12 n13 n14 n15 n16 n17 n18 n19 n20 n21 n22 n23 n24 n25 n26 p l n27 := by kernel_rfl
def F28.W (T28 : I9 <| I9 <| I9 <| Option Addr → Sl → Int → PT) (args : List Value) : PT := match args with
  | [.agg ⟨[.int .i64 n, .int .i64 n1, .int .i64 n2, .int .i64 n3, .int .i64 n4, .int .i64 n5, .int .i64 n6, .int .i64 n7, .int .i64 n8, .int .i64 n9, .int .i64 n10, .int .i64 n11, .int .i64 n12, .int .i64 n13, .int .i64 n14, .int .i64 n15, .int .i64 n16, .int .i64 n17, .int .i64 n18, .int .i64 n19, .int .i64 n20, .int .i64 n21, .int .i64 n22, .int .i64 n23, .int .i64 n24, .int .i64 n25, .int .i64 n26]⟩, .pointer p, .slice l_a l_n l_c, .int .i64 n27] => T28 n n1 n2 n3 n4 n5 n6 n7 n8 n9 n10 n11 n12 n13 n14 n15 n16 n17 n18 n19 n20 n21 n22 n23 n24 n25 n26 p ⟨l_a, l_n, l_c⟩ n27
  | _ => fun _ _ => False
def F28.V : List Value → PT := F28.W F28.T
theorem F28.ok : FOk Tryz.prog 28 F28.V := by
  refine ⟨⟨_, Tryz.func28, rfl, rfl⟩, fun args => ?_⟩
  unfold F28.V F28.W
  split
  · exact denF_okE (GOk.cons F20.ok (GOk.cons F56.ok (GOk.cons F64.ok (GOk.cons F65.ok (GOk.cons F66.ok (GOk.cons F67.ok (GOk.nil))))))) noV_ok Tryz.func28 (F28.gen noV F20.T F56.T F64.T F65.T F66.T F67.T _ _ _ _ _ _ _ _ _ _ _ _ _ _ _ _ _ _ _ _ _ _ _ _ _ _ _ _ ⟨_, _, _⟩ _)
  · exact fun _ _ h => h.elim
def F23.T (l l1 : Sl) : PT := fun h Q =>
  par ((l.n : Int) = (l1.n : Int)) (∃ (I : Int → Hp → Prop) (m : Int → Hp → Nat), I 0 h ∧ (∀ n : Int, ∀ h1 : Hp, I n h1 → par (n < (l.n : Int)) (∃ b o, (l.a : Option Addr) = some ⟨b, o, none⟩ ∧ ((0 : Int) ≤ n ∧ n < (l.n : Int)) ∧ ∃ n1 : Int, h1.at b (o + n.toNat) = some (.int .i64 n1) ∧ ∃ b1 o1, (l1.a : Option Addr) = some ⟨b1, o1, none⟩ ∧ ((0 : Int) ≤ n ∧ n < (l1.n : Int)) ∧ ∃ n2 : Int, h1.at b1 (o1 + n.toNat) = some (.int .i64 n2) ∧ par (n1 = n2) (I (IntKind.wrap .i64 (n + 1)) h1 ∧ m (IntKind.wrap .i64 (n + 1)) h1 < m n h1) (Q (.bool false) h1)) (Q (.bool true) h1))) (Q (.bool false) h)
theorem F23.den (V l l1) : denF Tryz.prog [] [] V [(58, .loop [(5, .int .i64)] []), (1864, .order [0, 1, 2, 3, 4, 5, 6, 7, 8])] Tryz.f23 [.v (.slice l.a l.n l.c), .v (.slice l1.a l1.n l1.c)] = F23.T l l1 := by kernel_rfl
def F23.W (T23 : Sl → Sl → PT) (args : List Value) : PT := match args with
  | [.slice l_a l_n l_c, .slice l1_a l1_n l1_c] => T23 ⟨l_a, l_n, l_c⟩ ⟨l1_a, l1_n, l1_c⟩
  | _ => fun _ _ => False
def F23.V : List Value → PT := F23.W F23.T
theorem F23.ok : FOk Tryz.prog 23 F23.V := by
  refine ⟨⟨_, Tryz.func23, rfl, rfl⟩, fun args => ?_⟩
  unfold F23.V F23.W
  split
  · exact denF_okE (GOk.nil) noV_ok Tryz.func23 (F23.den noV ⟨_, _, _⟩ ⟨_, _, _⟩)
  · exact fun _ _ h => h.elim
def F82.T (l : Sl) (n : Int) : PT := fun h Q =>
  par (n < 0) (False) (par ((0 : Int) < (IntKind.wrap .i64 (n - (IntKind.wrap .i64 ((l.c : Int) - (l.n : Int)))))) (Sl.okCut l 0 (l.c : Int) (l.c : Int) ∧ (0 : Int) ≤ (IntKind.wrap .i64 (n - (IntKind.wrap .i64 ((l.c : Int) - (l.n : Int))))) ∧ appendD (Sl.cut l 6 0 (l.c : Int) (l.c : Int)) 65 6 64 [.int .u64 0, .int .i64 0, .int .i64 0, .int .i64 0, .string (ByteArray.mk #[]), .string (ByteArray.mk #[])] (IntKind.wrap .i64 (n - (IntKind.wrap .i64 ((l.c : Int) - (l.n : Int))))).toNat (zerosV [.int .u64 0, .int .i64 0, .int .i64 0, .int .i64 0, .string (ByteArray.mk #[]), .string (ByteArray.mk #[])] (IntKind.wrap .i64 (n - (IntKind.wrap .i64 ((l.c : Int) - (l.n : Int))))).toNat) h fun l1 h1 => Sl.okCut l1 0 (l.n : Int) (l1.c : Int) ∧ Q (.slice (Sl.cut l1 6 0 (l.n : Int) (l1.c : Int)).a (Sl.cut l1 6 0 (l.n : Int) (l1.c : Int)).n (Sl.cut l1 6 0 (l.n : Int) (l1.c : Int)).c) h1) (Q (.slice l.a l.n l.c) h))
theorem F82.den (V l n) : denF Tryz.prog [] [] V [] Tryz.f82 [.v (.slice l.a l.n l.c), .v (.int .i64 n)] = F82.T l n := by kernel_rfl
def F82.W (T82 : Sl → Int → PT) (args : List Value) : PT := match args with
  | [.slice l_a l_n l_c, .int .i64 n] => T82 ⟨l_a, l_n, l_c⟩ n
  | _ => fun _ _ => False
def F82.V : List Value → PT := F82.W F82.T
theorem F82.ok : FOk Tryz.prog 82 F82.V := by
  refine ⟨⟨_, Tryz.func82, rfl, rfl⟩, fun args => ?_⟩
  unfold F82.V F82.W
  split
  · exact denF_okE (GOk.nil) noV_ok Tryz.func82 (F82.den noV ⟨_, _, _⟩ _)
  · exact fun _ _ h => h.elim
@[reducible] def F69.G (T82 : Sl → Int → PT) (l : Sl) : PT := fun h Q =>
  ∃ (I : Int → Int → Hp → Prop) (m : Int → Int → Hp → Nat), I 0 0 h ∧ (∀ n n1 : Int, ∀ h1 : Hp, I n n1 h1 → par (n1 < (l.n : Int)) (∃ b o, (l.a : Option Addr) = some ⟨b, o, none⟩ ∧ ((0 : Int) ≤ n1 ∧ n1 < (l.n : Int)) ∧ ∃ l1 : Sl, h1.at b (o + n1.toNat) = some (.slice l1.a l1.n l1.c) ∧ par ((IntKind.wrap .i64 (n + (l1.n : Int))) < 0) (False) (I (IntKind.wrap .i64 (n + (l1.n : Int))) (IntKind.wrap .i64 (n1 + 1)) h1 ∧ m (IntKind.wrap .i64 (n + (l1.n : Int))) (IntKind.wrap .i64 (n1 + 1)) h1 < m n n1 h1)) (T82 ⟨none, 0, 0⟩ n h1 fun r h2 => ∃ l2 : Sl, r = .slice l2.a l2.n l2.c ∧ ∃ (I1 : Sl → Int → Hp → Prop) (m1 : Sl → Int → Hp → Nat), I1 l2 0 h2 ∧ (∀ l3 : Sl, ∀ n2 : Int, ∀ h3 : Hp, I1 l3 n2 h3 → par (n2 < (l.n : Int)) (∃ b1 o1, (l.a : Option Addr) = some ⟨b1, o1, none⟩ ∧ ((0 : Int) ≤ n2 ∧ n2 < (l.n : Int)) ∧ ∃ l4 : Sl, h3.at b1 (o1 + n2.toNat) = some (.slice l4.a l4.n l4.c) ∧ ∃ vs, h3.row l4.a (l4.n * 6) vs ∧ (∀ v ∈ vs, Value.oneCell' v = true) ∧ appendD l3 65 6 64 [.int .u64 0, .int .i64 0, .int .i64 0, .int .i64 0, .string (ByteArray.mk #[]), .string (ByteArray.mk #[])] l4.n vs h3 fun l5 h4 => I1 l5 (IntKind.wrap .i64 (n2 + 1)) h4 ∧ m1 l5 (IntKind.wrap .i64 (n2 + 1)) h4 < m1 l3 n2 h3) (Q (.slice l3.a l3.n l3.c) h3))))
def F69.T := F69.G F82.T
theorem F69.gen (V T82 l) : denF Tryz.prog [] [(82, F82.W T82)] V [(58, .loop [(3, .int .i64), (11, .int .i64)] []), (250, .loop [(6, .sl), (27, .int .i64)] [])] Tryz.f69 [.v (.slice l.a l.n l.c)] = F69.G T82 l := by kernel_rfl
def F69.W (T69 : Sl → PT) (args : List Value) : PT := match args with
  | [.slice l_a l_n l_c] => T69 ⟨l_a, l_n, l_c⟩
  | _ => fun _ _ => False
def F69.V : List Value → PT := F69.W F69.T
theorem F69.ok : FOk Tryz.prog 69 F69.V := by
  refine ⟨⟨_, Tryz.func69, rfl, rfl⟩, fun args => ?_⟩
  unfold F69.V F69.W
  split
  · exact denF_okE (GOk.cons F82.ok (GOk.nil)) noV_ok Tryz.func69 (F69.gen noV F82.T ⟨_, _, _⟩)
  · exact fun _ _ h => h.elim
def F83.T (l : Sl) (n : Int) : PT := fun h Q =>
  ∃ (I : Int → Hp → Prop) (m : Int → Hp → Nat), I 0 h ∧ (∀ n1 : Int, ∀ h1 : Hp, I n1 h1 → par (n1 < (l.n : Int)) (∃ b o, (l.a : Option Addr) = some ⟨b, o, none⟩ ∧ ((0 : Int) ≤ n1 ∧ n1 < (l.n : Int)) ∧ ∃ n2 : Int, h1.at b (o + n1.toNat) = some (.int .u64 n2) ∧ par (n = n2) (Q (.int .i64 n1) h1) (I (IntKind.wrap .i64 (n1 + 1)) h1 ∧ m (IntKind.wrap .i64 (n1 + 1)) h1 < m n1 h1)) (Q (.int .i64 (-1)) h1))
theorem F83.den (V l n) : denF Tryz.prog [] [] V [(26, .loop [(8, .int .i64)] [])] Tryz.f83 [.v (.slice l.a l.n l.c), .v (.int .u64 n)] = F83.T l n := by kernel_rfl
def F83.W (T83 : Sl → Int → PT) (args : List Value) : PT := match args with
  | [.slice l_a l_n l_c, .int .u64 n] => T83 ⟨l_a, l_n, l_c⟩ n
  | _ => fun _ _ => False
def F83.V : List Value → PT := F83.W F83.T
theorem F83.ok : FOk Tryz.prog 83 F83.V := by
  refine ⟨⟨_, Tryz.func83, rfl, rfl⟩, fun args => ?_⟩
  unfold F83.V F83.W
  split
  · exact denF_okE (GOk.nil) noV_ok Tryz.func83 (F83.den noV ⟨_, _, _⟩ _)
  · exact fun _ _ h => h.elim
@[reducible] def F70.G (T83 : Sl → Int → PT) (l : Sl) (n : Int) : PT := fun h Q =>
  T83 l n h fun r h1 => ∃ n1 : Int, r = .int .i64 n1 ∧ par ((0 : Int) ≤ n1) (Q (.bool true) h1) (Q (.bool false) h1)
def F70.T := F70.G F83.T
theorem F70.gen (V T83 l n) : denF Tryz.prog [] [(83, F83.W T83)] V [] Tryz.f70 [.v (.slice l.a l.n l.c), .v (.int .u64 n)] = F70.G T83 l n := by kernel_rfl
def F70.W (T70 : Sl → Int → PT) (args : List Value) : PT := match args with
  | [.slice l_a l_n l_c, .int .u64 n] => T70 ⟨l_a, l_n, l_c⟩ n
  | _ => fun _ _ => False
def F70.V : List Value → PT := F70.W F70.T
theorem F70.ok : FOk Tryz.prog 70 F70.V := by
  refine ⟨⟨_, Tryz.func70, rfl, rfl⟩, fun args => ?_⟩
  unfold F70.V F70.W
  split
  · exact denF_okE (GOk.cons F83.ok (GOk.nil)) noV_ok Tryz.func70 (F70.gen noV F83.T ⟨_, _, _⟩ _)
  · exact fun _ _ h => h.elim
@[reducible] def F31.G (T26 : I9 <| I9 <| I9 <| Option Addr → PT) (T28 : I9 <| I9 <| I9 <| Option Addr → Sl → Int → PT) (T69 : Sl → PT) (T70 : Sl → Int → PT) (n n1 n2 n3 n4 n5 n6 n7 n8 n9 n10 n11 n12 n13 n14 n15 n16 n17 n18 n19 n20 n21 n22 n23 n24 n25 n26 : Int) (p : Option Addr) (l l1 : Sl) : PT := fun h Q =>
  T26 n n1 n2 n3 n4 n5 n6 n7 n8 n9 n10 n11 n12 n13 n14 n15 n16 n17 n18 n19 n20 n21 n22 n23 n24 n25 n26 p h fun r h1 => ∃ l2 : Sl, r = .slice l2.a l2.n l2.c ∧ ∀ b, h1 b = none → ∃ (I : Int → Int → Sl → Sl → ByteArray → Bool → Hp → Prop) (m : Int → Int → Sl → Sl → ByteArray → Bool → Hp → Nat), I 0 0 ⟨none, 0, 0⟩ ⟨none, 0, 0⟩ (ByteArray.mk #[]) false (h1.new b (.cells ⟨[.bool false, .bool false, .bool false, .bool false, .bool false, .bool false]⟩ 116 (0, 0))) ∧ (∀ n27 n28 : Int, ∀ l3 l4 : Sl, ∀ s : ByteArray, (∀ h2 : Hp, I n27 n28 l3 l4 s true h2 → par (n27 < (l2.n : Int)) (∃ b2 o, (l2.a : Option Addr) = some ⟨b2, o, none⟩ ∧ ((0 : Int) ≤ n27 ∧ n27 < (l2.n : Int)) ∧ ∃ n29 : Int, h2.at b2 (o + n27.toNat) = some (.int .i64 n29) ∧ T28 n n1 n2 n3 n4 n5 n6 n7 n8 n9 n10 n11 n12 n13 n14 n15 n16 n17 n18 n19 n20 n21 n22 n23 n24 n25 n26 p l n29 h2 fun r1 h3 => ∃ n30 : Int, ∃ l5 l6 : Sl, ∃ s1 : ByteArray, ∃ b3 : Bool, parB b3 (∃ b4 : Bool, parB b4 (r1 = .tuple ⟨[.agg ⟨[.int .i64 n30, .slice l5.a l5.n l5.c, .slice l6.a l6.n l6.c, .string s1, .bool true]⟩, .bool true]⟩ ∧ ((0 : Int) ≤ n29 ∧ n29 < ((6 : Nat) : Int)) ∧ ∃ b5 : Bool, h3.at b (0 + (n29 : Int).toNat) = some (.bool b5) ∧ parB b5 (((0 : Int) ≤ n29 ∧ n29 < ((6 : Nat) : Int)) ∧ h3.canW b (0 + (n29 : Int).toNat) 1 ∧ ((0 : Int) ≤ (IntKind.wrap .i64 (n29 + 1)) ∧ (IntKind.wrap .i64 (n29 + 1)) < ((6 : Nat) : Int)) ∧ (h3.wr b (0 + (n29 : Int).toNat) [.bool true]).canW b (0 + ((IntKind.wrap .i64 (n29 + 1)) : Int).toNat) 1 ∧ I (IntKind.wrap .i64 (n27 + 1)) n28 l3 l4 s true ((h3.wr b (0 + (n29 : Int).toNat) [.bool true]).wr b (0 + ((IntKind.wrap .i64 (n29 + 1)) : Int).toNat) [.bool true]) ∧ m (IntKind.wrap .i64 (n27 + 1)) n28 l3 l4 s true ((h3.wr b (0 + (n29 : Int).toNat) [.bool true]).wr b (0 + ((IntKind.wrap .i64 (n29 + 1)) : Int).toNat) [.bool true]) < m n27 n28 l3 l4 s true h2) (((0 : Int) ≤ (IntKind.wrap .i64 (n29 + 1)) ∧ (IntKind.wrap .i64 (n29 + 1)) < ((6 : Nat) : Int)) ∧ ∃ b6 : Bool, h3.at b (0 + ((IntKind.wrap .i64 (n29 + 1)) : Int).toNat) = some (.bool b6) ∧ parB b6 (((0 : Int) ≤ n29 ∧ n29 < ((6 : Nat) : Int)) ∧ h3.canW b (0 + (n29 : Int).toNat) 1 ∧ ((0 : Int) ≤ (IntKind.wrap .i64 (n29 + 1)) ∧ (IntKind.wrap .i64 (n29 + 1)) < ((6 : Nat) : Int)) ∧ (h3.wr b (0 + (n29 : Int).toNat) [.bool true]).canW b (0 + ((IntKind.wrap .i64 (n29 + 1)) : Int).toNat) 1 ∧ I (IntKind.wrap .i64 (n27 + 1)) n28 l3 l4 s true ((h3.wr b (0 + (n29 : Int).toNat) [.bool true]).wr b (0 + ((IntKind.wrap .i64 (n29 + 1)) : Int).toNat) [.bool true]) ∧ m (IntKind.wrap .i64 (n27 + 1)) n28 l3 l4 s true ((h3.wr b (0 + (n29 : Int).toNat) [.bool true]).wr b (0 + ((IntKind.wrap .i64 (n29 + 1)) : Int).toNat) [.bool true]) < m n27 n28 l3 l4 s true h2) (∀ b7, h3 b7 = none → T69 ⟨(some ⟨b7, 0, none⟩), 2, 2⟩ (h3.new b7 (.cells ⟨[.slice l5.a l5.n l5.c, .slice l6.a l6.n l6.c]⟩ 75 (0, 0))) fun r2 h4 => ∃ l7 : Sl, r2 = .slice l7.a l7.n l7.c ∧ ∃ (I1 : Int → Hp → Prop) (m1 : Int → Hp → Nat), I1 0 h4 ∧ (∀ n31 : Int, ∀ h5 : Hp, I1 n31 h5 → par (n31 < (l7.n : Int)) (∃ b8 o1, (l7.a : Option Addr) = some ⟨b8, o1, none⟩ ∧ ((0 : Int) ≤ n31 ∧ n31 < (l7.n : Int)) ∧ ∃ n32 : Int, h5.at b8 (o1 + n31.toNat * 6) = some (.int .u64 n32) ∧ ∃ n33 : Int, h5.at b8 ((o1 + n31.toNat * 6) + 1) = some (.int .i64 n33) ∧ ∃ n34 : Int, h5.at b8 ((o1 + n31.toNat * 6) + 2) = some (.int .i64 n34) ∧ ∃ n35 : Int, h5.at b8 ((o1 + n31.toNat * 6) + 3) = some (.int .i64 n35) ∧ ∃ s2 : ByteArray, h5.at b8 ((o1 + n31.toNat * 6) + 4) = some (.string s2) ∧ ∃ s3 : ByteArray, h5.at b8 ((o1 + n31.toNat * 6) + 5) = some (.string s3) ∧ T70 l1 n32 h5 fun r3 h6 => ∃ b9 : Bool, r3 = .bool b9 ∧ parB b9 (((0 : Int) ≤ n29 ∧ n29 < ((6 : Nat) : Int)) ∧ h6.canW b (0 + (n29 : Int).toNat) 1 ∧ ((0 : Int) ≤ (IntKind.wrap .i64 (n29 + 1)) ∧ (IntKind.wrap .i64 (n29 + 1)) < ((6 : Nat) : Int)) ∧ (h6.wr b (0 + (n29 : Int).toNat) [.bool true]).canW b (0 + ((IntKind.wrap .i64 (n29 + 1)) : Int).toNat) 1 ∧ I (IntKind.wrap .i64 (n27 + 1)) n28 l3 l4 s true ((h6.wr b (0 + (n29 : Int).toNat) [.bool true]).wr b (0 + ((IntKind.wrap .i64 (n29 + 1)) : Int).toNat) [.bool true]) ∧ m (IntKind.wrap .i64 (n27 + 1)) n28 l3 l4 s true ((h6.wr b (0 + (n29 : Int).toNat) [.bool true]).wr b (0 + ((IntKind.wrap .i64 (n29 + 1)) : Int).toNat) [.bool true]) < m n27 n28 l3 l4 s true h2) (I1 (IntKind.wrap .i64 (n31 + 1)) h6 ∧ m1 (IntKind.wrap .i64 (n31 + 1)) h6 < m1 n31 h5)) (Q (.tuple ⟨[.agg ⟨[.int .i64 n30, .slice l5.a l5.n l5.c, .slice l6.a l6.n l6.c, .string s1, .bool true]⟩, .int .i64 2]⟩) h5))))) (r1 = .tuple ⟨[.agg ⟨[.int .i64 n30, .slice l5.a l5.n l5.c, .slice l6.a l6.n l6.c, .string s1, .bool true]⟩, .bool false]⟩ ∧ I (IntKind.wrap .i64 (n27 + 1)) n28 l3 l4 s true h3 ∧ m (IntKind.wrap .i64 (n27 + 1)) n28 l3 l4 s true h3 < m n27 n28 l3 l4 s true h2)) (∃ b10 : Bool, parB b10 (r1 = .tuple ⟨[.agg ⟨[.int .i64 n30, .slice l5.a l5.n l5.c, .slice l6.a l6.n l6.c, .string s1, .bool false]⟩, .bool true]⟩ ∧ ((0 : Int) ≤ n29 ∧ n29 < ((6 : Nat) : Int)) ∧ ∃ b11 : Bool, h3.at b (0 + (n29 : Int).toNat) = some (.bool b11) ∧ parB b11 (((0 : Int) ≤ n29 ∧ n29 < ((6 : Nat) : Int)) ∧ h3.canW b (0 + (n29 : Int).toNat) 1 ∧ ((0 : Int) ≤ (IntKind.wrap .i64 (n29 + 1)) ∧ (IntKind.wrap .i64 (n29 + 1)) < ((6 : Nat) : Int)) ∧ (h3.wr b (0 + (n29 : Int).toNat) [.bool true]).canW b (0 + ((IntKind.wrap .i64 (n29 + 1)) : Int).toNat) 1 ∧ I (IntKind.wrap .i64 (n27 + 1)) n28 l3 l4 s true ((h3.wr b (0 + (n29 : Int).toNat) [.bool true]).wr b (0 + ((IntKind.wrap .i64 (n29 + 1)) : Int).toNat) [.bool true]) ∧ m (IntKind.wrap .i64 (n27 + 1)) n28 l3 l4 s true ((h3.wr b (0 + (n29 : Int).toNat) [.bool true]).wr b (0 + ((IntKind.wrap .i64 (n29 + 1)) : Int).toNat) [.bool true]) < m n27 n28 l3 l4 s true h2) (((0 : Int) ≤ (IntKind.wrap .i64 (n29 + 1)) ∧ (IntKind.wrap .i64 (n29 + 1)) < ((6 : Nat) : Int)) ∧ ∃ b12 : Bool, h3.at b (0 + ((IntKind.wrap .i64 (n29 + 1)) : Int).toNat) = some (.bool b12) ∧ parB b12 (((0 : Int) ≤ n29 ∧ n29 < ((6 : Nat) : Int)) ∧ h3.canW b (0 + (n29 : Int).toNat) 1 ∧ ((0 : Int) ≤ (IntKind.wrap .i64 (n29 + 1)) ∧ (IntKind.wrap .i64 (n29 + 1)) < ((6 : Nat) : Int)) ∧ (h3.wr b (0 + (n29 : Int).toNat) [.bool true]).canW b (0 + ((IntKind.wrap .i64 (n29 + 1)) : Int).toNat) 1 ∧ I (IntKind.wrap .i64 (n27 + 1)) n28 l3 l4 s true ((h3.wr b (0 + (n29 : Int).toNat) [.bool true]).wr b (0 + ((IntKind.wrap .i64 (n29 + 1)) : Int).toNat) [.bool true]) ∧ m (IntKind.wrap .i64 (n27 + 1)) n28 l3 l4 s true ((h3.wr b (0 + (n29 : Int).toNat) [.bool true]).wr b (0 + ((IntKind.wrap .i64 (n29 + 1)) : Int).toNat) [.bool true]) < m n27 n28 l3 l4 s true h2) (∀ b13, h3 b13 = none → T69 ⟨(some ⟨b13, 0, none⟩), 2, 2⟩ (h3.new b13 (.cells ⟨[.slice l5.a l5.n l5.c, .slice l6.a l6.n l6.c]⟩ 75 (0, 0))) fun r4 h7 => ∃ l8 : Sl, r4 = .slice l8.a l8.n l8.c ∧ ∃ (I2 : Int → Hp → Prop) (m2 : Int → Hp → Nat), I2 0 h7 ∧ (∀ n36 : Int, ∀ h8 : Hp, I2 n36 h8 → par (n36 < (l8.n : Int)) (∃ b14 o2, (l8.a : Option Addr) = some ⟨b14, o2, none⟩ ∧ ((0 : Int) ≤ n36 ∧ n36 < (l8.n : Int)) ∧ ∃ n37 : Int, h8.at b14 (o2 + n36.toNat * 6) = some (.int .u64 n37) ∧ ∃ n38 : Int, h8.at b14 ((o2 + n36.toNat * 6) + 1) = some (.int .i64 n38) ∧ ∃ n39 : Int, h8.at b14 ((o2 + n36.toNat * 6) + 2) = some (.int .i64 n39) ∧ ∃ n40 : Int, h8.at b14 ((o2 + n36.toNat * 6) + 3) = some (.int .i64 n40) ∧ ∃ s4 : ByteArray, h8.at b14 ((o2 + n36.toNat * 6) + 4) = some (.string s4) ∧ ∃ s5 : ByteArray, h8.at b14 ((o2 + n36.toNat * 6) + 5) = some (.string s5) ∧ T70 l1 n37 h8 fun r5 h9 => ∃ b15 : Bool, r5 = .bool b15 ∧ parB b15 (((0 : Int) ≤ n29 ∧ n29 < ((6 : Nat) : Int)) ∧ h9.canW b (0 + (n29 : Int).toNat) 1 ∧ ((0 : Int) ≤ (IntKind.wrap .i64 (n29 + 1)) ∧ (IntKind.wrap .i64 (n29 + 1)) < ((6 : Nat) : Int)) ∧ (h9.wr b (0 + (n29 : Int).toNat) [.bool true]).canW b (0 + ((IntKind.wrap .i64 (n29 + 1)) : Int).toNat) 1 ∧ I (IntKind.wrap .i64 (n27 + 1)) n28 l3 l4 s true ((h9.wr b (0 + (n29 : Int).toNat) [.bool true]).wr b (0 + ((IntKind.wrap .i64 (n29 + 1)) : Int).toNat) [.bool true]) ∧ m (IntKind.wrap .i64 (n27 + 1)) n28 l3 l4 s true ((h9.wr b (0 + (n29 : Int).toNat) [.bool true]).wr b (0 + ((IntKind.wrap .i64 (n29 + 1)) : Int).toNat) [.bool true]) < m n27 n28 l3 l4 s true h2) (I2 (IntKind.wrap .i64 (n36 + 1)) h9 ∧ m2 (IntKind.wrap .i64 (n36 + 1)) h9 < m2 n36 h8)) (Q (.tuple ⟨[.agg ⟨[.int .i64 n30, .slice l5.a l5.n l5.c, .slice l6.a l6.n l6.c, .string s1, .bool false]⟩, .int .i64 2]⟩) h8))))) (r1 = .tuple ⟨[.agg ⟨[.int .i64 n30, .slice l5.a l5.n l5.c, .slice l6.a l6.n l6.c, .string s1, .bool false]⟩, .bool false]⟩ ∧ I (IntKind.wrap .i64 (n27 + 1)) n28 l3 l4 s true h3 ∧ m (IntKind.wrap .i64 (n27 + 1)) n28 l3 l4 s true h3 < m n27 n28 l3 l4 s true h2))) (par ((0 : Int) < (l2.n : Int)) (Q (.tuple ⟨[.agg ⟨[.int .i64 0, .slice none 0 0, .slice none 0 0, .string (ByteArray.mk #[]), .bool false]⟩, .int .i64 1]⟩) h2) (Q (.tuple ⟨[.agg ⟨[.int .i64 0, .slice none 0 0, .slice none 0 0, .string (ByteArray.mk #[]), .bool false]⟩, .int .i64 0]⟩) h2))) ∧ (∀ h2 : Hp, I n27 n28 l3 l4 s false h2 → par (n27 < (l2.n : Int)) (∃ b16 o3, (l2.a : Option Addr) = some ⟨b16, o3, none⟩ ∧ ((0 : Int) ≤ n27 ∧ n27 < (l2.n : Int)) ∧ ∃ n41 : Int, h2.at b16 (o3 + n27.toNat) = some (.int .i64 n41) ∧ T28 n n1 n2 n3 n4 n5 n6 n7 n8 n9 n10 n11 n12 n13 n14 n15 n16 n17 n18 n19 n20 n21 n22 n23 n24 n25 n26 p l n41 h2 fun r6 h10 => ∃ n42 : Int, ∃ l9 l10 : Sl, ∃ s6 : ByteArray, ∃ b17 : Bool, parB b17 (∃ b18 : Bool, parB b18 (r6 = .tuple ⟨[.agg ⟨[.int .i64 n42, .slice l9.a l9.n l9.c, .slice l10.a l10.n l10.c, .string s6, .bool true]⟩, .bool true]⟩ ∧ ((0 : Int) ≤ n41 ∧ n41 < ((6 : Nat) : Int)) ∧ ∃ b19 : Bool, h10.at b (0 + (n41 : Int).toNat) = some (.bool b19) ∧ parB b19 (((0 : Int) ≤ n41 ∧ n41 < ((6 : Nat) : Int)) ∧ h10.canW b (0 + (n41 : Int).toNat) 1 ∧ ((0 : Int) ≤ (IntKind.wrap .i64 (n41 + 1)) ∧ (IntKind.wrap .i64 (n41 + 1)) < ((6 : Nat) : Int)) ∧ (h10.wr b (0 + (n41 : Int).toNat) [.bool true]).canW b (0 + ((IntKind.wrap .i64 (n41 + 1)) : Int).toNat) 1 ∧ I (IntKind.wrap .i64 (n27 + 1)) n28 l3 l4 s false ((h10.wr b (0 + (n41 : Int).toNat) [.bool true]).wr b (0 + ((IntKind.wrap .i64 (n41 + 1)) : Int).toNat) [.bool true]) ∧ m (IntKind.wrap .i64 (n27 + 1)) n28 l3 l4 s false ((h10.wr b (0 + (n41 : Int).toNat) [.bool true]).wr b (0 + ((IntKind.wrap .i64 (n41 + 1)) : Int).toNat) [.bool true]) < m n27 n28 l3 l4 s false h2) (((0 : Int) ≤ (IntKind.wrap .i64 (n41 + 1)) ∧ (IntKind.wrap .i64 (n41 + 1)) < ((6 : Nat) : Int)) ∧ ∃ b20 : Bool, h10.at b (0 + ((IntKind.wrap .i64 (n41 + 1)) : Int).toNat) = some (.bool b20) ∧ parB b20 (((0 : Int) ≤ n41 ∧ n41 < ((6 : Nat) : Int)) ∧ h10.canW b (0 + (n41 : Int).toNat) 1 ∧ ((0 : Int) ≤ (IntKind.wrap .i64 (n41 + 1)) ∧ (IntKind.wrap .i64 (n41 + 1)) < ((6 : Nat) : Int)) ∧ (h10.wr b (0 + (n41 : Int).toNat) [.bool true]).canW b (0 + ((IntKind.wrap .i64 (n41 + 1)) : Int).toNat) 1 ∧ I (IntKind.wrap .i64 (n27 + 1)) n28 l3 l4 s false ((h10.wr b (0 + (n41 : Int).toNat) [.bool true]).wr b (0 + ((IntKind.wrap .i64 (n41 + 1)) : Int).toNat) [.bool true]) ∧ m (IntKind.wrap .i64 (n27 + 1)) n28 l3 l4 s false ((h10.wr b (0 + (n41 : Int).toNat) [.bool true]).wr b (0 + ((IntKind.wrap .i64 (n41 + 1)) : Int).toNat) [.bool true]) < m n27 n28 l3 l4 s false h2) (∀ b21, h10 b21 = none → T69 ⟨(some ⟨b21, 0, none⟩), 2, 2⟩ (h10.new b21 (.cells ⟨[.slice l9.a l9.n l9.c, .slice l10.a l10.n l10.c]⟩ 75 (0, 0))) fun r7 h11 => ∃ l11 : Sl, r7 = .slice l11.a l11.n l11.c ∧ ∃ (I3 : Int → Hp → Prop) (m3 : Int → Hp → Nat), I3 0 h11 ∧ (∀ n43 : Int, ∀ h12 : Hp, I3 n43 h12 → par (n43 < (l11.n : Int)) (∃ b22 o4, (l11.a : Option Addr) = some ⟨b22, o4, none⟩ ∧ ((0 : Int) ≤ n43 ∧ n43 < (l11.n : Int)) ∧ ∃ n44 : Int, h12.at b22 (o4 + n43.toNat * 6) = some (.int .u64 n44) ∧ ∃ n45 : Int, h12.at b22 ((o4 + n43.toNat * 6) + 1) = some (.int .i64 n45) ∧ ∃ n46 : Int, h12.at b22 ((o4 + n43.toNat * 6) + 2) = some (.int .i64 n46) ∧ ∃ n47 : Int, h12.at b22 ((o4 + n43.toNat * 6) + 3) = some (.int .i64 n47) ∧ ∃ s7 : ByteArray, h12.at b22 ((o4 + n43.toNat * 6) + 4) = some (.string s7) ∧ ∃ s8 : ByteArray, h12.at b22 ((o4 + n43.toNat * 6) + 5) = some (.string s8) ∧ T70 l1 n44 h12 fun r8 h13 => ∃ b23 : Bool, r8 = .bool b23 ∧ parB b23 (((0 : Int) ≤ n41 ∧ n41 < ((6 : Nat) : Int)) ∧ h13.canW b (0 + (n41 : Int).toNat) 1 ∧ ((0 : Int) ≤ (IntKind.wrap .i64 (n41 + 1)) ∧ (IntKind.wrap .i64 (n41 + 1)) < ((6 : Nat) : Int)) ∧ (h13.wr b (0 + (n41 : Int).toNat) [.bool true]).canW b (0 + ((IntKind.wrap .i64 (n41 + 1)) : Int).toNat) 1 ∧ I (IntKind.wrap .i64 (n27 + 1)) n28 l3 l4 s false ((h13.wr b (0 + (n41 : Int).toNat) [.bool true]).wr b (0 + ((IntKind.wrap .i64 (n41 + 1)) : Int).toNat) [.bool true]) ∧ m (IntKind.wrap .i64 (n27 + 1)) n28 l3 l4 s false ((h13.wr b (0 + (n41 : Int).toNat) [.bool true]).wr b (0 + ((IntKind.wrap .i64 (n41 + 1)) : Int).toNat) [.bool true]) < m n27 n28 l3 l4 s false h2) (I3 (IntKind.wrap .i64 (n43 + 1)) h13 ∧ m3 (IntKind.wrap .i64 (n43 + 1)) h13 < m3 n43 h12)) (Q (.tuple ⟨[.agg ⟨[.int .i64 n42, .slice l9.a l9.n l9.c, .slice l10.a l10.n l10.c, .string s6, .bool true]⟩, .int .i64 2]⟩) h12))))) (r6 = .tuple ⟨[.agg ⟨[.int .i64 n42, .slice l9.a l9.n l9.c, .slice l10.a l10.n l10.c, .string s6, .bool true]⟩, .bool false]⟩ ∧ I (IntKind.wrap .i64 (n27 + 1)) n28 l3 l4 s false h10 ∧ m (IntKind.wrap .i64 (n27 + 1)) n28 l3 l4 s false h10 < m n27 n28 l3 l4 s false h2)) (∃ b24 : Bool, parB b24 (r6 = .tuple ⟨[.agg ⟨[.int .i64 n42, .slice l9.a l9.n l9.c, .slice l10.a l10.n l10.c, .string s6, .bool false]⟩, .bool true]⟩ ∧ ((0 : Int) ≤ n41 ∧ n41 < ((6 : Nat) : Int)) ∧ ∃ b25 : Bool, h10.at b (0 + (n41 : Int).toNat) = some (.bool b25) ∧ parB b25 (((0 : Int) ≤ n41 ∧ n41 < ((6 : Nat) : Int)) ∧ h10.canW b (0 + (n41 : Int).toNat) 1 ∧ ((0 : Int) ≤ (IntKind.wrap .i64 (n41 + 1)) ∧ (IntKind.wrap .i64 (n41 + 1)) < ((6 : Nat) : Int)) ∧ (h10.wr b (0 + (n41 : Int).toNat) [.bool true]).canW b (0 + ((IntKind.wrap .i64 (n41 + 1)) : Int).toNat) 1 ∧ I (IntKind.wrap .i64 (n27 + 1)) n28 l3 l4 s false ((h10.wr b (0 + (n41 : Int).toNat) [.bool true]).wr b (0 + ((IntKind.wrap .i64 (n41 + 1)) : Int).toNat) [.bool true]) ∧ m (IntKind.wrap .i64 (n27 + 1)) n28 l3 l4 s false ((h10.wr b (0 + (n41 : Int).toNat) [.bool true]).wr b (0 + ((IntKind.wrap .i64 (n41 + 1)) : Int).toNat) [.bool true]) < m n27 n28 l3 l4 s false h2) (((0 : Int) ≤ (IntKind.wrap .i64 (n41 + 1)) ∧ (IntKind.wrap .i64 (n41 + 1)) < ((6 : Nat) : Int)) ∧ ∃ b26 : Bool, h10.at b (0 + ((IntKind.wrap .i64 (n41 + 1)) : Int).toNat) = some (.bool b26) ∧ parB b26 (((0 : Int) ≤ n41 ∧ n41 < ((6 : Nat) : Int)) ∧ h10.canW b (0 + (n41 : Int).toNat) 1 ∧ ((0 : Int) ≤ (IntKind.wrap .i64 (n41 + 1)) ∧ (IntKind.wrap .i64 (n41 + 1)) < ((6 : Nat) : Int)) ∧ (h10.wr b (0 + (n41 : Int).toNat) [.bool true]).canW b (0 + ((IntKind.wrap .i64 (n41 + 1)) : Int).toNat) 1 ∧ I (IntKind.wrap .i64 (n27 + 1)) n28 l3 l4 s false ((h10.wr b (0 + (n41 : Int).toNat) [.bool true]).wr b (0 + ((IntKind.wrap .i64 (n41 + 1)) : Int).toNat) [.bool true]) ∧ m (IntKind.wrap .i64 (n27 + 1)) n28 l3 l4 s false ((h10.wr b (0 + (n41 : Int).toNat) [.bool true]).wr b (0 + ((IntKind.wrap .i64 (n41 + 1)) : Int).toNat) [.bool true]) < m n27 n28 l3 l4 s false h2) (∀ b27, h10 b27 = none → T69 ⟨(some ⟨b27, 0, none⟩), 2, 2⟩ (h10.new b27 (.cells ⟨[.slice l9.a l9.n l9.c, .slice l10.a l10.n l10.c]⟩ 75 (0, 0))) fun r9 h14 => ∃ l12 : Sl, r9 = .slice l12.a l12.n l12.c ∧ ∃ (I4 : Int → Hp → Prop) (m4 : Int → Hp → Nat), I4 0 h14 ∧ (∀ n48 : Int, ∀ h15 : Hp, I4 n48 h15 → par (n48 < (l12.n : Int)) (∃ b28 o5, (l12.a : Option Addr) = some ⟨b28, o5, none⟩ ∧ ((0 : Int) ≤ n48 ∧ n48 < (l12.n : Int)) ∧ ∃ n49 : Int, h15.at b28 (o5 + n48.toNat * 6) = some (.int .u64 n49) ∧ ∃ n50 : Int, h15.at b28 ((o5 + n48.toNat * 6) + 1) = some (.int .i64 n50) ∧ ∃ n51 : Int, h15.at b28 ((o5 + n48.toNat * 6) + 2) = some (.int .i64 n51) ∧ ∃ n52 : Int, h15.at b28 ((o5 + n48.toNat * 6) + 3) = some (.int .i64 n52) ∧ ∃ s9 : ByteArray, h15.at b28 ((o5 + n48.toNat * 6) + 4) = some (.string s9) ∧ ∃ s10 : ByteArray, h15.at b28 ((o5 + n48.toNat * 6) + 5) = some (.string s10) ∧ T70 l1 n49 h15 fun r10 h16 => ∃ b29 : Bool, r10 = .bool b29 ∧ parB b29 (((0 : Int) ≤ n41 ∧ n41 < ((6 : Nat) : Int)) ∧ h16.canW b (0 + (n41 : Int).toNat) 1 ∧ ((0 : Int) ≤ (IntKind.wrap .i64 (n41 + 1)) ∧ (IntKind.wrap .i64 (n41 + 1)) < ((6 : Nat) : Int)) ∧ (h16.wr b (0 + (n41 : Int).toNat) [.bool true]).canW b (0 + ((IntKind.wrap .i64 (n41 + 1)) : Int).toNat) 1 ∧ I (IntKind.wrap .i64 (n27 + 1)) n28 l3 l4 s false ((h16.wr b (0 + (n41 : Int).toNat) [.bool true]).wr b (0 + ((IntKind.wrap .i64 (n41 + 1)) : Int).toNat) [.bool true]) ∧ m (IntKind.wrap .i64 (n27 + 1)) n28 l3 l4 s false ((h16.wr b (0 + (n41 : Int).toNat) [.bool true]).wr b (0 + ((IntKind.wrap .i64 (n41 + 1)) : Int).toNat) [.bool true]) < m n27 n28 l3 l4 s false h2) (I4 (IntKind.wrap .i64 (n48 + 1)) h16 ∧ m4 (IntKind.wrap .i64 (n48 + 1)) h16 < m4 n48 h15)) (Q (.tuple ⟨[.agg ⟨[.int .i64 n42, .slice l9.a l9.n l9.c, .slice l10.a l10.n l10.c, .string s6, .bool false]⟩, .int .i64 2]⟩) h15))))) (r6 = .tuple ⟨[.agg ⟨[.int .i64 n42, .slice l9.a l9.n l9.c, .slice l10.a l10.n l10.c, .string s6, .bool false]⟩, .bool false]⟩ ∧ I (IntKind.wrap .i64 (n27 + 1)) n28 l3 l4 s false h10 ∧ m (IntKind.wrap .i64 (n27 + 1)) n28 l3 l4 s false h10 < m n27 n28 l3 l4 s false h2))) (par ((0 : Int) < (l2.n : Int)) (Q (.tuple ⟨[.agg ⟨[.int .i64 0, .slice none 0 0, .slice none 0 0, .string (ByteArray.mk #[]), .bool false]⟩, .int .i64 1]⟩) h2) (Q (.tuple ⟨[.agg ⟨[.int .i64 0, .slice none 0 0, .slice none 0 0, .string (ByteArray.mk #[]), .bool false]⟩, .int .i64 0]⟩) h2))))
def F31.T := F31.G F26.T F28.T F69.T F70.T
theorem F31.gen (V T26 T28 T69 T70 n n1 n2 n3 n4 n5 n6 n7 n8 n9 n10 n11 n12 n13 n14 n15 n16 n17 n18 n19 n20 n21 n22 n23 n24 n25 n26 p l l1) : denF Tryz.prog [4, 8, 14, 17] [(26, F26.W T26), (28, F28.W T28), (69, F69.W T69), (70, F70.W T70)] V [(3, .jump 0), (442, .loop [(23, .int .i64)] [(8, [.int .i64, .sl, .sl, .str, .bool])]), (7248338, .loop [(55, .int .i64)] [])] Tryz.f31 [.v (.agg ⟨[.int .i64 n, .int .i64 n1, .int .i64 n2, .int .i64 n3, .int .i64 n4, .int .i64 n5, .int .i64 n6, .int .i64 n7, .int .i64 n8, .int .i64 n9, .int .i64 n10, .int .i64 n11, .int .i64 n12, .int .i64 n13, .int .i64 n14, .int .i64 n15, .int .i64 n16, .int .i64 n17, .int .i64 n18, .int .i64 n19, .int .i64 n20, .int .i64 n21, .int .i64 n22, .int .i64 n23, .int .i64 n24, .int .i64 n25, .int .i64 n26]⟩), .v (.pointer p), .v (.slice l.a l.n l.c), .v (.slice l1.a l1.n l1.c)] = F31.G T26 T28 T69 T70 n n1 n2 n3 n4 n5 n6 n7 n8 n9 n10 n11 n12 n13 n14 n15 n16 n17 n18 n19 n20 n21 n22 n23 n24 n25 n26 p l l1 := by kernel_rfl
def F31.W (T31 : I9 <| I9 <| I9 <| Option Addr → Sl → Sl → PT) (args : List Value) : PT := match args with
  | [.agg ⟨[.int .i64 n, .int .i64 n1, .int .i64 n2, .int .i64 n3, .int .i64 n4, .int .i64 n5, .int .i64 n6, .int .i64 n7, .int .i64 n8, .int .i64 n9, .int .i64 n10, .int .i64 n11, .int .i64 n12, .int .i64 n13, .int .i64 n14, .int .i64 n15, .int .i64 n16, .int .i64 n17, .int .i64 n18, .int .i64 n19, .int .i64 n20, .int .i64 n21, .int .i64 n22, .int .i64 n23, .int .i64 n24, .int .i64 n25, .int .i64 n26]⟩, .pointer p, .slice l_a l_n l_c, .slice l1_a l1_n l1_c] => T31 n n1 n2 n3 n4 n5 n6 n7 n8 n9 n10 n11 n12 n13 n14 n15 n16 n17 n18 n19 n20 n21 n22 n23 n24 n25 n26 p ⟨l_a, l_n, l_c⟩ ⟨l1_a, l1_n, l1_c⟩
  | _ => fun _ _ => False
def F31.V : List Value → PT := F31.W F31.T
theorem F31.ok : FOk Tryz.prog 31 F31.V := by
  refine ⟨⟨_, Tryz.func31, rfl, rfl⟩, fun args => ?_⟩
  unfold F31.V F31.W
  split
  · exact denF_okE (GOk.cons F26.ok (GOk.cons F28.ok (GOk.cons F69.ok (GOk.cons F70.ok (GOk.nil))))) noV_ok Tryz.func31 (F31.gen noV F26.T F28.T F69.T F70.T _ _ _ _ _ _ _ _ _ _ _ _ _ _ _ _ _ _ _ _ _ _ _ _ _ _ _ _ ⟨_, _, _⟩ ⟨_, _, _⟩)
  · exact fun _ _ h => h.elim
def F33.T (l l1 : Sl) : PT := fun h Q =>
  par ((l.n : Int) = (l1.n : Int)) (∃ (I : Int → Hp → Prop) (m : Int → Hp → Nat), I 0 h ∧ (∀ n : Int, ∀ h1 : Hp, I n h1 → par (n < (l.n : Int)) (∃ b o, (l.a : Option Addr) = some ⟨b, o, none⟩ ∧ ((0 : Int) ≤ n ∧ n < (l.n : Int)) ∧ ∃ n1 : Int, h1.at b (o + n.toNat * 6) = some (.int .u64 n1) ∧ ∃ n2 : Int, h1.at b ((o + n.toNat * 6) + 1) = some (.int .i64 n2) ∧ ∃ n3 : Int, h1.at b ((o + n.toNat * 6) + 2) = some (.int .i64 n3) ∧ ∃ n4 : Int, h1.at b ((o + n.toNat * 6) + 3) = some (.int .i64 n4) ∧ ∃ s : ByteArray, h1.at b ((o + n.toNat * 6) + 4) = some (.string s) ∧ ∃ s1 : ByteArray, h1.at b ((o + n.toNat * 6) + 5) = some (.string s1) ∧ ∃ b1 o1, (l1.a : Option Addr) = some ⟨b1, o1, none⟩ ∧ ((0 : Int) ≤ n ∧ n < (l1.n : Int)) ∧ ∃ n5 : Int, h1.at b1 (o1 + n.toNat * 6) = some (.int .u64 n5) ∧ ∃ n6 : Int, h1.at b1 ((o1 + n.toNat * 6) + 1) = some (.int .i64 n6) ∧ ∃ n7 : Int, h1.at b1 ((o1 + n.toNat * 6) + 2) = some (.int .i64 n7) ∧ ∃ n8 : Int, h1.at b1 ((o1 + n.toNat * 6) + 3) = some (.int .i64 n8) ∧ ∃ s2 : ByteArray, h1.at b1 ((o1 + n.toNat * 6) + 4) = some (.string s2) ∧ ∃ s3 : ByteArray, h1.at b1 ((o1 + n.toNat * 6) + 5) = some (.string s3) ∧ par (([.int .u64 n1, .int .i64 n2, .int .i64 n3, .int .i64 n4, .string s, .string s1] : List Value) = [.int .u64 n5, .int .i64 n6, .int .i64 n7, .int .i64 n8, .string s2, .string s3]) (I (IntKind.wrap .i64 (n + 1)) h1 ∧ m (IntKind.wrap .i64 (n + 1)) h1 < m n h1) (Q (.bool false) h1)) (Q (.bool true) h1))) (Q (.bool false) h)
theorem F33.den (V l l1) : denF Tryz.prog [] [] V [(58, .loop [(5, .int .i64)] []), (1864, .order [0, 1, 2, 3, 4, 5, 6, 7, 8])] Tryz.f33 [.v (.slice l.a l.n l.c), .v (.slice l1.a l1.n l1.c)] = F33.T l l1 := by kernel_rfl
def F33.W (T33 : Sl → Sl → PT) (args : List Value) : PT := match args with
  | [.slice l_a l_n l_c, .slice l1_a l1_n l1_c] => T33 ⟨l_a, l_n, l_c⟩ ⟨l1_a, l1_n, l1_c⟩
  | _ => fun _ _ => False
def F33.V : List Value → PT := F33.W F33.T
theorem F33.ok : FOk Tryz.prog 33 F33.V := by
  refine ⟨⟨_, Tryz.func33, rfl, rfl⟩, fun args => ?_⟩
  unfold F33.V F33.W
  split
  · exact denF_okE (GOk.nil) noV_ok Tryz.func33 (F33.den noV ⟨_, _, _⟩ ⟨_, _, _⟩)
  · exact fun _ _ h => h.elim
@[reducible] def F30.G (T33 : Sl → Sl → PT) (n : Int) (l l1 : Sl) (s : ByteArray) (b : Bool) (n1 : Int) (l2 l3 : Sl) (s1 : ByteArray) (b1 : Bool) : PT := fun h Q =>
  par (n = n1) (T33 l l2 h fun r h1 => ∃ b2 : Bool, r = .bool b2 ∧ parB b2 (T33 l1 l3 h1 fun r1 h2 => ∃ b3 : Bool, r1 = .bool b3 ∧ parB b3 (par (s = s1) (par ((b : Bool) = b1) (Q (.bool true) h2) (Q (.bool false) h2)) (Q (.bool false) h2)) (Q (.bool false) h2)) (Q (.bool false) h1)) (Q (.bool false) h)
def F30.T := F30.G F33.T
theorem F30.gen (V T33 n l l1 s b n1 l2 l3 s1 b1) : denF Tryz.prog [2, 3] [(33, F33.W T33)] V [] Tryz.f30 [.v (.agg ⟨[.int .i64 n, .slice l.a l.n l.c, .slice l1.a l1.n l1.c, .string s, .bool b]⟩), .v (.agg ⟨[.int .i64 n1, .slice l2.a l2.n l2.c, .slice l3.a l3.n l3.c, .string s1, .bool b1]⟩)] = F30.G T33 n l l1 s b n1 l2 l3 s1 b1 := by kernel_rfl
def F30.W (T30 : Int → Sl → Sl → ByteArray → Bool → Int → Sl → Sl → ByteArray → Bool → PT) (args : List Value) : PT := match args with
  | [.agg ⟨[.int .i64 n, .slice l_a l_n l_c, .slice l1_a l1_n l1_c, .string s, .bool b]⟩, .agg ⟨[.int .i64 n1, .slice l2_a l2_n l2_c, .slice l3_a l3_n l3_c, .string s1, .bool b1]⟩] => T30 n ⟨l_a, l_n, l_c⟩ ⟨l1_a, l1_n, l1_c⟩ s b n1 ⟨l2_a, l2_n, l2_c⟩ ⟨l3_a, l3_n, l3_c⟩ s1 b1
  | _ => fun _ _ => False
def F30.V : List Value → PT := F30.W F30.T
theorem F30.ok : FOk Tryz.prog 30 F30.V := by
  refine ⟨⟨_, Tryz.func30, rfl, rfl⟩, fun args => ?_⟩
  unfold F30.V F30.W
  split
  · exact denF_okE (GOk.cons F33.ok (GOk.nil)) noV_ok Tryz.func30 (F30.gen noV F33.T _ ⟨_, _, _⟩ ⟨_, _, _⟩ _ _ _ ⟨_, _, _⟩ ⟨_, _, _⟩ _ _)
  · exact fun _ _ h => h.elim
end Go.Eng.YtbjnlacacapjiaaGreat
end
section
namespace Go.Eng
def bef (st : Bool) (sc : Nat → Int) (i j : Nat) : Prop := if st = true ∧ (i = 0 ∨ j = 0) ∧ i ≠ j then i < j else (sc j < sc i ∨ (sc i = sc j ∧ i < j))
def want (st : Bool) (sc : Nat → Int) (i : Nat) : Prop := 1000 ≤ sc i ∨ (i = 0 ∧ st = true)
theorem bef_asym {st : Bool} {sc : Nat → Int} {i j : Nat} (h : bef st sc i j) (k : bef st sc j i) : False := by
  unfold bef at h k
  by_cases c : st = true ∧ (i = 0 ∨ j = 0) ∧ i ≠ j
  · rw [if_pos c] at h
    rw [if_pos ⟨c.1, c.2.1.symm, fun e => c.2.2 e.symm⟩] at k
    omega
  · rw [if_neg c] at h
    rw [if_neg (fun d => c ⟨d.1, d.2.1.symm, fun e => d.2.2 e.symm⟩)] at k
    omega
structure IsOrder (n : Nat) (st : Bool) (sc : Nat → Int) (o : List Nat) : Prop where
  nd : o.Nodup
  mem : ∀ i, i ∈ o ↔ i < n ∧ want st sc i
  pw : o.Pairwise (bef st sc)
theorem pw_unique {R : Nat → Nat → Prop} (asy : ∀ i j, R i j → R j i → False) : ∀ {l m : List Nat}, l.Nodup → m.Nodup → (∀ i, i ∈ l ↔ i ∈ m) → l.Pairwise R → m.Pairwise R → l = m
  | [], [], _, _, _, _, _ => rfl
  | [], b :: m, _, _, h, _, _ => by have := (h b).2 List.mem_cons_self; cases this
  | a :: l, [], _, _, h, _, _ => by have := (h a).1 List.mem_cons_self; cases this
  | a :: l, b :: m, nl, nm, h, pl, pm => by
    obtain ⟨n1, n2⟩ := List.nodup_cons.1 nl
    obtain ⟨n3, n4⟩ := List.nodup_cons.1 nm
    obtain ⟨p1, p2⟩ := List.pairwise_cons.1 pl
    obtain ⟨p3, p4⟩ := List.pairwise_cons.1 pm
    have hab : a = b := by
      rcases List.mem_cons.1 ((h a).1 List.mem_cons_self) with e | e
      · exact e
      · rcases List.mem_cons.1 ((h b).2 List.mem_cons_self) with e' | e'
        · exact e'.symm
        · exact (asy _ _ (p1 b e') (p3 a e)).elim
    subst hab
    rw [pw_unique asy n2 n4 (fun i => ?_) p2 p4]
    constructor
    · intro hi
      rcases List.mem_cons.1 ((h i).1 (List.mem_cons_of_mem _ hi)) with e | e
      · subst e; exact absurd hi n1
      · exact e
    · intro hi
      rcases List.mem_cons.1 ((h i).2 (List.mem_cons_of_mem _ hi)) with e | e
      · subst e; exact absurd hi n3
      · exact e
theorem IsOrder.one {n : Nat} {st : Bool} {sc : Nat → Int} {o p : List Nat} (h : IsOrder n st sc o) (k : IsOrder n st sc p) : o = p :=
  pw_unique (fun _ _ => bef_asym) h.nd k.nd (fun i => by rw [h.mem, k.mem]) h.pw k.pw
structure Sel (n : Nat) (st : Bool) (sc z : Nat → Int) (o : List Nat) : Prop where
  nd : o.Nodup
  mem : ∀ i ∈ o, i < n ∧ want st sc i
  pw : o.Pairwise (bef st sc)
  z : ∀ i, i < n → z i = if i ∈ o then 0 else sc i
  s0 : st = true → 0 < n → 0 ∈ o
  lo : ∀ i ∈ o, ∀ j, j < n → j ∉ o → want st sc j → bef st sc i j
theorem Sel.done {n : Nat} {st : Bool} {sc z : Nat → Int} {o : List Nat} (S : Sel n st sc z o) (h : ∀ i, i < n → z i < 1000) : IsOrder n st sc o := by
  refine ⟨S.nd, fun i => ⟨fun hi => S.mem i hi, fun ⟨hi, hw⟩ => ?_⟩, S.pw⟩
  apply Classical.byContradiction
  intro hn
  have hz := S.z i hi
  rw [if_neg hn] at hz
  have := h i hi
  rcases hw with hw | ⟨h0, hs⟩
  · omega
  · subst h0; exact hn (S.s0 hs hi)
theorem Sel.next {n : Nat} {st : Bool} {sc z z' : Nat → Int} {o : List Nat} {b : Nat} (S : Sel n st sc z o) (hb : b < n) (h0 : 1000 ≤ z b) (h1 : ∀ i, i < n → z i ≤ z b) (h2 : ∀ i, i < b → z i < z b) (hz : ∀ i, i < n → z' i = if i = b then 0 else z i) : Sel n st sc z' (o ++ [b]) := by
  have hbo : b ∉ o := fun hm => by
    have := S.z b hb
    rw [if_pos hm] at this; omega
  have hzb := S.z b hb
  rw [if_neg hbo] at hzb
  have wb : want st sc b := .inl (by omega)
  have st0 : st = true → b ≠ 0 := fun hs e => by subst e; exact hbo (S.s0 hs hb)
  refine ⟨?_, fun i hi => ?_, ?_, fun i hi => ?_, fun hs hn => List.mem_append_left _ (S.s0 hs hn), fun i hi j hj hjo hw => ?_⟩
  · exact List.nodup_append.2 ⟨S.nd, by simp, fun x hx y hy => by rw [List.mem_singleton.1 hy]; rintro rfl; exact hbo hx⟩
  · rcases List.mem_append.1 hi with hi | hi
    · exact S.mem i hi
    · rw [List.mem_singleton.1 hi]; exact ⟨hb, wb⟩
  · refine List.pairwise_append.2 ⟨S.pw, List.pairwise_singleton _ _, fun x hx y hy => ?_⟩
    rw [List.mem_singleton.1 hy]
    exact S.lo x hx b hb hbo wb
  · rw [hz i hi]
    by_cases e : i = b
    · rw [if_pos e, if_pos (by rw [e]; simp)]
    · rw [if_neg e, S.z i hi]
      by_cases hm : i ∈ o
      · rw [if_pos hm, if_pos (List.mem_append_left _ hm)]
      · rw [if_neg hm, if_neg (fun hm' => by
          rcases List.mem_append.1 hm' with h | h
          · exact hm h
          · exact e (List.mem_singleton.1 h))]
  · have hjo' : j ∉ o := fun h => hjo (List.mem_append_left _ h)
    have hjb : j ≠ b := fun h => hjo (by rw [h]; simp)
    rcases List.mem_append.1 hi with hi | hi
    · exact S.lo i hi j hj hjo' hw
    · rw [List.mem_singleton.1 hi]
      have hj0 : st = true → j ≠ 0 := fun hs e => by subst e; exact hjo' (S.s0 hs hj)
      have hzj := S.z j hj
      rw [if_neg hjo'] at hzj
      have l1 := h1 j hj
      unfold bef
      rw [if_neg (fun c => c.2.1.elim (st0 c.1) (hj0 c.1))]
      by_cases hlt : j < b
      · have := h2 j hlt; exact .inl (by omega)
      · rcases Int.lt_or_eq_of_le l1 with h | h
        · exact .inl (by omega)
        · exact .inr ⟨by omega, by omega⟩
theorem Sel.start {n : Nat} {st : Bool} {sc z : Nat → Int} (hn : 0 < n) (hz : ∀ i, i < n → z i = if st = true ∧ i = 0 then 0 else sc i) : Sel n st sc z (if st = true then [0] else []) := by
  by_cases hs : st = true
  · rw [if_pos hs]
    refine ⟨by simp, fun i hi => ?_, List.pairwise_singleton _ _, fun i hi => ?_, fun _ _ => by simp, fun i hi j hj hjo hw => ?_⟩
    · rw [List.mem_singleton.1 hi]; exact ⟨hn, .inr ⟨rfl, hs⟩⟩
    · rw [hz i hi]
      by_cases e : i = 0
      · rw [if_pos ⟨hs, e⟩, if_pos (by rw [e]; simp)]
      · rw [if_neg (fun c => e c.2), if_neg (fun c => e (List.mem_singleton.1 c))]
    · rw [List.mem_singleton.1 hi]
      have hj0 : j ≠ 0 := fun e => hjo (by rw [e]; simp)
      unfold bef
      rw [if_pos ⟨hs, .inl rfl, fun e => hj0 e.symm⟩]
      omega
  · rw [if_neg hs]
    refine ⟨by simp, fun i hi => (by cases hi), List.Pairwise.nil, fun i hi => ?_, fun h => absurd h hs, fun i hi => (by cases hi)⟩
    rw [hz i hi, if_neg (fun c => hs c.1), if_neg (by simp)]
end Go.Eng
end
