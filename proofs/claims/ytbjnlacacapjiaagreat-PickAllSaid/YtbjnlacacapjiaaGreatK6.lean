/-
  TEXTS OF MINE, JOINED: ZP1 ZP2 ZP3 ZP4 ZJ6 ZJA ZP5 ZP6 ZJB.
-/
import Derived.Test.YtbjnlacacapjiaaGreatK5
import Derived.Test.YtbjnlacacapjiaaGreatK4
import Derived.Test.YtbjnlacacapjiaaGreatK2
import Derived.Test.YtbjnlacacapjiaaGreatProg
set_option linter.unusedSimpArgs false
set_option linter.unusedVariables false
section
set_option maxRecDepth 100000
namespace Go.Eng.YtbjnlacacapjiaaGreat
def tabsI (xs : List (Sl × List Tab)) (n : Int) : List Tab := if n < 0 then [] else match xs[n.toNat]? with | some x => x.2 | none => []
theorem tabsI_nat (xs : List (Sl × List Tab)) {i : Nat} {x : Sl × List Tab} (hx : xs[i]? = some x) : tabsI xs (i : Int) = x.2 := by
  unfold tabsI
  rw [if_neg (by omega), Int.toNat_natCast, hx]
theorem tabsI_out (xs : List (Sl × List Tab)) {n : Int} (hn : n < 0 ∨ (xs.length : Int) ≤ n) : tabsI xs n = [] := by
  unfold tabsI
  split
  · rfl
  · rw [List.getElem?_eq_none (by omega)]
def overM (from_ to : ByteArray) (l : List Tab) : List Tab := l.filter fun t => !blB t.greatest from_ && !blB to t.least
def weightW (l : List Tab) : Int := l.foldl (fun n t => IntKind.wrap .i64 (n + t.weight)) 0
def nV3 (l : List Int) : List Value := l.map fun n => .int .i64 n
theorem nV3_len (l : List Int) : (nV3 l).length = l.length := List.length_map _
theorem tb_new {h : Hp} {r : Sl} {ts : List Tab} (B : TB h r ts) : r.n = ts.length := by have := B.len; rw [tabV_len] at this; omega
section
variable {g h h' : Hp} {vb : Nat} {ls : Sl} {xs : List (Sl × List Tab)} {Q : Value → Hp → Prop} {n n1 n2 n3 n4 n5 n6 n7 n8 n9 n10 n11 n12 n13 n14 n15 n16 n17 n18 n19 n20 n21 n22 n23 n24 n25 n26 : Int}
theorem tables_s (V : Ver g h vb ls xs) (hs : ∀ x ∈ xs, x.2.length ≤ 60000) {n : Int} (hQ : ∀ h' r, Keep h h' → TB h' r (tabsI xs n) → NewN h r → Q (.slice r.a r.n r.c) h') : F20.T (some ⟨vb, 0, none⟩) n h Q := by
  unfold F20.T F20.G
  have hl := V.L.len
  refine has_spec V.v (fun c0 c1 => ⟨true, rfl, fun _ => ?_, fun h0 => (by cases h0)⟩) (fun hc => ⟨false, rfl, fun h0 => (by cases h0), fun _ => ?_⟩)
  · obtain ⟨i, rfl⟩ := Int.eq_ofNat_of_zero_le c0
    have hi : i < xs.length := by omega
    have hx : xs[i]? = some xs[i] := List.getElem?_eq_getElem hi
    generalize xs[i] = x at hx
    rw [tabsI_nat xs hx] at hQ
    have hm := List.mem_of_getElem? hx
    have hxs := hs x hm
    obtain ⟨b, ha, hat⟩ := V.L.rd hx
    have T := V.L.t x hm
    refine ⟨vb, 0, rfl, ls, at_of V.v 0, b, 0, ha, ⟨c0, c1⟩, x.1, by rw [Nat.zero_add, Int.toNat_natCast]; exact hat, tabV x.2, Buf.row T, tab_one _, ?_⟩
    refine append_buf (Buf.nil h 6 65) rfl (by rw [tabV_len, T.n]) (by have := T.n; dsimp only; omega) fun r h2 B2 _ U2 => ?_
    obtain ⟨K2, N2⟩ := NewN.upd (Keep.refl h) (NewN.nil h) U2
    exact hQ h2 r K2 (by unfold TB; simpa using B2) N2
  · rw [tabsI_out xs (by omega)] at hQ
    exact hQ h ⟨none, 0, 0⟩ (Keep.refl h) (Buf.nil _ _ _) (NewN.nil _)
theorem weight_s (V : Ver g h vb ls xs) (hs : ∀ x ∈ xs, x.2.length ≤ 60000) {n : Int} (hl : (tabsI xs n).length ≤ 60000) (hQ : ∀ h', Keep h h' → Q (.int .i64 (weightW (tabsI xs n))) h') : F58.T (some ⟨vb, 0, none⟩) n h Q := by
  unfold F58.T F58.G
  refine tables_s V hs fun h1 l K1 B1 _ => ⟨l, rfl, ?_⟩
  have hn := tb_new B1
  refine ⟨fun w i h2 => h2 = h1 ∧ ∃ P R, tabsI xs n = P ++ R ∧ i = (P.length : Int) ∧ w = weightW P, fun _ i _ => (tabsI xs n).length - i.toNat, ⟨rfl, [], _, rfl, rfl, rfl⟩, ?_⟩
  rintro w i h2 ⟨rfl, P, R, e, rfl, rfl⟩
  have e2 := congrArg List.length e
  rw [List.length_append] at e2
  refine ⟨fun hlt => ?_, fun hge => ?_⟩
  · rcases R with _ | ⟨t, R⟩
    · exact absurd hlt (by simp at e2; omega)
    rw [List.length_cons] at e2
    have hr := B1.row
    rw [e] at hr
    refine tab_rd hr rfl fun b o => ?_
    rw [next_i (n := 70000) (by omega) (by omega)]
    refine ⟨⟨rfl, P ++ [t], R, by rw [e]; simp, by simp, ?_⟩, by dsimp only; omega⟩
    unfold weightW
    rw [List.foldl_append]; rfl
  · have hR : R = [] := List.eq_nil_of_length_eq_zero (by omega)
    subst hR
    rw [List.append_nil] at e
    rw [e] at hQ
    exact hQ h2 K1
theorem over_s (V : Ver g h vb ls xs) (hs : ∀ x ∈ xs, x.2.length ≤ 60000) {n : Int} {s s1 : ByteArray} (hl : (tabsI xs n).length ≤ 60000) (hQ : ∀ h' r, Keep h h' → TB h' r (overM s s1 (tabsI xs n)) → NewN h r → Q (.slice r.a r.n r.c) h') : F65.T (some ⟨vb, 0, none⟩) n s s1 h Q := by
  unfold F65.T F65.G
  refine tables_s V hs fun h1 l K1 B1 _ => ⟨l, rfl, ?_⟩
  have hn := tb_new B1
  refine ⟨fun l1 i h2 => ∃ P R, tabsI xs n = P ++ R ∧ i = (P.length : Int) ∧ Keep h1 h2 ∧ TB h2 l1 (overM s s1 P) ∧ NewN h1 l1, fun _ i _ => (tabsI xs n).length - i.toNat, ⟨[], _, rfl, rfl, Keep.refl _, Buf.nil _ _ _, NewN.nil _⟩, ?_⟩
  rintro l1 i h2 ⟨P, R, e, rfl, K2, B2, N2⟩
  have e2 := congrArg List.length e
  rw [List.length_append] at e2
  refine ⟨fun hlt => ?_, fun hge => ?_⟩
  · rcases R with _ | ⟨t, R⟩
    · exact absurd hlt (by simp at e2; omega)
    rw [List.length_cons] at e2
    have hr := (B1.keep K2).row
    rw [e] at hr
    have hn1 := tb_new B2
    have hfl : (overM s s1 P).length ≤ P.length := List.length_filter_le _ _
    refine tab_rd hr rfl fun b o => ?_
    rw [next_i (n := 70000) (by omega) (by omega)]
    have skip : (blB t.greatest s = true ∨ blB s1 t.least = true) → (∃ P_1 R_1, tabsI xs n = P_1 ++ R_1 ∧ ((P.length + 1 : Nat) : Int) = (P_1.length : Int) ∧ Keep h1 h2 ∧ TB h2 l1 (overM s s1 P_1) ∧ NewN h1 l1) := fun hc => by
      refine ⟨P ++ [t], R, by rw [e]; simp, by simp, K2, ?_, N2⟩
      have : overM s s1 (P ++ [t]) = overM s s1 P := by
        unfold overM
        rw [List.filter_append]
        have : ([t] : List Tab).filter (fun t => !blB t.greatest s && !blB s1 t.least) = [] := by
          rcases hc with hc | hc <;> simp [hc]
        rw [this, List.append_nil]
      rw [this]; exact B2
    refine ⟨fun hlt1 => ⟨skip (.inl (blB_t.2 ((sLt_bl _ _).1 hlt1))), by dsimp only; omega⟩, fun hge1 => ⟨fun hle => ?_, fun hgt => ⟨skip (.inr ?_), by dsimp only; omega⟩⟩⟩
    · refine append_buf (us := t.cells) B2 rfl rfl (by omega) fun l3 h3 B3 _ U3 => ?_
      obtain ⟨K3, N3⟩ := NewN.upd K2 N2 U3
      refine ⟨⟨P ++ [t], R, by rw [e]; simp, by simp, K3, ?_, N3⟩, by dsimp only; omega⟩
      have : overM s s1 (P ++ [t]) = overM s s1 P ++ [t] := by
        unfold overM
        rw [List.filter_append]
        have h1 : blB t.greatest s = false := by
          cases hb : blB t.greatest s with
          | false => rfl
          | true => exact absurd ((sLt_bl _ _).2 (blB_t.1 hb)) hge1
        have h2 : blB s1 t.least = false := by
          cases hb : blB s1 t.least with
          | false => rfl
          | true => exact absurd (blB_t.1 hb) (sle.1 hle)
        congr 1
        simp [h1, h2]
      rw [this]
      unfold TB
      rw [tabV_app]
      have : tabV [t] = t.cells := by unfold tabV; simp
      rw [this]
      exact B3
    · cases hb : blB s1 t.least with
      | true => rfl
      | false => exact absurd (sle.2 fun hbl => by rw [blB_t.2 hbl] at hb; cases hb) hgt
  · have hR : R = [] := List.eq_nil_of_length_eq_zero (by omega)
    subst hR
    rw [List.append_nil] at e
    rw [e] at hQ
    exact hQ h2 l1 (K1.trans K2) B2 (N2.mono K1.dom)
theorem last_s (V : Ver g h vb ls xs) (h1 : 1 ≤ xs.length) (h5 : xs.length ≤ 5) (hn : n8 = (xs.length : Int)) (hQ : Q (.int .i64 ((xs.length : Int) - 1)) h) : F56.T n n1 n2 n3 n4 n5 n6 n7 n8 n9 n10 n11 n12 n13 n14 n15 n16 n17 n18 n19 n20 n21 n22 n23 n24 n25 n26 (some ⟨vb, 0, none⟩) h Q := by
  unfold F56.T F56.G
  refine levels_spec V ⟨_, rfl, ?_⟩
  have : iMin n8 (xs.length : Int) = (xs.length : Int) := by unfold iMin; rw [hn]; split <;> rfl
  rw [this, wrap_i64 (by omega) (by omega)]
  exact hQ
theorem share_s {a b : Int} (ha : 0 ≤ a ∧ a ≤ 9000000000000000) (hb : b ≠ 0) (hQ : Q (.int .i64 (Int.tdiv (1000 * a) b)) h) : F57.T a b h Q := by
  refine ⟨fun h0 => absurd h0 hb, fun _ => ⟨hb, ?_⟩⟩
  rw [wrap_i64 (n := 1000 * a) (by omega) (by omega)]
  have h1 : (Int.tdiv (1000 * a) b).natAbs ≤ (1000 * a).natAbs := by
    rw [Int.natAbs_tdiv]; exact Nat.div_le_self _ _
  rw [wrap_i64 (by omega) (by omega)]
  exact hQ
structure CfOk (c5 c7 c8 c9 c10 c12 : Int) : Prop where
  trig : 1 ≤ c5 ∧ c5 ≤ 16
  stop : 2 ≤ c7 ∧ c5 ≤ c7 ∧ c7 ≤ 16
  lv : 3 ≤ c8 ∧ c8 ≤ 5
  base : 4096 ≤ c9 ∧ c9 ≤ 16777216
  mult : 2 ≤ c10 ∧ c10 ≤ 10
  fan : 1 ≤ c12 ∧ c12 ≤ 16
def limit (base mult : Int) : Nat → Int
  | 0 => base
  | i + 1 => limit base mult i * mult
theorem limit_bd {base mult : Int} (hb : 4096 ≤ base ∧ base ≤ 16777216) (hm : 2 ≤ mult ∧ mult ≤ 10) : ∀ i, i ≤ 4 → 4096 ≤ limit base mult i ∧ limit base mult i ≤ 16777216 * 10 ^ i
  | 0, _ => by unfold limit; omega
  | i + 1, hi => by
    obtain ⟨h1, h2⟩ := limit_bd hb hm i (by omega)
    unfold limit
    constructor
    · have := Int.mul_le_mul h1 hm.1 (by omega) (by omega); omega
    · have := Int.mul_le_mul h2 hm.2 (by omega) (by
        have : (0 : Int) ≤ 16777216 * 10 ^ i := by
          have : (0 : Int) ≤ 10 ^ i := Int.pow_nonneg (by decide)
          omega
        exact this)
      rw [Int.pow_succ]
      have e : 16777216 * (10 ^ i * 10) = 16777216 * 10 ^ i * (10 : Int) := by rw [Int.mul_assoc]
      rw [e]; exact this
def scoreM (trig base mult : Int) (xs : List (Sl × List Tab)) (i : Nat) : Int :=
  if i = 0 then Int.tdiv (1000 * ((tabsI xs 0).length : Int)) trig else Int.tdiv (1000 * weightW (tabsI xs (i : Int))) (limit base mult (i - 1))
structure PkOk (xs : List (Sl × List Tab)) : Prop where
  len : 3 ≤ xs.length ∧ xs.length ≤ 5
  sz : ∀ x ∈ xs, x.2.length ≤ 60000
  w : ∀ i, 0 ≤ weightW (tabsI xs i) ∧ weightW (tabsI xs i) ≤ 9000000000000000
theorem PkOk.tl {xs : List (Sl × List Tab)} (P : PkOk xs) (n : Int) : (tabsI xs n).length ≤ 60000 := by
  unfold tabsI
  split
  · simp
  · split
    · next x hx => exact P.sz x (List.mem_of_getElem? hx)
    · simp
theorem scores_s (V : Ver g h vb ls xs) (P : PkOk xs) (O : CfOk n5 n7 n8 n9 n10 n12) (h8 : n8 = (xs.length : Int)) (hQ : ∀ h' r, Keep h h' → Buf h' r 1 3 (nV3 ((List.range (xs.length - 1)).map (scoreM n5 n9 n10 xs))) → NewN h r → Q (.slice r.a r.n r.c) h') : F24.T n n1 n2 n3 n4 n5 n6 n7 n8 n9 n10 n11 n12 n13 n14 n15 n16 n17 n18 n19 n20 n21 n22 n23 n24 n25 n26 (some ⟨vb, 0, none⟩) h Q := by
  have hx := P.len
  unfold F24.T F24.G
  refine last_s V (by omega) (by omega) h8 ⟨_, rfl, ?_⟩
  have hmx : iMax ((xs.length : Int) - 1) 0 = (xs.length : Int) - 1 := by unfold iMax; rw [if_neg (by omega)]
  rw [hmx]
  refine ⟨fun l lim i h2 => ∃ k : Nat, i = (k : Int) ∧ k ≤ xs.length - 1 ∧ lim = limit n9 n10 (k - 1) ∧ Keep h h2 ∧ Buf h2 l 1 3 (nV3 ((List.range k).map (scoreM n5 n9 n10 xs))) ∧ NewN h l, fun _ _ i _ => xs.length - i.toNat, ⟨0, rfl, Nat.zero_le _, rfl, Keep.refl _, Buf.nil _ _ _, NewN.nil _⟩, ?_⟩
  rintro l lim i h2 ⟨k, rfl, hk, rfl, K2, B2, N2⟩
  have hln : l.n = k := by have := B2.len; rw [nV3_len, List.length_map, List.length_range] at this; omega
  have V2 := V.keep K2
  have snoc : nV3 ((List.range (k + 1)).map (scoreM n5 n9 n10 xs)) = nV3 ((List.range k).map (scoreM n5 n9 n10 xs)) ++ [.int .i64 (scoreM n5 n9 n10 xs k)] := by
    rw [List.range_succ, List.map_append]; unfold nV3; rw [List.map_append]; rfl
  refine ⟨fun hlt => ⟨fun h0 => ?_, fun h0 => ?_⟩, fun hge => ?_⟩
  · have hk0 : k = 0 := by omega
    subst hk0
    refine tables_s V2 P.sz fun h3 l1 K3 B3 _ => ⟨l1, rfl, ?_⟩
    have h0l := P.tl 0
    have hl1 := tb_new B3
    rw [hl1]
    refine share_s ⟨by omega, by omega⟩ (by have := O.trig; omega) ⟨_, rfl, ?_⟩
    refine append_buf (us := [.int .i64 (Int.tdiv (1000 * ((tabsI xs 0).length : Int)) n5)]) (B2.keep K3) rfl rfl (by omega) fun l2 h5 B5 _ U5 => ?_
    obtain ⟨K5, N5⟩ := NewN.upd (K2.trans K3) N2 U5
    rw [next_i (n := 100) (by omega) (by omega)]
    refine ⟨⟨1, rfl, by omega, rfl, K5, ?_, N5⟩, by dsimp only; omega⟩
    rw [snoc]; exact B5
  · have hk0 : k ≠ 0 := by omega
    have hL := limit_bd O.base O.mult (k - 1) (by omega)
    have hL2 := limit_bd O.base O.mult k (by omega)
    have hp : (10 : Int) ^ k ≤ 10000 := by
      have : k = 1 ∨ k = 2 ∨ k = 3 ∨ k = 4 := by omega
      rcases this with rfl | rfl | rfl | rfl <;> decide
    have hlk : limit n9 n10 (k - 1) * n10 = limit n9 n10 k := by
      obtain ⟨j, rfl⟩ : ∃ j, k = j + 1 := ⟨k - 1, by omega⟩
      rfl
    refine weight_s V2 P.sz (P.tl _) fun h3 K3 => ⟨_, rfl, ?_⟩
    refine share_s (P.w _) (by omega) ⟨_, rfl, ?_⟩
    refine append_buf (us := [.int .i64 (Int.tdiv (1000 * weightW (tabsI xs (k : Int))) (limit n9 n10 (k - 1)))]) (B2.keep K3) rfl rfl (by omega) fun l2 h5 B5 _ U5 => ?_
    obtain ⟨K5, N5⟩ := NewN.upd (K2.trans K3) N2 U5
    rw [next_i (n := 100) (by omega) (by omega), hlk, wrap_i64 (by omega) (by omega)]
    refine ⟨⟨k + 1, rfl, by omega, by rw [Nat.add_sub_cancel], K5, ?_, N5⟩, by dsimp only; omega⟩
    rw [snoc]
    have : scoreM n5 n9 n10 xs k = Int.tdiv (1000 * weightW (tabsI xs (k : Int))) (limit n9 n10 (k - 1)) := by unfold scoreM; rw [if_neg hk0]
    rw [this]; exact B5
  · have hk2 : k = xs.length - 1 := by omega
    subst hk2
    exact hQ h2 l K2 B2 N2
theorem stopped_s (V : Ver g h vb ls xs) (P : PkOk xs) (hQ : ∀ h', Keep h h' → Q (.bool (decide (n7 ≤ ((tabsI xs 0).length : Int)))) h') : F60.T n n1 n2 n3 n4 n5 n6 n7 n8 n9 n10 n11 n12 n13 n14 n15 n16 n17 n18 n19 n20 n21 n22 n23 n24 n25 n26 (some ⟨vb, 0, none⟩) h Q := by
  unfold F60.T F60.G
  refine tables_s V P.sz fun h1 l K1 B1 _ => ⟨l, rfl, ?_⟩
  rw [tb_new B1]
  refine ⟨fun hc => ?_, fun hc => ?_⟩
  · have := hQ h1 K1; rw [decide_eq_true hc] at this; exact this
  · have := hQ h1 K1; rw [decide_eq_false hc] at this; exact this
theorem cmp_s {a b : Int} (hQ : ∀ c : Int, (c < 0 ↔ a < b) → Q (.int .i64 c) h) : F63.T a b h Q := by
  unfold F63.T F63.G
  have hn : ∀ (x : Int) (K : Value → Hp → Prop), K (.bool false) h → F81.T x h K := fun x K hK => by
    unfold F81.T
    first
      | exact ⟨fun hne => absurd rfl hne, fun _ => hK⟩
      | exact ⟨fun _ => hK, fun hne => absurd rfl hne⟩
      | exact hK
  refine hn _ _ ⟨false, rfl, fun e => (by cases e), fun _ => hn _ _ ⟨false, rfl, fun e => (by cases e), fun _ => ⟨fun hlt => hQ _ ⟨fun _ => hlt, fun _ => by decide⟩, fun hge => ⟨fun hgt => hQ _ ⟨fun h => absurd h (by decide), fun h => by omega⟩, fun hle => hQ _ ⟨fun h => absurd h (by decide), fun h => by omega⟩⟩⟩⟩⟩
theorem cfg_rd {t b : Nat} (hb : h b = some (.cells ⟨[.int .i64 n, .int .i64 n1, .int .i64 n2, .int .i64 n3, .int .i64 n4, .int .i64 n5, .int .i64 n6, .int .i64 n7, .int .i64 n8, .int .i64 n9, .int .i64 n10, .int .i64 n11, .int .i64 n12, .int .i64 n13, .int .i64 n14, .int .i64 n15, .int .i64 n16, .int .i64 n17, .int .i64 n18, .int .i64 n19, .int .i64 n20, .int .i64 n21, .int .i64 n22, .int .i64 n23, .int .i64 n24, .int .i64 n25, .int .i64 n26]⟩ t (0, 0))) {K : Int → Int → Int → Int → Int → Int → Int → Int → Int → Int → Int → Int → Int → Int → Int → Int → Int → Int → Int → Int → Int → Int → Int → Int → Int → Int → Int → Prop} (hK : K n n1 n2 n3 n4 n5 n6 n7 n8 n9 n10 n11 n12 n13 n14 n15 n16 n17 n18 n19 n20 n21 n22 n23 n24 n25 n26) : ∃ m0 : Int, h.at b 0 = some (.int .i64 m0) ∧ ∃ m1 : Int, h.at b 1 = some (.int .i64 m1) ∧ ∃ m2 : Int, h.at b 2 = some (.int .i64 m2) ∧ ∃ m3 : Int, h.at b 3 = some (.int .i64 m3) ∧ ∃ m4 : Int, h.at b 4 = some (.int .i64 m4) ∧ ∃ m5 : Int, h.at b 5 = some (.int .i64 m5) ∧ ∃ m6 : Int, h.at b 6 = some (.int .i64 m6) ∧ ∃ m7 : Int, h.at b 7 = some (.int .i64 m7) ∧ ∃ m8 : Int, h.at b 8 = some (.int .i64 m8) ∧ ∃ m9 : Int, h.at b 9 = some (.int .i64 m9) ∧ ∃ m10 : Int, h.at b 10 = some (.int .i64 m10) ∧ ∃ m11 : Int, h.at b 11 = some (.int .i64 m11) ∧ ∃ m12 : Int, h.at b 12 = some (.int .i64 m12) ∧ ∃ m13 : Int, h.at b 13 = some (.int .i64 m13) ∧ ∃ m14 : Int, h.at b 14 = some (.int .i64 m14) ∧ ∃ m15 : Int, h.at b 15 = some (.int .i64 m15) ∧ ∃ m16 : Int, h.at b 16 = some (.int .i64 m16) ∧ ∃ m17 : Int, h.at b 17 = some (.int .i64 m17) ∧ ∃ m18 : Int, h.at b 18 = some (.int .i64 m18) ∧ ∃ m19 : Int, h.at b 19 = some (.int .i64 m19) ∧ ∃ m20 : Int, h.at b 20 = some (.int .i64 m20) ∧ ∃ m21 : Int, h.at b 21 = some (.int .i64 m21) ∧ ∃ m22 : Int, h.at b 22 = some (.int .i64 m22) ∧ ∃ m23 : Int, h.at b 23 = some (.int .i64 m23) ∧ ∃ m24 : Int, h.at b 24 = some (.int .i64 m24) ∧ ∃ m25 : Int, h.at b 25 = some (.int .i64 m25) ∧ ∃ m26 : Int, h.at b 26 = some (.int .i64 m26) ∧ K m0 m1 m2 m3 m4 m5 m6 m7 m8 m9 m10 m11 m12 m13 m14 m15 m16 m17 m18 m19 m20 m21 m22 m23 m24 m25 m26 :=
  ⟨n, at_of hb 0, n1, at_of hb 1, n2, at_of hb 2, n3, at_of hb 3, n4, at_of hb 4, n5, at_of hb 5, n6, at_of hb 6, n7, at_of hb 7, n8, at_of hb 8, n9, at_of hb 9, n10, at_of hb 10, n11, at_of hb 11, n12, at_of hb 12, n13, at_of hb 13, n14, at_of hb 14, n15, at_of hb 15, n16, at_of hb 16, n17, at_of hb 17, n18, at_of hb 18, n19, at_of hb 19, n20, at_of hb 20, n21, at_of hb 21, n22, at_of hb 22, n23, at_of hb 23, n24, at_of hb 24, n25, at_of hb 25, n26, at_of hb 26, hK⟩
end
end Go.Eng.YtbjnlacacapjiaaGreat
end
section
set_option maxRecDepth 100000
namespace Go.Eng.YtbjnlacacapjiaaGreat
def iV (w : List Nat) : List Value := w.map fun i : Nat => Value.int .i64 (i : Int)
theorem iV_len (w : List Nat) : (iV w).length = w.length := List.length_map _
def lessC (st : Bool) (sc : Nat → Int) (i j : Nat) : Prop := if st = true ∧ (i = 0 ∨ j = 0) ∧ i ≠ j then i < j else sc j < sc i
theorem lessC_bef {st : Bool} {sc : Nat → Int} {i j : Nat} (h : lessC st sc i j) : bef st sc i j := by
  unfold lessC at h
  unfold bef
  split
  · next c => rw [if_pos c] at h; exact h
  · next c => rw [if_neg c] at h; exact .inl h
theorem not_less_bef {st : Bool} {sc : Nat → Int} {i j : Nat} (hij : j < i) (h : ¬ lessC st sc i j) : bef st sc j i := by
  unfold lessC at h
  unfold bef
  by_cases c : st = true ∧ (i = 0 ∨ j = 0) ∧ i ≠ j
  · rw [if_pos c] at h
    rw [if_pos ⟨c.1, c.2.1.symm, fun e => c.2.2 e.symm⟩]
    exact hij
  · rw [if_neg c] at h
    rw [if_neg (fun d => c ⟨d.1, d.2.1.symm, fun e => d.2.2 e.symm⟩)]
    omega
theorem bef_trans {st : Bool} {sc : Nat → Int} {i j k : Nat} (h : bef st sc i j) (g : bef st sc j k) : bef st sc i k := by
  unfold bef at h g ⊢
  cases st with
  | false => simp at h g ⊢; omega
  | true =>
    simp only [true_and] at h g ⊢
    by_cases h0 : i = 0 <;> by_cases h1 : j = 0 <;> by_cases h2 : k = 0
    all_goals simp only [h0, h1, h2, true_or, or_true, or_self, ne_eq, not_true_eq_false, not_false_eq_true, and_true, and_false, true_and, false_and, if_true, if_false] at h g ⊢
    all_goals first | omega | (simp_all; done) | skip
    all_goals (repeat' split at h) <;> (repeat' split at g) <;> (repeat' split) <;> omega
section
variable {g h h' H0 : Hp} {vb b b1 b2 : Nat} {ls l sl : Sl} {xs : List (Sl × List Tab)} {Q : Value → Hp → Prop} {n n1 n2 n3 n4 n5 n6 n7 n8 n9 n10 n11 n12 n13 n14 n15 n16 n17 n18 n19 n20 n21 n22 n23 n24 n25 n26 : Int}
structure Env (g h : Hp) (vb b b1 b2 : Nat) (ls sl : Sl) (xs : List (Sl × List Tab)) (sc : List Int) (n n1 n2 n3 n4 n5 n6 n7 n8 n9 n10 n11 n12 n13 n14 n15 n16 n17 n18 n19 n20 n21 n22 n23 n24 n25 n26 : Int) : Prop where
  V : Ver g h vb ls xs
  c : h b = some (.cells ⟨[.int .i64 n, .int .i64 n1, .int .i64 n2, .int .i64 n3, .int .i64 n4, .int .i64 n5, .int .i64 n6, .int .i64 n7, .int .i64 n8, .int .i64 n9, .int .i64 n10, .int .i64 n11, .int .i64 n12, .int .i64 n13, .int .i64 n14, .int .i64 n15, .int .i64 n16, .int .i64 n17, .int .i64 n18, .int .i64 n19, .int .i64 n20, .int .i64 n21, .int .i64 n22, .int .i64 n23, .int .i64 n24, .int .i64 n25, .int .i64 n26]⟩ 23 (0, 0))
  p : h b1 = some (.cells ⟨[.pointer (some ⟨vb, 0, none⟩)]⟩ 29 (0, 0))
  s : h b2 = some (.cells ⟨[.slice sl.a sl.n sl.c]⟩ 35 (0, 0))
  r : Buf h sl 1 3 (nV3 sc)
theorem Env.keep {sc : List Int} (E : Env g h vb b b1 b2 ls sl xs sc n n1 n2 n3 n4 n5 n6 n7 n8 n9 n10 n11 n12 n13 n14 n15 n16 n17 n18 n19 n20 n21 n22 n23 n24 n25 n26) (K : Keep h h') : Env g h' vb b b1 b2 ls sl xs sc n n1 n2 n3 n4 n5 n6 n7 n8 n9 n10 n11 n12 n13 n14 n15 n16 n17 n18 n19 n20 n21 n22 n23 n24 n25 n26 := ⟨E.V.keep K, K _ _ E.c, K _ _ E.p, K _ _ E.s, E.r.keep K⟩
theorem sc_rd {sc : List Int} (B : Buf h sl 1 3 (nV3 sc)) {i : Nat} (hi : i < sc.length) : ∃ b, sl.a = some ⟨b, 0, none⟩ ∧ ((0 : Int) ≤ (i : Int) ∧ (i : Int) < (sl.n : Int)) ∧ h.at b (0 + ((i : Int)).toNat) = some (.int .i64 (sc[i]?.getD 0)) := by
  have hl := B.len
  rw [nV3_len] at hl
  obtain ⟨b, ha, hat, _⟩ := buf_set B (k := i) (by rw [nV3_len]; exact hi)
  refine ⟨b, ha, ⟨by omega, by omega⟩, ?_⟩
  rw [Int.toNat_natCast, Nat.zero_add, hat]
  unfold nV3
  rw [List.getElem?_map, List.getElem?_eq_getElem hi]
  rfl
theorem cmp56_s {sc : List Int} (P : PkOk xs) (E : Env g h vb b b1 b2 ls sl xs sc n n1 n2 n3 n4 n5 n6 n7 n8 n9 n10 n11 n12 n13 n14 n15 n16 n17 n18 n19 n20 n21 n22 n23 n24 n25 n26) {i j : Nat} (hi : i < sc.length) (hj : j < sc.length) (hQ : ∀ h' (c : Int), Keep h h' → (c < 0 ↔ lessC (decide (n7 ≤ ((tabsI xs 0).length : Int))) (fun k => sc[k]?.getD 0) i j) → Q (.int .i64 c) h') : F62.T (i : Int) (j : Int) b 0 b1 0 b2 0 h Q := by
  have key : ∀ h1, Keep h h1 → ¬ (decide (n7 ≤ ((tabsI xs 0).length : Int)) = true ∧ (i = 0 ∨ j = 0) ∧ i ≠ j) → ∃ l : Sl, h1.at b2 0 = some (.slice l.a l.n l.c) ∧ ∃ b3 o3, (l.a : Option Addr) = some ⟨b3, o3, none⟩ ∧ ((0 : Int) ≤ (j : Int) ∧ (j : Int) < (l.n : Int)) ∧ ∃ n2 : Int, h1.at b3 (o3 + (j : Int).toNat) = some (.int .i64 n2) ∧ ∃ l1 : Sl, h1.at b2 0 = some (.slice l1.a l1.n l1.c) ∧ ∃ b4 o4, (l1.a : Option Addr) = some ⟨b4, o4, none⟩ ∧ ((0 : Int) ≤ (i : Int) ∧ (i : Int) < (l1.n : Int)) ∧ ∃ n3 : Int, h1.at b4 (o4 + (i : Int).toNat) = some (.int .i64 n3) ∧ F63.T n2 n3 h1 fun r h2 => ∃ n4 : Int, r = .int .i64 n4 ∧ Q (.int .i64 n4) h2 := by
    intro h1 K1 hc
    have E1 := E.keep K1
    obtain ⟨b3, ha3, hr3, hat3⟩ := sc_rd E1.r hj
    obtain ⟨b4, ha4, hr4, hat4⟩ := sc_rd E1.r hi
    refine ⟨sl, at_of E1.s 0, b3, 0, ha3, hr3, _, hat3, sl, at_of E1.s 0, b4, 0, ha4, hr4, _, hat4, cmp_s fun c hcc => ⟨c, rfl, hQ h1 c K1 ?_⟩⟩
    unfold lessC
    rw [if_neg hc]
    exact hcc
  have special : ∀ (J : Hp → Prop), (∀ h1, Keep h h1 → ¬ (decide (n7 ≤ ((tabsI xs 0).length : Int)) = true ∧ (i = 0 ∨ j = 0) ∧ i ≠ j) → J h1) → (i = 0 ∨ j = 0) → (i : Int) ≠ (j : Int) → F60.T n n1 n2 n3 n4 n5 n6 n7 n8 n9 n10 n11 n12 n13 n14 n15 n16 n17 n18 n19 n20 n21 n22 n23 n24 n25 n26 (some ⟨vb, 0, none⟩) h fun r1 h3 => ∃ b5 : Bool, r1 = .bool b5 ∧ parB b5 (F63.T (i : Int) (j : Int) h3 fun r2 h4 => ∃ n32 : Int, r2 = .int .i64 n32 ∧ Q (.int .i64 n32) h4) (J h3) := by
    intro J hJ h0 hne
    refine stopped_s E.V P fun h1 K1 => ⟨_, rfl, fun hs => ?_, fun hs => hJ h1 K1 fun c => (by rw [c.1] at hs; cases hs)⟩
    refine cmp_s fun c hcc => ⟨c, rfl, hQ h1 c K1 ?_⟩
    unfold lessC
    rw [if_pos ⟨hs, h0, fun e => hne (by rw [e])⟩, hcc]
    omega
  unfold F62.T F62.G
  refine ⟨fun h1 => Keep h h1 ∧ ¬ (decide (n7 ≤ ((tabsI xs 0).length : Int)) = true ∧ (i = 0 ∨ j = 0) ∧ i ≠ j), fun h1 hJ => key h1 hJ.1 hJ.2, fun h0 => ⟨fun he => ⟨Keep.refl _, fun c => c.2.2 (by omega)⟩, fun he => ?_⟩, fun h0 => ⟨fun h1 => ⟨fun he => ⟨Keep.refl _, fun c => c.2.2 (by omega)⟩, fun he => ?_⟩, fun h1 => ⟨Keep.refl _, fun c => by omega⟩⟩⟩
  · exact cfg_rd E.c ⟨some ⟨vb, 0, none⟩, at_of E.p 0, special _ (fun h1 a c => ⟨a, c⟩) (.inl (by omega)) he⟩
  · exact cfg_rd E.c ⟨some ⟨vb, 0, none⟩, at_of E.p 0, special _ (fun h1 a c => ⟨a, c⟩) (.inr (by omega)) he⟩
theorem ib_rd {w : List Nat} {P R : List Nat} {a : Nat} (B : Buf h l 1 3 (iV w)) (e : w = P ++ a :: R) : ∃ b, l.a = some ⟨b, 0, none⟩ ∧ ((0 : Int) ≤ (P.length : Int) ∧ (P.length : Int) < (l.n : Int)) ∧ h.at b (0 + ((P.length : Int)).toNat) = some (.int .i64 (a : Int)) ∧ h.canW b (0 + ((P.length : Int)).toNat) 1 ∧ ∀ c : Nat, Upd h (h.wr b (0 + ((P.length : Int)).toNat) [.int .i64 (c : Int)]) l l ∧ Buf (h.wr b (0 + ((P.length : Int)).toNat) [.int .i64 (c : Int)]) l 1 3 (iV (P ++ c :: R)) := by
  subst e
  have hl := B.len
  rw [iV_len, List.length_append, List.length_cons] at hl
  obtain ⟨b, ha, hat, hc, hw⟩ := buf_set B (k := P.length) (by rw [iV_len, List.length_append, List.length_cons]; omega)
  rw [Int.toNat_natCast, Nat.zero_add]
  refine ⟨b, ha, ⟨by omega, by omega⟩, ?_, hc, fun c => ?_⟩
  · rw [hat]
    unfold iV
    rw [List.getElem?_map, List.getElem?_append_right (Nat.le_refl _), Nat.sub_self]
    rfl
  · obtain ⟨U, B'⟩ := hw (.int .i64 (c : Int))
    refine ⟨U, ?_⟩
    have : (iV (P ++ a :: R)).set P.length (.int .i64 (c : Int)) = iV (P ++ c :: R) := by
      unfold iV
      rw [List.map_append, List.map_append, List.set_append_right _ _ (by rw [List.length_map]; exact Nat.le_refl _), List.length_map, Nat.sub_self]
      rfl
    rw [← this]; exact B'
theorem pw_ins {R : Nat → Nat → Prop} (tr : ∀ {i j k}, R i j → R j k → R i k) {P S : List Nat} {x : Nat} (h : (P ++ S).Pairwise R) (h1 : P = [] ∨ ∃ P' y, P = P' ++ [y] ∧ R y x) (h2 : ∀ s ∈ S, R x s) : (P ++ x :: S).Pairwise R := by
  obtain ⟨p1, p2, p3⟩ := List.pairwise_append.1 h
  refine List.pairwise_append.2 ⟨p1, List.pairwise_cons.2 ⟨h2, p2⟩, fun a ha c hc => ?_⟩
  rcases List.mem_cons.1 hc with rfl | hc
  · rcases h1 with rfl | ⟨P', y, rfl, hy⟩
    · cases ha
    · rcases List.mem_append.1 ha with ha | ha
      · have := (List.pairwise_append.1 p1).2.2 a ha y (by simp)
        exact tr this hy
      · rw [List.mem_singleton.1 ha]; exact hy
  · exact p3 a ha c hc
theorem ins_s {sc : List Int} {w : List Nat} (Pk : PkOk xs) (E : Env g H0 vb b b1 b2 ls sl xs sc n n1 n2 n3 n4 n5 n6 n7 n8 n9 n10 n11 n12 n13 n14 n15 n16 n17 n18 n19 n20 n21 n22 n23 n24 n25 n26) (K : Keep H0 h) (N : NewN H0 l) (B : Buf h l 1 3 (iV w)) (hw : w.length ≤ 20) (hlt : ∀ a ∈ w, a < sc.length) (rise : w.Pairwise (· < ·))
    (hQ : ∀ h' w', Keep H0 h' → Buf h' l 1 3 (iV w') → w'.Perm w → w'.Pairwise (bef (decide (n7 ≤ ((tabsI xs 0).length : Int))) (fun k => sc[k]?.getD 0)) → Q (.tuple ⟨[]⟩) h') : F88.T l 0 (w.length : Int) b 0 b1 0 b2 0 h Q := by
  generalize hst : decide (n7 ≤ ((tabsI xs 0).length : Int)) = st at hQ
  unfold F88.T F88.G
  rw [show IntKind.wrap .i64 ((0 : Int) + 1) = 1 from rfl]
  rcases w with _ | ⟨m0, M0⟩
  · refine ⟨fun n g => n = 1 ∧ g = h, fun _ _ => 0, ⟨rfl, rfl⟩, ?_⟩
    rintro n g' ⟨rfl, rfl⟩
    exact ⟨fun hlt => absurd hlt (by simp), fun _ => hQ g' [] K B (List.Perm.refl _) List.Pairwise.nil⟩
  simp only [List.length_cons] at hw
  refine ⟨fun n h1 => ∃ D R, Keep H0 h1 ∧ Buf h1 l 1 3 (iV (D ++ R)) ∧ (D ++ R).Perm (m0 :: M0) ∧ D.Pairwise (bef st (fun k => sc[k]?.getD 0)) ∧ R.Pairwise (· < ·) ∧ (∀ d ∈ D, ∀ r ∈ R, d < r) ∧ n = (D.length : Int) ∧ D.length + R.length = M0.length + 1, fun n _ => ((M0.length + 1 : Nat) - n).toNat, ⟨[m0], M0, K, B, List.Perm.refl _, List.pairwise_singleton _ _, (List.pairwise_cons.1 rise).2, fun d hd r hr => by rw [List.mem_singleton.1 hd]; exact (List.pairwise_cons.1 rise).1 r hr, rfl, by simp; omega⟩, ?_⟩
  rintro n h1 ⟨D, R, K1, B1, hp, hs, hR, hDR, rfl, hlen⟩
  refine ⟨fun hlt1 => ?_, fun hge => ?_⟩
  · rcases R with _ | ⟨x, R⟩
    · simp at hlt1 hlen; omega
    simp only [List.length_cons] at hlen
    rw [wr64 (x := (D.length : Int) + 1) (by omega) (by omega)]
    have hxm : x ∈ m0 :: M0 := hp.subset (by simp)
    obtain ⟨r1, r2⟩ := List.pairwise_cons.1 hR
    have out : ∀ {h2 : Hp} {P S' : List Nat}, Keep H0 h2 → Buf h2 l 1 3 (iV (P ++ x :: (S' ++ R))) → P ++ S' = D → (P ++ x :: S').Pairwise (bef st (fun k => sc[k]?.getD 0)) → (∃ D_1 R, Keep H0 h2 ∧ Buf h2 l 1 3 (iV (D_1 ++ R)) ∧ (D_1 ++ R).Perm (m0 :: M0) ∧ D_1.Pairwise (bef st (fun k => sc[k]?.getD 0)) ∧ R.Pairwise (· < ·) ∧ (∀ d ∈ D_1, ∀ r ∈ R, d < r) ∧ ((D.length : Int) + 1) = (D_1.length : Int) ∧ D_1.length + R.length = M0.length + 1) := by
      intro h2 P S' K2 B2 hD hpw
      refine ⟨P ++ x :: S', R, K2, by simpa using B2, ?_, hpw, r2, fun d hd r hr => ?_, by rw [← hD]; simp; omega, by rw [← hD] at hlen; simp at hlen ⊢; omega⟩
      · refine List.Perm.trans ?_ hp
        rw [← hD]
        have e1 : (P ++ x :: S' ++ R) = P ++ ([x] ++ S' ++ R) := by simp
        have e2 : (P ++ S' ++ x :: R) = P ++ (S' ++ [x] ++ R) := by simp
        rw [e1, e2]
        exact ((List.perm_append_comm (l₁ := [x]) (l₂ := S')).append_right R).append_left P
      · rcases List.mem_append.1 hd with hd | hd
        · exact hDR d (by rw [← hD]; simp [hd]) r (List.mem_cons_of_mem _ hr)
        · rcases List.mem_cons.1 hd with rfl | hd
          · exact r1 r hr
          · exact hDR d (by rw [← hD]; simp [hd]) r (List.mem_cons_of_mem _ hr)
    refine ⟨fun n3 h2 => ∃ P S', Keep H0 h2 ∧ Buf h2 l 1 3 (iV (P ++ x :: (S' ++ R))) ∧ P ++ S' = D ∧ (∀ s ∈ S', bef st (fun k => sc[k]?.getD 0) x s) ∧ n3 = (P.length : Int), fun n3 _ => n3.toNat, ⟨D, [], K1, B1, by simp, fun s hs => (by cases hs), rfl⟩, ?_⟩
    rintro n3 h2 ⟨P, S', K2, B2, hD, hb, rfl⟩
    have hDl : P.length + S'.length = D.length := by rw [← hD]; simp
    refine ⟨fun hlt2 => ?_, fun hge2 => ?_⟩
    · have hP : P ≠ [] := fun e => by subst e; simp at hlt2
      obtain ⟨P', y, rfl⟩ := snoc_of hP
      have hyD : y ∈ D := by rw [← hD]; simp
      have hym : y ∈ m0 :: M0 := hp.subset (by simp [hyD])
      have hyx : y < x := hDR y hyD x (by simp)
      simp only [List.length_append, List.length_singleton] at hDl hlt2
      have hi1 : (((P' ++ [y]).length : Nat) : Int) = (P'.length : Int) + 1 := by simp
      have hw1 : IntKind.wrap .i64 ((((P' ++ [y]).length : Nat) : Int) - 1) = (P'.length : Int) := by rw [hi1, wr64 (by omega) (by omega)]; omega
      rw [hw1]
      obtain ⟨ba, a1, a2, a3, a4, a5⟩ := ib_rd B2 (P := P' ++ [y]) (a := x) (R := S' ++ R) rfl
      obtain ⟨bb, c1, c2, c3, c4, c5⟩ := ib_rd B2 (P := P') (a := y) (R := x :: (S' ++ R)) (by simp)
      have hbb : bb = ba := by rw [a1] at c1; simp only [Option.some.injEq, Addr.mk.injEq, and_true] at c1; exact c1.symm
      subst hbb
      refine ⟨_, 0, a1, a2, _, a3, _, 0, c1, c2, _, c3, ?_⟩
      refine cmp56_s Pk (E.keep K2) (hlt x hxm) (hlt y hym) fun h3 c K3 hc => ⟨c, rfl, fun hneg => ?_, fun hpos => ?_⟩
      · rw [hst] at hc
        have hl := hc.1 hneg
        have B3 := B2.keep K3
        have K03 := K2.trans K3
        obtain ⟨bd, d1, d2, d3, d4, d5⟩ := ib_rd B3 (P := P') (a := y) (R := x :: (S' ++ R)) (by simp)
        have hbd : bd = bb := by rw [a1] at d1; simp only [Option.some.injEq, Addr.mk.injEq, and_true] at d1; exact d1.symm
        subst hbd
        obtain ⟨be, e1, e2, e3, e4, e5⟩ := ib_rd B3 (P := P' ++ [y]) (a := x) (R := S' ++ R) rfl
        have hbe : be = bd := by rw [a1] at e1; simp only [Option.some.injEq, Addr.mk.injEq, and_true] at e1; exact e1.symm
        subst hbe
        obtain ⟨U4, B4⟩ := e5 y
        obtain ⟨K04, _⟩ := NewN.upd K03 N U4
        obtain ⟨bf, f1, f2, f3, f4, f5⟩ := ib_rd B4 (P := P') (a := y) (R := y :: (S' ++ R)) (by simp)
        have hbf : bf = be := by rw [a1] at f1; simp only [Option.some.injEq, Addr.mk.injEq, and_true] at f1; exact f1.symm
        subst hbf
        obtain ⟨U5, B5⟩ := f5 x
        obtain ⟨K05, _⟩ := NewN.upd K04 N U5
        refine ⟨_, 0, d1, d2, _, d3, _, 0, e1, e2, _, e3, _, 0, e1, e2, e4, _, 0, f1, f2, f4, ?_⟩
        refine ⟨⟨P', y :: S', K05, by simpa using B5, by rw [← hD]; simp, fun s hs => ?_, rfl⟩, by rw [hi1]; dsimp only; omega⟩
        rcases List.mem_cons.1 hs with rfl | hs
        · exact lessC_bef hl
        · exact hb s hs
      · rw [hst] at hc
        have hnl : ¬ lessC st (fun k => sc[k]?.getD 0) x y := fun h => hpos (hc.2 h)
        refine ⟨out (K2.trans K3) (B2.keep K3) hD (pw_ins (R := bef st (fun k => sc[k]?.getD 0)) bef_trans (by rw [hD]; exact hs) (.inr ⟨P', y, rfl, not_less_bef hyx hnl⟩) hb), by dsimp only; omega⟩
    · have hP : P = [] := List.eq_nil_of_length_eq_zero (by omega)
      subst hP
      exact ⟨out K2 B2 hD (pw_ins (R := bef st (fun k => sc[k]?.getD 0)) bef_trans (by rw [hD]; exact hs) (.inl rfl) hb), by dsimp only; omega⟩
  · have hR0 : R = [] := by
      have : R.length = 0 := by simp only [List.length_cons] at hge; omega
      exact List.eq_nil_of_length_eq_zero this
    subst hR0
    rw [List.append_nil] at hp B1
    exact hQ h1 D K1 B1 hp hs
theorem order_s (V : Ver g h vb ls xs) (P : PkOk xs) (O : CfOk n5 n7 n8 n9 n10 n12) (h8 : n8 = (xs.length : Int)) (hQ : ∀ h' r o, Keep h h' → Buf h' r 1 3 (iV o) → NewN h r → IsOrder (xs.length - 1) (decide (n7 ≤ ((tabsI xs 0).length : Int))) (scoreM n5 n9 n10 xs) o → Q (.slice r.a r.n r.c) h') : F26.T n n1 n2 n3 n4 n5 n6 n7 n8 n9 n10 n11 n12 n13 n14 n15 n16 n17 n18 n19 n20 n21 n22 n23 n24 n25 n26 (some ⟨vb, 0, none⟩) h Q := by
  have hx := P.len
  unfold F26.T F26.G
  intro b hb b1 hb1
  have K0 := Keep.new hb (.cells ⟨[.int .i64 n, .int .i64 n1, .int .i64 n2, .int .i64 n3, .int .i64 n4, .int .i64 n5, .int .i64 n6, .int .i64 n7, .int .i64 n8, .int .i64 n9, .int .i64 n10, .int .i64 n11, .int .i64 n12, .int .i64 n13, .int .i64 n14, .int .i64 n15, .int .i64 n16, .int .i64 n17, .int .i64 n18, .int .i64 n19, .int .i64 n20, .int .i64 n21, .int .i64 n22, .int .i64 n23, .int .i64 n24, .int .i64 n25, .int .i64 n26]⟩ 23 (0, 0))
  have x0 := new_at h b (.cells ⟨[.int .i64 n, .int .i64 n1, .int .i64 n2, .int .i64 n3, .int .i64 n4, .int .i64 n5, .int .i64 n6, .int .i64 n7, .int .i64 n8, .int .i64 n9, .int .i64 n10, .int .i64 n11, .int .i64 n12, .int .i64 n13, .int .i64 n14, .int .i64 n15, .int .i64 n16, .int .i64 n17, .int .i64 n18, .int .i64 n19, .int .i64 n20, .int .i64 n21, .int .i64 n22, .int .i64 n23, .int .i64 n24, .int .i64 n25, .int .i64 n26]⟩ 23 (0, 0))
  generalize h.new b (.cells ⟨[.int .i64 n, .int .i64 n1, .int .i64 n2, .int .i64 n3, .int .i64 n4, .int .i64 n5, .int .i64 n6, .int .i64 n7, .int .i64 n8, .int .i64 n9, .int .i64 n10, .int .i64 n11, .int .i64 n12, .int .i64 n13, .int .i64 n14, .int .i64 n15, .int .i64 n16, .int .i64 n17, .int .i64 n18, .int .i64 n19, .int .i64 n20, .int .i64 n21, .int .i64 n22, .int .i64 n23, .int .i64 n24, .int .i64 n25, .int .i64 n26]⟩ 23 (0, 0)) = k0 at K0 x0 hb1 ⊢
  have K1 := Keep.new hb1 (.cells ⟨[.pointer (some ⟨vb, 0, none⟩)]⟩ 29 (0, 0))
  have x1 := new_at k0 b1 (.cells ⟨[.pointer (some ⟨vb, 0, none⟩)]⟩ 29 (0, 0))
  generalize k0.new b1 (.cells ⟨[.pointer (some ⟨vb, 0, none⟩)]⟩ 29 (0, 0)) = k1 at K1 x1 ⊢
  have y0 := K1 _ _ x0
  have K01 := K0.trans K1
  refine cfg_rd y0 ⟨some ⟨vb, 0, none⟩, at_of x1 0, ?_⟩
  refine scores_s (V.keep K01) P O h8 fun h1 l K2 B2 N2 => ⟨l, rfl, fun b2 hb2 => ?_⟩
  rw [new_wr]
  have x3 := new_at h1 b2 (.cells ⟨[.slice none 0 0]⟩ 35 (0, 0))
  refine ⟨canW_new x3 (by simp), l, ?_⟩
  have e3 : (setL (⟨[.slice none 0 0]⟩ : Array Value).toList 0 [.slice l.a l.n l.c]).toArray = ⟨[.slice l.a l.n l.c]⟩ := rfl
  rw [e3]
  have K3 := Keep.new hb2 (.cells ⟨[.slice l.a l.n l.c]⟩ 35 (0, 0))
  have x4 := new_at h1 b2 (.cells ⟨[.slice l.a l.n l.c]⟩ 35 (0, 0))
  generalize h1.new b2 (.cells ⟨[.slice l.a l.n l.c]⟩ 35 (0, 0)) = H0 at K3 x4 ⊢
  clear x3 e3
  refine ⟨at_of x4 0, ?_⟩
  have K03 := K01.trans (K2.trans K3)
  have E : Env g H0 vb b b1 b2 ls l xs ((List.range (xs.length - 1)).map (scoreM n5 n9 n10 xs)) n n1 n2 n3 n4 n5 n6 n7 n8 n9 n10 n11 n12 n13 n14 n15 n16 n17 n18 n19 n20 n21 n22 n23 n24 n25 n26 := ⟨V.keep K03, (K2.trans K3) _ _ y0, (K2.trans K3) _ _ x1, x4, B2.keep K3⟩
  have hscl : ((List.range (xs.length - 1)).map (scoreM n5 n9 n10 xs)).length = xs.length - 1 := by simp
  have hln : l.n = xs.length - 1 := by have := B2.len; rw [nV3_len, hscl] at this; omega
  have hsc : ∀ i, i < xs.length - 1 → ((List.range (xs.length - 1)).map (scoreM n5 n9 n10 xs))[i]?.getD 0 = scoreM n5 n9 n10 xs i := fun i hi => by
    rw [List.getElem?_map, List.getElem?_range hi]; rfl
  generalize hst : decide (n7 ≤ ((tabsI xs 0).length : Int)) = st at hQ
  refine ⟨fun l2 n h2 => ∃ (k : Nat) (w : List Nat), n = (k : Int) ∧ k ≤ xs.length - 1 ∧ Keep H0 h2 ∧ NewN H0 l2 ∧ Buf h2 l2 1 3 (iV w) ∧ w.Pairwise (· < ·) ∧ ∀ i, i ∈ w ↔ i < k ∧ want st (scoreM n5 n9 n10 xs) i, fun _ n _ => xs.length - n.toNat, ⟨0, [], rfl, Nat.zero_le _, Keep.refl _, NewN.nil _, Buf.nil _ _ _, List.Pairwise.nil, fun i => ⟨fun hi => (by cases hi), fun hi => (by omega)⟩⟩, ?_⟩
  rintro l2 n h2 ⟨k, w, rfl, hk, Kh, Nh, Bh, hpw, hmem⟩
  have hwl : w.length ≤ k := by
    have : w.Nodup := hpw.imp fun h => Nat.ne_of_lt h
    have h2 := List.Nodup.length_le_of_subset this (l₂ := List.range k) (fun i hi => List.mem_range.2 ((hmem i).1 hi).1)
    rwa [List.length_range] at h2
  have hl2 : l2.n = w.length := by have := Bh.len; rw [iV_len] at this; omega
  refine ⟨fun hlt => ?_, fun hge => ?_⟩
  · have hk1 : k < xs.length - 1 := by omega
    obtain ⟨b3, a1, a2, a3⟩ := sc_rd (E.keep Kh).r (i := k) (by rw [hscl]; exact hk1)
    rw [hsc k hk1] at a3
    rw [next_i (n := 100) (by omega) (by omega)]
    have add : want st (scoreM n5 n9 n10 xs) k → ∀ {h3 : Hp} {l3 : Sl}, Keep H0 h3 → NewN H0 l3 → Buf h3 l3 1 3 (iV w ++ [.int .i64 (k : Int)]) → (∃ (k_1 : Nat) (w : List Nat), ((k + 1 : Nat) : Int) = (k_1 : Int) ∧ k_1 ≤ xs.length - 1 ∧ Keep H0 h3 ∧ NewN H0 l3 ∧ Buf h3 l3 1 3 (iV w) ∧ w.Pairwise (· < ·) ∧ ∀ i, i ∈ w ↔ i < k_1 ∧ want st (scoreM n5 n9 n10 xs) i) := fun hw {h3} {l3} K3 N3 B3 => by
      refine ⟨k + 1, w ++ [k], rfl, by omega, K3, N3, by unfold iV at B3 ⊢; rw [List.map_append]; exact B3, ?_, fun i => ?_⟩
      · refine List.pairwise_append.2 ⟨hpw, List.pairwise_singleton _ _, fun x hx y hy => ?_⟩
        rw [List.mem_singleton.1 hy]; exact ((hmem x).1 hx).1
      · rw [List.mem_append, List.mem_singleton, hmem]
        constructor
        · rintro (⟨h, h'⟩ | rfl)
          · exact ⟨by omega, h'⟩
          · exact ⟨by omega, hw⟩
        · rintro ⟨h, h'⟩
          by_cases hik : i = k
          · exact .inr hik
          · exact .inl ⟨by omega, h'⟩
    have skip : ¬ want st (scoreM n5 n9 n10 xs) k → ∀ {h3 : Hp}, Keep h2 h3 → (∃ (k_1 : Nat) (w : List Nat), ((k + 1 : Nat) : Int) = (k_1 : Int) ∧ k_1 ≤ xs.length - 1 ∧ Keep H0 h3 ∧ NewN H0 l2 ∧ Buf h3 l2 1 3 (iV w) ∧ w.Pairwise (· < ·) ∧ ∀ i, i ∈ w ↔ i < k_1 ∧ want st (scoreM n5 n9 n10 xs) i) := fun hw {h3} K3 => by
      refine ⟨k + 1, w, rfl, by omega, Kh.trans K3, Nh, Bh.keep K3, hpw, fun i => ?_⟩
      rw [hmem]
      constructor
      · rintro ⟨h, h'⟩; exact ⟨by omega, h'⟩
      · rintro ⟨h, h'⟩
        have hik : i ≠ k := by rintro rfl; exact hw h'
        exact ⟨by omega, h'⟩
    refine ⟨b3, 0, a1, a2, _, a3, fun hw => ?_, fun hw => ⟨fun h0 => ?_, fun h0 => ⟨skip (fun hh => hh.elim hw fun hh => h0 (by omega)) (Keep.refl _), by dsimp only; omega⟩⟩⟩
    · refine append_buf (us := [.int .i64 (k : Int)]) Bh rfl rfl (by omega) fun l3 h3 B3 _ U3 => ?_
      obtain ⟨K4, N4⟩ := NewN.upd Kh Nh U3
      exact ⟨add (.inl hw) K4 N4 B3, by dsimp only; omega⟩
    · refine cfg_rd (E.keep Kh).c ⟨some ⟨vb, 0, none⟩, at_of (E.keep Kh).p 0, ?_⟩
      refine stopped_s (E.keep Kh).V P fun h3 K4 => ⟨_, rfl, fun hs => ?_, fun hs => ?_⟩
      · rw [hst] at hs
        refine append_buf (us := [.int .i64 (k : Int)]) (Bh.keep K4) rfl rfl (by omega) fun l3 h5 B5 _ U5 => ?_
        obtain ⟨K5, N5⟩ := NewN.upd (Kh.trans K4) Nh U5
        exact ⟨add (.inr ⟨by omega, hs⟩) K5 N5 B5, by dsimp only; omega⟩
      · rw [hst] at hs
        exact ⟨skip (fun hh => hh.elim hw fun hh => by rw [hh.2] at hs; cases hs) K4, by dsimp only; omega⟩
  · have hk2 : k = xs.length - 1 := by omega
    subst hk2
    unfold F61.T F80.T F61.G F80.G
    rw [hl2]
    refine ⟨fun a c h3 => a = 0 ∧ c = 20 ∧ h3 = h2, fun _ _ _ => 0, ⟨rfl, rfl, rfl⟩, ?_⟩
    rintro a c h3 ⟨rfl, rfl, rfl⟩
    refine ⟨fun hle => absurd hle (by omega), fun _ => ?_⟩
    refine ins_s P E Kh Nh Bh (by omega) (fun i hi => by rw [hscl]; exact ((hmem i).1 hi).1) hpw fun h4 w' K4 B4 hperm hpw' => ?_
    refine ⟨fun a h5 => a = 20 ∧ h5 = h4, fun _ _ => 0, ⟨rfl, rfl⟩, ?_⟩
    rintro a h5 ⟨rfl, rfl⟩
    refine ⟨fun hlt => absurd hlt (by omega), fun _ => ?_⟩
    rw [hst] at hpw'
    show Q (.slice l2.a w.length l2.c) h5
    rw [← hl2]
    refine hQ h5 l2 w' (K03.trans K4) B4 (Nh.mono K03.dom) ⟨?_, fun i => ?_, ?_⟩
    · exact (hperm.nodup_iff).2 (hpw.imp fun h => Nat.ne_of_lt h)
    · rw [hperm.mem_iff, hmem]
    · refine hpw'.imp_of_mem fun {x y} hx hy hb => ?_
      have hx' := ((hmem x).1 (hperm.mem_iff.1 hx)).1
      have hy' := ((hmem y).1 (hperm.mem_iff.1 hy)).1
      unfold bef at hb ⊢
      dsimp only at hb
      rw [hsc x hx', hsc y hy'] at hb
      exact hb
end
end Go.Eng.YtbjnlacacapjiaaGreat
end
section
set_option maxRecDepth 100000
namespace Go.Eng.YtbjnlacacapjiaaGreat
def hullM (l : List Tab) : ByteArray × ByteArray := match l with
  | [] => (⟨#[]⟩, ⟨#[]⟩)
  | t :: _ => l.foldl (fun p u => (sMin p.1 u.least, sMax p.2 u.greatest)) (t.least, t.greatest)
def behindM (l : List Tab) (key : ByteArray) : Tab := match l.find? fun t => blB key t.least with
  | some t => t
  | none => l.head?.getD zT
structure Jb where
  lv : Int
  up : List Tab
  lo : List Tab
  cut : ByteArray
  mv : Bool
def inputsM (fan : Int) (xs : List (Sl × List Tab)) (ptrs : List ByteArray) (level : Int) : Option Jb :=
  if level < 0 ∨ (xs.length : Int) - 1 ≤ level then none else if tabsI xs level = [] then none else
  if level = 0 then some ⟨0, tabsI xs 0, overM (hullM (tabsI xs 0)).1 (hullM (tabsI xs 0)).2 (tabsI xs 1), ⟨#[]⟩, false⟩ else
  let t := behindM (tabsI xs level) (ptrs[level.toNat]?.getD ⟨#[]⟩)
  let lo := overM t.least t.greatest (tabsI xs (level + 1))
  let mv := decide (lo = [] ∧ level + 1 ≠ (xs.length : Int) - 1)
  match lo[fan.toNat]? with
  | some c => some ⟨level, [t], lo.take fan.toNat, c.least, mv⟩
  | none => some ⟨level, [t], lo, ⟨#[]⟩, mv⟩
theorem not_bl_nil (a : ByteArray) : ¬ Bl a ⟨#[]⟩ := by
  intro h
  have h1 := (sLt_bl _ _).2 h
  unfold sLt at h1
  have e : (ByteArray.mk #[]).toList = [] := by rw [ByteArray.toList, ByteArray.toList.loop]; rfl
  rw [e] at h1
  cases hl : a.toList with
  | nil => rw [hl] at h1; simp [Op.bytesLess] at h1
  | cons x l => rw [hl] at h1; simp [Op.bytesLess] at h1
theorem buf_cap {h : Hp} {s : Sl} {sz t k c : Nat} {A B : List Value} (Bf : Buf h s sz t (A ++ B)) (hA : A.length = k * sz) (hk : k ≤ s.n) (hc : k ≤ c) (hcc : c ≤ s.c) (h0 : s.a = none → c = 0) : Buf h ⟨s.a, k, c⟩ sz t A := by
  refine ⟨hA, hc, ?_⟩
  rcases Bf.own with ⟨h1, h2⟩ | ⟨b, cc, f, h1, h2, h3, h4, h5⟩
  · exact .inl ⟨h1, h0 h1⟩
  · refine .inr ⟨b, cc, f, h1, h2, Nat.le_trans (Nat.mul_le_mul_right _ hcc) h3, h4, ?_⟩
    have := congrArg (List.take A.length) h5
    rw [List.take_take, List.take_left' rfl, List.length_append, Nat.min_eq_left (Nat.le_add_right _ _)] at this
    exact this
theorem add_zero_a (a : Option Addr) : a.map (·.add 0) = a := by
  cases a with
  | none => rfl
  | some a => simp [Addr.add]
theorem cut0 (s : Sl) (sz : Nat) (k c : Int) : Sl.cut s sz 0 k c = ⟨s.a, k.toNat, c.toNat⟩ := by
  unfold Sl.cut
  have h0 : (0 : Int).toNat * sz = 0 := by simp
  rw [h0, add_zero_a]
  simp
section
variable {g h h' : Hp} {vb : Nat} {ls l : Sl} {xs : List (Sl × List Tab)} {Q : Value → Hp → Prop} {n n1 n2 n3 n4 n5 n6 n7 n8 n9 n10 n11 n12 n13 n14 n15 n16 n17 n18 n19 n20 n21 n22 n23 n24 n25 n26 : Int}
theorem hull_s {ts : List Tab} (B : h.row l.a (l.n * 6) (tabV ts)) (hl : ts.length ≤ 60000) (hne : ts ≠ []) (hQ : Q (.tuple ⟨[.string (hullM ts).1, .string (hullM ts).2]⟩) h) : F64.T l h Q := by
  have hn : l.n = ts.length := by have := B.1; rw [tabV_len] at this; omega
  rcases ts with _ | ⟨t, ts⟩
  · exact absurd rfl hne
  have e0 : (0 : Int) = ((([] : List Tab).length : Nat) : Int) := rfl
  unfold F64.T
  obtain ⟨b, o, ha, hr, _, g0, _, g1, _, g2, _, g3, s4, g4, s5, g5, hk⟩ := tab_rd (P := []) (R := ts) (t := t) (l := l) (h := h) B (i := 0) rfl (K := fun b o a c d e s s1 => s = t.least ∧ s1 = t.greatest) (fun _ _ => ⟨rfl, rfl⟩)
  obtain ⟨rfl, rfl⟩ := hk
  refine ⟨b, o, ha, hr, _, g4, b, o, ha, hr, _, g5, g5, ?_⟩
  refine ⟨fun s2 s3 n h1 => h1 = h ∧ ∃ P R, t :: ts = P ++ R ∧ n = (P.length : Int) ∧ (s2, s3) = P.foldl (fun p u => (sMin p.1 u.least, sMax p.2 u.greatest)) (t.least, t.greatest), fun _ _ n _ => (t :: ts).length - n.toNat, ⟨rfl, [], _, rfl, rfl, rfl⟩, ?_⟩
  rintro s2 s3 n h1 ⟨rfl, P, R, e, rfl, es⟩
  have e2 := congrArg List.length e
  rw [List.length_append] at e2
  refine ⟨fun hlt => ?_, fun hge => ?_⟩
  · rcases R with _ | ⟨u, R⟩
    · exact absurd hlt (by simp at e2 hn; omega)
    rw [List.length_cons] at e2
    have B' := B
    rw [e] at B'
    refine tab_rd B' rfl fun b o => ?_
    simp only [List.length_cons] at hl e2
    rw [next_i (n := 70000) (by omega) (by omega)]
    refine ⟨⟨rfl, P ++ [u], R, by rw [e]; simp, by simp, ?_⟩, by dsimp only; simp only [List.length_cons]; omega⟩
    rw [List.foldl_append, ← es]; rfl
  · have hR : R = [] := List.eq_nil_of_length_eq_zero (by omega)
    subst hR
    rw [List.append_nil] at e
    have : hullM (t :: ts) = (s2, s3) := by rw [es, ← e]; rfl
    rw [this] at hQ
    exact hQ
theorem behind_s {ts : List Tab} {key : ByteArray} (B : h.row l.a (l.n * 6) (tabV ts)) (hl : ts.length ≤ 60000) (hne : ts ≠ []) (hQ : Q (.agg ⟨(behindM ts key).cells⟩) h) : F66.T l key h Q := by
  have hn : l.n = ts.length := by have := B.1; rw [tabV_len] at this; omega
  unfold F66.T
  refine ⟨fun n n1 n2 n3 n4 s1 s2 h1 => h1 = h ∧ ∃ P R, ts = P ++ R ∧ n = (P.length : Int) ∧ ([.int .u64 n1, .int .i64 n2, .int .i64 n3, .int .i64 n4, .string s1, .string s2] : List Value) = (match P.find? fun t => blB key t.least with | some t => t.cells | none => zT.cells), fun n _ _ _ _ _ _ _ => ts.length - n.toNat, ⟨rfl, [], _, rfl, rfl, rfl⟩, ?_⟩
  rintro n n1 n2 n3 n4 s1 s2 h1 ⟨rfl, P, R, e, rfl, es⟩
  have e2 := congrArg List.length e
  rw [List.length_append] at e2
  have nz : ∀ t : Tab, blB key t.least = true → t.cells ≠ zT.cells := fun t ht hc => by
    have : t.least = ⟨#[]⟩ := by simp [Tab.cells, zT] at hc; exact hc.2.2.2.2.1
    rw [this] at ht
    exact not_bl_nil _ (blB_t.1 ht)
  refine ⟨fun hlt => ?_, fun hge => ?_⟩
  · rcases R with _ | ⟨u, R⟩
    · exact absurd hlt (by simp at e2; omega)
    rw [List.length_cons] at e2
    have B' := B
    rw [e] at B'
    refine tab_rd B' rfl fun b o => ?_
    rw [next_i (n := 70000) (by omega) (by omega)]
    refine ⟨fun hle => ⟨⟨rfl, P ++ [u], R, by rw [e]; simp, by simp, ?_⟩, by dsimp only; omega⟩, fun hgt => ⟨fun hz => ⟨⟨rfl, P ++ [u], R, by rw [e]; simp, by simp, ?_⟩, by dsimp only; omega⟩, fun hz => ⟨⟨rfl, P ++ [u], R, by rw [e]; simp, by simp, ?_⟩, by dsimp only; omega⟩⟩⟩
    · rw [List.find?_append]
      have hb : blB key u.least = false := by
        cases hb : blB key u.least with
        | false => rfl
        | true => exact absurd (blB_t.1 hb) (sle.1 hle)
      rw [es]
      cases hf : P.find? fun t => blB key t.least with
      | some t => rfl
      | none => simp [hb]
    · rw [List.find?_append]
      have hb : blB key u.least = true := by
        cases hb : blB key u.least with
        | true => rfl
        | false => exact absurd (sle.2 fun hbl => by rw [blB_t.2 hbl] at hb; cases hb) hgt
      cases hf : P.find? fun t => blB key t.least with
      | some t =>
        rw [hf] at es
        have ht : blB key t.least = true := by have := List.find?_some hf; simpa using this
        exact absurd (es.symm.trans hz) (nz t ht)
      | none => simp [hb, Tab.cells]
    · rw [List.find?_append, es]
      cases hf : P.find? fun t => blB key t.least with
      | some t => rfl
      | none => rw [hf] at es; exact absurd es hz
  · have hR : R = [] := List.eq_nil_of_length_eq_zero (by omega)
    subst hR
    rw [List.append_nil] at e
    subst e
    refine ⟨fun hz => ?_, fun hz => ?_⟩
    · rcases ts with _ | ⟨t, ts⟩
      · exact absurd rfl hne
      refine tab_rd (P := []) (R := ts) (t := t) B (i := 0) rfl fun b o => ?_
      have : behindM (t :: ts) key = t := by
        unfold behindM
        cases hf : (t :: ts).find? fun t => blB key t.least with
        | some u =>
          rw [hf] at es
          have hu : blB key u.least = true := by have := List.find?_some hf; simpa using this
          exact absurd (es.symm.trans hz) (nz u hu)
        | none => rfl
      rw [this] at hQ
      exact hQ
    · cases hf : ts.find? fun t => blB key t.least with
      | some u =>
        have : behindM ts key = u := by unfold behindM; rw [hf]
        rw [this] at hQ
        rw [hf] at es
        rw [es]; exact hQ
      | none => rw [hf] at es; exact absurd es hz
theorem pointer_s {ptrs : List ByteArray} {i : Nat} (B : h.row l.a l.n (ptrV ptrs)) (hQ : Q (.string (ptrs[i]?.getD ⟨#[]⟩)) h) : F67.T l (i : Int) h Q := by
  have hn : l.n = ptrs.length := by have := B.1; rw [ptrV_length] at this; omega
  refine ⟨fun hlt => ?_, fun hge => ?_⟩
  · obtain ⟨b, o, ha, hat⟩ := row_get B (i := i) (by omega)
    have hi : i < ptrs.length := by omega
    refine ⟨b, o, ha, ⟨by omega, hlt⟩, ptrs[i], ?_, ?_⟩
    · rw [Int.toNat_natCast, hat i (by omega)]
      unfold ptrV
      rw [List.getElem?_map, List.getElem?_eq_getElem hi]; rfl
    · rw [List.getElem?_eq_getElem hi] at hQ; exact hQ
  · rw [List.getElem?_eq_none (by omega)] at hQ; exact hQ
theorem tb_at {ts : List Tab} {k : Nat} {t : Tab} (B : TB h l ts) (hk : ts[k]? = some t) : ∃ b o, (l.a : Option Addr) = some ⟨b, o, none⟩ ∧ ((0 : Int) ≤ (k : Int) ∧ (k : Int) < (l.n : Int)) ∧ h.at b ((o + ((k : Int)).toNat * 6) + 4) = some (.string t.least) := by
  obtain ⟨P, R, rfl, rfl⟩ : ∃ P R, ts = P ++ t :: R ∧ P.length = k := by
    have hkl := (List.getElem?_eq_some_iff.1 hk)
    refine ⟨ts.take k, ts.drop (k + 1), ?_, by rw [List.length_take]; have := hkl.1; omega⟩
    have e := List.take_append_drop k ts
    rw [List.drop_eq_getElem_cons hkl.1, hkl.2] at e
    exact e.symm
  obtain ⟨b, o, h1, h2, _, _, _, _, _, _, _, _, s, h3, _, _, rfl⟩ := tab_rd B.row (i := (P.length : Int)) rfl (K := fun b o a c d e s s1 => s = t.least) (fun _ _ => rfl)
  exact ⟨b, o, h1, h2, h3⟩
theorem inputs_s {ptrs : List ByteArray} {level : Int} (V : Ver g h vb ls xs) (P : PkOk xs) (O : CfOk n5 n7 n8 n9 n10 n12) (h8 : n8 = (xs.length : Int)) (B : h.row l.a l.n (ptrV ptrs)) (hlv : level < 9223372036854775808)
    (hN : inputsM n12 xs ptrs level = none → ∀ h', Keep h h' → Q (.tuple ⟨[.agg ⟨[.int .i64 0, .slice none 0 0, .slice none 0 0, .string (ByteArray.mk #[]), .bool false]⟩, .bool false]⟩) h')
    (hS : ∀ j, inputsM n12 xs ptrs level = some j → ∀ h' l1 l2, Keep h h' → TB h' l1 j.up → NewN h l1 → TB h' l2 j.lo → NewN h l2 → Off l1 l2 → Off l2 l1 → Q (.tuple ⟨[.agg ⟨[.int .i64 j.lv, .slice l1.a l1.n l1.c, .slice l2.a l2.n l2.c, .string j.cut, .bool j.mv]⟩, .bool true]⟩) h') : F28.T n n1 n2 n3 n4 n5 n6 n7 n8 n9 n10 n11 n12 n13 n14 n15 n16 n17 n18 n19 n20 n21 n22 n23 n24 n25 n26 (some ⟨vb, 0, none⟩) l level h Q := by
  have hx := P.len
  have hmx : iMax n12 0 = n12 := by unfold iMax; rw [if_neg (by have := O.fan; omega)]
  obtain ⟨fan, rfl⟩ := Int.eq_ofNat_of_zero_le (show 0 ≤ n12 by have := O.fan; omega)
  have hf1 : 1 ≤ fan := by have := O.fan; omega
  unfold F28.T F28.G
  rw [hmx]
  refine ⟨fun hneg => hN (by unfold inputsM; rw [if_pos (.inl hneg)]) h (Keep.refl _), fun hpos => ?_⟩
  refine last_s V (by omega) (by omega) h8 ⟨_, rfl, fun hle => hN (by unfold inputsM; rw [if_pos (.inr hle)]) h (Keep.refl _), fun hlt => ?_⟩
  have c1 : ¬ (level < 0 ∨ (xs.length : Int) - 1 ≤ level) := fun h => h.elim hpos hlt
  refine tables_s V P.sz fun h2 l1 K2 B2 N2 => ⟨l1, rfl, ?_⟩
  have hl1 := tb_new B2
  have htl := P.tl level
  refine ⟨fun h0 => hN (by unfold inputsM; rw [if_neg c1, if_pos (List.eq_nil_of_length_eq_zero (by omega))]) h2 K2, fun h0 => ?_⟩
  have c2 : tabsI xs level ≠ [] := fun e => h0 (by rw [hl1, e]; rfl)
  refine ⟨fun hl0 => ?_, fun hl0 => ?_⟩
  · subst hl0
    refine hull_s B2.row htl c2 ⟨_, _, rfl, ?_⟩
    refine over_s (V.keep K2) P.sz (P.tl 1) fun h4 l2 K4 B4 N4 => ⟨l2, rfl, ?_⟩
    have hj : inputsM (fan : Int) xs ptrs 0 = some ⟨0, tabsI xs 0, overM (hullM (tabsI xs 0)).1 (hullM (tabsI xs 0)).2 (tabsI xs 1), ⟨#[]⟩, false⟩ := by
      unfold inputsM; rw [if_neg c1, if_neg c2, if_pos rfl]
    exact hS _ hj h4 l1 l2 (K2.trans K4) (Buf.keep K4 B2) N2 B4 (N4.mono K2.dom) (N4.off B2).1 (N4.off B2).2
  · obtain ⟨i, rfl⟩ := Int.eq_ofNat_of_zero_le (show 0 ≤ level by omega)
    refine pointer_s (K2.row B) ⟨_, rfl, ?_⟩
    refine behind_s B2.row htl c2 ⟨_, _, _, _, _, _, rfl, fun b hb => ?_⟩
    generalize ht : behindM (tabsI xs (i : Int)) (ptrs[i]?.getD ⟨#[]⟩) = t
    have K3 := Keep.new hb (.cells ⟨t.cells⟩ 65 (0, 0))
    have x3 := new_at h2 b (.cells ⟨t.cells⟩ 65 (0, 0))
    have B3 : TB (h2.new b (.cells ⟨t.cells⟩ 65 (0, 0))) ⟨some ⟨b, 0, none⟩, 1, 1⟩ [t] := by
      unfold TB
      have e : tabV [t] = t.cells := by unfold tabV; simp
      rw [e]
      refine ⟨rfl, Nat.le_refl _, .inr ⟨b, _, _, rfl, x3, Nat.le_refl 6, fun j hj => by omega, ?_⟩⟩
      exact List.take_length
    have N3 : NewN h2 ⟨some ⟨b, 0, none⟩, 1, 1⟩ := .inr ⟨b, rfl, hb⟩
    have hw1 : IntKind.wrap .i64 ((i : Int) + 1) = (i : Int) + 1 := wrap_i64 (by omega) (by omega)
    show F65.T (some ⟨vb, 0, none⟩) (IntKind.wrap .i64 ((i : Int) + 1)) t.least t.greatest (h2.new b (.cells ⟨t.cells⟩ 65 (0, 0))) _
    rw [hw1]
    generalize h2.new b (.cells ⟨t.cells⟩ 65 (0, 0)) = h3 at K3 B3 ⊢
    have K23 := K2.trans K3
    refine over_s (V.keep K23) P.sz (P.tl _) fun h7 l3 K7 B7 N7 => ⟨l3, rfl, ?_⟩
    have hl3 := tb_new B7
    generalize hlo : overM t.least t.greatest (tabsI xs ((i : Int) + 1)) = lo at B7 hl3
    have hcap := B7.cap
    have N7' : NewN h l3 := N7.mono K23.dom
    have B37 : TB h7 ⟨some ⟨b, 0, none⟩, 1, 1⟩ [t] := Buf.keep K7 B3
    have N3' : NewN h ⟨some ⟨b, 0, none⟩, 1, 1⟩ := N3.mono K2.dom
    have K27 := K23.trans K7
    have hLB : lo.length ≤ 60000 := by rw [← hlo]; exact Nat.le_trans (List.length_filter_le _ _) (P.tl _)
    have off3 := N7.off B3
    have hj : inputsM (fan : Int) xs ptrs (i : Int) = match lo[fan]? with
        | some c => some ⟨(i : Int), [t], lo.take fan, c.least, decide (lo = [] ∧ (i : Int) + 1 ≠ (xs.length : Int) - 1)⟩
        | none => some ⟨(i : Int), [t], lo, ⟨#[]⟩, decide (lo = [] ∧ (i : Int) + 1 ≠ (xs.length : Int) - 1)⟩ := by
      subst hlo; subst ht
      unfold inputsM
      rw [if_neg c1, if_neg c2, if_neg hl0]
      rfl
    have fin : ∀ mvb : Bool, decide (lo = [] ∧ (i : Int) + 1 ≠ (xs.length : Int) - 1) = mvb → par ((fan : Int) < (l3.n : Int)) (∃ b1 o, (l3.a : Option Addr) = some ⟨b1, o, none⟩ ∧ ((0 : Int) ≤ (fan : Int) ∧ (fan : Int) < (l3.n : Int)) ∧ ∃ s5 : ByteArray, h7.at b1 ((o + (fan : Int).toNat * 6) + 4) = some (.string s5) ∧ Sl.okCut l3 0 (fan : Int) (fan : Int) ∧ Q (.tuple ⟨[.agg ⟨[.int .i64 (i : Int), .slice (some ⟨b, 0, none⟩) 1 1, .slice (Sl.cut l3 6 0 (fan : Int) (fan : Int)).a (Sl.cut l3 6 0 (fan : Int) (fan : Int)).n (Sl.cut l3 6 0 (fan : Int) (fan : Int)).c, .string s5, .bool mvb]⟩, .bool true]⟩) h7) (Q (.tuple ⟨[.agg ⟨[.int .i64 (i : Int), .slice (some ⟨b, 0, none⟩) 1 1, .slice l3.a l3.n l3.c, .string (ByteArray.mk #[]), .bool mvb]⟩, .bool true]⟩) h7) := by
      intro mvb hmv
      rw [hmv] at hj
      refine ⟨fun hlt => ?_, fun hge => ?_⟩
      · have hk : fan < lo.length := by omega
        have hc : lo[fan]? = some lo[fan] := List.getElem?_eq_getElem hk
        rw [hc] at hj
        obtain ⟨b1, o, g1, g2, g3⟩ := tb_at B7 hc
        have hcap := B7.cap
        refine ⟨b1, o, g1, g2, _, g3, ⟨by omega, by omega, by omega⟩, ?_⟩
        rw [cut0]
        refine hS _ hj h7 ⟨some ⟨b, 0, none⟩, 1, 1⟩ ⟨l3.a, fan, fan⟩ K27 B37 N3' ?_ N7' off3.1 off3.2
        have e : tabV lo = tabV (lo.take fan) ++ tabV (lo.drop fan) := by rw [← tabV_app, List.take_append_drop]
        unfold TB at B7
        rw [e] at B7
        exact buf_cap B7 (by rw [tabV_len, List.length_take, Nat.min_eq_left (Nat.le_of_lt hk)]) (by omega) (Nat.le_refl _) (by omega) (fun h0 => by rw [h0] at g1; cases g1)
      · have hc : lo[fan]? = none := List.getElem?_eq_none (by omega)
        rw [hc] at hj
        exact hS _ hj h7 ⟨some ⟨b, 0, none⟩, 1, 1⟩ l3 K27 B37 N3' B7 N7' off3.1 off3.2
    refine ⟨fun h0 => ?_, fun h0 => fin false ?_⟩
    · have hlo0 : lo = [] := List.eq_nil_of_length_eq_zero (by omega)
      refine last_s (V.keep K27) (by omega) (by omega) h8 ⟨_, rfl, fun he => fin false ?_, fun he => fin true ?_⟩
      · exact decide_eq_false fun hc => hc.2 he
      · exact decide_eq_true ⟨hlo0, he⟩
    · exact decide_eq_false fun hc => h0 (by rw [hl3, hc.1]; rfl)
end
end Go.Eng.YtbjnlacacapjiaaGreat
end
section
set_option maxRecDepth 100000
set_option maxHeartbeats 1000000
namespace Go.Eng.YtbjnlacacapjiaaGreat
def hit (lk : List Int) (j : Jb) : Bool := (j.up ++ j.lo).any fun t => lk.contains t.num
def setR (R : Nat → Bool) (i : Nat) : Nat → Bool := fun k => if k = i ∨ k = i + 1 then true else R k
def nextL (fan : Int) (xs : List (Sl × List Tab)) (ptrs : List ByteArray) (lk : List Int) : (Nat → Bool) → List Nat → Option Jb
  | _, [] => none
  | R, i :: w => match inputsM fan xs ptrs (i : Int) with
    | none => nextL fan xs ptrs lk R w
    | some j => if R i = false ∧ R (i + 1) = false ∧ hit lk j = false then some j else nextL fan xs ptrs lk (setR R i) w
def bV (R : Nat → Bool) : List Value := [.bool (R 0), .bool (R 1), .bool (R 2), .bool (R 3), .bool (R 4), .bool (R 5)]
def isF (b : Bool) : Prop := b = false
theorem bV_get (R : Nat → Bool) {i : Nat} (hi : i < 6) : (⟨bV R⟩ : Array Value)[i]? = some (.bool (R i)) := by
  have : i = 0 ∨ i = 1 ∨ i = 2 ∨ i = 3 ∨ i = 4 ∨ i = 5 := by omega
  rcases this with rfl | rfl | rfl | rfl | rfl | rfl <;> rfl
theorem bV_set (R : Nat → Bool) {i : Nat} (hi : i < 5) : (bV R).set i (.bool true) = bV (fun k => if k = i then true else R k) ∧ ((bV R).set i (.bool true)).set (i + 1) (.bool true) = bV (setR R i) := by
  have : i = 0 ∨ i = 1 ∨ i = 2 ∨ i = 3 ∨ i = 4 := by omega
  rcases this with rfl | rfl | rfl | rfl | rfl <;> exact ⟨rfl, rfl⟩
theorem mark_l {h3 : Hp} {b i : Nat} {R : Nat → Bool} (hb : h3 b = some (.cells ⟨bV R⟩ 116 (0, 0))) (hi : i < 5) :
    h3.canW b (0 + ((i : Nat) : Int).toNat) 1 ∧ (h3.wr b (0 + ((i : Nat) : Int).toNat) [.bool true]).canW b (0 + ((i + 1 : Nat) : Int).toNat) 1 ∧ ((h3.wr b (0 + ((i : Nat) : Int).toNat) [.bool true]).wr b (0 + ((i + 1 : Nat) : Int).toNat) [.bool true]) b = some (.cells ⟨bV (setR R i)⟩ 116 (0, 0)) := by
  rw [Int.toNat_natCast, Int.toNat_natCast, Nat.zero_add, Nat.zero_add]
  obtain ⟨s1, s2⟩ := bV_set R hi
  have e1 : (h3.wr b i [.bool true]) b = some (.cells ⟨bV (fun k => if k = i then true else R k)⟩ 116 (0, 0)) := by
    unfold Hp.wr
    rw [if_pos rfl, hb]
    show some (Obj.cells ((bV R).set i (.bool true)).toArray 116 (0, 0)) = _
    rw [s1]
  refine ⟨canW_new hb (by show i + 1 ≤ 6; omega), canW_new e1 (by show i + 1 + 1 ≤ 6; omega), ?_⟩
  unfold Hp.wr at e1 ⊢
  rw [if_pos rfl, if_pos rfl, hb]
  show some (Obj.cells (((bV R).set i (.bool true)).set (i + 1) (.bool true)).toArray 116 (0, 0)) = _
  rw [s2]
section
variable {g h h' : Hp} {vb b : Nat} {ls l l1 l2 : Sl} {xs : List (Sl × List Tab)} {Q : Value → Hp → Prop} {n n1 n2 n3 n4 n5 n6 n7 n8 n9 n10 n11 n12 n13 n14 n15 n16 n17 n18 n19 n20 n21 n22 n23 n24 n25 n26 : Int}
theorem index_s {lk : List Int} {n : Int} (B : h.row l.a l.n (uvs lk)) (hl : l.n < 9223372036854775807) (hQ : Q (.bool (lk.contains n)) h) : F70.T l n h Q := by
  have hn : l.n = lk.length := by have := B.1; unfold uvs at this; rw [List.length_map] at this; omega
  unfold F70.T F83.T F70.G
  refine ⟨fun k h1 => h1 = h ∧ ∃ P R, lk = P ++ R ∧ k = (P.length : Int) ∧ n ∉ P, fun k _ => lk.length - k.toNat, ⟨rfl, [], _, rfl, rfl, by simp⟩, ?_⟩
  rintro k h1 ⟨rfl, P, R, e, rfl, hP⟩
  have e2 := congrArg List.length e
  rw [List.length_append] at e2
  refine ⟨fun hlt => ?_, fun hge => ?_⟩
  · rcases R with _ | ⟨u, R⟩
    · exact absurd hlt (by simp at e2; omega)
    rw [List.length_cons] at e2
    obtain ⟨b, o, ha, hat⟩ := row_get B (i := P.length) (by omega)
    refine ⟨b, o, ha, ⟨by omega, hlt⟩, u, ?_, fun hu => ?_, fun hu => ?_⟩
    · rw [Int.toNat_natCast, hat P.length (by omega), e]
      unfold uvs
      simp
    · refine ⟨_, rfl, fun _ => ?_, fun hh => absurd (by omega) hh⟩
      have : lk.contains n = true := by rw [e, hu]; simp
      rw [this] at hQ; exact hQ
    · rw [next_i (n := lk.length) (by omega) (by omega)]
      refine ⟨⟨rfl, P ++ [u], R, by rw [e]; simp, by simp, ?_⟩, by dsimp only; omega⟩
      rw [List.mem_append, List.mem_singleton]
      exact fun hh => hh.elim hP hu
  · have hR : R = [] := List.eq_nil_of_length_eq_zero (by omega)
    subst hR
    rw [List.append_nil] at e
    subst e
    refine ⟨_, rfl, fun hh => absurd hh (by decide), fun _ => ?_⟩
    have : lk.contains n = false := by simpa using hP
    rw [this] at hQ; exact hQ
theorem grow_s {n : Nat} (hn : n ≤ 120000) (hQ : ∀ h' r, Keep h h' → TB h' r [] → NewN h r → Q (.slice r.a r.n r.c) h') : F82.T ⟨none, 0, 0⟩ (n : Int) h Q := by
  have e0 : IntKind.wrap .i64 ((((⟨none, 0, 0⟩ : Sl).c : Int)) - ((⟨none, 0, 0⟩ : Sl).n : Int)) = 0 := rfl
  unfold F82.T
  rw [e0, Int.sub_zero, wrap_i64 (by omega) (by omega), Int.toNat_natCast]
  refine ⟨fun hh => absurd hh (by omega), fun _ => ⟨fun hpos => ⟨⟨Int.le_refl _, Int.le_refl _, Int.le_refl _, Int.le_refl _⟩, by omega, ?_⟩, fun h0 => hQ h ⟨none, 0, 0⟩ (Keep.refl h) (Buf.nil _ _ _) (NewN.nil _)⟩⟩
  have ec : Sl.cut ⟨none, 0, 0⟩ 6 0 (((⟨none, 0, 0⟩ : Sl).c : Int)) (((⟨none, 0, 0⟩ : Sl).c : Int)) = ⟨none, 0, 0⟩ := rfl
  rw [ec]
  refine append_buf (Buf.nil h 6 65) rfl (by rw [zerosV_length]; rfl) (by show (0 + n) * 64 ≤ _; omega) fun r h1 B1 hrn U1 => ?_
  obtain ⟨K1, N1⟩ := NewN.upd (Keep.refl h) (NewN.nil h) U1
  refine ⟨⟨Int.le_refl _, by show (0 : Int) ≤ ((0 : Nat) : Int); omega, by show ((0 : Nat) : Int) ≤ _; omega, Int.le_refl _⟩, ?_⟩
  rw [cut0]
  refine hQ h1 ⟨r.a, 0, r.c⟩ K1 ?_ N1
  have B2 : Buf h1 r 6 65 ([] ++ zerosV [.int .u64 0, .int .i64 0, .int .i64 0, .int .i64 0, .string (ByteArray.mk #[]), .string (ByteArray.mk #[])] n) := B1
  unfold TB
  refine buf_cap B2 rfl (Nat.zero_le _) (Nat.zero_le _) (Nat.le_refl _) (fun h0 => ?_)
  rcases B2.own with ⟨_, hc⟩ | ⟨b, c, f, hb, _⟩
  · exact hc
  · rw [h0] at hb; cases hb
theorem concat_s {A B : List Tab} (x : h b = some (.cells ⟨[.slice l1.a l1.n l1.c, .slice l2.a l2.n l2.c]⟩ 75 (0, 0))) (B1 : TB h l1 A) (B2 : TB h l2 B) (hA : A.length ≤ 60000) (hB : B.length ≤ 60000) (hQ : ∀ h' r, Keep h h' → TB h' r (A ++ B) → NewN h r → Q (.slice r.a r.n r.c) h') : F69.T ⟨some ⟨b, 0, none⟩, 2, 2⟩ h Q := by
  have n1 := tb_new B1
  have n2 := tb_new B2
  have tA := tabV_len A
  have tB := tabV_len B
  unfold F69.T F69.G
  refine ⟨fun n k h1 => h1 = h ∧ ((k = 0 ∧ n = 0) ∨ (k = 1 ∧ n = (A.length : Int)) ∨ (k = 2 ∧ n = ((A.length + B.length : Nat) : Int))), fun _ k _ => 2 - k.toNat, ⟨rfl, .inl ⟨rfl, rfl⟩⟩, ?_⟩
  rintro n k h1 ⟨rfl, hk⟩
  refine ⟨fun hlt => ?_, fun hge => ?_⟩
  · have hlt' : k < 2 := hlt
    rcases hk with ⟨rfl, rfl⟩ | ⟨rfl, rfl⟩ | ⟨rfl, rfl⟩
    · refine ⟨b, 0, rfl, ⟨by decide, hlt⟩, l1, at_of x 0, ?_⟩
      rw [Int.zero_add, wrap_i64 (by omega) (by omega)]
      refine ⟨fun hh => absurd hh (by omega), fun _ => ⟨⟨rfl, .inr (.inl ⟨rfl, by rw [n1]⟩)⟩, by show 2 - 1 < 2 - 0; decide⟩⟩
    · refine ⟨b, 0, rfl, ⟨by decide, hlt⟩, l2, at_of x 1, ?_⟩
      rw [wrap_i64 (by omega) (by omega)]
      refine ⟨fun hh => absurd hh (by omega), fun _ => ⟨⟨rfl, .inr (.inr ⟨rfl, by rw [n2]; omega⟩)⟩, by show 2 - 2 < 2 - 1; decide⟩⟩
    · exact absurd hlt' (by decide)
  · have hge' : ¬ k < 2 := hge
    rcases hk with ⟨rfl, rfl⟩ | ⟨rfl, rfl⟩ | ⟨rfl, rfl⟩
    · exact absurd (by decide) hge'
    · exact absurd (by decide) hge'
    refine grow_s (by omega) fun h2 r K2 B0 N0 => ⟨r, rfl, ?_⟩
    refine ⟨fun l3 k h3 => Keep h1 h3 ∧ NewN h1 l3 ∧ ((k = 0 ∧ TB h3 l3 []) ∨ (k = 1 ∧ TB h3 l3 A) ∨ (k = 2 ∧ TB h3 l3 (A ++ B))), fun _ k _ => 2 - k.toNat, ⟨K2, N0, .inl ⟨rfl, B0⟩⟩, ?_⟩
    rintro l3 k h3 ⟨K3, N3, hk⟩
    refine ⟨fun hlt => ?_, fun hge => ?_⟩
    · have hlt' : k < 2 := hlt
      rcases hk with ⟨rfl, B3⟩ | ⟨rfl, B3⟩ | ⟨rfl, B3⟩
      · refine ⟨b, 0, rfl, ⟨by decide, hlt⟩, l1, at_of (K3 _ _ x) 0, tabV A, Buf.row (Buf.keep K3 B1), tab_one _, ?_⟩
        have n3 := tb_new B3
        refine append_buf B3 rfl (by rw [tA, n1]) (by rw [n3]; show (0 + l1.n) * 64 ≤ _; omega) fun l5 h4 B4 _ U4 => ?_
        obtain ⟨K4, N4⟩ := NewN.upd K3 N3 U4
        exact ⟨⟨K4, N4, .inr (.inl ⟨rfl, B4⟩)⟩, by show 2 - 1 < 2 - 0; decide⟩
      · refine ⟨b, 0, rfl, ⟨by decide, hlt⟩, l2, at_of (K3 _ _ x) 1, tabV B, Buf.row (Buf.keep K3 B2), tab_one _, ?_⟩
        have n3 := tb_new B3
        refine append_buf B3 rfl (by rw [tB, n2]) (by omega) fun l5 h4 B4 _ U4 => ?_
        obtain ⟨K4, N4⟩ := NewN.upd K3 N3 U4
        refine ⟨⟨K4, N4, .inr (.inr ⟨rfl, ?_⟩)⟩, by show 2 - 2 < 2 - 1; decide⟩
        unfold TB
        rw [tabV_app]
        exact B4
      · exact absurd hlt' (by decide)
    · have hge' : ¬ k < 2 := hge
      rcases hk with ⟨rfl, B3⟩ | ⟨rfl, B3⟩ | ⟨rfl, B3⟩
      · exact absurd (by decide) hge'
      · exact absurd (by decide) hge'
      · exact hQ h3 l3 K3 B3 N3
theorem inputs_sz {fan level : Int} {ptrs : List ByteArray} {j : Jb} (P : PkOk xs) (e : inputsM fan xs ptrs level = some j) : j.up.length ≤ 60000 ∧ j.lo.length ≤ 60000 := by
  have ov : ∀ a c n, (overM a c (tabsI xs n)).length ≤ 60000 := fun a c n => Nat.le_trans (List.length_filter_le _ _) (P.tl n)
  unfold inputsM at e
  split at e
  · cases e
  split at e
  · cases e
  split at e
  · cases e; exact ⟨P.tl 0, ov _ _ _⟩
  dsimp only at e
  split at e
  · cases e
    exact ⟨by simp, by dsimp only; rw [List.length_take]; exact Nat.le_trans (Nat.min_le_right _ _) (ov _ _ _)⟩
  · cases e; exact ⟨by simp, ov _ _ _⟩
theorem next_s {ptrs : List ByteArray} {lk : List Int} (V : Ver g h vb ls xs) (P : PkOk xs) (O : CfOk n5 n7 n8 n9 n10 n12) (h8 : n8 = (xs.length : Int)) (B : h.row l.a l.n (ptrV ptrs)) (BL : h.row l1.a l1.n (uvs lk)) (hlk : l1.n < 9223372036854775807)
    (hN : ∀ o, IsOrder (xs.length - 1) (decide (n7 ≤ ((tabsI xs 0).length : Int))) (scoreM n5 n9 n10 xs) o → nextL n12 xs ptrs lk (fun _ => false) o = none → ∀ h', Keep h h' → Q (.tuple ⟨[.agg ⟨[.int .i64 0, .slice none 0 0, .slice none 0 0, .string (ByteArray.mk #[]), .bool false]⟩, .int .i64 (if o = [] then 0 else 1)]⟩) h')
    (hS : ∀ o j, IsOrder (xs.length - 1) (decide (n7 ≤ ((tabsI xs 0).length : Int))) (scoreM n5 n9 n10 xs) o → nextL n12 xs ptrs lk (fun _ => false) o = some j → ∀ h' u1 u2, Keep h h' → TB h' u1 j.up → NewN h u1 → TB h' u2 j.lo → NewN h u2 → Off u1 u2 → Off u2 u1 → Q (.tuple ⟨[.agg ⟨[.int .i64 j.lv, .slice u1.a u1.n u1.c, .slice u2.a u2.n u2.c, .string j.cut, .bool j.mv]⟩, .int .i64 2]⟩) h') : F31.T n n1 n2 n3 n4 n5 n6 n7 n8 n9 n10 n11 n12 n13 n14 n15 n16 n17 n18 n19 n20 n21 n22 n23 n24 n25 n26 (some ⟨vb, 0, none⟩) l l1 h Q := by
  have hx := P.len
  unfold F31.T F31.G
  refine order_s V P O h8 fun h1 r o K1 B1 N1 hO => ⟨r, rfl, fun b hb => ?_⟩
  have hol : ∀ i ∈ o, i < xs.length - 1 := fun i hi => ((hO.mem i).1 hi).1
  have hon : r.n = o.length := by have := B1.len; rw [iV_len] at this; omega
  have holn : o.length ≤ 4 := by
    have h2 := List.Nodup.length_le_of_subset hO.nd (l₂ := List.range (xs.length - 1)) (fun i hi => List.mem_range.2 (hol i hi))
    rw [List.length_range] at h2; omega
  have hN := hN o hO
  have hS := fun j => hS o j hO
  generalize hT : nextL n12 xs ptrs lk (fun _ => false) o = T at hN hS
  refine ⟨fun n _ _ _ _ f h2 => isF f ∧ ∃ A w R, o = A ++ w ∧ n = (A.length : Int) ∧ Keep h1 h2 ∧ h2 b = some (.cells ⟨bV R⟩ 116 (0, 0)) ∧ nextL n12 xs ptrs lk R w = T, fun n _ _ _ _ _ _ => o.length - n.toNat, ⟨rfl, [], o, fun _ => false, rfl, rfl, Keep.new hb _, new_at _ _ _, hT⟩, ?_⟩
  intro n28 n29 l3 l4 s
  refine ⟨fun h2 hh => (Bool.noConfusion (show true = false from hh.1)), ?_⟩
  rintro h2 ⟨-, A, w, R, e, rfl, K2, x2, hw⟩
  have e2 := congrArg List.length e
  rw [List.length_append] at e2
  refine ⟨fun hlt => ?_, fun hge => ?_⟩
  · rcases w with _ | ⟨i, w⟩
    · exact absurd hlt (by simp at e2; omega)
    rw [List.length_cons] at e2
    have hi : i < 4 := by
      have := hol i (by rw [e]; simp)
      omega
    obtain ⟨b2, ha, hat, _⟩ := buf_set (B1.keep K2) (k := A.length) (by rw [iV_len]; omega)
    have hat' : h2.at b2 (0 + ((A.length : Int)).toNat) = some (.int .i64 (i : Int)) := by
      rw [Int.toNat_natCast, Nat.zero_add, hat, e]
      unfold iV
      simp
    refine ⟨b2, 0, ha, ⟨by omega, hlt⟩, (i : Int), hat', ?_⟩
    have w1 : IntKind.wrap .i64 ((i : Int) + 1) = ((i + 1 : Nat) : Int) := next_i (n := 10) (by omega) (by omega)
    have w2 : IntKind.wrap .i64 ((A.length : Int) + 1) = ((A.length + 1 : Nat) : Int) := next_i (n := 10) (by omega) (by omega)
    have K12 := K1.trans K2
    have hb2 : h1 b = none := hb
    -- a level that is marked
    have mk : ∀ h3, Keep h2 h3 → nextL n12 xs ptrs lk (setR R i) w = T →
        h3.canW b (0 + ((i : Nat) : Int).toNat) 1 ∧ ((0 : Int) ≤ ((i + 1 : Nat) : Int) ∧ ((i + 1 : Nat) : Int) < ((6 : Nat) : Int)) ∧ (h3.wr b (0 + ((i : Nat) : Int).toNat) [.bool true]).canW b (0 + ((i + 1 : Nat) : Int).toNat) 1 ∧ (isF false ∧ ∃ A' w R, o = A' ++ w ∧ ((A.length + 1 : Nat) : Int) = (A'.length : Int) ∧ Keep h1 ((h3.wr b (0 + ((i : Nat) : Int).toNat) [.bool true]).wr b (0 + ((i + 1 : Nat) : Int).toNat) [.bool true]) ∧ ((h3.wr b (0 + ((i : Nat) : Int).toNat) [.bool true]).wr b (0 + ((i + 1 : Nat) : Int).toNat) [.bool true]) b = some (.cells ⟨bV R⟩ 116 (0, 0)) ∧ nextL n12 xs ptrs lk R w = T) ∧ o.length - ((A.length + 1 : Nat) : Int).toNat < o.length - ((A.length : Nat) : Int).toNat := fun h3 K3 ht => by
      obtain ⟨c1, c2, c3⟩ := mark_l (K3 _ _ x2) (i := i) (by omega)
      exact ⟨c1, ⟨by omega, by omega⟩, c2, ⟨rfl, A ++ [i], w, _, by rw [e]; simp, by simp, ((K2.trans K3).wr hb2 _ _).wr hb2 _ _, c3, ht⟩, by omega⟩
    unfold nextL at hw
    refine inputs_s (V.keep K12) P O h8 (K12.row B) (by omega) (fun hin h3 K3 => ?_) (fun j hin h3 u1 u2 K3 T1 N1' T2 N2' o1 o2 => ?_)
    · rw [hin] at hw
      refine ⟨0, ⟨none, 0, 0⟩, ⟨none, 0, 0⟩, _, false, fun hh => (Bool.noConfusion hh), fun _ => ⟨false, fun hh => (Bool.noConfusion hh), fun _ => ⟨rfl, ?_⟩⟩⟩
      rw [w2]
      exact ⟨⟨rfl, A ++ [i], w, R, by rw [e]; simp, by simp, K2.trans K3, K3 _ _ x2, hw⟩, by dsimp only; omega⟩
    · rw [hin] at hw
      dsimp only at hw
      obtain ⟨zu, zl⟩ := inputs_sz P hin
      have rd : ∀ k, k < 6 → h3.at b (0 + ((k : Nat) : Int).toNat) = some (.bool (R k)) := fun k hk => by
        rw [Int.toNat_natCast, Nat.zero_add, at_of (K3 _ _ x2) k, bV_get R hk]
      have K13 := K12.trans K3
      have fnd := hS j
      rw [w1, w2]
      refine ⟨j.lv, u1, u2, j.cut, j.mv, ?_⟩
      obtain ⟨lv, up, lo, cut, mv⟩ := j
      dsimp only at zu zl T1 T2 fnd hw ⊢
      cases mv
      all_goals
        first
          | refine ⟨fun hh => (Bool.noConfusion hh), fun _ => ⟨true, fun _ => ?_, fun hh => (Bool.noConfusion hh)⟩⟩
          | refine ⟨fun _ => ⟨true, fun _ => ?_, fun hh => (Bool.noConfusion hh)⟩, fun hh => (Bool.noConfusion hh)⟩
        refine ⟨rfl, ⟨by omega, by omega⟩, R i, rd i (by omega), fun hr => ?_, fun hr => ⟨⟨by omega, by omega⟩, R (i + 1), rd (i + 1) (by omega), fun hr1 => ?_, fun hr1 b7 hb7 => ?_⟩⟩
        · rw [if_neg (fun c => by rw [c.1] at hr; cases hr)] at hw
          exact ⟨⟨by omega, by omega⟩, mk h3 K3 hw⟩
        · rw [if_neg (fun c => by rw [c.2.1] at hr1; cases hr1)] at hw
          exact ⟨⟨by omega, by omega⟩, mk h3 K3 hw⟩
        · have K4 := Keep.new hb7 (.cells ⟨[.slice u1.a u1.n u1.c, .slice u2.a u2.n u2.c]⟩ 75 (0, 0))
          have x4 := new_at h3 b7 (.cells ⟨[.slice u1.a u1.n u1.c, .slice u2.a u2.n u2.c]⟩ 75 (0, 0))
          generalize h3.new b7 (.cells ⟨[.slice u1.a u1.n u1.c, .slice u2.a u2.n u2.c]⟩ 75 (0, 0)) = h4 at K4 x4 ⊢
          refine concat_s x4 (Buf.keep K4 T1) (Buf.keep K4 T2) zu zl fun h5 l7 K5 B7 _ => ⟨l7, rfl, ?_⟩
          have n7' := tb_new B7
          have K35 := K3.trans (K4.trans K5)
          have hll : (up ++ lo).length ≤ 120000 := by rw [List.length_append]; omega
          refine ⟨fun n h6 => h6 = h5 ∧ ∃ C D, up ++ lo = C ++ D ∧ n = (C.length : Int) ∧ ∀ t ∈ C, lk.contains t.num = false, fun n _ => (up ++ lo).length - n.toNat, ⟨rfl, [], _, rfl, rfl, fun t ht => (by cases ht)⟩, ?_⟩
          rintro n h6 ⟨rfl, C, D, eC, rfl, hC⟩
          have eC2 := congrArg List.length eC
          rw [List.length_append, List.length_append] at eC2
          have eL : (up ++ lo).length = up.length + lo.length := List.length_append
          refine ⟨fun hlt6 => ?_, fun hge6 => ?_⟩
          · rcases D with _ | ⟨t, D⟩
            · exact absurd hlt6 (by simp at eC2; omega)
            rw [List.length_cons] at eC2
            have r7 := Buf.row B7
            rw [eC] at r7
            refine tab_rd r7 rfl fun b8 o1 => ?_
            refine index_s (K12.trans K35 |>.row BL) hlk ⟨_, rfl, fun hc => ?_, fun hc => ?_⟩
            · rw [if_neg (fun c => by
                have := c.2.2
                unfold hit at this
                rw [List.any_eq_false] at this
                exact this t (by dsimp only; rw [eC]; simp) hc)] at hw
              exact ⟨⟨by omega, by omega⟩, mk h6 K35 hw⟩
            · rw [next_i (n := 130000) (by omega) (by omega)]
              refine ⟨⟨rfl, C ++ [t], D, by rw [eC]; simp, by simp, fun u hu => ?_⟩, by dsimp only; omega⟩
              rcases List.mem_append.1 hu with hu | hu
              · exact hC u hu
              · rw [List.mem_singleton.1 hu]; exact hc
          · have hD : D = [] := List.eq_nil_of_length_eq_zero (by omega)
            subst hD
            rw [List.append_nil] at eC
            rw [if_pos ⟨hr, hr1, by
              unfold hit
              rw [List.any_eq_false]
              dsimp only
              rw [eC]
              exact fun u hu hh => by rw [hC u hu] at hh; cases hh⟩] at hw
            have K45 := K4.trans K5
            exact fnd hw.symm h6 u1 u2 (K12.trans K35) (Buf.keep K45 T1) (N1'.mono K12.dom) (Buf.keep K45 T2) (N2'.mono K12.dom) o1 o2
  · have hw0 : w = [] := List.eq_nil_of_length_eq_zero (by omega)
    subst hw0
    have hTn : T = none := hw.symm
    refine ⟨fun hp => ?_, fun hp => ?_⟩
    · have hne : o ≠ [] := fun h0 => by rw [h0] at hon; rw [hon] at hp; exact absurd hp (by decide)
      have := hN hTn h2 (K1.trans K2)
      rw [if_neg hne] at this
      exact this
    · have h0 : o = [] := List.eq_nil_of_length_eq_zero (by omega)
      have := hN hTn h2 (K1.trans K2)
      rw [if_pos h0] at this
      exact this
end
end Go.Eng.YtbjnlacacapjiaaGreat
end
section
set_option maxRecDepth 100000
open Go.Proofs
namespace Go.Eng.YtbjnlacacapjiaaGreat
def F12.T (n : Int) : PT := fun h Q =>
  ∀ b, h b = none → Q (.pointer (some ⟨b, 0, none⟩)) (h.new b (.cells ⟨[.int .i64 n]⟩ 94 (0, 0)))
theorem F12.den (V n) : denF Tryz.prog [] [] V [] Tryz.f12 [.v (.int .i64 n)] = F12.T n := by kernel_rfl
def F12.W (T12 : Int → PT) (args : List Value) : PT := match args with
  | [.int .i64 n] => T12 n
  | _ => fun _ _ => False
def F12.V : List Value → PT := F12.W F12.T
theorem F12.ok : FOk Tryz.prog 12 F12.V := by
  refine ⟨⟨_, Tryz.func12, rfl, rfl⟩, fun args => ?_⟩
  unfold F12.V F12.W
  split
  · exact denF_okE (GOk.nil) noV_ok Tryz.func12 (F12.den noV _)
  · exact fun _ _ h => h.elim
def F14.T (p : Option Addr) : PT := fun h Q =>
  ∃ b o, (p : Option Addr) = some ⟨b, o, none⟩ ∧ ∃ n : Int, h.at b o = some (.int .i64 n) ∧ par ((0 : Int) ≤ n) (Q (.bool true) h) (Q (.bool false) h)
theorem F14.den (V p) : denF Tryz.prog [] [] V [] Tryz.f14 [.v (.pointer p)] = F14.T p := by kernel_rfl
def F14.W (T14 : Option Addr → PT) (args : List Value) : PT := match args with
  | [.pointer p] => T14 p
  | _ => fun _ _ => False
def F14.V : List Value → PT := F14.W F14.T
theorem F14.ok : FOk Tryz.prog 14 F14.V := by
  refine ⟨⟨_, Tryz.func14, rfl, rfl⟩, fun args => ?_⟩
  unfold F14.V F14.W
  split
  · exact denF_okE (GOk.nil) noV_ok Tryz.func14 (F14.den noV _)
  · exact fun _ _ h => h.elim
def F13.T (p : Option Addr) (n : Int) : PT := fun h Q =>
  ∃ b o, (p : Option Addr) = some ⟨b, o, none⟩ ∧ ∃ n1 : Int, h.at b o = some (.int .i64 n1) ∧ par ((0 : Int) ≤ n1) (∃ b1 o1, (p : Option Addr) = some ⟨b1, o1, none⟩ ∧ ∃ n2 : Int, h.at b1 o1 = some (.int .i64 n2) ∧ ∃ b2 o2, (p : Option Addr) = some ⟨b2, o2, none⟩ ∧ h.canW b2 o2 1 ∧ ∃ b3 o3, (p : Option Addr) = some ⟨b3, o3, none⟩ ∧ ∃ n3 : Int, (h.wr b2 o2 [.int .i64 (IntKind.wrap .i64 (n2 - n))]).at b3 o3 = some (.int .i64 n3) ∧ par ((0 : Int) ≤ n3) (Q (.bool true) (h.wr b2 o2 [.int .i64 (IntKind.wrap .i64 (n2 - n))])) (Q (.bool false) (h.wr b2 o2 [.int .i64 (IntKind.wrap .i64 (n2 - n))]))) (∃ b4 o4, (p : Option Addr) = some ⟨b4, o4, none⟩ ∧ ∃ n4 : Int, h.at b4 o4 = some (.int .i64 n4) ∧ par ((0 : Int) ≤ n4) (Q (.bool true) h) (Q (.bool false) h))
theorem F13.den (V p n) : denF Tryz.prog [] [] V [] Tryz.f13 [.v (.pointer p), .v (.int .i64 n)] = F13.T p n := by kernel_rfl
def F13.W (T13 : Option Addr → Int → PT) (args : List Value) : PT := match args with
  | [.pointer p, .int .i64 n] => T13 p n
  | _ => fun _ _ => False
def F13.V : List Value → PT := F13.W F13.T
theorem F13.ok : FOk Tryz.prog 13 F13.V := by
  refine ⟨⟨_, Tryz.func13, rfl, rfl⟩, fun args => ?_⟩
  unfold F13.V F13.W
  split
  · exact denF_okE (GOk.nil) noV_ok Tryz.func13 (F13.den noV _ _)
  · exact fun _ _ h => h.elim
@[reducible] def F15.G (T13 : Option Addr → Int → PT) (p : Option Addr) (s : ByteArray) : PT := fun h Q =>
  T13 p (IntKind.wrap .i64 (1 + (s.size : Int))) h fun r h1 => ∃ b : Bool, r = .bool b ∧ parB b (Q (.tuple ⟨[]⟩) h1) (Q (.tuple ⟨[]⟩) h1)
def F15.T := F15.G F13.T
theorem F15.gen (V T13 p s) : denF Tryz.prog [] [(13, F13.W T13)] V [] Tryz.f15 [.v (.pointer p), .v (.string s)] = F15.G T13 p s := by kernel_rfl
def F15.W (T15 : Option Addr → ByteArray → PT) (args : List Value) : PT := match args with
  | [.pointer p, .string s] => T15 p s
  | _ => fun _ _ => False
def F15.V : List Value → PT := F15.W F15.T
theorem F15.ok : FOk Tryz.prog 15 F15.V := by
  refine ⟨⟨_, Tryz.func15, rfl, rfl⟩, fun args => ?_⟩
  unfold F15.V F15.W
  split
  · exact denF_okE (GOk.cons F13.ok (GOk.nil)) noV_ok Tryz.func15 (F15.gen noV F13.T _ _)
  · exact fun _ _ h => h.elim
end Go.Eng.YtbjnlacacapjiaaGreat
end
section
set_option maxRecDepth 100000
open Go.Proofs
namespace Go.Eng.YtbjnlacacapjiaaGreat
@[reducible] def F4.G (T12 : Int → PT) (T13 : Option Addr → Int → PT) (T14 : Option Addr → PT) (T15 : Option Addr → ByteArray → PT) (l l1 : Sl) : PT := fun h Q =>
  T12 10000 h fun r h1 => ∃ p : Option Addr, r = .pointer p ∧ T13 p (l.n : Int) h1 fun r1 h2 => ∃ b : Bool, r1 = .bool b ∧ parB b (∃ (I : Int → Hp → Prop) (m : Int → Hp → Nat), I 0 h2 ∧ (∀ n : Int, ∀ h3 : Hp, I n h3 → par (n < (l1.n : Int)) (T14 p h3 fun r2 h4 => ∃ b1 : Bool, r2 = .bool b1 ∧ parB b1 (∃ b2 o, (l1.a : Option Addr) = some ⟨b2, o, none⟩ ∧ ((0 : Int) ≤ n ∧ n < (l1.n : Int)) ∧ ∃ s : ByteArray, h4.at b2 (o + n.toNat) = some (.string s) ∧ T15 p s h4 fun r3 h5 => I (IntKind.wrap .i64 (n + 1)) h5 ∧ m (IntKind.wrap .i64 (n + 1)) h5 < m n h3) (T14 p h4 fun r4 h6 => ∃ b3 : Bool, r4 = .bool b3 ∧ parB b3 (Q (.bool true) h6) (Q (.bool false) h6))) (T14 p h3 fun r5 h7 => ∃ b4 : Bool, r5 = .bool b4 ∧ parB b4 (Q (.bool true) h7) (Q (.bool false) h7)))) (∃ (I1 : Int → Hp → Prop) (m1 : Int → Hp → Nat), I1 0 h2 ∧ (∀ n1 : Int, ∀ h8 : Hp, I1 n1 h8 → par (n1 < (l1.n : Int)) (T14 p h8 fun r6 h9 => ∃ b5 : Bool, r6 = .bool b5 ∧ parB b5 (∃ b6 o1, (l1.a : Option Addr) = some ⟨b6, o1, none⟩ ∧ ((0 : Int) ≤ n1 ∧ n1 < (l1.n : Int)) ∧ ∃ s1 : ByteArray, h9.at b6 (o1 + n1.toNat) = some (.string s1) ∧ T15 p s1 h9 fun r7 h10 => I1 (IntKind.wrap .i64 (n1 + 1)) h10 ∧ m1 (IntKind.wrap .i64 (n1 + 1)) h10 < m1 n1 h8) (T14 p h9 fun r8 h11 => ∃ b7 : Bool, r8 = .bool b7 ∧ parB b7 (Q (.bool true) h11) (Q (.bool false) h11))) (T14 p h8 fun r9 h12 => ∃ b8 : Bool, r9 = .bool b8 ∧ parB b8 (Q (.bool true) h12) (Q (.bool false) h12))))
def F4.T := F4.G F12.T F13.T F14.T F15.T
theorem F4.gen (V T12 T13 T14 T15 l l1) : denF Tryz.prog [] [(12, F12.W T12), (13, F13.W T13), (14, F14.W T14), (15, F15.W T15)] V [(122, .loop [(6, .int .i64)] [])] Tryz.f4 [.v (.slice l.a l.n l.c), .v (.slice l1.a l1.n l1.c)] = F4.G T12 T13 T14 T15 l l1 := by kernel_rfl
def F4.W (T4 : Sl → Sl → PT) (args : List Value) : PT := match args with
  | [.slice l_a l_n l_c, .slice l1_a l1_n l1_c] => T4 ⟨l_a, l_n, l_c⟩ ⟨l1_a, l1_n, l1_c⟩
  | _ => fun _ _ => False
def F4.V : List Value → PT := F4.W F4.T
theorem F4.ok : FOk Tryz.prog 4 F4.V := by
  refine ⟨⟨_, Tryz.func4, rfl, rfl⟩, fun args => ?_⟩
  unfold F4.V F4.W
  split
  · exact denF_okE (GOk.cons F12.ok (GOk.cons F13.ok (GOk.cons F14.ok (GOk.cons F15.ok (GOk.nil))))) noV_ok Tryz.func4 (F4.gen noV F12.T F13.T F14.T F15.T ⟨_, _, _⟩ ⟨_, _, _⟩)
  · exact fun _ _ h => h.elim
def F16.T (n n1 : Int) : PT := fun h Q =>
  par (n < 0) (n1 ≠ 0 ∧ Q (.int .i64 (Int.tmod (IntKind.wrap .i64 (0 - (IntKind.wrap .i64 (n + 1)))) n1)) h) (n1 ≠ 0 ∧ Q (.int .i64 (Int.tmod n n1)) h)
theorem F16.den (V n n1) : denF Tryz.prog [] [] V [] Tryz.f16 [.v (.int .i64 n), .v (.int .i64 n1)] = F16.T n n1 := by kernel_rfl
def F16.W (T16 : Int → Int → PT) (args : List Value) : PT := match args with
  | [.int .i64 n, .int .i64 n1] => T16 n n1
  | _ => fun _ _ => False
def F16.V : List Value → PT := F16.W F16.T
theorem F16.ok : FOk Tryz.prog 16 F16.V := by
  refine ⟨⟨_, Tryz.func16, rfl, rfl⟩, fun args => ?_⟩
  unfold F16.V F16.W
  split
  · exact denF_okE (GOk.nil) noV_ok Tryz.func16 (F16.den noV _ _)
  · exact fun _ _ h => h.elim
@[reducible] def F5.G (T16 : Int → Int → PT) (n n1 n2 n3 n4 n5 n6 n7 n8 n9 n10 n11 n12 n13 n14 n15 n16 n17 n18 n19 n20 n21 n22 n23 n24 n25 n26 : Int) : PT := fun h Q =>
  T16 n8 3 h fun r h1 => ∃ n27 : Int, r = .int .i64 n27 ∧ T16 n9 16773121 h1 fun r1 h2 => ∃ n28 : Int, r1 = .int .i64 n28 ∧ T16 n10 9 h2 fun r2 h3 => ∃ n29 : Int, r2 = .int .i64 n29 ∧ T16 n5 16 h3 fun r3 h4 => ∃ n30 : Int, r3 = .int .i64 n30 ∧ T16 n7 16 h4 fun r4 h5 => ∃ n31 : Int, r4 = .int .i64 n31 ∧ T16 n12 16 h5 fun r5 h6 => ∃ n32 : Int, r5 = .int .i64 n32 ∧ Q (.agg ⟨[.int .i64 n, .int .i64 n1, .int .i64 n2, .int .i64 n3, .int .i64 n4, .int .i64 (IntKind.wrap .i64 (1 + n30)), .int .i64 n6, .int .i64 (iMax (iMax 2 (IntKind.wrap .i64 (1 + n30))) (IntKind.wrap .i64 (1 + n31))), .int .i64 (IntKind.wrap .i64 (3 + n27)), .int .i64 (IntKind.wrap .i64 (4096 + n28)), .int .i64 (IntKind.wrap .i64 (2 + n29)), .int .i64 n11, .int .i64 (IntKind.wrap .i64 (1 + n32)), .int .i64 n13, .int .i64 n14, .int .i64 n15, .int .i64 n16, .int .i64 n17, .int .i64 n18, .int .i64 n19, .int .i64 n20, .int .i64 n21, .int .i64 n22, .int .i64 n23, .int .i64 n24, .int .i64 n25, .int .i64 n26]⟩) h6
def F5.T := F5.G F16.T
theorem F5.gen (V T16 n n1 n2 n3 n4 n5 n6 n7 n8 n9 n10 n11 n12 n13 n14 n15 n16 n17 n18 n19 n20 n21 n22 n23 n24 n25 n26) : denF Tryz.prog [1, 2] [(16, F16.W T16)] V [(126, .order [0, 1, 2, 3, 4, 5, 6, 7, 8])] Tryz.f5 [.v (.agg ⟨[.int .i64 n, .int .i64 n1, .int .i64 n2, .int .i64 n3, .int .i64 n4, .int .i64 n5, .int .i64 n6, .int .i64 n7, .int .i64 n8, .int .i64 n9, .int .i64 n10, .int .i64 n11, .int .i64 n12, .int .i64 n13, .int .i64 n14, .int .i64 n15, .int .i64 n16, .int .i64 n17, .int .i64 n18, .int .i64 n19, .int .i64 n20, .int .i64 n21, .int .i64 n22, .int .i64 n23, .int .i64 n24, .int .i64 n25, .int .i64 n26]⟩)] = F5.G T16 n n1 n2 n3 n4 n5 n6 n7 n8 n9 n10 n11 n12 n13 n14 n15 n16 n17 n18 n19 n20 n21 n22 n23 n24 n25 n26 := by kernel_rfl
def F5.W (T5 : I9 <| I9 <| I9 <| PT) (args : List Value) : PT := match args with
  | [.agg ⟨[.int .i64 n, .int .i64 n1, .int .i64 n2, .int .i64 n3, .int .i64 n4, .int .i64 n5, .int .i64 n6, .int .i64 n7, .int .i64 n8, .int .i64 n9, .int .i64 n10, .int .i64 n11, .int .i64 n12, .int .i64 n13, .int .i64 n14, .int .i64 n15, .int .i64 n16, .int .i64 n17, .int .i64 n18, .int .i64 n19, .int .i64 n20, .int .i64 n21, .int .i64 n22, .int .i64 n23, .int .i64 n24, .int .i64 n25, .int .i64 n26]⟩] => T5 n n1 n2 n3 n4 n5 n6 n7 n8 n9 n10 n11 n12 n13 n14 n15 n16 n17 n18 n19 n20 n21 n22 n23 n24 n25 n26
  | _ => fun _ _ => False
def F5.V : List Value → PT := F5.W F5.T
theorem F5.ok : FOk Tryz.prog 5 F5.V := by
  refine ⟨⟨_, Tryz.func5, rfl, rfl⟩, fun args => ?_⟩
  unfold F5.V F5.W
  split
  · exact denF_okE (GOk.cons F16.ok (GOk.nil)) noV_ok Tryz.func5 (F5.gen noV F16.T _ _ _ _ _ _ _ _ _ _ _ _ _ _ _ _ _ _ _ _ _ _ _ _ _ _ _)
  · exact fun _ _ h => h.elim
@[reducible] def F6.G (T16 : Int → Int → PT) (T17 : Int → PT) (T18 : Option Addr → Int → Int → Int → Sl → Sl → Sl → PT) (T19 : Option Addr → PT) (T20 : Option Addr → Int → PT) (n n1 n2 n3 n4 n5 n6 n7 n8 n9 n10 n11 n12 n13 n14 n15 n16 n17 n18 n19 n20 n21 n22 n23 n24 n25 n26 : Int) (l : Sl) : PT := fun h Q =>
  T17 n8 h fun r h1 => ∃ p : Option Addr, r = .pointer p ∧ okPtr h1 p none ∧ par ((p : Option Addr) = none) (Q (.tuple ⟨[.pointer none, .slice none 0 0]⟩) h1) (((0 : Int) ≤ n8 ∧ n8 ≤ n8 ∧ 16 * n8 ≤ 281474976710656) ∧ ∀ b, h1 b = none → ∃ J : Hp → Prop, (∀ h2 : Hp, J h2 → T19 p h2 fun r1 h3 => ∃ p1 : Option Addr, r1 = .pointer p1 ∧ ∃ (I : Sl → Int → Hp → Prop) (m : Sl → Int → Hp → Nat), I ⟨none, 0, 0⟩ 0 h3 ∧ (∀ l1 : Sl, ∀ n27 : Int, ∀ h4 : Hp, I l1 n27 h4 → par (n27 < n8) (T20 p1 n27 h4 fun r2 h5 => ∃ l2 : Sl, r2 = .slice l2.a l2.n l2.c ∧ appendD l1 75 1 24 [.slice none 0 0] 1 [.slice l2.a l2.n l2.c] h5 fun l3 h6 => I l3 (IntKind.wrap .i64 (n27 + 1)) h6 ∧ m l3 (IntKind.wrap .i64 (n27 + 1)) h6 < m l1 n27 h4) (Q (.tuple ⟨[.pointer p1, .slice l1.a l1.n l1.c]⟩) h4))) ∧ (∃ (I1 : Int → Hp → Prop) (m1 : Int → Hp → Nat), I1 0 (h1.new b (.cells (Builtin.zeroCells (List.toArray [.string (ByteArray.mk #[])]) (n8 : Int).toNat) 9 (0, 0))) ∧ (∀ n28 : Int, ∀ h7 : Hp, I1 n28 h7 → par (n28 < (l.n : Int)) (par (n28 < 400) (∃ b1 o, (l.a : Option Addr) = some ⟨b1, o, none⟩ ∧ ((0 : Int) ≤ n28 ∧ n28 < (l.n : Int)) ∧ ∃ n29 : Int, h7.at b1 (o + n28.toNat * 7) = some (.int .i64 n29) ∧ ∃ n30 : Int, h7.at b1 ((o + n28.toNat * 7) + 1) = some (.int .u64 n30) ∧ ∃ n31 : Int, h7.at b1 ((o + n28.toNat * 7) + 2) = some (.int .i64 n31) ∧ ∃ n32 : Int, h7.at b1 ((o + n28.toNat * 7) + 3) = some (.int .i64 n32) ∧ ∃ n33 : Int, h7.at b1 ((o + n28.toNat * 7) + 4) = some (.int .i64 n33) ∧ ∃ s : ByteArray, h7.at b1 ((o + n28.toNat * 7) + 5) = some (.string s) ∧ ∃ s1 : ByteArray, h7.at b1 ((o + n28.toNat * 7) + 6) = some (.string s1) ∧ T16 n29 n8 h7 fun r3 h8 => ∃ n34 : Int, r3 = .int .i64 n34 ∧ T16 n31 2147483648 h8 fun r4 h9 => ∃ n35 : Int, r4 = .int .i64 n35 ∧ ∀ b2, h9 b2 = none → T18 p 0 0 0 ⟨none, 0, 0⟩ ⟨(some ⟨b2, 0, none⟩), 1, 1⟩ ⟨(some ⟨b, 0, none⟩), (n8 : Int).toNat, (n8 : Int).toNat⟩ (h9.new b2 (.cells ⟨[.int .i64 n34, .int .u64 n30, .int .i64 n35, .int .i64 n32, .int .i64 n33, .string s, .string s1]⟩ 67 (0, 0))) fun r5 h10 => ∃ l4 : Sl, ∃ n36 : Int, r5 = .tuple ⟨[.slice l4.a l4.n l4.c, .int .i64 n36]⟩ ∧ I1 (IntKind.wrap .i64 (n28 + 1)) h10 ∧ m1 (IntKind.wrap .i64 (n28 + 1)) h10 < m1 n28 h7) (J h7)) (J h7))))
def F6.T := F6.G F16.T F17.T F18.T F19.T F20.T
theorem F6.gen (V T16 T17 T18 T19 T20 n n1 n2 n3 n4 n5 n6 n7 n8 n9 n10 n11 n12 n13 n14 n15 n16 n17 n18 n19 n20 n21 n22 n23 n24 n25 n26 l) : denF Tryz.prog [2, 9, 65] [(16, F16.W T16), (17, F17.W T17), (18, F18.W T18), (19, F19.W T19), (20, F20.W T20)] V [(31, .join [] []), (250, .loop [(8, .int .i64)] []), (2042, .loop [(11, .sl), (12, .int .i64)] [])] Tryz.f6 [.v (.agg ⟨[.int .i64 n, .int .i64 n1, .int .i64 n2, .int .i64 n3, .int .i64 n4, .int .i64 n5, .int .i64 n6, .int .i64 n7, .int .i64 n8, .int .i64 n9, .int .i64 n10, .int .i64 n11, .int .i64 n12, .int .i64 n13, .int .i64 n14, .int .i64 n15, .int .i64 n16, .int .i64 n17, .int .i64 n18, .int .i64 n19, .int .i64 n20, .int .i64 n21, .int .i64 n22, .int .i64 n23, .int .i64 n24, .int .i64 n25, .int .i64 n26]⟩), .v (.slice l.a l.n l.c)] = F6.G T16 T17 T18 T19 T20 n n1 n2 n3 n4 n5 n6 n7 n8 n9 n10 n11 n12 n13 n14 n15 n16 n17 n18 n19 n20 n21 n22 n23 n24 n25 n26 l := by kernel_rfl
def F6.W (T6 : I9 <| I9 <| I9 <| Sl → PT) (args : List Value) : PT := match args with
  | [.agg ⟨[.int .i64 n, .int .i64 n1, .int .i64 n2, .int .i64 n3, .int .i64 n4, .int .i64 n5, .int .i64 n6, .int .i64 n7, .int .i64 n8, .int .i64 n9, .int .i64 n10, .int .i64 n11, .int .i64 n12, .int .i64 n13, .int .i64 n14, .int .i64 n15, .int .i64 n16, .int .i64 n17, .int .i64 n18, .int .i64 n19, .int .i64 n20, .int .i64 n21, .int .i64 n22, .int .i64 n23, .int .i64 n24, .int .i64 n25, .int .i64 n26]⟩, .slice l_a l_n l_c] => T6 n n1 n2 n3 n4 n5 n6 n7 n8 n9 n10 n11 n12 n13 n14 n15 n16 n17 n18 n19 n20 n21 n22 n23 n24 n25 n26 ⟨l_a, l_n, l_c⟩
  | _ => fun _ _ => False
def F6.V : List Value → PT := F6.W F6.T
theorem F6.ok : FOk Tryz.prog 6 F6.V := by
  refine ⟨⟨_, Tryz.func6, rfl, rfl⟩, fun args => ?_⟩
  unfold F6.V F6.W
  split
  · exact denF_okE (GOk.cons F16.ok (GOk.cons F17.ok (GOk.cons F18.ok (GOk.cons F19.ok (GOk.cons F20.ok (GOk.nil)))))) noV_ok Tryz.func6 (F6.gen noV F16.T F17.T F18.T F19.T F20.T _ _ _ _ _ _ _ _ _ _ _ _ _ _ _ _ _ _ _ _ _ _ _ _ _ _ _ ⟨_, _, _⟩)
  · exact fun _ _ h => h.elim
end Go.Eng.YtbjnlacacapjiaaGreat
end
section
set_option maxRecDepth 100000
set_option maxHeartbeats 1000000
namespace Go.Eng.YtbjnlacacapjiaaGreat
theorem cells_inj {t u : Tab} (h : t.cells = u.cells) : t = u := by
  obtain ⟨a, b, c, d, e, f⟩ := t
  obtain ⟨a', b', c', d', e', f'⟩ := u
  simp only [Tab.cells, List.cons.injEq, Value.int.injEq, Value.string.injEq, true_and, and_true] at h
  obtain ⟨rfl, rfl, rfl, rfl, rfl, rfl⟩ := h
  rfl
theorem tmod_rng {a n : Int} (ha : 0 ≤ a) (hn : 0 < n) : 0 ≤ Int.tmod a n ∧ Int.tmod a n < n := ⟨Int.tmod_nonneg _ ha, Int.tmod_lt_of_pos _ hn⟩
section
variable {g h h' : Hp} {vb b : Nat} {ls l l1 l2 l3 : Sl} {xs : List (Sl × List Tab)} {Q : Value → Hp → Prop} {n n1 n2 n3 n4 n5 n6 n7 n8 n9 n10 n11 n12 n13 n14 n15 n16 n17 n18 n19 n20 n21 n22 n23 n24 n25 n26 : Int}
theorem sameT_s {A B : List Tab} (BA : h.row l.a (l.n * 6) (tabV A)) (BB : h.row l1.a (l1.n * 6) (tabV B)) (hA : A.length ≤ 60000) (hT : A = B → Q (.bool true) h) (hF : A ≠ B → Q (.bool false) h) : F33.T l l1 h Q := by
  have n1 : l.n = A.length := by have := BA.1; rw [tabV_len] at this; omega
  have n2 : l1.n = B.length := by have := BB.1; rw [tabV_len] at this; omega
  unfold F33.T
  refine ⟨fun hl => ?_, fun hl => hF fun e => hl (by rw [n1, n2, e])⟩
  have hAB : A.length = B.length := by omega
  refine ⟨fun k h1 => h1 = h ∧ ∃ P R S, A = P ++ R ∧ B = P ++ S ∧ k = (P.length : Int), fun k _ => A.length - k.toNat, ⟨rfl, [], _, _, rfl, rfl, rfl⟩, ?_⟩
  rintro k h1 ⟨rfl, P, R, S, e, e', rfl⟩
  have e2 := congrArg List.length e
  have e3 := congrArg List.length e'
  rw [List.length_append] at e2 e3
  refine ⟨fun hlt => ?_, fun hge => ?_⟩
  · rcases R with _ | ⟨t, R⟩
    · exact absurd hlt (by simp at e2; omega)
    rw [List.length_cons] at e2
    rcases S with _ | ⟨u, S⟩
    · simp at e3; omega
    rw [List.length_cons] at e3
    have BA' := BA
    have BB' := BB
    rw [e] at BA'
    rw [e'] at BB'
    refine tab_rd BA' rfl fun b o => ?_
    refine tab_rd BB' rfl fun b1 o1 => ⟨fun heq => ?_, fun hne => hF fun hAB' => hne ?_⟩
    · have htu : t = u := cells_inj heq
      subst htu
      rw [next_i (n := 70000) (by omega) (by omega)]
      exact ⟨⟨rfl, P ++ [t], R, S, by rw [e]; simp, by rw [e']; simp, by simp⟩, by dsimp only; omega⟩
    · rw [e, e'] at hAB'
      have := List.append_cancel_left hAB'
      cases this; rfl
  · have hR : R = [] := List.eq_nil_of_length_eq_zero (by omega)
    have hS : S = [] := List.eq_nil_of_length_eq_zero (by omega)
    subst hR hS
    exact hT (by rw [e, e'])
theorem sameI_s {A B : List Int} (BA : h.row l.a l.n (nV3 A)) (BB : h.row l1.a l1.n (nV3 B)) (hA : A.length ≤ 60000) (hT : A = B → Q (.bool true) h) (hF : A ≠ B → Q (.bool false) h) : F23.T l l1 h Q := by
  have n1 : l.n = A.length := by have := BA.1; rw [nV3_len] at this; omega
  have n2 : l1.n = B.length := by have := BB.1; rw [nV3_len] at this; omega
  unfold F23.T
  refine ⟨fun hl => ?_, fun hl => hF fun e => hl (by rw [n1, n2, e])⟩
  have hAB : A.length = B.length := by omega
  refine ⟨fun k h1 => h1 = h ∧ ∃ P R S, A = P ++ R ∧ B = P ++ S ∧ k = (P.length : Int), fun k _ => A.length - k.toNat, ⟨rfl, [], _, _, rfl, rfl, rfl⟩, ?_⟩
  rintro k h1 ⟨rfl, P, R, S, e, e', rfl⟩
  have e2 := congrArg List.length e
  have e3 := congrArg List.length e'
  rw [List.length_append] at e2 e3
  refine ⟨fun hlt => ?_, fun hge => ?_⟩
  · rcases R with _ | ⟨t, R⟩
    · exact absurd hlt (by simp at e2; omega)
    rw [List.length_cons] at e2
    rcases S with _ | ⟨u, S⟩
    · simp at e3; omega
    rw [List.length_cons] at e3
    obtain ⟨b, o, ha, hat⟩ := row_get BA (i := P.length) (by omega)
    obtain ⟨b1, o1, ha1, hat1⟩ := row_get BB (i := P.length) (by omega)
    refine ⟨b, o, ha, ⟨by omega, hlt⟩, t, ?_, b1, o1, ha1, ⟨by omega, by omega⟩, u, ?_, fun heq => ?_, fun hne => hF fun hAB' => hne ?_⟩
    · rw [Int.toNat_natCast, hat P.length (by omega), e]; unfold nV3; simp
    · rw [Int.toNat_natCast, hat1 P.length (by omega), e']; unfold nV3; simp
    · subst heq
      rw [next_i (n := 70000) (by omega) (by omega)]
      exact ⟨⟨rfl, P ++ [t], R, S, by rw [e]; simp, by rw [e']; simp, by simp⟩, by dsimp only; omega⟩
    · rw [e, e'] at hAB'
      have := List.append_cancel_left hAB'
      cases this; rfl
  · have hR : R = [] := List.eq_nil_of_length_eq_zero (by omega)
    have hS : S = [] := List.eq_nil_of_length_eq_zero (by omega)
    subst hR hS
    exact hT (by rw [e, e'])
theorem sameJ_s {i j : Jb} (U : h.row l.a (l.n * 6) (tabV i.up)) (L : h.row l1.a (l1.n * 6) (tabV i.lo)) (U' : h.row l2.a (l2.n * 6) (tabV j.up)) (L' : h.row l3.a (l3.n * 6) (tabV j.lo)) (hu : i.up.length ≤ 60000) (hl : i.lo.length ≤ 60000)
    (hT : i = j → Q (.bool true) h) (hF : i ≠ j → Q (.bool false) h) : F30.T i.lv l l1 i.cut i.mv j.lv l2 l3 j.cut j.mv h Q := by
  obtain ⟨a, b, c, d, e⟩ := i
  obtain ⟨a', b', c', d', e'⟩ := j
  dsimp only at U L U' L' hu hl
  unfold F30.T F30.G
  refine ⟨fun h1 => ?_, fun h1 => hF fun hh => h1 (by cases hh; rfl)⟩
  refine sameT_s U U' hu (fun h2 => ⟨_, rfl, fun _ => ?_, fun hh => Bool.noConfusion hh⟩) (fun h2 => ⟨_, rfl, fun hh => Bool.noConfusion hh, fun _ => hF fun hh => h2 (by cases hh; rfl)⟩)
  refine sameT_s L L' hl (fun h3 => ⟨_, rfl, fun _ => ?_, fun hh => Bool.noConfusion hh⟩) (fun h3 => ⟨_, rfl, fun hh => Bool.noConfusion hh, fun _ => hF fun hh => h3 (by cases hh; rfl)⟩)
  refine ⟨fun h4 => ⟨fun h5 => ?_, fun h5 => hF fun hh => h5 (by cases hh; rfl)⟩, fun h4 => hF fun hh => h4 (by cases hh; rfl)⟩
  dsimp only at h1 h4 h5
  subst h1 h2 h3 h4 h5
  exact hT rfl
theorem place_s {n n1 : Int} (hn : -9223372036854775808 ≤ n) (h1 : 0 < n1) (hQ : ∀ m, 0 ≤ m → m < n1 → Q (.int .i64 m) h) : F16.T n n1 h Q := by
  unfold F16.T
  refine ⟨fun hneg => ⟨by omega, ?_⟩, fun hpos => ⟨by omega, ?_⟩⟩
  · rw [wrap_i64 (n := n + 1) (by omega) (by omega), wrap_i64 (by omega) (by omega)]
    obtain ⟨a, b⟩ := tmod_rng (a := 0 - (n + 1)) (by omega) h1
    exact hQ _ a b
  · obtain ⟨a, b⟩ := tmod_rng (a := n) (by omega) h1
    exact hQ _ a b
theorem right_s (r5 : -9223372036854775808 ≤ n5) (r7 : -9223372036854775808 ≤ n7) (r8 : -9223372036854775808 ≤ n8) (r9 : -9223372036854775808 ≤ n9) (r10 : -9223372036854775808 ≤ n10) (r12 : -9223372036854775808 ≤ n12)
    (hQ : ∀ m5 m7 m8 m9 m10 m12, CfOk m5 m7 m8 m9 m10 m12 → Q (.agg ⟨[.int .i64 n, .int .i64 n1, .int .i64 n2, .int .i64 n3, .int .i64 n4, .int .i64 m5, .int .i64 n6, .int .i64 m7, .int .i64 m8, .int .i64 m9, .int .i64 m10, .int .i64 n11, .int .i64 m12, .int .i64 n13, .int .i64 n14, .int .i64 n15, .int .i64 n16, .int .i64 n17, .int .i64 n18, .int .i64 n19, .int .i64 n20, .int .i64 n21, .int .i64 n22, .int .i64 n23, .int .i64 n24, .int .i64 n25, .int .i64 n26]⟩) h) : F5.T n n1 n2 n3 n4 n5 n6 n7 n8 n9 n10 n11 n12 n13 n14 n15 n16 n17 n18 n19 n20 n21 n22 n23 n24 n25 n26 h Q := by
  unfold F5.T F5.G
  refine place_s r8 (by decide) fun a a1 a2 => ⟨a, rfl, ?_⟩
  refine place_s r9 (by decide) fun c c1 c2 => ⟨c, rfl, ?_⟩
  refine place_s r10 (by decide) fun d d1 d2 => ⟨d, rfl, ?_⟩
  refine place_s r5 (by decide) fun e e1 e2 => ⟨e, rfl, ?_⟩
  refine place_s r7 (by decide) fun f f1 f2 => ⟨f, rfl, ?_⟩
  refine place_s r12 (by decide) fun i i1 i2 => ⟨i, rfl, ?_⟩
  rw [wrap_i64 (n := 1 + e) (by omega) (by omega), wrap_i64 (n := 1 + f) (by omega) (by omega), wrap_i64 (n := 3 + a) (by omega) (by omega), wrap_i64 (n := 4096 + c) (by omega) (by omega), wrap_i64 (n := 2 + d) (by omega) (by omega), wrap_i64 (n := 1 + i) (by omega) (by omega)]
  refine hQ _ _ _ _ _ _ ⟨by omega, ?_, by omega, by omega, by omega, by omega⟩
  unfold iMax
  split <;> split <;> omega
def Cn (h : Hp) (b : Nat) : Prop := ∃ c : Int, h b = some (.cells ⟨[.int .i64 c]⟩ 94 (0, 0))
theorem cadd_s (C : Cn h b) {n : Int} (hQ : ∀ h' r, Cn h' b → (∀ k x, k ≠ b → h k = some x → h' k = some x) → Q (.bool r) h') : F13.T (some ⟨b, 0, none⟩) n h Q := by
  obtain ⟨c, x⟩ := C
  unfold F13.T
  have y : (h.wr b 0 [.int .i64 (IntKind.wrap .i64 (c - n))]) b = some (.cells ⟨[.int .i64 (IntKind.wrap .i64 (c - n))]⟩ 94 (0, 0)) := by
    unfold Hp.wr; rw [if_pos rfl, x]; rfl
  have keep : ∀ k x, k ≠ b → h k = some x → (h.wr b 0 [.int .i64 (IntKind.wrap .i64 (c - n))]) k = some x := fun k z hk e => by
    unfold Hp.wr; rw [if_neg hk]; exact e
  refine ⟨b, 0, rfl, c, at_of x 0, fun _ => ⟨b, 0, rfl, c, at_of x 0, b, 0, rfl, canW_new x (Nat.le_refl 1), b, 0, rfl, _, at_of y 0, fun _ => hQ _ _ ⟨_, y⟩ keep, fun _ => hQ _ _ ⟨_, y⟩ keep⟩, fun _ => ⟨b, 0, rfl, c, at_of x 0, fun _ => hQ _ _ ⟨_, x⟩ (fun _ _ _ e => e), fun _ => hQ _ _ ⟨_, x⟩ (fun _ _ _ e => e)⟩⟩
theorem cok_s (C : Cn h b) (hQ : ∀ r, Q (.bool r) h) : F14.T (some ⟨b, 0, none⟩) h Q := by
  obtain ⟨c, x⟩ := C
  exact ⟨b, 0, rfl, c, at_of x 0, fun _ => hQ _, fun _ => hQ _⟩
theorem ctext_s (C : Cn h b) {s : ByteArray} (hQ : ∀ h' r, Cn h' b → (∀ k x, k ≠ b → h k = some x → h' k = some x) → Q r h') : F15.T (some ⟨b, 0, none⟩) s h Q := by
  unfold F15.T F15.G
  refine cadd_s C fun h' r C' k' => ⟨r, rfl, fun _ => hQ _ _ C' k', fun _ => hQ _ _ C' k'⟩
theorem few_s {ptrs : List ByteArray} (B : h.row l1.a l1.n (ptrV ptrs)) (hl : l1.n < 9223372036854775807) (hQ : ∀ h' r, Keep h h' → Q (.bool r) h') : F4.T l l1 h Q := by
  have hn : l1.n = ptrs.length := by have := B.1; rw [ptrV_length] at this; omega
  unfold F4.T F12.T F4.G
  intro b hb
  have K1 := Keep.new hb (.cells ⟨[.int .i64 10000]⟩ 94 (0, 0))
  have C1 : Cn (h.new b (.cells ⟨[.int .i64 10000]⟩ 94 (0, 0))) b := ⟨_, new_at _ _ _⟩
  generalize h.new b (.cells ⟨[.int .i64 10000]⟩ 94 (0, 0)) = h1 at K1 C1 ⊢
  refine ⟨_, rfl, cadd_s C1 fun h2 r C2 k2 => ⟨r, rfl, ?_⟩⟩
  have K2 : Keep h h2 := fun k x e => k2 k x (ne_of e hb) (K1 k x e)
  have ok : ∀ h3, Cn h3 b → Keep h h3 → F14.T (some ⟨b, 0, none⟩) h3 fun r5 h7 => ∃ b4 : Bool, r5 = .bool b4 ∧ parB b4 (Q (.bool true) h7) (Q (.bool false) h7) := fun h3 C3 K3 => cok_s C3 fun r => ⟨r, rfl, fun _ => hQ _ _ K3, fun _ => hQ _ _ K3⟩
  have loop : ∃ (I : Int → Hp → Prop) (m : Int → Hp → Nat), I 0 h2 ∧ (∀ n : Int, ∀ h3 : Hp, I n h3 → par (n < (l1.n : Int)) (F14.T (some ⟨b, 0, none⟩) h3 fun r2 h4 => ∃ b1 : Bool, r2 = .bool b1 ∧ parB b1 (∃ b2 o, (l1.a : Option Addr) = some ⟨b2, o, none⟩ ∧ ((0 : Int) ≤ n ∧ n < (l1.n : Int)) ∧ ∃ s : ByteArray, h4.at b2 (o + n.toNat) = some (.string s) ∧ F15.T (some ⟨b, 0, none⟩) s h4 fun r3 h5 => I (IntKind.wrap .i64 (n + 1)) h5 ∧ m (IntKind.wrap .i64 (n + 1)) h5 < m n h3) (F14.T (some ⟨b, 0, none⟩) h4 fun r4 h6 => ∃ b3 : Bool, r4 = .bool b3 ∧ parB b3 (Q (.bool true) h6) (Q (.bool false) h6))) (F14.T (some ⟨b, 0, none⟩) h3 fun r5 h7 => ∃ b4 : Bool, r5 = .bool b4 ∧ parB b4 (Q (.bool true) h7) (Q (.bool false) h7))) := by
    refine ⟨fun n h3 => Cn h3 b ∧ Keep h h3 ∧ ∃ k : Nat, n = (k : Int) ∧ k ≤ ptrs.length, fun n _ => ptrs.length - n.toNat, ⟨C2, K2, 0, rfl, Nat.zero_le _⟩, ?_⟩
    rintro n h3 ⟨C3, K3, k, rfl, hk⟩
    refine ⟨fun hlt => ?_, fun hge => ok h3 C3 K3⟩
    refine cok_s C3 fun r => ⟨r, rfl, fun _ => ?_, fun _ => ok h3 C3 K3⟩
    have hk' : k < ptrs.length := by omega
    obtain ⟨b2, o, ha, hat⟩ := row_get (K3.row B) (i := k) (by omega)
    refine ⟨b2, o, ha, ⟨by omega, hlt⟩, ptrs[k], ?_, ?_⟩
    · rw [Int.toNat_natCast, hat k (by omega)]
      unfold ptrV
      rw [List.getElem?_map, List.getElem?_eq_getElem hk']; rfl
    · refine ctext_s C3 fun h5 r C5 k5 => ?_
      rw [next_i (n := ptrs.length) hk' (by omega)]
      exact ⟨⟨C5, fun k x e => k5 k x (ne_of e hb) (K3 k x e), k + 1, rfl, hk'⟩, by dsimp only; omega⟩
  exact ⟨fun _ => loop, fun _ => loop⟩
end
end Go.Eng.YtbjnlacacapjiaaGreat
end
section
set_option maxRecDepth 100000
set_option maxHeartbeats 1000000
namespace Go.Eng.YtbjnlacacapjiaaGreat
structure GoodL (lv : Lv) : Prop where
  hulls : Hulls lv
  nd : (nums lv).Nodup
  adj : ∀ i ts, 1 ≤ i → lv[i]? = some ts → Adj ts
  w : ∀ l ∈ lv, ∀ t ∈ l, 0 ≤ t.weight ∧ t.weight < 2147483648
theorem nums_cons (l : List Tab) (lv : Lv) : nums (l :: lv) = l.map Tab.num ++ nums lv := by unfold nums; simp
theorem nums_set : ∀ {lv : Lv} {k : Nat} {ts : List Tab} {t : Tab}, lv[k]? = some ts → (nums (lv.set k (ts ++ [t]))).Perm (t.num :: nums lv)
  | [], k, ts, t, h => by simp at h
  | l :: lv, 0, ts, t, h => by
    simp only [List.getElem?_cons_zero, Option.some.injEq] at h
    subst h
    rw [List.set_cons_zero, nums_cons, nums_cons, List.map_append, List.append_assoc]
    exact List.perm_middle
  | l :: lv, k + 1, ts, t, h => by
    rw [List.getElem?_cons_succ] at h
    rw [List.set_cons_succ, nums_cons, nums_cons]
    exact ((nums_set h).append_left _).trans List.perm_middle
theorem nums_perm : ∀ {lv lw : Lv}, lw.length = lv.length → (∀ (i : Nat) (a b : List Tab), lv[i]? = some a → lw[i]? = some b → List.Perm b a) → (nums lw).Perm (nums lv)
  | [], [], _, _ => List.Perm.refl _
  | [], _ :: _, h, _ => (by simp at h)
  | _ :: _, [], h, _ => (by simp at h)
  | a :: lv, b :: lw, h, hp => by
    rw [nums_cons, nums_cons]
    have h1 : List.Perm b a := hp 0 a b rfl rfl
    have h2 := nums_perm (lv := lv) (lw := lw) (by simpa using h) (fun i x y hx hy => hp (i + 1) x y (by simpa using hx) (by simpa using hy))
    exact (h1.map _).append h2
theorem Sorted.perm {lv lw : Lv} (h : Sorted lv lw) : ∀ (i : Nat) (a b : List Tab), lv[i]? = some a → lw[i]? = some b → List.Perm b a := fun i a b ha hb => by
  rcases Nat.eq_zero_or_pos i with rfl | h0
  · have := h.2.1
    rw [ha, hb] at this
    cases this
    exact List.Perm.refl _
  · exact (h.2.2 i a b h0 ha hb).1
theorem good_nil (k : Nat) : GoodL (List.replicate k []) := by
  have e : nums (List.replicate k []) = [] := by
    induction k with
    | zero => rfl
    | succ k ih => rw [List.replicate_succ, nums_cons, ih]; rfl
  refine ⟨fun l hl t ht => ?_, by rw [e]; exact List.nodup_nil, fun i ts _ hts => ?_, fun l hl t ht => ?_⟩
  · rw [(List.mem_replicate.1 hl).2] at ht; cases ht
  · have := (List.mem_replicate.1 (List.mem_of_getElem? hts)).2
    subst this
    intro j x y hx; simp at hx
  · rw [(List.mem_replicate.1 hl).2] at ht; cases ht
theorem good_step {lv lw : Lv} {e : Edit} {p : Placed} (G : GoodL lv) (ho : e.out = []) (hi : e.inn = [p]) (hw : 0 ≤ p.weight ∧ p.weight < 2147483648) (h : Res lv e 0 lw) : GoodL lw ∧ totL lw ≤ totL lv + 1 ∧ lw.length = lv.length := by
  unfold Res at h
  rw [ho, hi] at h
  split at h
  · next h1 =>
    have o0 : outM [] lv = (0, lv) := rfl
    rw [o0] at h
    dsimp only at h
    rw [if_pos rfl] at h
    have hs := inM_sum [p] lv
    split at h
    · next h3 =>
      rcases h with ⟨h, _⟩ | ⟨_, h⟩
      · exact absurd h (by decide)
      have H2 : Hulls (inM [p] lv).2 := hs.2.2 G.hulls
      have nd2 : (nums (inM [p] lv).2).Nodup ∧ ∀ l ∈ (inM [p] lv).2, ∀ t ∈ l, 0 ≤ t.weight ∧ t.weight < 2147483648 := by
        unfold inM at h3
        split at h3
        · exact absurd h3 (by simp)
        · next hp =>
          split at h3
          · exact absurd h3 (by simp)
          · next ts hts =>
            split at h3
            · exact absurd h3 (by simp)
            · next hn =>
              split at h3
              · exact absurd h3 (by simp)
              · next hb =>
                have hin : inM [p] lv = (0, lv.set p.lv.toNat (ts ++ [p.tab])) := by
                  unfold inM
                  rw [if_neg hp]
                  simp only [hts]
                  rw [if_neg hn, if_neg hb]
                  rfl
                rw [hin]
                refine ⟨(nums_set hts).nodup_iff.2 (List.nodup_cons.2 ⟨hn, G.nd⟩), fun l hl t ht => ?_⟩
                rcases List.mem_or_eq_of_mem_set hl with hl | hl
                · exact G.w l hl t ht
                · subst hl
                  rcases List.mem_append.1 ht with ht | ht
                  · exact G.w ts (List.mem_of_getElem? hts) t ht
                  · rw [List.mem_singleton.1 ht]; exact hw
      refine ⟨⟨h.hulls H2, ?_, fun i us h0 hu => ?_, fun l hl t ht => ?_⟩, ?_, ?_⟩
      · exact (nums_perm h.1 h.perm).nodup_iff.2 nd2.1
      · have hlt : i < (inM [p] lv).2.length := by rw [← h.1]; exact (List.getElem?_eq_some_iff.1 hu).1
        exact (h.2.2 i _ us h0 (List.getElem?_eq_getElem hlt) hu).2.2
      · obtain ⟨i, hi', hl'⟩ := List.mem_iff_getElem.1 hl
        have hlt : i < (inM [p] lv).2.length := by rw [← h.1]; exact hi'
        have := h.perm i _ l (List.getElem?_eq_getElem hlt) (by rw [← hl']; exact List.getElem?_eq_getElem hi')
        exact nd2.2 _ (List.getElem_mem hlt) t (this.mem_iff.1 ht)
      · have := h.totL
        have := hs.1
        simp only [List.length_singleton] at this
        omega
      · rw [h.1, hs.2.1]
    · next h3 => exact absurd h.symm h3
  · exact absurd h (by decide)
theorem zero_ptrs (n : Nat) : (Builtin.zeroCells (List.toArray [Value.string (ByteArray.mk #[])]) ((n : Nat) : Int).toNat) = ⟨ptrV (List.replicate n ⟨#[]⟩)⟩ := by
  rw [Int.toNat_natCast]
  unfold Builtin.zeroCells ptrV
  apply Array.ext
  · simp
  · intro i h1 h2
    simp [Nat.mod_one]
theorem NewN.grow {g h : Hp} {s : Sl} {sz t b : Nat} {o : Obj} {vs : List Value} (N : NewN g s) (B : Buf h s sz t vs) (hb : h b = none) : NewN (g.new b o) s := by
  rcases N with h0 | ⟨k, hk, hn⟩
  · exact .inl h0
  · refine .inr ⟨k, hk, ?_⟩
    rcases B.own with ⟨ha, _⟩ | ⟨c, _, _, ha, hc, _⟩
    · rw [hk] at ha; cases ha
    · rw [hk] at ha
      simp only [Option.some.injEq, Addr.mk.injEq] at ha
      rw [new_ne _ _ (by rw [ha.1]; exact ne_of hc hb)]; exact hn
section
variable {g h h' : Hp} {sb vb pm cm b : Nat} {ps ls l l1 l2 : Sl} {xs : List (Sl × List Tab)} {ptrs : List ByteArray} {Q : Value → Hp → Prop} {n n1 n2 n3 n4 n5 n6 n7 n8 n9 n10 n11 n12 n13 n14 n15 n16 n17 n18 n19 n20 n21 n22 n23 n24 n25 n26 : Int}
theorem SetA.grow (S : SetA g h sb vb pm cm ps ls xs ptrs) (hb : h b = none) (o : Obj) : SetA (g.new b o) (h.new b o) sb vb pm cm ps ls xs ptrs := by
  have K := Keep.new hb o
  have kk : Keep (g.new b o) (h.new b o) := fun k x e => by
    by_cases hk : k = b
    · subst hk; rw [new_at] at e ⊢; exact e
    · rw [new_ne _ _ hk] at e ⊢; exact S.V.L.k k x e
  obtain ⟨c, hc⟩ := S.m
  obtain ⟨es, c2, h2, h3⟩ := S.c
  refine ⟨⟨⟨kk, NewN.grow S.V.L.nl S.V.L.l hb, S.V.L.l.keep K, fun x hx => Buf.keep K (S.V.L.t x hx), fun x hx => NewN.grow (S.V.L.n x hx) (S.V.L.t x hx) hb, S.V.L.d⟩, ?_, K _ _ S.V.v⟩, ?_, K _ _ S.s, NewN.grow S.np S.p hb, S.p.keep K, ⟨c, K _ _ hc⟩, ?_, ⟨es, c2, K _ _ h2, h3⟩, S.ne⟩
  · rw [new_ne _ _ (ne_of S.V.v hb)]; exact S.V.nv
  · rw [new_ne _ _ (ne_of S.s hb)]; exact S.ns
  · rw [new_ne _ _ (ne_of h2 hb)]; exact S.nc
theorem SetA.base {g0 : Hp} (K : Keep g0 g) (S : SetA g h sb vb pm cm ps ls xs ptrs) : SetA g0 h sb vb pm cm ps ls xs ptrs :=
  ⟨Ver.base K S.V, K.dom _ S.ns, S.s, S.np.mono K.dom, S.p, S.m, K.dom _ S.nc, S.c, S.ne⟩
def LT (h : Hp) (r : Sl) (lv : Lv) : Prop := ∃ ys : List (Sl × List Tab), Buf h r 1 75 (slV (ys.map (·.1))) ∧ (∀ y ∈ ys, TB h y.1 y.2) ∧ ys.map (·.2) = lv
theorem totL_le {lv : Lv} {n : Nat} (h : totL lv ≤ n) : ∀ l ∈ lv, l.length ≤ n := fun l hl => Nat.le_trans (totL_mem hl) h
theorem built_s {inn : List Placed} (hin : h.row l.a (l.n * 7) (inV inn)) (hr : ∀ p ∈ inn, -9223372036854775808 ≤ p.lv ∧ -9223372036854775808 ≤ p.weight) (h8 : 3 ≤ n8 ∧ n8 ≤ 5)
    (hQ : ∀ h' vb ls xs r, Keep h h' → Ver h h' vb ls xs → GoodL (xs.map (·.2)) → totL (xs.map (·.2)) ≤ 400 → n8 = (xs.length : Int) → LT h' r (xs.map (·.2)) → Q (.tuple ⟨[.pointer (some ⟨vb, 0, none⟩), .slice r.a r.n r.c]⟩) h') : F6.T n n1 n2 n3 n4 n5 n6 n7 n8 n9 n10 n11 n12 n13 n14 n15 n16 n17 n18 n19 n20 n21 n22 n23 n24 n25 n26 l h Q := by
  obtain ⟨k, hk⟩ := Int.eq_ofNat_of_zero_le (show 0 ≤ n8 by omega)
  have hln : l.n = inn.length := by have := hin.1; rw [inV_len] at this; omega
  subst hk
  unfold F6.T F6.G
  refine new_spec (k := k) rfl (by omega) (by omega) fun h1 sb vb pm cm ps ls xs S0 ex0 => ⟨_, rfl, fun a b _ e => (by cases e), fun e => (by cases e), fun _ => ⟨⟨by omega, by omega, by omega⟩, fun b hb => ?_⟩⟩
  rw [zero_ptrs, Int.toNat_natCast]
  have S1 := S0.grow hb (.cells ⟨ptrV (List.replicate k ⟨#[]⟩)⟩ 9 (0, 0))
  have hgb := S0.V.L.k.dom b hb
  have KG := Keep.new hgb (.cells ⟨ptrV (List.replicate k ⟨#[]⟩)⟩ 9 (0, 0))
  have xG := new_at h b (.cells ⟨ptrV (List.replicate k ⟨#[]⟩)⟩ 9 (0, 0))
  generalize h1.new b (.cells ⟨ptrV (List.replicate k ⟨#[]⟩)⟩ 9 (0, 0)) = h2 at S1 ⊢
  generalize h.new b (.cells ⟨ptrV (List.replicate k ⟨#[]⟩)⟩ 9 (0, 0)) = G at S1 KG xG
  have hxl : xs.length = k := by have := congrArg List.length ex0; simpa using this
  refine ⟨fun h3 => ∃ vb ls xs ptrs, SetA G h3 sb vb pm cm ps ls xs ptrs ∧ GoodL (xs.map (·.2)) ∧ totL (xs.map (·.2)) ≤ 400 ∧ xs.length = k, ?_, ?_⟩
  · rintro h3 ⟨vb, ls, xs, ptrs, S, Gd, ht, hxk⟩
    have hK : Keep h h3 := KG.trans S.V.L.k
    have V : Ver h h3 vb ls xs := Ver.base KG S.V
    have hsz : ∀ x ∈ xs, x.2.length ≤ 60000 := fun x hx => by
      have := totL_le ht x.2 (List.mem_map.2 ⟨x, hx, rfl⟩); omega
    refine current_spec S ⟨_, rfl, ?_⟩
    refine ⟨fun l1 n h4 => ∃ i : Nat, n = (i : Int) ∧ i ≤ k ∧ Keep h3 h4 ∧ NewN h3 l1 ∧ ∃ ys : List (Sl × List Tab), Buf h4 l1 1 75 (slV (ys.map (·.1))) ∧ (∀ y ∈ ys, TB h4 y.1 y.2) ∧ ys.map (·.2) = (xs.map (·.2)).take i, fun _ n _ => k - n.toNat, ⟨0, rfl, Nat.zero_le _, Keep.refl _, NewN.nil _, [], Buf.nil _ _ _, fun y hy => (by cases hy), rfl⟩, ?_⟩
    rintro l1 n h4 ⟨i, rfl, hi, K4, N4, ys, B4, T4, ey⟩
    refine ⟨fun hlt => ?_, fun hge => ?_⟩
    · refine tables_s (V.keep K4) hsz fun h5 r K5 B5 N5 => ⟨r, rfl, ?_⟩
      have hyl : ys.length = i := by
        have := congrArg List.length ey
        rw [List.length_map, List.length_take, List.length_map, Nat.min_eq_left (by omega)] at this
        exact this
      have hl1 : l1.n = i := by have := B4.len; rw [slV_length, List.length_map] at this; omega
      have hi' : i < xs.length := by omega
      have B4' := B4.keep K5
      refine append_buf (us := [.slice r.a r.n r.c]) B4' rfl rfl (by omega) fun l3 h6 B6 _ U6 => ?_
      obtain ⟨K6, N6⟩ := NewN.upd (K4.trans K5) N4 U6
      have C6 := Ck.of_upd B4' U6
      rw [next_i (n := 100) (by omega) (by omega)]
      refine ⟨⟨i + 1, rfl, by omega, K6, N6, ys ++ [(r, (xs[i]).2)], ?_, fun y hy => ?_, ?_⟩, by dsimp only; omega⟩
      · have : slV ((ys ++ [(r, (xs[i]).2)]).map (·.1)) = slV (ys.map (·.1)) ++ [.slice r.a r.n r.c] := by unfold slV; simp
        rw [this]; exact B6
      · rcases List.mem_append.1 hy with hy | hy
        · exact C6.buf (by decide) (Buf.keep K5 (T4 y hy))
        · rw [List.mem_singleton.1 hy]
          have e := tabsI_nat xs (List.getElem?_eq_getElem hi')
          rw [e] at B5
          exact C6.buf (by decide) B5
      · rw [List.map_append, ey, List.take_add_one]
        congr 1
        simp [hi']
    · have : i = k := by omega
      subst this
      refine hQ h4 vb ls xs l1 (hK.trans K4) (V.keep K4) Gd ht (by rw [hxk]) ⟨ys, B4, T4, ?_⟩
      rw [ey, List.take_of_length_le (by rw [List.length_map]; omega)]
  · refine ⟨fun n h7 => ∃ i : Nat, n = (i : Int) ∧ i ≤ inn.length ∧ i ≤ 400 ∧ ∃ vb ls xs ptrs, SetA G h7 sb vb pm cm ps ls xs ptrs ∧ GoodL (xs.map (·.2)) ∧ totL (xs.map (·.2)) ≤ i ∧ xs.length = k ∧ ptrs.length = k, fun n _ => 400 - n.toNat, ⟨0, rfl, Nat.zero_le _, by omega, vb, ls, xs, _, S1, by rw [ex0]; exact good_nil k, ?_, hxl, by simp⟩, ?_⟩
    · rw [ex0]; unfold totL; simp
    rintro n h7 ⟨i, rfl, hi, hi4, vb, ls, xs, ptrs, S, Gd, ht, hxk, hpk⟩
    refine ⟨fun hlt => ⟨fun h4 => ?_, fun h4 => ⟨vb, ls, xs, ptrs, S, Gd, by omega, hxk⟩⟩, fun hge => ⟨vb, ls, xs, ptrs, S, Gd, by omega, hxk⟩⟩
    have hii : i < inn.length := by omega
    obtain ⟨A, p, R, rfl, hA⟩ : ∃ A p R, inn = A ++ p :: R ∧ A.length = i := by
      refine ⟨inn.take i, inn[i], inn.drop (i + 1), ?_, by rw [List.length_take]; omega⟩
      have e := List.take_append_drop i inn
      rw [List.drop_eq_getElem_cons hii] at e
      exact e.symm
    obtain ⟨r1, r2⟩ := hr p (by simp)
    have hKG : Keep h h7 := KG.trans S.V.L.k
    refine in_rd (hKG.row hin) (by rw [hA]) fun b1 o => ?_
    refine place_s r1 (by omega) fun m m1 m2 => ⟨m, rfl, ?_⟩
    refine place_s r2 (by decide) fun w w1 w2 => ⟨w, rfl, fun b2 hb2 => ?_⟩
    have S2 := S.grow hb2 (.cells ⟨[.int .i64 m, .int .u64 p.num, .int .i64 w, .int .i64 p.bytes, .int .i64 p.entries, .string p.least, .string p.greatest]⟩ 67 (0, 0))
    have hg2 := S.V.L.k.dom b2 hb2
    have K2 := Keep.new hg2 (.cells ⟨[.int .i64 m, .int .u64 p.num, .int .i64 w, .int .i64 p.bytes, .int .i64 p.entries, .string p.least, .string p.greatest]⟩ 67 (0, 0))
    have x2 := new_at G b2 (.cells ⟨[.int .i64 m, .int .u64 p.num, .int .i64 w, .int .i64 p.bytes, .int .i64 p.entries, .string p.least, .string p.greatest]⟩ 67 (0, 0))
    have xG2 := K2 _ _ xG
    generalize h7.new b2 (.cells ⟨[.int .i64 m, .int .u64 p.num, .int .i64 w, .int .i64 p.bytes, .int .i64 p.entries, .string p.least, .string p.greatest]⟩ 67 (0, 0)) = h8' at S2 ⊢
    generalize G.new b2 (.cells ⟨[.int .i64 m, .int .u64 p.num, .int .i64 w, .int .i64 p.bytes, .int .i64 p.entries, .string p.least, .string p.greatest]⟩ 67 (0, 0)) = G2 at S2 K2 x2 xG2
    have E : EdAt G2 ⟨0, 0, 0, [], [⟨m, p.num, w, p.bytes, p.entries, p.least, p.greatest⟩], List.replicate k ⟨#[]⟩⟩ ⟨none, 0, 0⟩ ⟨some ⟨b2, 0, none⟩, 1, 1⟩ ⟨some ⟨b, 0, none⟩, k, k⟩ := by
      refine ⟨⟨rfl, .inl rfl⟩, ⟨rfl, .inr ⟨b2, 0, rfl, fun j _ => ?_⟩⟩, ⟨by simp [ptrV], .inr ⟨b, 0, rfl, fun j _ => ?_⟩⟩⟩
      · rw [Nat.zero_add, at_of x2]
        simp [inV, Placed.cells]
      · rw [Nat.zero_add, at_of xG2]
        simp
    refine apply_spec S2 E (by rw [hpk, hxk]) (by omega) (by omega) (by show totL (xs.map (·.2)) + 1 ≤ 50000; omega) (by show 0 ≤ 50000; omega) fun h10 c r vb' ls' xs' ptrs' _ S' R e1 e2 => ?_
    have S3 := S'.base K2
    rw [next_i (n := 1000) (by omega) (by omega)]
    refine ⟨r, c, rfl, ⟨i + 1, rfl, hii, by omega, vb', ls', xs', ptrs', S3, ?_⟩, by dsimp only; omega⟩
    by_cases hc : c = 0
    · subst hc
      obtain ⟨g1, g2, g3⟩ := good_step Gd rfl rfl ⟨w1, w2⟩ R
      rw [List.length_map, List.length_map] at g3
      refine ⟨g1, by omega, by omega, ?_⟩
      rw [e1 rfl]; simp
    · obtain ⟨rfl, rfl⟩ := e2 hc
      exact ⟨Gd, by omega, hxk, hpk⟩
end
end Go.Eng.YtbjnlacacapjiaaGreat
end
section
set_option maxRecDepth 100000
open Go.Proofs
namespace Go.Eng.YtbjnlacacapjiaaGreat
def F55.T (n : Int) : PT := fun h Q =>
  (2 : Int) ≠ 0 ∧ par ((Int.tmod n 2) = 0) (Q (.int .i64 (-7701)) h) (Q (.int .i64 (-7702)) h)
theorem F55.den (V n) : denF Tryz.prog [] [] V [] Tryz.f55 [.v (.int .i64 n)] = F55.T n := by kernel_rfl
def F55.W (T55 : Int → PT) (args : List Value) : PT := match args with
  | [.int .i64 n] => T55 n
  | _ => fun _ _ => False
def F55.V : List Value → PT := F55.W F55.T
theorem F55.ok : FOk Tryz.prog 55 F55.V := by
  refine ⟨⟨_, Tryz.func55, rfl, rfl⟩, fun args => ?_⟩
  unfold F55.V F55.W
  split
  · exact denF_okE (GOk.nil) noV_ok Tryz.func55 (F55.den noV _)
  · exact fun _ _ h => h.elim
def F54.T (n : Int) : PT := fun h Q =>
  (2 : Int) ≠ 0 ∧ par ((Int.tmod n 2) = 0) (Q (.string (ByteArray.mk #[60, 111, 110, 101, 62])) h) (Q (.string (ByteArray.mk #[60, 116, 119, 111, 62])) h)
theorem F54.den (V n) : denF Tryz.prog [] [] V [] Tryz.f54 [.v (.int .i64 n)] = F54.T n := by kernel_rfl
def F54.W (T54 : Int → PT) (args : List Value) : PT := match args with
  | [.int .i64 n] => T54 n
  | _ => fun _ _ => False
def F54.V : List Value → PT := F54.W F54.T
theorem F54.ok : FOk Tryz.prog 54 F54.V := by
  refine ⟨⟨_, Tryz.func54, rfl, rfl⟩, fun args => ?_⟩
  unfold F54.V F54.W
  split
  · exact denF_okE (GOk.nil) noV_ok Tryz.func54 (F54.den noV _)
  · exact fun _ _ h => h.elim
@[reducible] def F21.G (T54 : Int → PT) (p : Option Addr) (l : Sl) (n : Int) : PT := fun h Q =>
  nw h (.cells ⟨[]⟩ 9 (0, 0)) fun b h1 => ∃ vs, h1.row l.a (l.n * 1) vs ∧ (∀ v ∈ vs, Value.oneCell' v = true) ∧ appendD ⟨(some ⟨b, 0, none⟩), 0, 0⟩ 9 1 16 [.string (ByteArray.mk #[])] l.n vs h1 fun l1 h2 => ∃ (I : Sl → Int → Hp → Prop) (m : Sl → Int → Hp → Nat), I l1 0 h2 ∧ (∀ l2 : Sl, ∀ n1 : Int, ∀ h3 : Hp, I l2 n1 h3 → par (n1 < n) (T54 n1 h3 fun r h4 => retT r fun s => appendD l2 9 1 16 [.string (ByteArray.mk #[])] 1 [.string s] h4 fun l3 h5 => I l3 (IntKind.wrap .i64 (n1 + 1)) h5 ∧ m l3 (IntKind.wrap .i64 (n1 + 1)) h5 < m l2 n1 h3) (dr p fun b1 o => ldS h3 b1 (o + 6) fun l4 => appendD l4 25 1 24 [.slice none 0 0] 1 [.slice l2.a l2.n l2.c] h3 fun l5 h6 => dr p fun b2 o1 => st h6 b2 (o1 + 6) 1 [.slice l5.a l5.n l5.c] fun h7 => dr p fun b3 o2 => ldS h7 b3 (o2 + 7) fun l6 => appendD l6 3 1 8 [.int .i64 0] 1 [.int .i64 (l.n : Int)] h7 fun l7 h8 => dr p fun b4 o3 => st h8 b4 (o3 + 7) 1 [.slice l7.a l7.n l7.c] fun h9 => Sl.okCut l2 0 (l.n : Int) (l2.n : Int) ∧ Q (.slice (Sl.cut l2 1 0 (l.n : Int) (l2.n : Int)).a (Sl.cut l2 1 0 (l.n : Int) (l2.n : Int)).n (Sl.cut l2 1 0 (l.n : Int) (l2.n : Int)).c) h9))
def F21.T := F21.G F54.T
theorem F21.gen (V T54 p l n) : denF Tryz.prog [21, 29, 40] [(54, F54.W T54)] V [(122, .loop [(7, .sl), (8, .int .i64)] [])] Tryz.f21 [.v (.pointer p), .v (.slice l.a l.n l.c), .v (.int .i64 n)] = F21.G T54 p l n := by kernel_rfl
def F21.W (T21 : Option Addr → Sl → Int → PT) (args : List Value) : PT := match args with
  | [.pointer p, .slice l_a l_n l_c, .int .i64 n] => T21 p ⟨l_a, l_n, l_c⟩ n
  | _ => fun _ _ => False
def F21.V : List Value → PT := F21.W F21.T
theorem F21.ok : FOk Tryz.prog 21 F21.V := by
  refine ⟨⟨_, Tryz.func21, rfl, rfl⟩, fun args => ?_⟩
  unfold F21.V F21.W
  split
  · exact denF_okE (GOk.cons F54.ok (GOk.nil)) noV_ok Tryz.func21 (F21.gen noV F54.T _ ⟨_, _, _⟩ _)
  · exact fun _ _ h => h.elim
@[reducible] def F22.G (T55 : Int → PT) (p : Option Addr) (l : Sl) (n : Int) : PT := fun h Q =>
  nw h (.cells ⟨[]⟩ 55 (0, 0)) fun b h1 => ∃ vs, h1.row l.a (l.n * 1) vs ∧ (∀ v ∈ vs, Value.oneCell' v = true) ∧ appendD ⟨(some ⟨b, 0, none⟩), 0, 0⟩ 55 1 8 [.int .u64 0] l.n vs h1 fun l1 h2 => ∃ (I : Sl → Int → Hp → Prop) (m : Sl → Int → Hp → Nat), I l1 0 h2 ∧ (∀ l2 : Sl, ∀ n1 : Int, ∀ h3 : Hp, I l2 n1 h3 → par (n1 < n) (T55 n1 h3 fun r h4 => retI .i64 r fun n2 => appendD l2 55 1 8 [.int .u64 0] 1 [.int .u64 (IntKind.wrap .u64 n2)] h4 fun l3 h5 => I l3 (IntKind.wrap .i64 (n1 + 1)) h5 ∧ m l3 (IntKind.wrap .i64 (n1 + 1)) h5 < m l2 n1 h3) (dr p fun b1 o => ldS h3 b1 (o + 4) fun l4 => appendD l4 26 1 24 [.slice none 0 0] 1 [.slice l2.a l2.n l2.c] h3 fun l5 h6 => dr p fun b2 o1 => st h6 b2 (o1 + 4) 1 [.slice l5.a l5.n l5.c] fun h7 => dr p fun b3 o2 => ldS h7 b3 (o2 + 5) fun l6 => appendD l6 3 1 8 [.int .i64 0] 1 [.int .i64 (l.n : Int)] h7 fun l7 h8 => dr p fun b4 o3 => st h8 b4 (o3 + 5) 1 [.slice l7.a l7.n l7.c] fun h9 => Sl.okCut l2 0 (l.n : Int) (l2.n : Int) ∧ Q (.slice (Sl.cut l2 1 0 (l.n : Int) (l2.n : Int)).a (Sl.cut l2 1 0 (l.n : Int) (l2.n : Int)).n (Sl.cut l2 1 0 (l.n : Int) (l2.n : Int)).c) h9))
def F22.T := F22.G F55.T
theorem F22.gen (V T55 p l n) : denF Tryz.prog [22, 30, 41] [(55, F55.W T55)] V [(122, .loop [(7, .sl), (8, .int .i64)] [])] Tryz.f22 [.v (.pointer p), .v (.slice l.a l.n l.c), .v (.int .i64 n)] = F22.G T55 p l n := by kernel_rfl
def F22.W (T22 : Option Addr → Sl → Int → PT) (args : List Value) : PT := match args with
  | [.pointer p, .slice l_a l_n l_c, .int .i64 n] => T22 p ⟨l_a, l_n, l_c⟩ n
  | _ => fun _ _ => False
def F22.V : List Value → PT := F22.W F22.T
theorem F22.ok : FOk Tryz.prog 22 F22.V := by
  refine ⟨⟨_, Tryz.func22, rfl, rfl⟩, fun args => ?_⟩
  unfold F22.V F22.W
  split
  · exact denF_okE (GOk.cons F55.ok (GOk.nil)) noV_ok Tryz.func22 (F22.gen noV F55.T _ ⟨_, _, _⟩ _)
  · exact fun _ _ h => h.elim
@[reducible] def F7.G (T21 : Option Addr → Sl → Int → PT) (p : Option Addr) (l : Sl) : PT := fun h Q =>
  T21 p l 40 h fun r h1 => retS r fun l1 => Q (.slice l1.a l1.n l1.c) h1
def F7.T := F7.G F21.T
theorem F7.gen (V T21 p l) : denF Tryz.prog [] [(21, F21.W T21)] V [] Tryz.f7 [.v (.pointer p), .v (.slice l.a l.n l.c)] = F7.G T21 p l := by kernel_rfl
def F7.W (T7 : Option Addr → Sl → PT) (args : List Value) : PT := match args with
  | [.pointer p, .slice l_a l_n l_c] => T7 p ⟨l_a, l_n, l_c⟩
  | _ => fun _ _ => False
def F7.V : List Value → PT := F7.W F7.T
theorem F7.ok : FOk Tryz.prog 7 F7.V := by
  refine ⟨⟨_, Tryz.func7, rfl, rfl⟩, fun args => ?_⟩
  unfold F7.V F7.W
  split
  · exact denF_okE (GOk.cons F21.ok (GOk.nil)) noV_ok Tryz.func7 (F7.gen noV F21.T _ ⟨_, _, _⟩)
  · exact fun _ _ h => h.elim
@[reducible] def F8.G (T22 : Option Addr → Sl → Int → PT) (p : Option Addr) (l : Sl) : PT := fun h Q =>
  T22 p l 40 h fun r h1 => retS r fun l1 => Q (.slice l1.a l1.n l1.c) h1
def F8.T := F8.G F22.T
theorem F8.gen (V T22 p l) : denF Tryz.prog [] [(22, F22.W T22)] V [] Tryz.f8 [.v (.pointer p), .v (.slice l.a l.n l.c)] = F8.G T22 p l := by kernel_rfl
def F8.W (T8 : Option Addr → Sl → PT) (args : List Value) : PT := match args with
  | [.pointer p, .slice l_a l_n l_c] => T8 p ⟨l_a, l_n, l_c⟩
  | _ => fun _ _ => False
def F8.V : List Value → PT := F8.W F8.T
theorem F8.ok : FOk Tryz.prog 8 F8.V := by
  refine ⟨⟨_, Tryz.func8, rfl, rfl⟩, fun args => ?_⟩
  unfold F8.V F8.W
  split
  · exact denF_okE (GOk.cons F22.ok (GOk.nil)) noV_ok Tryz.func8 (F8.gen noV F22.T _ ⟨_, _, _⟩)
  · exact fun _ _ h => h.elim
@[reducible] def F35.G (T55 : Int → PT) (p : Option Addr) : PT := fun h Q =>
  ∃ (I : Int → Hp → Prop) (m : Int → Hp → Nat), I 0 h ∧ (∀ n : Int, ∀ h1 : Hp, I n h1 → dr p fun b o => ldS h1 b o fun l => par (n < (l.n : Int)) (dr p fun b1 o1 => ldS h1 b1 (o1 + 1) fun l1 => ix l1.a n l1.n fun b2 o2 => ldI .i64 h1 b2 (o2 + n.toNat) fun n1 => ∃ (I1 : Int → Hp → Prop) (m1 : Int → Hp → Nat), I1 n1 h1 ∧ (∀ n2 : Int, ∀ h2 : Hp, I1 n2 h2 → dr p fun b3 o3 => ldS h2 b3 o3 fun l2 => ix l2.a n l2.n fun b4 o4 => ldS h2 b4 (o4 + n.toNat) fun l3 => par (n2 < (l3.n : Int)) (dr p fun b5 o5 => ldS h2 b5 o5 fun l4 => ix l4.a n l4.n fun b6 o6 => ldS h2 b6 (o6 + n.toNat) fun l5 => ix l5.a n2 l5.n fun b7 o7 => ldI .u8 h2 b7 (o7 + n2.toNat) fun n3 => T55 (IntKind.wrap .i64 (n2 - n1)) h2 fun r h3 => retI .i64 r fun n4 => par (n3 = (IntKind.wrap .u8 n4)) (I1 (IntKind.wrap .i64 (n2 + 1)) h3 ∧ m1 (IntKind.wrap .i64 (n2 + 1)) h3 < m1 n2 h2) (Q (.bool false) h3)) (I (IntKind.wrap .i64 (n + 1)) h2 ∧ m (IntKind.wrap .i64 (n + 1)) h2 < m n h1))) (Q (.bool true) h1))
def F35.T := F35.G F55.T
theorem F35.gen (V T55 p) : denF Tryz.prog [] [(55, F55.W T55)] V [(26, .loop [(3, .int .i64)] []), (3366, .loop [(5, .int .i64)] [])] Tryz.f35 [.v (.pointer p)] = F35.G T55 p := by kernel_rfl
def F35.W (T35 : Option Addr → PT) (args : List Value) : PT := match args with
  | [.pointer p] => T35 p
  | _ => fun _ _ => False
def F35.V : List Value → PT := F35.W F35.T
theorem F35.ok : FOk Tryz.prog 35 F35.V := by
  refine ⟨⟨_, Tryz.func35, rfl, rfl⟩, fun args => ?_⟩
  unfold F35.V F35.W
  split
  · exact denF_okE (GOk.cons F55.ok (GOk.nil)) noV_ok Tryz.func35 (F35.gen noV F55.T _)
  · exact fun _ _ h => h.elim
@[reducible] def F36.G (T55 : Int → PT) (p : Option Addr) : PT := fun h Q =>
  ∃ (I : Int → Hp → Prop) (m : Int → Hp → Nat), I 0 h ∧ (∀ n : Int, ∀ h1 : Hp, I n h1 → dr p fun b o => ldS h1 b (o + 2) fun l => par (n < (l.n : Int)) (dr p fun b1 o1 => ldS h1 b1 (o1 + 3) fun l1 => ix l1.a n l1.n fun b2 o2 => ldI .i64 h1 b2 (o2 + n.toNat) fun n1 => ∃ (I1 : Int → Hp → Prop) (m1 : Int → Hp → Nat), I1 n1 h1 ∧ (∀ n2 : Int, ∀ h2 : Hp, I1 n2 h2 → dr p fun b3 o3 => ldS h2 b3 (o3 + 2) fun l2 => ix l2.a n l2.n fun b4 o4 => ldS h2 b4 (o4 + n.toNat) fun l3 => par (n2 < (l3.n : Int)) (dr p fun b5 o5 => ldS h2 b5 (o5 + 2) fun l4 => ix l4.a n l4.n fun b6 o6 => ldS h2 b6 (o6 + n.toNat) fun l5 => ix l5.a n2 l5.n fun b7 o7 => ldI .i64 h2 b7 (o7 + n2.toNat) fun n3 => T55 (IntKind.wrap .i64 (n2 - n1)) h2 fun r h3 => retI .i64 r fun n4 => par (n3 = n4) (I1 (IntKind.wrap .i64 (n2 + 1)) h3 ∧ m1 (IntKind.wrap .i64 (n2 + 1)) h3 < m1 n2 h2) (Q (.bool false) h3)) (I (IntKind.wrap .i64 (n + 1)) h2 ∧ m (IntKind.wrap .i64 (n + 1)) h2 < m n h1))) (Q (.bool true) h1))
def F36.T := F36.G F55.T
theorem F36.gen (V T55 p) : denF Tryz.prog [] [(55, F55.W T55)] V [(26, .loop [(3, .int .i64)] []), (3366, .loop [(5, .int .i64)] [])] Tryz.f36 [.v (.pointer p)] = F36.G T55 p := by kernel_rfl
def F36.W (T36 : Option Addr → PT) (args : List Value) : PT := match args with
  | [.pointer p] => T36 p
  | _ => fun _ _ => False
def F36.V : List Value → PT := F36.W F36.T
theorem F36.ok : FOk Tryz.prog 36 F36.V := by
  refine ⟨⟨_, Tryz.func36, rfl, rfl⟩, fun args => ?_⟩
  unfold F36.V F36.W
  split
  · exact denF_okE (GOk.cons F55.ok (GOk.nil)) noV_ok Tryz.func36 (F36.gen noV F55.T _)
  · exact fun _ _ h => h.elim
@[reducible] def F37.G (T55 : Int → PT) (p : Option Addr) : PT := fun h Q =>
  ∃ (I : Int → Hp → Prop) (m : Int → Hp → Nat), I 0 h ∧ (∀ n : Int, ∀ h1 : Hp, I n h1 → dr p fun b o => ldS h1 b (o + 4) fun l => par (n < (l.n : Int)) (dr p fun b1 o1 => ldS h1 b1 (o1 + 5) fun l1 => ix l1.a n l1.n fun b2 o2 => ldI .i64 h1 b2 (o2 + n.toNat) fun n1 => ∃ (I1 : Int → Hp → Prop) (m1 : Int → Hp → Nat), I1 n1 h1 ∧ (∀ n2 : Int, ∀ h2 : Hp, I1 n2 h2 → dr p fun b3 o3 => ldS h2 b3 (o3 + 4) fun l2 => ix l2.a n l2.n fun b4 o4 => ldS h2 b4 (o4 + n.toNat) fun l3 => par (n2 < (l3.n : Int)) (dr p fun b5 o5 => ldS h2 b5 (o5 + 4) fun l4 => ix l4.a n l4.n fun b6 o6 => ldS h2 b6 (o6 + n.toNat) fun l5 => ix l5.a n2 l5.n fun b7 o7 => ldI .u64 h2 b7 (o7 + n2.toNat) fun n3 => T55 (IntKind.wrap .i64 (n2 - n1)) h2 fun r h3 => retI .i64 r fun n4 => par (n3 = (IntKind.wrap .u64 n4)) (I1 (IntKind.wrap .i64 (n2 + 1)) h3 ∧ m1 (IntKind.wrap .i64 (n2 + 1)) h3 < m1 n2 h2) (Q (.bool false) h3)) (I (IntKind.wrap .i64 (n + 1)) h2 ∧ m (IntKind.wrap .i64 (n + 1)) h2 < m n h1))) (Q (.bool true) h1))
def F37.T := F37.G F55.T
theorem F37.gen (V T55 p) : denF Tryz.prog [] [(55, F55.W T55)] V [(26, .loop [(3, .int .i64)] []), (3366, .loop [(5, .int .i64)] [])] Tryz.f37 [.v (.pointer p)] = F37.G T55 p := by kernel_rfl
def F37.W (T37 : Option Addr → PT) (args : List Value) : PT := match args with
  | [.pointer p] => T37 p
  | _ => fun _ _ => False
def F37.V : List Value → PT := F37.W F37.T
theorem F37.ok : FOk Tryz.prog 37 F37.V := by
  refine ⟨⟨_, Tryz.func37, rfl, rfl⟩, fun args => ?_⟩
  unfold F37.V F37.W
  split
  · exact denF_okE (GOk.cons F55.ok (GOk.nil)) noV_ok Tryz.func37 (F37.gen noV F55.T _)
  · exact fun _ _ h => h.elim
@[reducible] def F38.G (T54 : Int → PT) (p : Option Addr) : PT := fun h Q =>
  ∃ (I : Int → Hp → Prop) (m : Int → Hp → Nat), I 0 h ∧ (∀ n : Int, ∀ h1 : Hp, I n h1 → dr p fun b o => ldS h1 b (o + 6) fun l => par (n < (l.n : Int)) (dr p fun b1 o1 => ldS h1 b1 (o1 + 7) fun l1 => ix l1.a n l1.n fun b2 o2 => ldI .i64 h1 b2 (o2 + n.toNat) fun n1 => ∃ (I1 : Int → Hp → Prop) (m1 : Int → Hp → Nat), I1 n1 h1 ∧ (∀ n2 : Int, ∀ h2 : Hp, I1 n2 h2 → dr p fun b3 o3 => ldS h2 b3 (o3 + 6) fun l2 => ix l2.a n l2.n fun b4 o4 => ldS h2 b4 (o4 + n.toNat) fun l3 => par (n2 < (l3.n : Int)) (dr p fun b5 o5 => ldS h2 b5 (o5 + 6) fun l4 => ix l4.a n l4.n fun b6 o6 => ldS h2 b6 (o6 + n.toNat) fun l5 => ix l5.a n2 l5.n fun b7 o7 => ldT h2 b7 (o7 + n2.toNat) fun s => T54 (IntKind.wrap .i64 (n2 - n1)) h2 fun r h3 => retT r fun s1 => par (s = s1) (I1 (IntKind.wrap .i64 (n2 + 1)) h3 ∧ m1 (IntKind.wrap .i64 (n2 + 1)) h3 < m1 n2 h2) (Q (.bool false) h3)) (I (IntKind.wrap .i64 (n + 1)) h2 ∧ m (IntKind.wrap .i64 (n + 1)) h2 < m n h1))) (Q (.bool true) h1))
def F38.T := F38.G F54.T
theorem F38.gen (V T54 p) : denF Tryz.prog [] [(54, F54.W T54)] V [(26, .loop [(3, .int .i64)] []), (3366, .loop [(5, .int .i64)] [])] Tryz.f38 [.v (.pointer p)] = F38.G T54 p := by kernel_rfl
def F38.W (T38 : Option Addr → PT) (args : List Value) : PT := match args with
  | [.pointer p] => T38 p
  | _ => fun _ _ => False
def F38.V : List Value → PT := F38.W F38.T
theorem F38.ok : FOk Tryz.prog 38 F38.V := by
  refine ⟨⟨_, Tryz.func38, rfl, rfl⟩, fun args => ?_⟩
  unfold F38.V F38.W
  split
  · exact denF_okE (GOk.cons F54.ok (GOk.nil)) noV_ok Tryz.func38 (F38.gen noV F54.T _)
  · exact fun _ _ h => h.elim
@[reducible] def F39.G (T54 : Int → PT) (p : Option Addr) : PT := fun h Q =>
  ∃ (I : Int → Hp → Prop) (m : Int → Hp → Nat), I 0 h ∧ (∀ n : Int, ∀ h1 : Hp, I n h1 → dr p fun b o => ldS h1 b (o + 8) fun l => par (n < (l.n : Int)) (dr p fun b1 o1 => ldS h1 b1 (o1 + 9) fun l1 => ix l1.a n l1.n fun b2 o2 => ldI .i64 h1 b2 (o2 + n.toNat) fun n1 => ∃ (I1 : Int → Hp → Prop) (m1 : Int → Hp → Nat), I1 n1 h1 ∧ (∀ n2 : Int, ∀ h2 : Hp, I1 n2 h2 → dr p fun b3 o3 => ldS h2 b3 (o3 + 8) fun l2 => ix l2.a n l2.n fun b4 o4 => ldS h2 b4 (o4 + n.toNat) fun l3 => par (n2 < (l3.n : Int)) (dr p fun b5 o5 => ldS h2 b5 (o5 + 8) fun l4 => ix l4.a n l4.n fun b6 o6 => ldS h2 b6 (o6 + n.toNat) fun l5 => ix l5.a n2 l5.n fun b7 o7 => ldT h2 b7 (o7 + n2.toNat * 4) fun s => ldI .u64 h2 b7 ((o7 + n2.toNat * 4) + 1) fun n3 => ∃ b8 : Bool, parB b8 (h2.at b7 ((o7 + n2.toNat * 4) + 2) = some (.bool true) ∧ ldT h2 b7 ((o7 + n2.toNat * 4) + 3) fun s1 => T54 (IntKind.wrap .i64 (n2 - n1)) h2 fun r h3 => retT r fun s2 => par (([.string s, .int .u64 n3, .bool true, .string s1] : List Value) = [.string s2, .int .u64 0, .bool false, .string (ByteArray.mk #[])]) (I1 (IntKind.wrap .i64 (n2 + 1)) h3 ∧ m1 (IntKind.wrap .i64 (n2 + 1)) h3 < m1 n2 h2) (Q (.bool false) h3)) (h2.at b7 ((o7 + n2.toNat * 4) + 2) = some (.bool false) ∧ ldT h2 b7 ((o7 + n2.toNat * 4) + 3) fun s3 => T54 (IntKind.wrap .i64 (n2 - n1)) h2 fun r1 h4 => retT r1 fun s4 => par (([.string s, .int .u64 n3, .bool false, .string s3] : List Value) = [.string s4, .int .u64 0, .bool false, .string (ByteArray.mk #[])]) (I1 (IntKind.wrap .i64 (n2 + 1)) h4 ∧ m1 (IntKind.wrap .i64 (n2 + 1)) h4 < m1 n2 h2) (Q (.bool false) h4))) (I (IntKind.wrap .i64 (n + 1)) h2 ∧ m (IntKind.wrap .i64 (n + 1)) h2 < m n h1))) (Q (.bool true) h1))
def F39.T := F39.G F54.T
theorem F39.gen (V T54 p) : denF Tryz.prog [6] [(54, F54.W T54)] V [(26, .loop [(3, .int .i64)] []), (3366, .loop [(5, .int .i64)] []), (215442, .order [0, 1, 2, 3, 4, 5, 6])] Tryz.f39 [.v (.pointer p)] = F39.G T54 p := by kernel_rfl
def F39.W (T39 : Option Addr → PT) (args : List Value) : PT := match args with
  | [.pointer p] => T39 p
  | _ => fun _ _ => False
def F39.V : List Value → PT := F39.W F39.T
theorem F39.ok : FOk Tryz.prog 39 F39.V := by
  refine ⟨⟨_, Tryz.func39, rfl, rfl⟩, fun args => ?_⟩
  unfold F39.V F39.W
  split
  · exact denF_okE (GOk.cons F54.ok (GOk.nil)) noV_ok Tryz.func39 (F39.gen noV F54.T _)
  · exact fun _ _ h => h.elim
@[reducible] def F40.G (T54 : Int → PT) (p : Option Addr) : PT := fun h Q =>
  ∃ (I : Int → Hp → Prop) (m : Int → Hp → Nat), I 0 h ∧ (∀ n : Int, ∀ h1 : Hp, I n h1 → dr p fun b o => ldS h1 b (o + 10) fun l => par (n < (l.n : Int)) (dr p fun b1 o1 => ldS h1 b1 (o1 + 11) fun l1 => ix l1.a n l1.n fun b2 o2 => ldI .i64 h1 b2 (o2 + n.toNat) fun n1 => ∃ (I1 : Int → Hp → Prop) (m1 : Int → Hp → Nat), I1 n1 h1 ∧ (∀ n2 : Int, ∀ h2 : Hp, I1 n2 h2 → dr p fun b3 o3 => ldS h2 b3 (o3 + 10) fun l2 => ix l2.a n l2.n fun b4 o4 => ldS h2 b4 (o4 + n.toNat) fun l3 => par (n2 < (l3.n : Int)) (dr p fun b5 o5 => ldS h2 b5 (o5 + 10) fun l4 => ix l4.a n l4.n fun b6 o6 => ldS h2 b6 (o6 + n.toNat) fun l5 => ix l5.a n2 l5.n fun b7 o7 => ldT h2 b7 (o7 + n2.toNat * 2) fun s => ldT h2 b7 ((o7 + n2.toNat * 2) + 1) fun s1 => T54 (IntKind.wrap .i64 (n2 - n1)) h2 fun r h3 => retT r fun s2 => par (([.string s, .string s1] : List Value) = [.string s2, .string (ByteArray.mk #[])]) (I1 (IntKind.wrap .i64 (n2 + 1)) h3 ∧ m1 (IntKind.wrap .i64 (n2 + 1)) h3 < m1 n2 h2) (Q (.bool false) h3)) (I (IntKind.wrap .i64 (n + 1)) h2 ∧ m (IntKind.wrap .i64 (n + 1)) h2 < m n h1))) (Q (.bool true) h1))
def F40.T := F40.G F54.T
theorem F40.gen (V T54 p) : denF Tryz.prog [6] [(54, F54.W T54)] V [(26, .loop [(3, .int .i64)] []), (3366, .loop [(5, .int .i64)] []), (215442, .order [0, 1, 2, 3, 4, 5, 6])] Tryz.f40 [.v (.pointer p)] = F40.G T54 p := by kernel_rfl
def F40.W (T40 : Option Addr → PT) (args : List Value) : PT := match args with
  | [.pointer p] => T40 p
  | _ => fun _ _ => False
def F40.V : List Value → PT := F40.W F40.T
theorem F40.ok : FOk Tryz.prog 40 F40.V := by
  refine ⟨⟨_, Tryz.func40, rfl, rfl⟩, fun args => ?_⟩
  unfold F40.V F40.W
  split
  · exact denF_okE (GOk.cons F54.ok (GOk.nil)) noV_ok Tryz.func40 (F40.gen noV F54.T _)
  · exact fun _ _ h => h.elim
@[reducible] def F41.G (T54 : Int → PT) (p : Option Addr) : PT := fun h Q =>
  ∃ (I : Int → Hp → Prop) (m : Int → Hp → Nat), I 0 h ∧ (∀ n : Int, ∀ h1 : Hp, I n h1 → dr p fun b o => ldS h1 b (o + 12) fun l => par (n < (l.n : Int)) (dr p fun b1 o1 => ldS h1 b1 (o1 + 13) fun l1 => ix l1.a n l1.n fun b2 o2 => ldI .i64 h1 b2 (o2 + n.toNat) fun n1 => ∃ (I1 : Int → Hp → Prop) (m1 : Int → Hp → Nat), I1 n1 h1 ∧ (∀ n2 : Int, ∀ h2 : Hp, I1 n2 h2 → dr p fun b3 o3 => ldS h2 b3 (o3 + 12) fun l2 => ix l2.a n l2.n fun b4 o4 => ldS h2 b4 (o4 + n.toNat) fun l3 => par (n2 < (l3.n : Int)) (dr p fun b5 o5 => ldS h2 b5 (o5 + 12) fun l4 => ix l4.a n l4.n fun b6 o6 => ldS h2 b6 (o6 + n.toNat) fun l5 => ix l5.a n2 l5.n fun b7 o7 => ldT h2 b7 (o7 + n2.toNat * 3) fun s => ∃ b8 : Bool, parB b8 (h2.at b7 ((o7 + n2.toNat * 3) + 1) = some (.bool true) ∧ ldT h2 b7 ((o7 + n2.toNat * 3) + 2) fun s1 => T54 (IntKind.wrap .i64 (n2 - n1)) h2 fun r h3 => retT r fun s2 => par (([.string s, .bool true, .string s1] : List Value) = [.string s2, .bool false, .string (ByteArray.mk #[])]) (I1 (IntKind.wrap .i64 (n2 + 1)) h3 ∧ m1 (IntKind.wrap .i64 (n2 + 1)) h3 < m1 n2 h2) (Q (.bool false) h3)) (h2.at b7 ((o7 + n2.toNat * 3) + 1) = some (.bool false) ∧ ldT h2 b7 ((o7 + n2.toNat * 3) + 2) fun s3 => T54 (IntKind.wrap .i64 (n2 - n1)) h2 fun r1 h4 => retT r1 fun s4 => par (([.string s, .bool false, .string s3] : List Value) = [.string s4, .bool false, .string (ByteArray.mk #[])]) (I1 (IntKind.wrap .i64 (n2 + 1)) h4 ∧ m1 (IntKind.wrap .i64 (n2 + 1)) h4 < m1 n2 h2) (Q (.bool false) h4))) (I (IntKind.wrap .i64 (n + 1)) h2 ∧ m (IntKind.wrap .i64 (n + 1)) h2 < m n h1))) (Q (.bool true) h1))
def F41.T := F41.G F54.T
theorem F41.gen (V T54 p) : denF Tryz.prog [6] [(54, F54.W T54)] V [(26, .loop [(3, .int .i64)] []), (3366, .loop [(5, .int .i64)] []), (215442, .order [0, 1, 2, 3, 4, 5, 6])] Tryz.f41 [.v (.pointer p)] = F41.G T54 p := by kernel_rfl
def F41.W (T41 : Option Addr → PT) (args : List Value) : PT := match args with
  | [.pointer p] => T41 p
  | _ => fun _ _ => False
def F41.V : List Value → PT := F41.W F41.T
theorem F41.ok : FOk Tryz.prog 41 F41.V := by
  refine ⟨⟨_, Tryz.func41, rfl, rfl⟩, fun args => ?_⟩
  unfold F41.V F41.W
  split
  · exact denF_okE (GOk.cons F54.ok (GOk.nil)) noV_ok Tryz.func41 (F41.gen noV F54.T _)
  · exact fun _ _ h => h.elim
@[reducible] def F42.G (T54 : Int → PT) (p : Option Addr) : PT := fun h Q =>
  ∃ (I : Int → Hp → Prop) (m : Int → Hp → Nat), I 0 h ∧ (∀ n : Int, ∀ h1 : Hp, I n h1 → dr p fun b o => ldS h1 b (o + 14) fun l => par (n < (l.n : Int)) (dr p fun b1 o1 => ldS h1 b1 (o1 + 15) fun l1 => ix l1.a n l1.n fun b2 o2 => ldI .i64 h1 b2 (o2 + n.toNat) fun n1 => ∃ (I1 : Int → Hp → Prop) (m1 : Int → Hp → Nat), I1 n1 h1 ∧ (∀ n2 : Int, ∀ h2 : Hp, I1 n2 h2 → dr p fun b3 o3 => ldS h2 b3 (o3 + 14) fun l2 => ix l2.a n l2.n fun b4 o4 => ldS h2 b4 (o4 + n.toNat) fun l3 => par (n2 < (l3.n : Int)) (dr p fun b5 o5 => ldS h2 b5 (o5 + 14) fun l4 => ix l4.a n l4.n fun b6 o6 => ldS h2 b6 (o6 + n.toNat) fun l5 => ix l5.a n2 l5.n fun b7 o7 => ldI .u64 h2 b7 (o7 + n2.toNat * 6) fun n3 => ldI .i64 h2 b7 ((o7 + n2.toNat * 6) + 1) fun n4 => ldI .i64 h2 b7 ((o7 + n2.toNat * 6) + 2) fun n5 => ldI .i64 h2 b7 ((o7 + n2.toNat * 6) + 3) fun n6 => ldT h2 b7 ((o7 + n2.toNat * 6) + 4) fun s => ldT h2 b7 ((o7 + n2.toNat * 6) + 5) fun s1 => T54 (IntKind.wrap .i64 (n2 - n1)) h2 fun r h3 => retT r fun s2 => par (([.int .u64 n3, .int .i64 n4, .int .i64 n5, .int .i64 n6, .string s, .string s1] : List Value) = [.int .u64 0, .int .i64 0, .int .i64 0, .int .i64 0, .string s2, .string (ByteArray.mk #[])]) (I1 (IntKind.wrap .i64 (n2 + 1)) h3 ∧ m1 (IntKind.wrap .i64 (n2 + 1)) h3 < m1 n2 h2) (Q (.bool false) h3)) (I (IntKind.wrap .i64 (n + 1)) h2 ∧ m (IntKind.wrap .i64 (n + 1)) h2 < m n h1))) (Q (.bool true) h1))
def F42.T := F42.G F54.T
theorem F42.gen (V T54 p) : denF Tryz.prog [6] [(54, F54.W T54)] V [(26, .loop [(3, .int .i64)] []), (3366, .loop [(5, .int .i64)] []), (215442, .order [0, 1, 2, 3, 4, 5, 6])] Tryz.f42 [.v (.pointer p)] = F42.G T54 p := by kernel_rfl
def F42.W (T42 : Option Addr → PT) (args : List Value) : PT := match args with
  | [.pointer p] => T42 p
  | _ => fun _ _ => False
def F42.V : List Value → PT := F42.W F42.T
theorem F42.ok : FOk Tryz.prog 42 F42.V := by
  refine ⟨⟨_, Tryz.func42, rfl, rfl⟩, fun args => ?_⟩
  unfold F42.V F42.W
  split
  · exact denF_okE (GOk.cons F54.ok (GOk.nil)) noV_ok Tryz.func42 (F42.gen noV F54.T _)
  · exact fun _ _ h => h.elim
@[reducible] def F43.G (T55 : Int → PT) (p : Option Addr) : PT := fun h Q =>
  ∃ (I : Int → Hp → Prop) (m : Int → Hp → Nat), I 0 h ∧ (∀ n : Int, ∀ h1 : Hp, I n h1 → dr p fun b o => ldS h1 b (o + 16) fun l => par (n < (l.n : Int)) (dr p fun b1 o1 => ldS h1 b1 (o1 + 17) fun l1 => ix l1.a n l1.n fun b2 o2 => ldI .i64 h1 b2 (o2 + n.toNat) fun n1 => ∃ (I1 : Int → Hp → Prop) (m1 : Int → Hp → Nat), I1 n1 h1 ∧ (∀ n2 : Int, ∀ h2 : Hp, I1 n2 h2 → dr p fun b3 o3 => ldS h2 b3 (o3 + 16) fun l2 => ix l2.a n l2.n fun b4 o4 => ldS h2 b4 (o4 + n.toNat) fun l3 => par (n2 < (l3.n : Int)) (dr p fun b5 o5 => ldS h2 b5 (o5 + 16) fun l4 => ix l4.a n l4.n fun b6 o6 => ldS h2 b6 (o6 + n.toNat) fun l5 => ix l5.a n2 l5.n fun b7 o7 => ldI .i64 h2 b7 (o7 + n2.toNat * 2) fun n3 => ldI .u64 h2 b7 ((o7 + n2.toNat * 2) + 1) fun n4 => T55 (IntKind.wrap .i64 (n2 - n1)) h2 fun r h3 => retI .i64 r fun n5 => par (([.int .i64 n3, .int .u64 n4] : List Value) = [.int .i64 n5, .int .u64 0]) (I1 (IntKind.wrap .i64 (n2 + 1)) h3 ∧ m1 (IntKind.wrap .i64 (n2 + 1)) h3 < m1 n2 h2) (Q (.bool false) h3)) (I (IntKind.wrap .i64 (n + 1)) h2 ∧ m (IntKind.wrap .i64 (n + 1)) h2 < m n h1))) (Q (.bool true) h1))
def F43.T := F43.G F55.T
theorem F43.gen (V T55 p) : denF Tryz.prog [6] [(55, F55.W T55)] V [(26, .loop [(3, .int .i64)] []), (3366, .loop [(5, .int .i64)] []), (215442, .order [0, 1, 2, 3, 4, 5, 6])] Tryz.f43 [.v (.pointer p)] = F43.G T55 p := by kernel_rfl
def F43.W (T43 : Option Addr → PT) (args : List Value) : PT := match args with
  | [.pointer p] => T43 p
  | _ => fun _ _ => False
def F43.V : List Value → PT := F43.W F43.T
theorem F43.ok : FOk Tryz.prog 43 F43.V := by
  refine ⟨⟨_, Tryz.func43, rfl, rfl⟩, fun args => ?_⟩
  unfold F43.V F43.W
  split
  · exact denF_okE (GOk.cons F55.ok (GOk.nil)) noV_ok Tryz.func43 (F43.gen noV F55.T _)
  · exact fun _ _ h => h.elim
@[reducible] def F44.G (T55 : Int → PT) (p : Option Addr) : PT := fun h Q =>
  ∃ (I : Int → Hp → Prop) (m : Int → Hp → Nat), I 0 h ∧ (∀ n : Int, ∀ h1 : Hp, I n h1 → dr p fun b o => ldS h1 b (o + 18) fun l => par (n < (l.n : Int)) (dr p fun b1 o1 => ldS h1 b1 (o1 + 19) fun l1 => ix l1.a n l1.n fun b2 o2 => ldI .i64 h1 b2 (o2 + n.toNat) fun n1 => ∃ (I1 : Int → Hp → Prop) (m1 : Int → Hp → Nat), I1 n1 h1 ∧ (∀ n2 : Int, ∀ h2 : Hp, I1 n2 h2 → dr p fun b3 o3 => ldS h2 b3 (o3 + 18) fun l2 => ix l2.a n l2.n fun b4 o4 => ldS h2 b4 (o4 + n.toNat) fun l3 => par (n2 < (l3.n : Int)) (dr p fun b5 o5 => ldS h2 b5 (o5 + 18) fun l4 => ix l4.a n l4.n fun b6 o6 => ldS h2 b6 (o6 + n.toNat) fun l5 => ix l5.a n2 l5.n fun b7 o7 => ldI .i64 h2 b7 (o7 + n2.toNat * 7) fun n3 => ldI .u64 h2 b7 ((o7 + n2.toNat * 7) + 1) fun n4 => ldI .i64 h2 b7 ((o7 + n2.toNat * 7) + 2) fun n5 => ldI .i64 h2 b7 ((o7 + n2.toNat * 7) + 3) fun n6 => ldI .i64 h2 b7 ((o7 + n2.toNat * 7) + 4) fun n7 => ldT h2 b7 ((o7 + n2.toNat * 7) + 5) fun s => ldT h2 b7 ((o7 + n2.toNat * 7) + 6) fun s1 => T55 (IntKind.wrap .i64 (n2 - n1)) h2 fun r h3 => retI .i64 r fun n8 => par (([.int .i64 n3, .int .u64 n4, .int .i64 n5, .int .i64 n6, .int .i64 n7, .string s, .string s1] : List Value) = [.int .i64 n8, .int .u64 0, .int .i64 0, .int .i64 0, .int .i64 0, .string (ByteArray.mk #[]), .string (ByteArray.mk #[])]) (I1 (IntKind.wrap .i64 (n2 + 1)) h3 ∧ m1 (IntKind.wrap .i64 (n2 + 1)) h3 < m1 n2 h2) (Q (.bool false) h3)) (I (IntKind.wrap .i64 (n + 1)) h2 ∧ m (IntKind.wrap .i64 (n + 1)) h2 < m n h1))) (Q (.bool true) h1))
def F44.T := F44.G F55.T
theorem F44.gen (V T55 p) : denF Tryz.prog [6] [(55, F55.W T55)] V [(26, .loop [(3, .int .i64)] []), (3366, .loop [(5, .int .i64)] []), (215442, .order [0, 1, 2, 3, 4, 5, 6])] Tryz.f44 [.v (.pointer p)] = F44.G T55 p := by kernel_rfl
def F44.W (T44 : Option Addr → PT) (args : List Value) : PT := match args with
  | [.pointer p] => T44 p
  | _ => fun _ _ => False
def F44.V : List Value → PT := F44.W F44.T
theorem F44.ok : FOk Tryz.prog 44 F44.V := by
  refine ⟨⟨_, Tryz.func44, rfl, rfl⟩, fun args => ?_⟩
  unfold F44.V F44.W
  split
  · exact denF_okE (GOk.cons F55.ok (GOk.nil)) noV_ok Tryz.func44 (F44.gen noV F55.T _)
  · exact fun _ _ h => h.elim
@[reducible] def F45.G (T55 : Int → PT) (p : Option Addr) : PT := fun h Q =>
  ∃ (I : Int → Hp → Prop) (m : Int → Hp → Nat), I 0 h ∧ (∀ n : Int, ∀ h1 : Hp, I n h1 → dr p fun b o => ldS h1 b (o + 20) fun l => par (n < (l.n : Int)) (dr p fun b1 o1 => ldS h1 b1 (o1 + 21) fun l1 => ix l1.a n l1.n fun b2 o2 => ldI .i64 h1 b2 (o2 + n.toNat) fun n1 => ∃ (I1 : Int → Hp → Prop) (m1 : Int → Hp → Nat), I1 n1 h1 ∧ (∀ n2 : Int, ∀ h2 : Hp, I1 n2 h2 → dr p fun b3 o3 => ldS h2 b3 (o3 + 20) fun l2 => ix l2.a n l2.n fun b4 o4 => ldS h2 b4 (o4 + n.toNat) fun l3 => par (n2 < (l3.n : Int)) (dr p fun b5 o5 => ldS h2 b5 (o5 + 20) fun l4 => ix l4.a n l4.n fun b6 o6 => ldS h2 b6 (o6 + n.toNat) fun l5 => ix l5.a n2 l5.n fun b7 o7 => ldS h2 b7 (o7 + n2.toNat) fun l6 => par ((l6.n : Int) = 1) (ix l6.a 0 l6.n fun b8 o8 => ldI .u8 h2 b8 (o8 + (0 : Int).toNat) fun n3 => T55 (IntKind.wrap .i64 (n2 - n1)) h2 fun r h3 => retI .i64 r fun n4 => h3.at b8 (o8 + (0 : Int).toNat) = some (.int .u8 n3) ∧ par (n3 = (IntKind.wrap .u8 n4)) (I1 (IntKind.wrap .i64 (n2 + 1)) h3 ∧ m1 (IntKind.wrap .i64 (n2 + 1)) h3 < m1 n2 h2) (Q (.bool false) h3)) (Q (.bool false) h2)) (I (IntKind.wrap .i64 (n + 1)) h2 ∧ m (IntKind.wrap .i64 (n + 1)) h2 < m n h1))) (Q (.bool true) h1))
def F45.T := F45.G F55.T
theorem F45.gen (V T55 p) : denF Tryz.prog [] [(55, F55.W T55)] V [(26, .loop [(3, .int .i64)] []), (3366, .loop [(5, .int .i64)] []), (215442, .order [0, 1, 2, 3, 4, 5, 6, 7, 8, 9, 10, 11, 12, 13])] Tryz.f45 [.v (.pointer p)] = F45.G T55 p := by kernel_rfl
def F45.W (T45 : Option Addr → PT) (args : List Value) : PT := match args with
  | [.pointer p] => T45 p
  | _ => fun _ _ => False
def F45.V : List Value → PT := F45.W F45.T
theorem F45.ok : FOk Tryz.prog 45 F45.V := by
  refine ⟨⟨_, Tryz.func45, rfl, rfl⟩, fun args => ?_⟩
  unfold F45.V F45.W
  split
  · exact denF_okE (GOk.cons F55.ok (GOk.nil)) noV_ok Tryz.func45 (F45.gen noV F55.T _)
  · exact fun _ _ h => h.elim
@[reducible] def F46.G (T54 : Int → PT) (p : Option Addr) : PT := fun h Q =>
  ∃ (I : Int → Hp → Prop) (m : Int → Hp → Nat), I 0 h ∧ (∀ n : Int, ∀ h1 : Hp, I n h1 → dr p fun b o => ldS h1 b (o + 22) fun l => par (n < (l.n : Int)) (dr p fun b1 o1 => ldS h1 b1 (o1 + 23) fun l1 => ix l1.a n l1.n fun b2 o2 => ldI .i64 h1 b2 (o2 + n.toNat) fun n1 => ∃ (I1 : Int → Hp → Prop) (m1 : Int → Hp → Nat), I1 n1 h1 ∧ (∀ n2 : Int, ∀ h2 : Hp, I1 n2 h2 → dr p fun b3 o3 => ldS h2 b3 (o3 + 22) fun l2 => ix l2.a n l2.n fun b4 o4 => ldS h2 b4 (o4 + n.toNat) fun l3 => par (n2 < (l3.n : Int)) (dr p fun b5 o5 => ldS h2 b5 (o5 + 22) fun l4 => ix l4.a n l4.n fun b6 o6 => ldS h2 b6 (o6 + n.toNat) fun l5 => ix l5.a n2 l5.n fun b7 o7 => ldS h2 b7 (o7 + n2.toNat) fun l6 => par ((l6.n : Int) = 1) (ix l6.a 0 l6.n fun b8 o8 => ldT h2 b8 (o8 + (0 : Int).toNat * 3) fun s => T54 (IntKind.wrap .i64 (n2 - n1)) h2 fun r h3 => retT r fun s1 => h3.at b8 (o8 + (0 : Int).toNat * 3) = some (.string s) ∧ par (s = s1) (ix l6.a 0 l6.n fun b9 o9 => ldB h3 b9 ((o9 + (0 : Int).toNat * 3) + 1) (Q (.bool false) h3) (ix l6.a 0 l6.n fun b10 o10 => ldT h3 b10 ((o10 + (0 : Int).toNat * 3) + 2) fun s2 => par (s2 = (ByteArray.mk #[])) (I1 (IntKind.wrap .i64 (n2 + 1)) h3 ∧ m1 (IntKind.wrap .i64 (n2 + 1)) h3 < m1 n2 h2) (Q (.bool false) h3))) (Q (.bool false) h3)) (Q (.bool false) h2)) (I (IntKind.wrap .i64 (n + 1)) h2 ∧ m (IntKind.wrap .i64 (n + 1)) h2 < m n h1))) (Q (.bool true) h1))
def F46.T := F46.G F54.T
theorem F46.gen (V T54 p) : denF Tryz.prog [] [(54, F54.W T54)] V [(26, .loop [(3, .int .i64)] []), (3366, .loop [(5, .int .i64)] []), (215442, .order [0, 1, 2, 3, 4, 5, 6, 7, 8, 9, 10, 11, 12, 13, 14, 15, 16, 17, 18, 19, 20, 21, 22, 23, 24, 25, 26])] Tryz.f46 [.v (.pointer p)] = F46.G T54 p := by kernel_rfl
def F46.W (T46 : Option Addr → PT) (args : List Value) : PT := match args with
  | [.pointer p] => T46 p
  | _ => fun _ _ => False
def F46.V : List Value → PT := F46.W F46.T
theorem F46.ok : FOk Tryz.prog 46 F46.V := by
  refine ⟨⟨_, Tryz.func46, rfl, rfl⟩, fun args => ?_⟩
  unfold F46.V F46.W
  split
  · exact denF_okE (GOk.cons F54.ok (GOk.nil)) noV_ok Tryz.func46 (F46.gen noV F54.T _)
  · exact fun _ _ h => h.elim
@[reducible] def F47.G (T54 : Int → PT) (p : Option Addr) : PT := fun h Q =>
  ∃ (I : Int → Hp → Prop) (m : Int → Hp → Nat), I 0 h ∧ (∀ n : Int, ∀ h1 : Hp, I n h1 → dr p fun b o => ldS h1 b (o + 24) fun l => par (n < (l.n : Int)) (dr p fun b1 o1 => ldS h1 b1 (o1 + 25) fun l1 => ix l1.a n l1.n fun b2 o2 => ldI .i64 h1 b2 (o2 + n.toNat) fun n1 => ∃ (I1 : Int → Hp → Prop) (m1 : Int → Hp → Nat), I1 n1 h1 ∧ (∀ n2 : Int, ∀ h2 : Hp, I1 n2 h2 → dr p fun b3 o3 => ldS h2 b3 (o3 + 24) fun l2 => ix l2.a n l2.n fun b4 o4 => ldS h2 b4 (o4 + n.toNat) fun l3 => par (n2 < (l3.n : Int)) (dr p fun b5 o5 => ldS h2 b5 (o5 + 24) fun l4 => ix l4.a n l4.n fun b6 o6 => ldS h2 b6 (o6 + n.toNat) fun l5 => ix l5.a n2 l5.n fun b7 o7 => ldT h2 b7 (o7 + n2.toNat * 3) fun s => ldS h2 b7 ((o7 + n2.toNat * 3) + 1) fun l6 => ldI .i64 h2 b7 ((o7 + n2.toNat * 3) + 2) fun n3 => T54 (IntKind.wrap .i64 (n2 - n1)) h2 fun r h3 => retT r fun s1 => par (s = s1) (par ((l6.n : Int) = 0) (par (n3 = 0) (I1 (IntKind.wrap .i64 (n2 + 1)) h3 ∧ m1 (IntKind.wrap .i64 (n2 + 1)) h3 < m1 n2 h2) (Q (.bool false) h3)) (Q (.bool false) h3)) (Q (.bool false) h3)) (I (IntKind.wrap .i64 (n + 1)) h2 ∧ m (IntKind.wrap .i64 (n + 1)) h2 < m n h1))) (Q (.bool true) h1))
def F47.T := F47.G F54.T
theorem F47.gen (V T54 p) : denF Tryz.prog [6] [(54, F54.W T54)] V [(26, .loop [(3, .int .i64)] []), (3366, .loop [(5, .int .i64)] []), (215442, .order [0, 1, 2, 3, 4, 5, 6, 7, 8, 9, 10, 11, 12, 13, 14, 15, 16, 17])] Tryz.f47 [.v (.pointer p)] = F47.G T54 p := by kernel_rfl
def F47.W (T47 : Option Addr → PT) (args : List Value) : PT := match args with
  | [.pointer p] => T47 p
  | _ => fun _ _ => False
def F47.V : List Value → PT := F47.W F47.T
theorem F47.ok : FOk Tryz.prog 47 F47.V := by
  refine ⟨⟨_, Tryz.func47, rfl, rfl⟩, fun args => ?_⟩
  unfold F47.V F47.W
  split
  · exact denF_okE (GOk.cons F54.ok (GOk.nil)) noV_ok Tryz.func47 (F47.gen noV F54.T _)
  · exact fun _ _ h => h.elim
@[reducible] def F48.G (T55 : Int → PT) (p : Option Addr) : PT := fun h Q =>
  ∃ (I : Int → Hp → Prop) (m : Int → Hp → Nat), I 0 h ∧ (∀ n : Int, ∀ h1 : Hp, I n h1 → dr p fun b o => ldS h1 b (o + 26) fun l => par (n < (l.n : Int)) (dr p fun b1 o1 => ldS h1 b1 (o1 + 27) fun l1 => ix l1.a n l1.n fun b2 o2 => ldI .i64 h1 b2 (o2 + n.toNat) fun n1 => ∃ (I1 : Int → Hp → Prop) (m1 : Int → Hp → Nat), I1 n1 h1 ∧ (∀ n2 : Int, ∀ h2 : Hp, I1 n2 h2 → dr p fun b3 o3 => ldS h2 b3 (o3 + 26) fun l2 => ix l2.a n l2.n fun b4 o4 => ldS h2 b4 (o4 + n.toNat) fun l3 => par (n2 < (l3.n : Int)) (dr p fun b5 o5 => ldS h2 b5 (o5 + 26) fun l4 => ix l4.a n l4.n fun b6 o6 => ldS h2 b6 (o6 + n.toNat) fun l5 => ix l5.a n2 l5.n fun b7 o7 => ldI .i64 h2 b7 (o7 + n2.toNat * 12) fun n3 => ldI .i64 h2 b7 ((o7 + n2.toNat * 12) + 1) fun n4 => ldI .i64 h2 b7 ((o7 + n2.toNat * 12) + 2) fun n5 => ldI .i64 h2 b7 ((o7 + n2.toNat * 12) + 3) fun n6 => ldI .i64 h2 b7 ((o7 + n2.toNat * 12) + 4) fun n7 => ldS h2 b7 ((o7 + n2.toNat * 12) + 5) fun l6 => ∃ b8 : Bool, parB b8 (h2.at b7 ((o7 + n2.toNat * 12) + 6) = some (.bool true) ∧ ldT h2 b7 ((o7 + n2.toNat * 12) + 7) fun s => ldT h2 b7 ((o7 + n2.toNat * 12) + 8) fun s1 => ldI .i64 h2 b7 ((o7 + n2.toNat * 12) + 9) fun n8 => ldI .i64 h2 b7 ((o7 + n2.toNat * 12) + 10) fun n9 => ldS h2 b7 ((o7 + n2.toNat * 12) + 11) fun l7 => T55 (IntKind.wrap .i64 (n2 - n1)) h2 fun r h3 => retI .i64 r fun n10 => par (n3 = n10) (par (n4 = 0) (par ((l7.n : Int) = 0) (par ((l6.n : Int) = 0) (I1 (IntKind.wrap .i64 (n2 + 1)) h3 ∧ m1 (IntKind.wrap .i64 (n2 + 1)) h3 < m1 n2 h2) (Q (.bool false) h3)) (Q (.bool false) h3)) (Q (.bool false) h3)) (Q (.bool false) h3)) (h2.at b7 ((o7 + n2.toNat * 12) + 6) = some (.bool false) ∧ ldT h2 b7 ((o7 + n2.toNat * 12) + 7) fun s2 => ldT h2 b7 ((o7 + n2.toNat * 12) + 8) fun s3 => ldI .i64 h2 b7 ((o7 + n2.toNat * 12) + 9) fun n11 => ldI .i64 h2 b7 ((o7 + n2.toNat * 12) + 10) fun n12 => ldS h2 b7 ((o7 + n2.toNat * 12) + 11) fun l8 => T55 (IntKind.wrap .i64 (n2 - n1)) h2 fun r1 h4 => retI .i64 r1 fun n13 => par (n3 = n13) (par (n4 = 0) (par ((l8.n : Int) = 0) (par ((l6.n : Int) = 0) (I1 (IntKind.wrap .i64 (n2 + 1)) h4 ∧ m1 (IntKind.wrap .i64 (n2 + 1)) h4 < m1 n2 h2) (Q (.bool false) h4)) (Q (.bool false) h4)) (Q (.bool false) h4)) (Q (.bool false) h4))) (I (IntKind.wrap .i64 (n + 1)) h2 ∧ m (IntKind.wrap .i64 (n + 1)) h2 < m n h1))) (Q (.bool true) h1))
def F48.T := F48.G F55.T
theorem F48.gen (V T55 p) : denF Tryz.prog [6] [(55, F55.W T55)] V [(26, .loop [(3, .int .i64)] []), (3366, .loop [(5, .int .i64)] []), (215442, .order [0, 1, 2, 3, 4, 5, 6, 7, 8, 9, 10, 11, 12, 13, 14, 15, 16, 17, 18, 19, 20, 21, 22, 23, 24])] Tryz.f48 [.v (.pointer p)] = F48.G T55 p := by kernel_rfl
def F48.W (T48 : Option Addr → PT) (args : List Value) : PT := match args with
  | [.pointer p] => T48 p
  | _ => fun _ _ => False
def F48.V : List Value → PT := F48.W F48.T
theorem F48.ok : FOk Tryz.prog 48 F48.V := by
  refine ⟨⟨_, Tryz.func48, rfl, rfl⟩, fun args => ?_⟩
  unfold F48.V F48.W
  split
  · exact denF_okE (GOk.cons F55.ok (GOk.nil)) noV_ok Tryz.func48 (F48.gen noV F55.T _)
  · exact fun _ _ h => h.elim
@[reducible] def F11.G (T35 T36 T37 T38 T39 T40 T41 T42 T43 T44 T45 T46 T47 T48 : Option Addr → PT) (p : Option Addr) : PT := fun h Q =>
  T35 p h fun r h1 => retB r (T36 p h1 fun r1 h2 => retB r1 (T37 p h2 fun r2 h3 => retB r2 (T38 p h3 fun r3 h4 => retB r3 (T39 p h4 fun r4 h5 => retB r4 (T40 p h5 fun r5 h6 => retB r5 (T41 p h6 fun r6 h7 => retB r6 (T42 p h7 fun r7 h8 => retB r7 (T43 p h8 fun r8 h9 => retB r8 (T44 p h9 fun r9 h10 => retB r9 (T45 p h10 fun r10 h11 => retB r10 (T46 p h11 fun r11 h12 => retB r11 (T47 p h12 fun r12 h13 => retB r12 (T48 p h13 fun r13 h14 => retB r13 (Q (.bool true) h14) (Q (.bool false) h14)) (Q (.bool false) h13)) (Q (.bool false) h12)) (Q (.bool false) h11)) (Q (.bool false) h10)) (Q (.bool false) h9)) (Q (.bool false) h8)) (Q (.bool false) h7)) (Q (.bool false) h6)) (Q (.bool false) h5)) (Q (.bool false) h4)) (Q (.bool false) h3)) (Q (.bool false) h2)) (Q (.bool false) h1)
def F11.T := F11.G F35.T F36.T F37.T F38.T F39.T F40.T F41.T F42.T F43.T F44.T F45.T F46.T F47.T F48.T
theorem F11.gen (V T35 T36 T37 T38 T39 T40 T41 T42 T43 T44 T45 T46 T47 T48 p) : denF Tryz.prog [] [(35, F35.W T35), (36, F36.W T36), (37, F37.W T37), (38, F38.W T38), (39, F39.W T39), (40, F40.W T40), (41, F41.W T41), (42, F42.W T42), (43, F43.W T43), (44, F44.W T44), (45, F45.W T45), (46, F46.W T46), (47, F47.W T47), (48, F48.W T48)] V [] Tryz.f11 [.v (.pointer p)] = F11.G T35 T36 T37 T38 T39 T40 T41 T42 T43 T44 T45 T46 T47 T48 p := by kernel_rfl
def F11.W (T11 : Option Addr → PT) (args : List Value) : PT := match args with
  | [.pointer p] => T11 p
  | _ => fun _ _ => False
def F11.V : List Value → PT := F11.W F11.T
theorem F11.ok : FOk Tryz.prog 11 F11.V := by
  refine ⟨⟨_, Tryz.func11, rfl, rfl⟩, fun args => ?_⟩
  unfold F11.V F11.W
  split
  · exact denF_okE (GOk.cons F35.ok (GOk.cons F36.ok (GOk.cons F37.ok (GOk.cons F38.ok (GOk.cons F39.ok (GOk.cons F40.ok (GOk.cons F41.ok (GOk.cons F42.ok (GOk.cons F43.ok (GOk.cons F44.ok (GOk.cons F45.ok (GOk.cons F46.ok (GOk.cons F47.ok (GOk.cons F48.ok (GOk.nil))))))))))))))) noV_ok Tryz.func11 (F11.gen noV F35.T F36.T F37.T F38.T F39.T F40.T F41.T F42.T F43.T F44.T F45.T F46.T F47.T F48.T _)
  · exact fun _ _ h => h.elim
end Go.Eng.YtbjnlacacapjiaaGreat
end
