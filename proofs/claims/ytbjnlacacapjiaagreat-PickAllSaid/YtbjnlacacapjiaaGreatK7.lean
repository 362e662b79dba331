/-
  TEXTS OF MINE, JOINED: ZJC ZQ1 ZQ2 ZQ3 ZQ4 ZQ5 RM0 ZQ6 ZQ7.
-/
import Derived.Test.YtbjnlacacapjiaaGreatK6
import Derived.Test.YtbjnlacacapjiaaGreatK2
import Derived.Test.YtbjnlacacapjiaaGreatProg
set_option linter.unusedSimpArgs false
set_option linter.unusedVariables false
section
set_option maxRecDepth 100000
open Go.Proofs
namespace Go.Eng.YtbjnlacacapjiaaGreat
def F59.T (l : Sl) : PT := fun h Q =>
  ∃ (I : Int → Int → Hp → Prop) (m : Int → Int → Hp → Nat), I 0 0 h ∧ (∀ n n1 : Int, ∀ h1 : Hp, I n n1 h1 → par (n1 < (l.n : Int)) (ix l.a n1 l.n fun b o => ldI .i64 h1 b ((o + n1.toNat * 6) + 1) fun n2 => I (IntKind.wrap .i64 (n + n2)) (IntKind.wrap .i64 (n1 + 1)) h1 ∧ m (IntKind.wrap .i64 (n + n2)) (IntKind.wrap .i64 (n1 + 1)) h1 < m n n1 h1) (Q (.int .i64 n) h1))
theorem F59.den (V l) : denF Tryz.prog [] [] V [(58, .loop [(3, .int .i64), (4, .int .i64)] [])] Tryz.f59 [.v (.slice l.a l.n l.c)] = F59.T l := by kernel_rfl
def F59.W (T59 : Sl → PT) (args : List Value) : PT := match args with
  | [.slice l_a l_n l_c] => T59 ⟨l_a, l_n, l_c⟩
  | _ => fun _ _ => False
def F59.V : List Value → PT := F59.W F59.T
theorem F59.ok : FOk Tryz.prog 59 F59.V := by
  refine ⟨⟨_, Tryz.func59, rfl, rfl⟩, fun args => ?_⟩
  unfold F59.V F59.W
  split
  · exact denF_okE (GOk.nil) noV_ok Tryz.func59 (F59.den noV ⟨_, _, _⟩)
  · exact fun _ _ h => h.elim
@[reducible] def F25.G (T59 : Sl → PT) (n n1 n2 n3 n4 n5 n6 n7 n8 n9 n10 n11 n12 n13 n14 n15 n16 n17 n18 n19 n20 n21 n22 n23 n24 n25 n26 : Int) (l : Sl) : PT := fun h Q =>
  ix l.a 0 l.n fun b o => ldS h b (o + (0 : Int).toNat) fun l1 => n5 ≠ 0 ∧ nw h (.cells ⟨[.int .i64 (IntKind.wrap .i64 (Int.tdiv (IntKind.wrap .i64 (1000 * (l1.n : Int))) n5))]⟩ 3 (0, 0)) fun b1 h1 => ∃ (I : Sl → Int → Int → Hp → Prop) (m : Sl → Int → Int → Hp → Nat), I ⟨(some ⟨b1, 0, none⟩), 1, 1⟩ n9 1 h1 ∧ (∀ l2 : Sl, ∀ n27 n28 : Int, ∀ h2 : Hp, I l2 n27 n28 h2 → par (n28 < (IntKind.wrap .i64 (n8 - 1))) (ix l.a n28 l.n fun b2 o1 => ldS h2 b2 (o1 + n28.toNat) fun l3 => T59 l3 h2 fun r h3 => retI .i64 r fun n29 => n27 ≠ 0 ∧ appendD l2 3 1 8 [.int .i64 0] 1 [.int .i64 (IntKind.wrap .i64 (Int.tdiv (IntKind.wrap .i64 (1000 * n29)) n27))] h3 fun l4 h4 => I l4 (IntKind.wrap .i64 (n27 * n10)) (IntKind.wrap .i64 (n28 + 1)) h4 ∧ m l4 (IntKind.wrap .i64 (n27 * n10)) (IntKind.wrap .i64 (n28 + 1)) h4 < m l2 n27 n28 h2) (Q (.slice l2.a l2.n l2.c) h2))
def F25.T := F25.G F59.T
theorem F25.gen (V T59 n n1 n2 n3 n4 n5 n6 n7 n8 n9 n10 n11 n12 n13 n14 n15 n16 n17 n18 n19 n20 n21 n22 n23 n24 n25 n26 l) : denF Tryz.prog [2, 35] [(59, F59.W T59)] V [(6, .order [0, 1, 2, 3, 4, 5, 6, 7, 8, 9]), (122, .loop [(5, .sl), (6, .int .i64), (7, .int .i64)] [])] Tryz.f25 [.v (.agg ⟨[.int .i64 n, .int .i64 n1, .int .i64 n2, .int .i64 n3, .int .i64 n4, .int .i64 n5, .int .i64 n6, .int .i64 n7, .int .i64 n8, .int .i64 n9, .int .i64 n10, .int .i64 n11, .int .i64 n12, .int .i64 n13, .int .i64 n14, .int .i64 n15, .int .i64 n16, .int .i64 n17, .int .i64 n18, .int .i64 n19, .int .i64 n20, .int .i64 n21, .int .i64 n22, .int .i64 n23, .int .i64 n24, .int .i64 n25, .int .i64 n26]⟩), .v (.slice l.a l.n l.c)] = F25.G T59 n n1 n2 n3 n4 n5 n6 n7 n8 n9 n10 n11 n12 n13 n14 n15 n16 n17 n18 n19 n20 n21 n22 n23 n24 n25 n26 l := by kernel_rfl
def F25.W (T25 : I9 <| I9 <| I9 <| Sl → PT) (args : List Value) : PT := match args with
  | [.agg ⟨[.int .i64 n, .int .i64 n1, .int .i64 n2, .int .i64 n3, .int .i64 n4, .int .i64 n5, .int .i64 n6, .int .i64 n7, .int .i64 n8, .int .i64 n9, .int .i64 n10, .int .i64 n11, .int .i64 n12, .int .i64 n13, .int .i64 n14, .int .i64 n15, .int .i64 n16, .int .i64 n17, .int .i64 n18, .int .i64 n19, .int .i64 n20, .int .i64 n21, .int .i64 n22, .int .i64 n23, .int .i64 n24, .int .i64 n25, .int .i64 n26]⟩, .slice l_a l_n l_c] => T25 n n1 n2 n3 n4 n5 n6 n7 n8 n9 n10 n11 n12 n13 n14 n15 n16 n17 n18 n19 n20 n21 n22 n23 n24 n25 n26 ⟨l_a, l_n, l_c⟩
  | _ => fun _ _ => False
def F25.V : List Value → PT := F25.W F25.T
theorem F25.ok : FOk Tryz.prog 25 F25.V := by
  refine ⟨⟨_, Tryz.func25, rfl, rfl⟩, fun args => ?_⟩
  unfold F25.V F25.W
  split
  · exact denF_okE (GOk.cons F59.ok (GOk.nil)) noV_ok Tryz.func25 (F25.gen noV F59.T _ _ _ _ _ _ _ _ _ _ _ _ _ _ _ _ _ _ _ _ _ _ _ _ _ _ _ ⟨_, _, _⟩)
  · exact fun _ _ h => h.elim
@[reducible] def F27.G (T25 : I9 <| I9 <| I9 <| Sl → PT) (n n1 n2 n3 n4 n5 n6 n7 n8 n9 n10 n11 n12 n13 n14 n15 n16 n17 n18 n19 n20 n21 n22 n23 n24 n25 n26 : Int) (l : Sl) : PT := fun h Q =>
  T25 n n1 n2 n3 n4 n5 n6 n7 n8 n9 n10 n11 n12 n13 n14 n15 n16 n17 n18 n19 n20 n21 n22 n23 n24 n25 n26 l h fun r h1 => retS r fun l1 => ∃ J : Sl → Hp → Prop, (∀ l2 : Sl, ∀ h2 : Hp, J l2 h2 → ∃ (I : Sl → Hp → Prop) (m : Sl → Hp → Nat), I l2 h2 ∧ (∀ l3 : Sl, ∀ h3 : Hp, I l3 h3 → ∃ (I1 : Int → Int → Hp → Prop) (m1 : Int → Int → Hp → Nat), I1 (-1) 0 h3 ∧ (∀ n27 n28 : Int, ∀ h4 : Hp, I1 n27 n28 h4 → par (n28 < (l1.n : Int)) (ix l1.a n28 l1.n fun b o => ldI .i64 h4 b (o + n28.toNat) fun n29 => par ((1000 : Int) ≤ n29) (par (n27 < 0) (I1 n28 (IntKind.wrap .i64 (n28 + 1)) h4 ∧ m1 n28 (IntKind.wrap .i64 (n28 + 1)) h4 < m1 n27 n28 h4) (ix l1.a n28 l1.n fun b1 o1 => ldI .i64 h4 b1 (o1 + n28.toNat) fun n30 => ix l1.a n27 l1.n fun b2 o2 => ldI .i64 h4 b2 (o2 + n27.toNat) fun n31 => par (n31 < n30) (I1 n28 (IntKind.wrap .i64 (n28 + 1)) h4 ∧ m1 n28 (IntKind.wrap .i64 (n28 + 1)) h4 < m1 n27 n28 h4) (I1 n27 (IntKind.wrap .i64 (n28 + 1)) h4 ∧ m1 n27 (IntKind.wrap .i64 (n28 + 1)) h4 < m1 n27 n28 h4))) (I1 n27 (IntKind.wrap .i64 (n28 + 1)) h4 ∧ m1 n27 (IntKind.wrap .i64 (n28 + 1)) h4 < m1 n27 n28 h4)) (par (n27 < 0) (Q (.slice l3.a l3.n l3.c) h4) (appendD l3 3 1 8 [.int .i64 0] 1 [.int .i64 n27] h4 fun l4 h5 => ix l1.a n27 l1.n fun b3 o3 => st h5 b3 (o3 + n27.toNat) 1 [.int .i64 0] fun h6 => I l4 h6 ∧ m l4 h6 < m l3 h3))))) ∧ (ix l.a 0 l.n fun b4 o4 => ldS h1 b4 (o4 + (0 : Int).toNat) fun l5 => par (n7 ≤ (l5.n : Int)) (appendD ⟨none, 0, 0⟩ 3 1 8 [.int .i64 0] 1 [.int .i64 0] h1 fun l6 h7 => ix l1.a 0 l1.n fun b5 o5 => st h7 b5 (o5 + (0 : Int).toNat) 1 [.int .i64 0] fun h8 => J l6 h8) (J ⟨none, 0, 0⟩ h1))
def F27.T := F27.G F25.T
theorem F27.gen (V T25 n n1 n2 n3 n4 n5 n6 n7 n8 n9 n10 n11 n12 n13 n14 n15 n16 n17 n18 n19 n20 n21 n22 n23 n24 n25 n26 l) : denF Tryz.prog [2, 20, 56] [(25, F25.W T25)] V [(15, .join [(6, .sl)] []), (60, .order [0, 1, 2, 3, 4, 5, 6]), (62, .loop [(6, .sl)] []), (3978, .loop [(7, .int .i64), (8, .int .i64)] []), (127304, .order [0, 1, 2, 3, 4, 5, 6, 7, 8, 9, 10, 11, 12, 13, 14, 15, 16, 17, 18, 19])] Tryz.f27 [.v (.agg ⟨[.int .i64 n, .int .i64 n1, .int .i64 n2, .int .i64 n3, .int .i64 n4, .int .i64 n5, .int .i64 n6, .int .i64 n7, .int .i64 n8, .int .i64 n9, .int .i64 n10, .int .i64 n11, .int .i64 n12, .int .i64 n13, .int .i64 n14, .int .i64 n15, .int .i64 n16, .int .i64 n17, .int .i64 n18, .int .i64 n19, .int .i64 n20, .int .i64 n21, .int .i64 n22, .int .i64 n23, .int .i64 n24, .int .i64 n25, .int .i64 n26]⟩), .v (.slice l.a l.n l.c)] = F27.G T25 n n1 n2 n3 n4 n5 n6 n7 n8 n9 n10 n11 n12 n13 n14 n15 n16 n17 n18 n19 n20 n21 n22 n23 n24 n25 n26 l := by kernel_rfl
def F27.W (T27 : I9 <| I9 <| I9 <| Sl → PT) (args : List Value) : PT := match args with
  | [.agg ⟨[.int .i64 n, .int .i64 n1, .int .i64 n2, .int .i64 n3, .int .i64 n4, .int .i64 n5, .int .i64 n6, .int .i64 n7, .int .i64 n8, .int .i64 n9, .int .i64 n10, .int .i64 n11, .int .i64 n12, .int .i64 n13, .int .i64 n14, .int .i64 n15, .int .i64 n16, .int .i64 n17, .int .i64 n18, .int .i64 n19, .int .i64 n20, .int .i64 n21, .int .i64 n22, .int .i64 n23, .int .i64 n24, .int .i64 n25, .int .i64 n26]⟩, .slice l_a l_n l_c] => T27 n n1 n2 n3 n4 n5 n6 n7 n8 n9 n10 n11 n12 n13 n14 n15 n16 n17 n18 n19 n20 n21 n22 n23 n24 n25 n26 ⟨l_a, l_n, l_c⟩
  | _ => fun _ _ => False
def F27.V : List Value → PT := F27.W F27.T
theorem F27.ok : FOk Tryz.prog 27 F27.V := by
  refine ⟨⟨_, Tryz.func27, rfl, rfl⟩, fun args => ?_⟩
  unfold F27.V F27.W
  split
  · exact denF_okE (GOk.cons F25.ok (GOk.nil)) noV_ok Tryz.func27 (F27.gen noV F25.T _ _ _ _ _ _ _ _ _ _ _ _ _ _ _ _ _ _ _ _ _ _ _ _ _ _ _ ⟨_, _, _⟩)
  · exact fun _ _ h => h.elim
def F68.T (l : Sl) (s s1 : ByteArray) : PT := fun h Q =>
  ∃ (I : Sl → Int → Hp → Prop) (m : Sl → Int → Hp → Nat), I ⟨none, 0, 0⟩ 0 h ∧ (∀ l1 : Sl, ∀ n : Int, ∀ h1 : Hp, I l1 n h1 → par (n < (l.n : Int)) (ix l.a n l.n fun b o => ldT h1 b ((o + n.toNat * 6) + 5) fun s2 => par (sLt s2 s) (I l1 (IntKind.wrap .i64 (n + 1)) h1 ∧ m l1 (IntKind.wrap .i64 (n + 1)) h1 < m l1 n h1) (ix l.a n l.n fun b1 o1 => ldT h1 b1 ((o1 + n.toNat * 6) + 4) fun s3 => par (sLt s3 s1 ∨ s3 = s1) (ix l.a n l.n fun b2 o2 => ldI .u64 h1 b2 (o2 + n.toNat * 6) fun n1 => ldI .i64 h1 b2 ((o2 + n.toNat * 6) + 1) fun n2 => ldI .i64 h1 b2 ((o2 + n.toNat * 6) + 2) fun n3 => ldI .i64 h1 b2 ((o2 + n.toNat * 6) + 3) fun n4 => ldT h1 b2 ((o2 + n.toNat * 6) + 4) fun s4 => ldT h1 b2 ((o2 + n.toNat * 6) + 5) fun s5 => appendD l1 65 6 64 [.int .u64 0, .int .i64 0, .int .i64 0, .int .i64 0, .string (ByteArray.mk #[]), .string (ByteArray.mk #[])] 1 [.int .u64 n1, .int .i64 n2, .int .i64 n3, .int .i64 n4, .string s4, .string s5] h1 fun l2 h2 => I l2 (IntKind.wrap .i64 (n + 1)) h2 ∧ m l2 (IntKind.wrap .i64 (n + 1)) h2 < m l1 n h1) (I l1 (IntKind.wrap .i64 (n + 1)) h1 ∧ m l1 (IntKind.wrap .i64 (n + 1)) h1 < m l1 n h1))) (Q (.slice l1.a l1.n l1.c) h1))
theorem F68.den (V l s s1) : denF Tryz.prog [36] [] V [(58, .loop [(7, .sl), (8, .int .i64)] [])] Tryz.f68 [.v (.slice l.a l.n l.c), .v (.string s), .v (.string s1)] = F68.T l s s1 := by kernel_rfl
def F68.W (T68 : Sl → ByteArray → ByteArray → PT) (args : List Value) : PT := match args with
  | [.slice l_a l_n l_c, .string s, .string s1] => T68 ⟨l_a, l_n, l_c⟩ s s1
  | _ => fun _ _ => False
def F68.V : List Value → PT := F68.W F68.T
theorem F68.ok : FOk Tryz.prog 68 F68.V := by
  refine ⟨⟨_, Tryz.func68, rfl, rfl⟩, fun args => ?_⟩
  unfold F68.V F68.W
  split
  · exact denF_okE (GOk.nil) noV_ok Tryz.func68 (F68.den noV ⟨_, _, _⟩ _ _)
  · exact fun _ _ h => h.elim
@[reducible] def F29.G (T68 : Sl → ByteArray → ByteArray → PT) (n n1 n2 n3 n4 n5 n6 n7 n8 n9 n10 n11 n12 n13 n14 n15 n16 n17 n18 n19 n20 n21 n22 n23 n24 n25 n26 : Int) (l l1 : Sl) (n27 : Int) : PT := fun h Q =>
  par (n27 < 0) (Q (.tuple ⟨[.agg ⟨[.int .i64 0, .slice none 0 0, .slice none 0 0, .string (ByteArray.mk #[]), .bool false]⟩, .bool false]⟩) h) (par ((IntKind.wrap .i64 (n8 - 1)) ≤ n27) (Q (.tuple ⟨[.agg ⟨[.int .i64 0, .slice none 0 0, .slice none 0 0, .string (ByteArray.mk #[]), .bool false]⟩, .bool false]⟩) h) (ix l.a n27 l.n fun b o => ldS h b (o + n27.toNat) fun l2 => par ((l2.n : Int) = 0) (Q (.tuple ⟨[.agg ⟨[.int .i64 0, .slice none 0 0, .slice none 0 0, .string (ByteArray.mk #[]), .bool false]⟩, .bool false]⟩) h) (ix l.a n27 l.n fun b1 o1 => ldS h b1 (o1 + n27.toNat) fun l3 => par (n27 = 0) (ix l3.a 0 l3.n fun b2 o2 => ldT h b2 ((o2 + (0 : Int).toNat * 6) + 4) fun s => ix l3.a 0 l3.n fun b3 o3 => ldT h b3 ((o3 + (0 : Int).toNat * 6) + 5) fun s1 => h.at b3 ((o3 + (0 : Int).toNat * 6) + 5) = some (.string s1) ∧ ∃ (I : ByteArray → ByteArray → Int → Hp → Prop) (m : ByteArray → ByteArray → Int → Hp → Nat), I s s1 0 h ∧ (∀ s2 s3 : ByteArray, ∀ n28 : Int, ∀ h1 : Hp, I s2 s3 n28 h1 → par (n28 < (l3.n : Int)) (ix l3.a n28 l3.n fun b4 o4 => ldT h1 b4 ((o4 + n28.toNat * 6) + 4) fun s4 => ix l3.a n28 l3.n fun b5 o5 => ldT h1 b5 ((o5 + n28.toNat * 6) + 5) fun s5 => h1.at b5 ((o5 + n28.toNat * 6) + 5) = some (.string s5) ∧ I (sMin s2 s4) (sMax s3 s5) (IntKind.wrap .i64 (n28 + 1)) h1 ∧ m (sMin s2 s4) (sMax s3 s5) (IntKind.wrap .i64 (n28 + 1)) h1 < m s2 s3 n28 h1) (∃ vs, h1.row l3.a (l3.n * 6) vs ∧ (∀ v ∈ vs, Value.oneCell' v = true) ∧ appendD ⟨none, 0, 0⟩ 65 6 64 [.int .u64 0, .int .i64 0, .int .i64 0, .int .i64 0, .string (ByteArray.mk #[]), .string (ByteArray.mk #[])] l3.n vs h1 fun l4 h2 => ix l.a 1 l.n fun b6 o6 => ldS h2 b6 (o6 + (1 : Int).toNat) fun l5 => T68 l5 s2 s3 h2 fun r h3 => retS r fun l6 => Q (.tuple ⟨[.agg ⟨[.int .i64 n27, .slice l4.a l4.n l4.c, .slice l6.a l6.n l6.c, .string (ByteArray.mk #[]), .bool false]⟩, .bool true]⟩) h3))) (∃ J : ByteArray → Hp → Prop, (∀ s6 : ByteArray, ∀ h4 : Hp, J s6 h4 → ∃ J1 : Int → Hp → Prop, (∀ n29 : Int, ∀ h5 : Hp, J1 n29 h5 → ∃ J2 : Int → Hp → Prop, (∀ n30 : Int, ∀ h6 : Hp, J2 n30 h6 → ix l3.a n30 l3.n fun b7 o7 => ldI .u64 h6 b7 (o7 + n30.toNat * 6) fun n31 => ldI .i64 h6 b7 ((o7 + n30.toNat * 6) + 1) fun n32 => ldI .i64 h6 b7 ((o7 + n30.toNat * 6) + 2) fun n33 => ldI .i64 h6 b7 ((o7 + n30.toNat * 6) + 3) fun n34 => ldT h6 b7 ((o7 + n30.toNat * 6) + 4) fun s7 => ldT h6 b7 ((o7 + n30.toNat * 6) + 5) fun s8 => appendD ⟨none, 0, 0⟩ 65 6 64 [.int .u64 0, .int .i64 0, .int .i64 0, .int .i64 0, .string (ByteArray.mk #[]), .string (ByteArray.mk #[])] 1 [.int .u64 n31, .int .i64 n32, .int .i64 n33, .int .i64 n34, .string s7, .string s8] h6 fun l7 h7 => ix l.a (IntKind.wrap .i64 (n27 + 1)) l.n fun b8 o8 => ldS h7 b8 (o8 + ((IntKind.wrap .i64 (n27 + 1))).toNat) fun l8 => ix l3.a n30 l3.n fun b9 o9 => ldT h7 b9 ((o9 + n30.toNat * 6) + 4) fun s9 => ix l3.a n30 l3.n fun b10 o10 => ldT h7 b10 ((o10 + n30.toNat * 6) + 5) fun s10 => T68 l8 s9 s10 h7 fun r1 h8 => retS r1 fun l9 => par (n12 < (l9.n : Int)) (ix l9.a n12 l9.n fun b11 o11 => ldT h8 b11 ((o11 + n12.toNat * 6) + 4) fun s11 => Sl.okCut l9 0 n12 (l9.c : Int) ∧ par (((Sl.cut l9 6 0 n12 (l9.c : Int)).n : Int) = 0) (par ((IntKind.wrap .i64 (n27 + 1)) = (IntKind.wrap .i64 (n8 - 1))) (Q (.tuple ⟨[.agg ⟨[.int .i64 n27, .slice l7.a l7.n l7.c, .slice (Sl.cut l9 6 0 n12 (l9.c : Int)).a (Sl.cut l9 6 0 n12 (l9.c : Int)).n (Sl.cut l9 6 0 n12 (l9.c : Int)).c, .string s11, .bool false]⟩, .bool true]⟩) h8) (Q (.tuple ⟨[.agg ⟨[.int .i64 n27, .slice l7.a l7.n l7.c, .slice (Sl.cut l9 6 0 n12 (l9.c : Int)).a (Sl.cut l9 6 0 n12 (l9.c : Int)).n (Sl.cut l9 6 0 n12 (l9.c : Int)).c, .string s11, .bool true]⟩, .bool true]⟩) h8)) (Q (.tuple ⟨[.agg ⟨[.int .i64 n27, .slice l7.a l7.n l7.c, .slice (Sl.cut l9 6 0 n12 (l9.c : Int)).a (Sl.cut l9 6 0 n12 (l9.c : Int)).n (Sl.cut l9 6 0 n12 (l9.c : Int)).c, .string s11, .bool false]⟩, .bool true]⟩) h8)) (par ((l9.n : Int) = 0) (par ((IntKind.wrap .i64 (n27 + 1)) = (IntKind.wrap .i64 (n8 - 1))) (Q (.tuple ⟨[.agg ⟨[.int .i64 n27, .slice l7.a l7.n l7.c, .slice l9.a l9.n l9.c, .string (ByteArray.mk #[]), .bool false]⟩, .bool true]⟩) h8) (Q (.tuple ⟨[.agg ⟨[.int .i64 n27, .slice l7.a l7.n l7.c, .slice l9.a l9.n l9.c, .string (ByteArray.mk #[]), .bool true]⟩, .bool true]⟩) h8)) (Q (.tuple ⟨[.agg ⟨[.int .i64 n27, .slice l7.a l7.n l7.c, .slice l9.a l9.n l9.c, .string (ByteArray.mk #[]), .bool false]⟩, .bool true]⟩) h8))) ∧ (par (n29 = (l3.n : Int)) (J2 0 h5) (J2 n29 h5))) ∧ (∃ (I1 : Int → Hp → Prop) (m1 : Int → Hp → Nat), I1 0 h4 ∧ (∀ n35 : Int, ∀ h9 : Hp, I1 n35 h9 → par (n35 < (l3.n : Int)) (ix l3.a n35 l3.n fun b12 o12 => ldT h9 b12 ((o12 + n35.toNat * 6) + 4) fun s12 => par (sLt s12 s6 ∨ s12 = s6) (I1 (IntKind.wrap .i64 (n35 + 1)) h9 ∧ m1 (IntKind.wrap .i64 (n35 + 1)) h9 < m1 n35 h9) (J1 n35 h9)) (J1 n35 h9)))) ∧ (par (n27 < (l1.n : Int)) (ix l1.a n27 l1.n fun b13 o13 => ldT h b13 (o13 + n27.toNat) fun s13 => J s13 h) (J (ByteArray.mk #[]) h))))))
def F29.T := F29.G F68.T
theorem F29.gen (V T68 n n1 n2 n3 n4 n5 n6 n7 n8 n9 n10 n11 n12 n13 n14 n15 n16 n17 n18 n19 n20 n21 n22 n23 n24 n25 n26 l l1 n27) : denF Tryz.prog [4, 8, 11, 117] [(68, F68.W T68)] V [(127, .join [(15, .str)] []), (500, .order [0, 1, 2, 3, 4, 5, 6, 7, 8, 9]), (511, .join [(16, .int .i64)] []), (1023, .join [(16, .int .i64)] []), (2044, .loop [(16, .int .i64)] []), (4010, .loop [(12, .str), (13, .str), (14, .int .i64)] []), (4094, .order [0, 1, 2, 3, 4, 5, 6, 7, 8, 9]), (8190, .order [0, 1, 2, 3, 4, 5, 6, 7, 8, 9, 10, 11, 12, 13, 14, 15, 16, 17]), (64164, .order [0, 1, 2, 3, 4, 5, 6, 7, 8, 9, 10, 11, 12, 13, 14, 15])] Tryz.f29 [.v (.agg ⟨[.int .i64 n, .int .i64 n1, .int .i64 n2, .int .i64 n3, .int .i64 n4, .int .i64 n5, .int .i64 n6, .int .i64 n7, .int .i64 n8, .int .i64 n9, .int .i64 n10, .int .i64 n11, .int .i64 n12, .int .i64 n13, .int .i64 n14, .int .i64 n15, .int .i64 n16, .int .i64 n17, .int .i64 n18, .int .i64 n19, .int .i64 n20, .int .i64 n21, .int .i64 n22, .int .i64 n23, .int .i64 n24, .int .i64 n25, .int .i64 n26]⟩), .v (.slice l.a l.n l.c), .v (.slice l1.a l1.n l1.c), .v (.int .i64 n27)] = F29.G T68 n n1 n2 n3 n4 n5 n6 n7 n8 n9 n10 n11 n12 n13 n14 n15 n16 n17 n18 n19 n20 n21 n22 n23 n24 n25 n26 l l1 n27 := by kernel_rfl
def F29.W (T29 : I9 <| I9 <| I9 <| Sl → Sl → Int → PT) (args : List Value) : PT := match args with
  | [.agg ⟨[.int .i64 n, .int .i64 n1, .int .i64 n2, .int .i64 n3, .int .i64 n4, .int .i64 n5, .int .i64 n6, .int .i64 n7, .int .i64 n8, .int .i64 n9, .int .i64 n10, .int .i64 n11, .int .i64 n12, .int .i64 n13, .int .i64 n14, .int .i64 n15, .int .i64 n16, .int .i64 n17, .int .i64 n18, .int .i64 n19, .int .i64 n20, .int .i64 n21, .int .i64 n22, .int .i64 n23, .int .i64 n24, .int .i64 n25, .int .i64 n26]⟩, .slice l_a l_n l_c, .slice l1_a l1_n l1_c, .int .i64 n27] => T29 n n1 n2 n3 n4 n5 n6 n7 n8 n9 n10 n11 n12 n13 n14 n15 n16 n17 n18 n19 n20 n21 n22 n23 n24 n25 n26 ⟨l_a, l_n, l_c⟩ ⟨l1_a, l1_n, l1_c⟩ n27
  | _ => fun _ _ => False
def F29.V : List Value → PT := F29.W F29.T
theorem F29.ok : FOk Tryz.prog 29 F29.V := by
  refine ⟨⟨_, Tryz.func29, rfl, rfl⟩, fun args => ?_⟩
  unfold F29.V F29.W
  split
  · exact denF_okE (GOk.cons F68.ok (GOk.nil)) noV_ok Tryz.func29 (F29.gen noV F68.T _ _ _ _ _ _ _ _ _ _ _ _ _ _ _ _ _ _ _ _ _ _ _ _ _ _ _ ⟨_, _, _⟩ ⟨_, _, _⟩ _)
  · exact fun _ _ h => h.elim
def F71.T (l l1 : Sl) : PT := fun h Q =>
  ∃ (I : Int → Hp → Prop) (m : Int → Hp → Nat), I 0 h ∧ (∀ n : Int, ∀ h1 : Hp, I n h1 → par (n < (l.n : Int)) (∃ (I1 : Int → Hp → Prop) (m1 : Int → Hp → Nat), I1 0 h1 ∧ (∀ n1 : Int, ∀ h2 : Hp, I1 n1 h2 → par (n1 < (l1.n : Int)) (ix l.a n l.n fun b o => ldI .u64 h2 b (o + n.toNat * 6) fun n2 => ix l1.a n1 l1.n fun b1 o1 => ldI .u64 h2 b1 (o1 + n1.toNat) fun n3 => par (n2 = n3) (Q (.bool true) h2) (I1 (IntKind.wrap .i64 (n1 + 1)) h2 ∧ m1 (IntKind.wrap .i64 (n1 + 1)) h2 < m1 n1 h2)) (I (IntKind.wrap .i64 (n + 1)) h2 ∧ m (IntKind.wrap .i64 (n + 1)) h2 < m n h1))) (Q (.bool false) h1))
theorem F71.den (V l l1) : denF Tryz.prog [] [] V [(26, .loop [(5, .int .i64)] []), (1682, .loop [(6, .int .i64)] []), (53832, .order [0, 1, 2, 3, 4, 5, 6, 7, 8, 9])] Tryz.f71 [.v (.slice l.a l.n l.c), .v (.slice l1.a l1.n l1.c)] = F71.T l l1 := by kernel_rfl
def F71.W (T71 : Sl → Sl → PT) (args : List Value) : PT := match args with
  | [.slice l_a l_n l_c, .slice l1_a l1_n l1_c] => T71 ⟨l_a, l_n, l_c⟩ ⟨l1_a, l1_n, l1_c⟩
  | _ => fun _ _ => False
def F71.V : List Value → PT := F71.W F71.T
theorem F71.ok : FOk Tryz.prog 71 F71.V := by
  refine ⟨⟨_, Tryz.func71, rfl, rfl⟩, fun args => ?_⟩
  unfold F71.V F71.W
  split
  · exact denF_okE (GOk.nil) noV_ok Tryz.func71 (F71.den noV ⟨_, _, _⟩ ⟨_, _, _⟩)
  · exact fun _ _ h => h.elim
@[reducible] def F32.G (T27 : I9 <| I9 <| I9 <| Sl → PT) (T29 : I9 <| I9 <| I9 <| Sl → Sl → Int → PT) (T71 : Sl → Sl → PT) (n n1 n2 n3 n4 n5 n6 n7 n8 n9 n10 n11 n12 n13 n14 n15 n16 n17 n18 n19 n20 n21 n22 n23 n24 n25 n26 : Int) (l l1 l2 : Sl) : PT := fun h Q =>
  T27 n n1 n2 n3 n4 n5 n6 n7 n8 n9 n10 n11 n12 n13 n14 n15 n16 n17 n18 n19 n20 n21 n22 n23 n24 n25 n26 l h fun r h1 => retS r fun l3 => nw h1 (.cells ⟨[.bool false, .bool false, .bool false, .bool false, .bool false, .bool false, .bool false, .bool false]⟩ 119 (0, 0)) fun b h2 => ∃ (I : Int → Int → Sl → Sl → ByteArray → Bool → Hp → Prop) (m : Int → Int → Sl → Sl → ByteArray → Bool → Hp → Nat), I 0 0 ⟨none, 0, 0⟩ ⟨none, 0, 0⟩ (ByteArray.mk #[]) false h2 ∧ (∀ n27 n28 : Int, ∀ l4 l5 : Sl, ∀ s : ByteArray, (∀ h3 : Hp, I n27 n28 l4 l5 s true h3 → par (n27 < (l3.n : Int)) (∃ J : Int → Sl → Sl → ByteArray → Bool → Hp → Prop, (∀ n29 : Int, ∀ l6 l7 : Sl, ∀ s1 : ByteArray, (∀ h4 : Hp, J n29 l6 l7 s1 true h4 → I (IntKind.wrap .i64 (n27 + 1)) n29 l6 l7 s1 true h4 ∧ m (IntKind.wrap .i64 (n27 + 1)) n29 l6 l7 s1 true h4 < m n27 n28 l4 l5 s true h3) ∧ (∀ h4 : Hp, J n29 l6 l7 s1 false h4 → I (IntKind.wrap .i64 (n27 + 1)) n29 l6 l7 s1 false h4 ∧ m (IntKind.wrap .i64 (n27 + 1)) n29 l6 l7 s1 false h4 < m n27 n28 l4 l5 s true h3)) ∧ (ix l3.a n27 l3.n fun b3 o => ldI .i64 h3 b3 (o + n27.toNat) fun n30 => T29 n n1 n2 n3 n4 n5 n6 n7 n8 n9 n10 n11 n12 n13 n14 n15 n16 n17 n18 n19 n20 n21 n22 n23 n24 n25 n26 l l1 n30 h3 fun r1 h5 => ∃ n31 : Int, ∃ l8 l9 : Sl, ∃ s2 : ByteArray, ∃ b4 : Bool, parB b4 (∃ b5 : Bool, parB b5 (r1 = .tuple ⟨[.agg ⟨[.int .i64 n31, .slice l8.a l8.n l8.c, .slice l9.a l9.n l9.c, .string s2, .bool true]⟩, .bool true]⟩ ∧ ((0 : Int) ≤ n30 ∧ n30 < ((8 : Nat) : Int)) ∧ ldB h5 b (0 + (n30 : Int).toNat) (((0 : Int) ≤ n30 ∧ n30 < ((8 : Nat) : Int)) ∧ st h5 b (0 + (n30 : Int).toNat) 1 [.bool true] fun h6 => ((0 : Int) ≤ (IntKind.wrap .i64 (n30 + 1)) ∧ (IntKind.wrap .i64 (n30 + 1)) < ((8 : Nat) : Int)) ∧ st h6 b (0 + ((IntKind.wrap .i64 (n30 + 1)) : Int).toNat) 1 [.bool true] fun h7 => J n28 l4 l5 s true h7) (((0 : Int) ≤ (IntKind.wrap .i64 (n30 + 1)) ∧ (IntKind.wrap .i64 (n30 + 1)) < ((8 : Nat) : Int)) ∧ ldB h5 b (0 + ((IntKind.wrap .i64 (n30 + 1)) : Int).toNat) (((0 : Int) ≤ n30 ∧ n30 < ((8 : Nat) : Int)) ∧ st h5 b (0 + (n30 : Int).toNat) 1 [.bool true] fun h8 => ((0 : Int) ≤ (IntKind.wrap .i64 (n30 + 1)) ∧ (IntKind.wrap .i64 (n30 + 1)) < ((8 : Nat) : Int)) ∧ st h8 b (0 + ((IntKind.wrap .i64 (n30 + 1)) : Int).toNat) 1 [.bool true] fun h9 => J n28 l4 l5 s true h9) (T71 l8 l2 h5 fun r2 h10 => retB r2 (((0 : Int) ≤ n30 ∧ n30 < ((8 : Nat) : Int)) ∧ st h10 b (0 + (n30 : Int).toNat) 1 [.bool true] fun h11 => ((0 : Int) ≤ (IntKind.wrap .i64 (n30 + 1)) ∧ (IntKind.wrap .i64 (n30 + 1)) < ((8 : Nat) : Int)) ∧ st h11 b (0 + ((IntKind.wrap .i64 (n30 + 1)) : Int).toNat) 1 [.bool true] fun h12 => J n28 l4 l5 s true h12) (T71 l9 l2 h10 fun r3 h13 => retB r3 (((0 : Int) ≤ n30 ∧ n30 < ((8 : Nat) : Int)) ∧ st h13 b (0 + (n30 : Int).toNat) 1 [.bool true] fun h14 => ((0 : Int) ≤ (IntKind.wrap .i64 (n30 + 1)) ∧ (IntKind.wrap .i64 (n30 + 1)) < ((8 : Nat) : Int)) ∧ st h14 b (0 + ((IntKind.wrap .i64 (n30 + 1)) : Int).toNat) 1 [.bool true] fun h15 => J n28 l4 l5 s true h15) (Q (.tuple ⟨[.agg ⟨[.int .i64 n31, .slice l8.a l8.n l8.c, .slice l9.a l9.n l9.c, .string s2, .bool true]⟩, .int .i64 2]⟩) h13))))) (r1 = .tuple ⟨[.agg ⟨[.int .i64 n31, .slice l8.a l8.n l8.c, .slice l9.a l9.n l9.c, .string s2, .bool true]⟩, .bool false]⟩ ∧ ((0 : Int) ≤ n30 ∧ n30 < ((8 : Nat) : Int)) ∧ st h5 b (0 + (n30 : Int).toNat) 1 [.bool true] fun h16 => ((0 : Int) ≤ (IntKind.wrap .i64 (n30 + 1)) ∧ (IntKind.wrap .i64 (n30 + 1)) < ((8 : Nat) : Int)) ∧ st h16 b (0 + ((IntKind.wrap .i64 (n30 + 1)) : Int).toNat) 1 [.bool true] fun h17 => J n28 l4 l5 s true h17)) (∃ b6 : Bool, parB b6 (r1 = .tuple ⟨[.agg ⟨[.int .i64 n31, .slice l8.a l8.n l8.c, .slice l9.a l9.n l9.c, .string s2, .bool false]⟩, .bool true]⟩ ∧ ((0 : Int) ≤ n30 ∧ n30 < ((8 : Nat) : Int)) ∧ ldB h5 b (0 + (n30 : Int).toNat) (((0 : Int) ≤ n30 ∧ n30 < ((8 : Nat) : Int)) ∧ st h5 b (0 + (n30 : Int).toNat) 1 [.bool true] fun h18 => ((0 : Int) ≤ (IntKind.wrap .i64 (n30 + 1)) ∧ (IntKind.wrap .i64 (n30 + 1)) < ((8 : Nat) : Int)) ∧ st h18 b (0 + ((IntKind.wrap .i64 (n30 + 1)) : Int).toNat) 1 [.bool true] fun h19 => J n28 l4 l5 s true h19) (((0 : Int) ≤ (IntKind.wrap .i64 (n30 + 1)) ∧ (IntKind.wrap .i64 (n30 + 1)) < ((8 : Nat) : Int)) ∧ ldB h5 b (0 + ((IntKind.wrap .i64 (n30 + 1)) : Int).toNat) (((0 : Int) ≤ n30 ∧ n30 < ((8 : Nat) : Int)) ∧ st h5 b (0 + (n30 : Int).toNat) 1 [.bool true] fun h20 => ((0 : Int) ≤ (IntKind.wrap .i64 (n30 + 1)) ∧ (IntKind.wrap .i64 (n30 + 1)) < ((8 : Nat) : Int)) ∧ st h20 b (0 + ((IntKind.wrap .i64 (n30 + 1)) : Int).toNat) 1 [.bool true] fun h21 => J n28 l4 l5 s true h21) (T71 l8 l2 h5 fun r4 h22 => retB r4 (((0 : Int) ≤ n30 ∧ n30 < ((8 : Nat) : Int)) ∧ st h22 b (0 + (n30 : Int).toNat) 1 [.bool true] fun h23 => ((0 : Int) ≤ (IntKind.wrap .i64 (n30 + 1)) ∧ (IntKind.wrap .i64 (n30 + 1)) < ((8 : Nat) : Int)) ∧ st h23 b (0 + ((IntKind.wrap .i64 (n30 + 1)) : Int).toNat) 1 [.bool true] fun h24 => J n28 l4 l5 s true h24) (T71 l9 l2 h22 fun r5 h25 => retB r5 (((0 : Int) ≤ n30 ∧ n30 < ((8 : Nat) : Int)) ∧ st h25 b (0 + (n30 : Int).toNat) 1 [.bool true] fun h26 => ((0 : Int) ≤ (IntKind.wrap .i64 (n30 + 1)) ∧ (IntKind.wrap .i64 (n30 + 1)) < ((8 : Nat) : Int)) ∧ st h26 b (0 + ((IntKind.wrap .i64 (n30 + 1)) : Int).toNat) 1 [.bool true] fun h27 => J n28 l4 l5 s true h27) (Q (.tuple ⟨[.agg ⟨[.int .i64 n31, .slice l8.a l8.n l8.c, .slice l9.a l9.n l9.c, .string s2, .bool false]⟩, .int .i64 2]⟩) h25))))) (r1 = .tuple ⟨[.agg ⟨[.int .i64 n31, .slice l8.a l8.n l8.c, .slice l9.a l9.n l9.c, .string s2, .bool false]⟩, .bool false]⟩ ∧ ((0 : Int) ≤ n30 ∧ n30 < ((8 : Nat) : Int)) ∧ st h5 b (0 + (n30 : Int).toNat) 1 [.bool true] fun h28 => ((0 : Int) ≤ (IntKind.wrap .i64 (n30 + 1)) ∧ (IntKind.wrap .i64 (n30 + 1)) < ((8 : Nat) : Int)) ∧ st h28 b (0 + ((IntKind.wrap .i64 (n30 + 1)) : Int).toNat) 1 [.bool true] fun h29 => J n28 l4 l5 s true h29)))) (par ((0 : Int) < (l3.n : Int)) (Q (.tuple ⟨[.agg ⟨[.int .i64 0, .slice none 0 0, .slice none 0 0, .string (ByteArray.mk #[]), .bool false]⟩, .int .i64 1]⟩) h3) (Q (.tuple ⟨[.agg ⟨[.int .i64 0, .slice none 0 0, .slice none 0 0, .string (ByteArray.mk #[]), .bool false]⟩, .int .i64 0]⟩) h3))) ∧ (∀ h3 : Hp, I n27 n28 l4 l5 s false h3 → par (n27 < (l3.n : Int)) (∃ J1 : Int → Sl → Sl → ByteArray → Bool → Hp → Prop, (∀ n32 : Int, ∀ l10 l11 : Sl, ∀ s3 : ByteArray, (∀ h30 : Hp, J1 n32 l10 l11 s3 true h30 → I (IntKind.wrap .i64 (n27 + 1)) n32 l10 l11 s3 true h30 ∧ m (IntKind.wrap .i64 (n27 + 1)) n32 l10 l11 s3 true h30 < m n27 n28 l4 l5 s false h3) ∧ (∀ h30 : Hp, J1 n32 l10 l11 s3 false h30 → I (IntKind.wrap .i64 (n27 + 1)) n32 l10 l11 s3 false h30 ∧ m (IntKind.wrap .i64 (n27 + 1)) n32 l10 l11 s3 false h30 < m n27 n28 l4 l5 s false h3)) ∧ (ix l3.a n27 l3.n fun b8 o1 => ldI .i64 h3 b8 (o1 + n27.toNat) fun n33 => T29 n n1 n2 n3 n4 n5 n6 n7 n8 n9 n10 n11 n12 n13 n14 n15 n16 n17 n18 n19 n20 n21 n22 n23 n24 n25 n26 l l1 n33 h3 fun r6 h31 => ∃ n34 : Int, ∃ l12 l13 : Sl, ∃ s4 : ByteArray, ∃ b9 : Bool, parB b9 (∃ b10 : Bool, parB b10 (r6 = .tuple ⟨[.agg ⟨[.int .i64 n34, .slice l12.a l12.n l12.c, .slice l13.a l13.n l13.c, .string s4, .bool true]⟩, .bool true]⟩ ∧ ((0 : Int) ≤ n33 ∧ n33 < ((8 : Nat) : Int)) ∧ ldB h31 b (0 + (n33 : Int).toNat) (((0 : Int) ≤ n33 ∧ n33 < ((8 : Nat) : Int)) ∧ st h31 b (0 + (n33 : Int).toNat) 1 [.bool true] fun h32 => ((0 : Int) ≤ (IntKind.wrap .i64 (n33 + 1)) ∧ (IntKind.wrap .i64 (n33 + 1)) < ((8 : Nat) : Int)) ∧ st h32 b (0 + ((IntKind.wrap .i64 (n33 + 1)) : Int).toNat) 1 [.bool true] fun h33 => J1 n28 l4 l5 s false h33) (((0 : Int) ≤ (IntKind.wrap .i64 (n33 + 1)) ∧ (IntKind.wrap .i64 (n33 + 1)) < ((8 : Nat) : Int)) ∧ ldB h31 b (0 + ((IntKind.wrap .i64 (n33 + 1)) : Int).toNat) (((0 : Int) ≤ n33 ∧ n33 < ((8 : Nat) : Int)) ∧ st h31 b (0 + (n33 : Int).toNat) 1 [.bool true] fun h34 => ((0 : Int) ≤ (IntKind.wrap .i64 (n33 + 1)) ∧ (IntKind.wrap .i64 (n33 + 1)) < ((8 : Nat) : Int)) ∧ st h34 b (0 + ((IntKind.wrap .i64 (n33 + 1)) : Int).toNat) 1 [.bool true] fun h35 => J1 n28 l4 l5 s false h35) (T71 l12 l2 h31 fun r7 h36 => retB r7 (((0 : Int) ≤ n33 ∧ n33 < ((8 : Nat) : Int)) ∧ st h36 b (0 + (n33 : Int).toNat) 1 [.bool true] fun h37 => ((0 : Int) ≤ (IntKind.wrap .i64 (n33 + 1)) ∧ (IntKind.wrap .i64 (n33 + 1)) < ((8 : Nat) : Int)) ∧ st h37 b (0 + ((IntKind.wrap .i64 (n33 + 1)) : Int).toNat) 1 [.bool true] fun h38 => J1 n28 l4 l5 s false h38) (T71 l13 l2 h36 fun r8 h39 => retB r8 (((0 : Int) ≤ n33 ∧ n33 < ((8 : Nat) : Int)) ∧ st h39 b (0 + (n33 : Int).toNat) 1 [.bool true] fun h40 => ((0 : Int) ≤ (IntKind.wrap .i64 (n33 + 1)) ∧ (IntKind.wrap .i64 (n33 + 1)) < ((8 : Nat) : Int)) ∧ st h40 b (0 + ((IntKind.wrap .i64 (n33 + 1)) : Int).toNat) 1 [.bool true] fun h41 => J1 n28 l4 l5 s false h41) (Q (.tuple ⟨[.agg ⟨[.int .i64 n34, .slice l12.a l12.n l12.c, .slice l13.a l13.n l13.c, .string s4, .bool true]⟩, .int .i64 2]⟩) h39))))) (r6 = .tuple ⟨[.agg ⟨[.int .i64 n34, .slice l12.a l12.n l12.c, .slice l13.a l13.n l13.c, .string s4, .bool true]⟩, .bool false]⟩ ∧ ((0 : Int) ≤ n33 ∧ n33 < ((8 : Nat) : Int)) ∧ st h31 b (0 + (n33 : Int).toNat) 1 [.bool true] fun h42 => ((0 : Int) ≤ (IntKind.wrap .i64 (n33 + 1)) ∧ (IntKind.wrap .i64 (n33 + 1)) < ((8 : Nat) : Int)) ∧ st h42 b (0 + ((IntKind.wrap .i64 (n33 + 1)) : Int).toNat) 1 [.bool true] fun h43 => J1 n28 l4 l5 s false h43)) (∃ b11 : Bool, parB b11 (r6 = .tuple ⟨[.agg ⟨[.int .i64 n34, .slice l12.a l12.n l12.c, .slice l13.a l13.n l13.c, .string s4, .bool false]⟩, .bool true]⟩ ∧ ((0 : Int) ≤ n33 ∧ n33 < ((8 : Nat) : Int)) ∧ ldB h31 b (0 + (n33 : Int).toNat) (((0 : Int) ≤ n33 ∧ n33 < ((8 : Nat) : Int)) ∧ st h31 b (0 + (n33 : Int).toNat) 1 [.bool true] fun h44 => ((0 : Int) ≤ (IntKind.wrap .i64 (n33 + 1)) ∧ (IntKind.wrap .i64 (n33 + 1)) < ((8 : Nat) : Int)) ∧ st h44 b (0 + ((IntKind.wrap .i64 (n33 + 1)) : Int).toNat) 1 [.bool true] fun h45 => J1 n28 l4 l5 s false h45) (((0 : Int) ≤ (IntKind.wrap .i64 (n33 + 1)) ∧ (IntKind.wrap .i64 (n33 + 1)) < ((8 : Nat) : Int)) ∧ ldB h31 b (0 + ((IntKind.wrap .i64 (n33 + 1)) : Int).toNat) (((0 : Int) ≤ n33 ∧ n33 < ((8 : Nat) : Int)) ∧ st h31 b (0 + (n33 : Int).toNat) 1 [.bool true] fun h46 => ((0 : Int) ≤ (IntKind.wrap .i64 (n33 + 1)) ∧ (IntKind.wrap .i64 (n33 + 1)) < ((8 : Nat) : Int)) ∧ st h46 b (0 + ((IntKind.wrap .i64 (n33 + 1)) : Int).toNat) 1 [.bool true] fun h47 => J1 n28 l4 l5 s false h47) (T71 l12 l2 h31 fun r9 h48 => retB r9 (((0 : Int) ≤ n33 ∧ n33 < ((8 : Nat) : Int)) ∧ st h48 b (0 + (n33 : Int).toNat) 1 [.bool true] fun h49 => ((0 : Int) ≤ (IntKind.wrap .i64 (n33 + 1)) ∧ (IntKind.wrap .i64 (n33 + 1)) < ((8 : Nat) : Int)) ∧ st h49 b (0 + ((IntKind.wrap .i64 (n33 + 1)) : Int).toNat) 1 [.bool true] fun h50 => J1 n28 l4 l5 s false h50) (T71 l13 l2 h48 fun r10 h51 => retB r10 (((0 : Int) ≤ n33 ∧ n33 < ((8 : Nat) : Int)) ∧ st h51 b (0 + (n33 : Int).toNat) 1 [.bool true] fun h52 => ((0 : Int) ≤ (IntKind.wrap .i64 (n33 + 1)) ∧ (IntKind.wrap .i64 (n33 + 1)) < ((8 : Nat) : Int)) ∧ st h52 b (0 + ((IntKind.wrap .i64 (n33 + 1)) : Int).toNat) 1 [.bool true] fun h53 => J1 n28 l4 l5 s false h53) (Q (.tuple ⟨[.agg ⟨[.int .i64 n34, .slice l12.a l12.n l12.c, .slice l13.a l13.n l13.c, .string s4, .bool false]⟩, .int .i64 2]⟩) h51))))) (r6 = .tuple ⟨[.agg ⟨[.int .i64 n34, .slice l12.a l12.n l12.c, .slice l13.a l13.n l13.c, .string s4, .bool false]⟩, .bool false]⟩ ∧ ((0 : Int) ≤ n33 ∧ n33 < ((8 : Nat) : Int)) ∧ st h31 b (0 + (n33 : Int).toNat) 1 [.bool true] fun h54 => ((0 : Int) ≤ (IntKind.wrap .i64 (n33 + 1)) ∧ (IntKind.wrap .i64 (n33 + 1)) < ((8 : Nat) : Int)) ∧ st h54 b (0 + ((IntKind.wrap .i64 (n33 + 1)) : Int).toNat) 1 [.bool true] fun h55 => J1 n28 l4 l5 s false h55)))) (par ((0 : Int) < (l3.n : Int)) (Q (.tuple ⟨[.agg ⟨[.int .i64 0, .slice none 0 0, .slice none 0 0, .string (ByteArray.mk #[]), .bool false]⟩, .int .i64 1]⟩) h3) (Q (.tuple ⟨[.agg ⟨[.int .i64 0, .slice none 0 0, .slice none 0 0, .string (ByteArray.mk #[]), .bool false]⟩, .int .i64 0]⟩) h3))))
def F32.T := F32.G F27.T F29.T F71.T
theorem F32.gen (V T27 T29 T71 n n1 n2 n3 n4 n5 n6 n7 n8 n9 n10 n11 n12 n13 n14 n15 n16 n17 n18 n19 n20 n21 n22 n23 n24 n25 n26 l l1 l2) : denF Tryz.prog [4, 8, 14] [(27, F27.W T27), (29, F29.W T29), (71, F71.W T71)] V [(122, .loop [(12, .int .i64)] [(8, [.int .i64, .sl, .sl, .str, .bool])]), (489, .join [] [(8, [.int .i64, .sl, .sl, .str, .bool])])] Tryz.f32 [.v (.agg ⟨[.int .i64 n, .int .i64 n1, .int .i64 n2, .int .i64 n3, .int .i64 n4, .int .i64 n5, .int .i64 n6, .int .i64 n7, .int .i64 n8, .int .i64 n9, .int .i64 n10, .int .i64 n11, .int .i64 n12, .int .i64 n13, .int .i64 n14, .int .i64 n15, .int .i64 n16, .int .i64 n17, .int .i64 n18, .int .i64 n19, .int .i64 n20, .int .i64 n21, .int .i64 n22, .int .i64 n23, .int .i64 n24, .int .i64 n25, .int .i64 n26]⟩), .v (.slice l.a l.n l.c), .v (.slice l1.a l1.n l1.c), .v (.slice l2.a l2.n l2.c)] = F32.G T27 T29 T71 n n1 n2 n3 n4 n5 n6 n7 n8 n9 n10 n11 n12 n13 n14 n15 n16 n17 n18 n19 n20 n21 n22 n23 n24 n25 n26 l l1 l2 := by kernel_rfl
def F32.W (T32 : I9 <| I9 <| I9 <| Sl → Sl → Sl → PT) (args : List Value) : PT := match args with
  | [.agg ⟨[.int .i64 n, .int .i64 n1, .int .i64 n2, .int .i64 n3, .int .i64 n4, .int .i64 n5, .int .i64 n6, .int .i64 n7, .int .i64 n8, .int .i64 n9, .int .i64 n10, .int .i64 n11, .int .i64 n12, .int .i64 n13, .int .i64 n14, .int .i64 n15, .int .i64 n16, .int .i64 n17, .int .i64 n18, .int .i64 n19, .int .i64 n20, .int .i64 n21, .int .i64 n22, .int .i64 n23, .int .i64 n24, .int .i64 n25, .int .i64 n26]⟩, .slice l_a l_n l_c, .slice l1_a l1_n l1_c, .slice l2_a l2_n l2_c] => T32 n n1 n2 n3 n4 n5 n6 n7 n8 n9 n10 n11 n12 n13 n14 n15 n16 n17 n18 n19 n20 n21 n22 n23 n24 n25 n26 ⟨l_a, l_n, l_c⟩ ⟨l1_a, l1_n, l1_c⟩ ⟨l2_a, l2_n, l2_c⟩
  | _ => fun _ _ => False
def F32.V : List Value → PT := F32.W F32.T
theorem F32.ok : FOk Tryz.prog 32 F32.V := by
  refine ⟨⟨_, Tryz.func32, rfl, rfl⟩, fun args => ?_⟩
  unfold F32.V F32.W
  split
  · exact denF_okE (GOk.cons F27.ok (GOk.cons F29.ok (GOk.cons F71.ok (GOk.nil)))) noV_ok Tryz.func32 (F32.gen noV F27.T F29.T F71.T _ _ _ _ _ _ _ _ _ _ _ _ _ _ _ _ _ _ _ _ _ _ _ _ _ _ _ ⟨_, _, _⟩ ⟨_, _, _⟩ ⟨_, _, _⟩)
  · exact fun _ _ h => h.elim
@[reducible] def F10.G (T20 : Option Addr → Int → PT) (T33 : Sl → Sl → PT) (T34 : Option Addr → PT) (p : Option Addr) (l : Sl) : PT := fun h Q =>
  ∃ (I : Int → Hp → Prop) (m : Int → Hp → Nat), I 0 h ∧ (∀ n : Int, ∀ h1 : Hp, I n h1 → par (n < (l.n : Int)) (ix l.a n l.n fun b o => ldS h1 b (o + n.toNat) fun l1 => T20 p n h1 fun r h2 => retS r fun l2 => h2.at b (o + n.toNat) = some (.slice l1.a l1.n l1.c) ∧ T33 l2 l1 h2 fun r1 h3 => retB r1 (I (IntKind.wrap .i64 (n + 1)) h3 ∧ m (IntKind.wrap .i64 (n + 1)) h3 < m n h1) (Q (.bool false) h3)) (T34 p h1 fun r2 h4 => retI .i64 r2 fun n1 => par (n1 = (l.n : Int)) (Q (.bool true) h4) (Q (.bool false) h4)))
def F10.T := F10.G F20.T F33.T F34.T
theorem F10.gen (V T20 T33 T34 p l) : denF Tryz.prog [] [(20, F20.W T20), (33, F33.W T33), (34, F34.W T34)] V [(26, .loop [(5, .int .i64)] []), (840, .order [0, 1, 3, 4, 5, 6, 2, 7, 8])] Tryz.f10 [.v (.pointer p), .v (.slice l.a l.n l.c)] = F10.G T20 T33 T34 p l := by kernel_rfl
def F10.W (T10 : Option Addr → Sl → PT) (args : List Value) : PT := match args with
  | [.pointer p, .slice l_a l_n l_c] => T10 p ⟨l_a, l_n, l_c⟩
  | _ => fun _ _ => False
def F10.V : List Value → PT := F10.W F10.T
theorem F10.ok : FOk Tryz.prog 10 F10.V := by
  refine ⟨⟨_, Tryz.func10, rfl, rfl⟩, fun args => ?_⟩
  unfold F10.V F10.W
  split
  · exact denF_okE (GOk.cons F20.ok (GOk.cons F33.ok (GOk.cons F34.ok (GOk.nil)))) noV_ok Tryz.func10 (F10.gen noV F20.T F33.T F34.T _ ⟨_, _, _⟩)
  · exact fun _ _ h => h.elim
@[reducible] def F9.G (T23 : Sl → Sl → PT) (T24 : I9 <| I9 <| I9 <| Option Addr → PT) (T25 : I9 <| I9 <| I9 <| Sl → PT) (T26 : I9 <| I9 <| I9 <| Option Addr → PT) (T27 : I9 <| I9 <| I9 <| Sl → PT) (T28 : I9 <| I9 <| I9 <| Option Addr → Sl → Int → PT) (T29 : I9 <| I9 <| I9 <| Sl → Sl → Int → PT) (T30 : Int → Sl → Sl → ByteArray → Bool → Int → Sl → Sl → ByteArray → Bool → PT) (T31 : I9 <| I9 <| I9 <| Option Addr → Sl → Sl → PT) (T32 : I9 <| I9 <| I9 <| Sl → Sl → Sl → PT) (n n1 n2 n3 n4 n5 n6 n7 n8 n9 n10 n11 n12 n13 n14 n15 n16 n17 n18 n19 n20 n21 n22 n23 n24 n25 n26 : Int) (p : Option Addr) (l l1 l2 : Sl) (n27 : Int) : PT := fun h Q =>
  T24 n n1 n2 n3 n4 n5 n6 n7 n8 n9 n10 n11 n12 n13 n14 n15 n16 n17 n18 n19 n20 n21 n22 n23 n24 n25 n26 p h fun r h1 => retS r fun l3 => T25 n n1 n2 n3 n4 n5 n6 n7 n8 n9 n10 n11 n12 n13 n14 n15 n16 n17 n18 n19 n20 n21 n22 n23 n24 n25 n26 l h1 fun r1 h2 => retS r1 fun l4 => T23 l3 l4 h2 fun r2 h3 => retB r2 (T26 n n1 n2 n3 n4 n5 n6 n7 n8 n9 n10 n11 n12 n13 n14 n15 n16 n17 n18 n19 n20 n21 n22 n23 n24 n25 n26 p h3 fun r3 h4 => retS r3 fun l5 => T27 n n1 n2 n3 n4 n5 n6 n7 n8 n9 n10 n11 n12 n13 n14 n15 n16 n17 n18 n19 n20 n21 n22 n23 n24 n25 n26 l h4 fun r4 h5 => retS r4 fun l6 => T23 l5 l6 h5 fun r5 h6 => retB r5 (∃ (I : Int → Hp → Prop) (m : Int → Hp → Nat), I (-2) h6 ∧ (∀ n28 : Int, ∀ h7 : Hp, I n28 h7 → par (n28 < (IntKind.wrap .i64 (n8 + 2))) (∃ J : Hp → Prop, (∀ h8 : Hp, J h8 → I (IntKind.wrap .i64 (n28 + 1)) h8 ∧ m (IntKind.wrap .i64 (n28 + 1)) h8 < m n28 h7) ∧ (∃ J1 : Int → Hp → Prop, (∀ n29 : Int, ∀ h9 : Hp, J1 n29 h9 → T28 n n1 n2 n3 n4 n5 n6 n7 n8 n9 n10 n11 n12 n13 n14 n15 n16 n17 n18 n19 n20 n21 n22 n23 n24 n25 n26 p l1 n29 h9 fun r6 h10 => ∃ n30 : Int, ∃ l7 l8 : Sl, ∃ s : ByteArray, ∃ b : Bool, parB b (∃ b1 : Bool, parB b1 (r6 = .tuple ⟨[.agg ⟨[.int .i64 n30, .slice l7.a l7.n l7.c, .slice l8.a l8.n l8.c, .string s, .bool true]⟩, .bool true]⟩ ∧ T29 n n1 n2 n3 n4 n5 n6 n7 n8 n9 n10 n11 n12 n13 n14 n15 n16 n17 n18 n19 n20 n21 n22 n23 n24 n25 n26 l l1 n29 h10 fun r7 h11 => ∃ n31 : Int, ∃ l9 l10 : Sl, ∃ s1 : ByteArray, ∃ b2 : Bool, parB b2 (∃ b3 : Bool, parB b3 (r7 = .tuple ⟨[.agg ⟨[.int .i64 n31, .slice l9.a l9.n l9.c, .slice l10.a l10.n l10.c, .string s1, .bool true]⟩, .bool true]⟩ ∧ par ((true : Bool) = true) (T30 n30 l7 l8 s true n31 l9 l10 s1 true h11 fun r8 h12 => retB r8 (J h12) (Q (.bool false) h12)) (Q (.bool false) h11)) (r7 = .tuple ⟨[.agg ⟨[.int .i64 n31, .slice l9.a l9.n l9.c, .slice l10.a l10.n l10.c, .string s1, .bool true]⟩, .bool false]⟩ ∧ par ((true : Bool) = false) (T30 n30 l7 l8 s true n31 l9 l10 s1 true h11 fun r9 h13 => retB r9 (J h13) (Q (.bool false) h13)) (Q (.bool false) h11))) (∃ b4 : Bool, parB b4 (r7 = .tuple ⟨[.agg ⟨[.int .i64 n31, .slice l9.a l9.n l9.c, .slice l10.a l10.n l10.c, .string s1, .bool false]⟩, .bool true]⟩ ∧ par ((true : Bool) = true) (T30 n30 l7 l8 s true n31 l9 l10 s1 false h11 fun r10 h14 => retB r10 (J h14) (Q (.bool false) h14)) (Q (.bool false) h11)) (r7 = .tuple ⟨[.agg ⟨[.int .i64 n31, .slice l9.a l9.n l9.c, .slice l10.a l10.n l10.c, .string s1, .bool false]⟩, .bool false]⟩ ∧ par ((true : Bool) = false) (T30 n30 l7 l8 s true n31 l9 l10 s1 false h11 fun r11 h15 => retB r11 (J h15) (Q (.bool false) h15)) (Q (.bool false) h11)))) (r6 = .tuple ⟨[.agg ⟨[.int .i64 n30, .slice l7.a l7.n l7.c, .slice l8.a l8.n l8.c, .string s, .bool true]⟩, .bool false]⟩ ∧ T29 n n1 n2 n3 n4 n5 n6 n7 n8 n9 n10 n11 n12 n13 n14 n15 n16 n17 n18 n19 n20 n21 n22 n23 n24 n25 n26 l l1 n29 h10 fun r12 h16 => ∃ n32 : Int, ∃ l11 l12 : Sl, ∃ s2 : ByteArray, ∃ b5 : Bool, parB b5 (∃ b6 : Bool, parB b6 (r12 = .tuple ⟨[.agg ⟨[.int .i64 n32, .slice l11.a l11.n l11.c, .slice l12.a l12.n l12.c, .string s2, .bool true]⟩, .bool true]⟩ ∧ par ((false : Bool) = true) (T30 n30 l7 l8 s true n32 l11 l12 s2 true h16 fun r13 h17 => retB r13 (J h17) (Q (.bool false) h17)) (Q (.bool false) h16)) (r12 = .tuple ⟨[.agg ⟨[.int .i64 n32, .slice l11.a l11.n l11.c, .slice l12.a l12.n l12.c, .string s2, .bool true]⟩, .bool false]⟩ ∧ par ((false : Bool) = false) (T30 n30 l7 l8 s true n32 l11 l12 s2 true h16 fun r14 h18 => retB r14 (J h18) (Q (.bool false) h18)) (Q (.bool false) h16))) (∃ b7 : Bool, parB b7 (r12 = .tuple ⟨[.agg ⟨[.int .i64 n32, .slice l11.a l11.n l11.c, .slice l12.a l12.n l12.c, .string s2, .bool false]⟩, .bool true]⟩ ∧ par ((false : Bool) = true) (T30 n30 l7 l8 s true n32 l11 l12 s2 false h16 fun r15 h19 => retB r15 (J h19) (Q (.bool false) h19)) (Q (.bool false) h16)) (r12 = .tuple ⟨[.agg ⟨[.int .i64 n32, .slice l11.a l11.n l11.c, .slice l12.a l12.n l12.c, .string s2, .bool false]⟩, .bool false]⟩ ∧ par ((false : Bool) = false) (T30 n30 l7 l8 s true n32 l11 l12 s2 false h16 fun r16 h20 => retB r16 (J h20) (Q (.bool false) h20)) (Q (.bool false) h16))))) (∃ b8 : Bool, parB b8 (r6 = .tuple ⟨[.agg ⟨[.int .i64 n30, .slice l7.a l7.n l7.c, .slice l8.a l8.n l8.c, .string s, .bool false]⟩, .bool true]⟩ ∧ T29 n n1 n2 n3 n4 n5 n6 n7 n8 n9 n10 n11 n12 n13 n14 n15 n16 n17 n18 n19 n20 n21 n22 n23 n24 n25 n26 l l1 n29 h10 fun r17 h21 => ∃ n33 : Int, ∃ l13 l14 : Sl, ∃ s3 : ByteArray, ∃ b9 : Bool, parB b9 (∃ b10 : Bool, parB b10 (r17 = .tuple ⟨[.agg ⟨[.int .i64 n33, .slice l13.a l13.n l13.c, .slice l14.a l14.n l14.c, .string s3, .bool true]⟩, .bool true]⟩ ∧ par ((true : Bool) = true) (T30 n30 l7 l8 s false n33 l13 l14 s3 true h21 fun r18 h22 => retB r18 (J h22) (Q (.bool false) h22)) (Q (.bool false) h21)) (r17 = .tuple ⟨[.agg ⟨[.int .i64 n33, .slice l13.a l13.n l13.c, .slice l14.a l14.n l14.c, .string s3, .bool true]⟩, .bool false]⟩ ∧ par ((true : Bool) = false) (T30 n30 l7 l8 s false n33 l13 l14 s3 true h21 fun r19 h23 => retB r19 (J h23) (Q (.bool false) h23)) (Q (.bool false) h21))) (∃ b11 : Bool, parB b11 (r17 = .tuple ⟨[.agg ⟨[.int .i64 n33, .slice l13.a l13.n l13.c, .slice l14.a l14.n l14.c, .string s3, .bool false]⟩, .bool true]⟩ ∧ par ((true : Bool) = true) (T30 n30 l7 l8 s false n33 l13 l14 s3 false h21 fun r20 h24 => retB r20 (J h24) (Q (.bool false) h24)) (Q (.bool false) h21)) (r17 = .tuple ⟨[.agg ⟨[.int .i64 n33, .slice l13.a l13.n l13.c, .slice l14.a l14.n l14.c, .string s3, .bool false]⟩, .bool false]⟩ ∧ par ((true : Bool) = false) (T30 n30 l7 l8 s false n33 l13 l14 s3 false h21 fun r21 h25 => retB r21 (J h25) (Q (.bool false) h25)) (Q (.bool false) h21)))) (r6 = .tuple ⟨[.agg ⟨[.int .i64 n30, .slice l7.a l7.n l7.c, .slice l8.a l8.n l8.c, .string s, .bool false]⟩, .bool false]⟩ ∧ T29 n n1 n2 n3 n4 n5 n6 n7 n8 n9 n10 n11 n12 n13 n14 n15 n16 n17 n18 n19 n20 n21 n22 n23 n24 n25 n26 l l1 n29 h10 fun r22 h26 => ∃ n34 : Int, ∃ l15 l16 : Sl, ∃ s4 : ByteArray, ∃ b12 : Bool, parB b12 (∃ b13 : Bool, parB b13 (r22 = .tuple ⟨[.agg ⟨[.int .i64 n34, .slice l15.a l15.n l15.c, .slice l16.a l16.n l16.c, .string s4, .bool true]⟩, .bool true]⟩ ∧ par ((false : Bool) = true) (T30 n30 l7 l8 s false n34 l15 l16 s4 true h26 fun r23 h27 => retB r23 (J h27) (Q (.bool false) h27)) (Q (.bool false) h26)) (r22 = .tuple ⟨[.agg ⟨[.int .i64 n34, .slice l15.a l15.n l15.c, .slice l16.a l16.n l16.c, .string s4, .bool true]⟩, .bool false]⟩ ∧ par ((false : Bool) = false) (T30 n30 l7 l8 s false n34 l15 l16 s4 true h26 fun r24 h28 => retB r24 (J h28) (Q (.bool false) h28)) (Q (.bool false) h26))) (∃ b14 : Bool, parB b14 (r22 = .tuple ⟨[.agg ⟨[.int .i64 n34, .slice l15.a l15.n l15.c, .slice l16.a l16.n l16.c, .string s4, .bool false]⟩, .bool true]⟩ ∧ par ((false : Bool) = true) (T30 n30 l7 l8 s false n34 l15 l16 s4 false h26 fun r25 h29 => retB r25 (J h29) (Q (.bool false) h29)) (Q (.bool false) h26)) (r22 = .tuple ⟨[.agg ⟨[.int .i64 n34, .slice l15.a l15.n l15.c, .slice l16.a l16.n l16.c, .string s4, .bool false]⟩, .bool false]⟩ ∧ par ((false : Bool) = false) (T30 n30 l7 l8 s false n34 l15 l16 s4 false h26 fun r26 h30 => retB r26 (J h30) (Q (.bool false) h30)) (Q (.bool false) h26)))))) ∧ (par (n28 = (-2)) (J1 n27 h7) (J1 n28 h7)))) (T31 n n1 n2 n3 n4 n5 n6 n7 n8 n9 n10 n11 n12 n13 n14 n15 n16 n17 n18 n19 n20 n21 n22 n23 n24 n25 n26 p l1 l2 h7 fun r27 h31 => ∃ n35 : Int, ∃ l17 l18 : Sl, ∃ s5 : ByteArray, ∃ b15 : Bool, parB b15 (∃ n36 : Int, r27 = .tuple ⟨[.agg ⟨[.int .i64 n35, .slice l17.a l17.n l17.c, .slice l18.a l18.n l18.c, .string s5, .bool true]⟩, .int .i64 n36]⟩ ∧ T32 n n1 n2 n3 n4 n5 n6 n7 n8 n9 n10 n11 n12 n13 n14 n15 n16 n17 n18 n19 n20 n21 n22 n23 n24 n25 n26 l l1 l2 h31 fun r28 h32 => ∃ n37 : Int, ∃ l19 l20 : Sl, ∃ s6 : ByteArray, ∃ b16 : Bool, parB b16 (∃ n38 : Int, r28 = .tuple ⟨[.agg ⟨[.int .i64 n37, .slice l19.a l19.n l19.c, .slice l20.a l20.n l20.c, .string s6, .bool true]⟩, .int .i64 n38]⟩ ∧ par (n36 = n38) (T30 n35 l17 l18 s5 true n37 l19 l20 s6 true h32 fun r29 h33 => retB r29 (Q (.bool true) h33) (Q (.bool false) h33)) (Q (.bool false) h32)) (∃ n39 : Int, r28 = .tuple ⟨[.agg ⟨[.int .i64 n37, .slice l19.a l19.n l19.c, .slice l20.a l20.n l20.c, .string s6, .bool false]⟩, .int .i64 n39]⟩ ∧ par (n36 = n39) (T30 n35 l17 l18 s5 true n37 l19 l20 s6 false h32 fun r30 h34 => retB r30 (Q (.bool true) h34) (Q (.bool false) h34)) (Q (.bool false) h32))) (∃ n40 : Int, r27 = .tuple ⟨[.agg ⟨[.int .i64 n35, .slice l17.a l17.n l17.c, .slice l18.a l18.n l18.c, .string s5, .bool false]⟩, .int .i64 n40]⟩ ∧ T32 n n1 n2 n3 n4 n5 n6 n7 n8 n9 n10 n11 n12 n13 n14 n15 n16 n17 n18 n19 n20 n21 n22 n23 n24 n25 n26 l l1 l2 h31 fun r31 h35 => ∃ n41 : Int, ∃ l21 l22 : Sl, ∃ s7 : ByteArray, ∃ b17 : Bool, parB b17 (∃ n42 : Int, r31 = .tuple ⟨[.agg ⟨[.int .i64 n41, .slice l21.a l21.n l21.c, .slice l22.a l22.n l22.c, .string s7, .bool true]⟩, .int .i64 n42]⟩ ∧ par (n40 = n42) (T30 n35 l17 l18 s5 false n41 l21 l22 s7 true h35 fun r32 h36 => retB r32 (Q (.bool true) h36) (Q (.bool false) h36)) (Q (.bool false) h35)) (∃ n43 : Int, r31 = .tuple ⟨[.agg ⟨[.int .i64 n41, .slice l21.a l21.n l21.c, .slice l22.a l22.n l22.c, .string s7, .bool false]⟩, .int .i64 n43]⟩ ∧ par (n40 = n43) (T30 n35 l17 l18 s5 false n41 l21 l22 s7 false h35 fun r33 h37 => retB r33 (Q (.bool true) h37) (Q (.bool false) h37)) (Q (.bool false) h35)))))) (Q (.bool false) h6)) (Q (.bool false) h3)
def F9.T := F9.G F23.T F24.T F25.T F26.T F27.T F28.T F29.T F30.T F31.T F32.T
theorem F9.gen (V T23 T24 T25 T26 T27 T28 T29 T30 T31 T32 n n1 n2 n3 n4 n5 n6 n7 n8 n9 n10 n11 n12 n13 n14 n15 n16 n17 n18 n19 n20 n21 n22 n23 n24 n25 n26 p l l1 l2 n27) : denF Tryz.prog [6, 15, 17, 19, 21] [(23, F23.W T23), (24, F24.W T24), (25, F25.W T25), (26, F26.W T26), (27, F27.W T27), (28, F28.W T28), (29, F29.W T29), (30, F30.W T30), (31, F31.W T31), (32, F32.W T32)] V [(12, .order [0, 1, 3, 4, 2, 5, 6, 7, 8, 9, 10, 12, 13, 11, 14, 15, 16, 17]), (58, .loop [(13, .int .i64)] []), (233, .join [] []), (1865, .join [(14, .int .i64)] [])] Tryz.f9 [.v (.agg ⟨[.int .i64 n, .int .i64 n1, .int .i64 n2, .int .i64 n3, .int .i64 n4, .int .i64 n5, .int .i64 n6, .int .i64 n7, .int .i64 n8, .int .i64 n9, .int .i64 n10, .int .i64 n11, .int .i64 n12, .int .i64 n13, .int .i64 n14, .int .i64 n15, .int .i64 n16, .int .i64 n17, .int .i64 n18, .int .i64 n19, .int .i64 n20, .int .i64 n21, .int .i64 n22, .int .i64 n23, .int .i64 n24, .int .i64 n25, .int .i64 n26]⟩), .v (.pointer p), .v (.slice l.a l.n l.c), .v (.slice l1.a l1.n l1.c), .v (.slice l2.a l2.n l2.c), .v (.int .i64 n27)] = F9.G T23 T24 T25 T26 T27 T28 T29 T30 T31 T32 n n1 n2 n3 n4 n5 n6 n7 n8 n9 n10 n11 n12 n13 n14 n15 n16 n17 n18 n19 n20 n21 n22 n23 n24 n25 n26 p l l1 l2 n27 := by kernel_rfl
def F9.W (T9 : I9 <| I9 <| I9 <| Option Addr → Sl → Sl → Sl → Int → PT) (args : List Value) : PT := match args with
  | [.agg ⟨[.int .i64 n, .int .i64 n1, .int .i64 n2, .int .i64 n3, .int .i64 n4, .int .i64 n5, .int .i64 n6, .int .i64 n7, .int .i64 n8, .int .i64 n9, .int .i64 n10, .int .i64 n11, .int .i64 n12, .int .i64 n13, .int .i64 n14, .int .i64 n15, .int .i64 n16, .int .i64 n17, .int .i64 n18, .int .i64 n19, .int .i64 n20, .int .i64 n21, .int .i64 n22, .int .i64 n23, .int .i64 n24, .int .i64 n25, .int .i64 n26]⟩, .pointer p, .slice l_a l_n l_c, .slice l1_a l1_n l1_c, .slice l2_a l2_n l2_c, .int .i64 n27] => T9 n n1 n2 n3 n4 n5 n6 n7 n8 n9 n10 n11 n12 n13 n14 n15 n16 n17 n18 n19 n20 n21 n22 n23 n24 n25 n26 p ⟨l_a, l_n, l_c⟩ ⟨l1_a, l1_n, l1_c⟩ ⟨l2_a, l2_n, l2_c⟩ n27
  | _ => fun _ _ => False
def F9.V : List Value → PT := F9.W F9.T
theorem F9.ok : FOk Tryz.prog 9 F9.V := by
  refine ⟨⟨_, Tryz.func9, rfl, rfl⟩, fun args => ?_⟩
  unfold F9.V F9.W
  split
  · exact denF_okE (GOk.cons F23.ok (GOk.cons F24.ok (GOk.cons F25.ok (GOk.cons F26.ok (GOk.cons F27.ok (GOk.cons F28.ok (GOk.cons F29.ok (GOk.cons F30.ok (GOk.cons F31.ok (GOk.cons F32.ok (GOk.nil))))))))))) noV_ok Tryz.func9 (F9.gen noV F23.T F24.T F25.T F26.T F27.T F28.T F29.T F30.T F31.T F32.T _ _ _ _ _ _ _ _ _ _ _ _ _ _ _ _ _ _ _ _ _ _ _ _ _ _ _ _ ⟨_, _, _⟩ ⟨_, _, _⟩ ⟨_, _, _⟩ _)
  · exact fun _ _ h => h.elim
@[reducible] def F3.G (T4 : Sl → Sl → PT) (T5 : I9 <| I9 <| I9 <| PT) (T6 : I9 <| I9 <| I9 <| Sl → PT) (T7 T8 : Option Addr → Sl → PT) (T9 : I9 <| I9 <| I9 <| Option Addr → Sl → Sl → Sl → Int → PT) (T10 : Option Addr → Sl → PT) (T11 : Option Addr → PT) (n n1 n2 n3 n4 n5 n6 n7 n8 n9 n10 n11 n12 n13 n14 n15 n16 n17 n18 n19 n20 n21 n22 n23 n24 n25 n26 : Int) (l l1 l2 : Sl) (n27 : Int) : PT := fun h Q =>
  T4 l l1 h fun r h1 => retB r (T5 n n1 n2 n3 n4 n5 n6 n7 n8 n9 n10 n11 n12 n13 n14 n15 n16 n17 n18 n19 n20 n21 n22 n23 n24 n25 n26 h1 fun r1 h2 => ∃ n28 n29 : Int, ∃ n30 n31 : Int, ∃ n32 n33 : Int, ∃ n34 n35 : Int, ∃ n36 n37 : Int, ∃ n38 n39 : Int, ∃ n40 n41 : Int, ∃ n42 n43 : Int, ∃ n44 n45 : Int, ∃ n46 n47 : Int, ∃ n48 n49 : Int, ∃ n50 n51 : Int, ∃ n52 n53 n54 : Int, r1 = .agg ⟨[.int .i64 n28, .int .i64 n29, .int .i64 n30, .int .i64 n31, .int .i64 n32, .int .i64 n33, .int .i64 n34, .int .i64 n35, .int .i64 n36, .int .i64 n37, .int .i64 n38, .int .i64 n39, .int .i64 n40, .int .i64 n41, .int .i64 n42, .int .i64 n43, .int .i64 n44, .int .i64 n45, .int .i64 n46, .int .i64 n47, .int .i64 n48, .int .i64 n49, .int .i64 n50, .int .i64 n51, .int .i64 n52, .int .i64 n53, .int .i64 n54]⟩ ∧ T6 n28 n29 n30 n31 n32 n33 n34 n35 n36 n37 n38 n39 n40 n41 n42 n43 n44 n45 n46 n47 n48 n49 n50 n51 n52 n53 n54 l h2 fun r2 h3 => ∃ p : Option Addr, ∃ l3 : Sl, r2 = .tuple ⟨[.pointer p, .slice l3.a l3.n l3.c]⟩ ∧ okPtr h3 p none ∧ par ((p : Option Addr) = none) (Q (.bool false) h3) (nw h3 (.cells ⟨[.slice none 0 0, .slice none 0 0, .slice none 0 0, .slice none 0 0, .slice none 0 0, .slice none 0 0, .slice none 0 0, .slice none 0 0, .slice none 0 0, .slice none 0 0, .slice none 0 0, .slice none 0 0, .slice none 0 0, .slice none 0 0, .slice none 0 0, .slice none 0 0, .slice none 0 0, .slice none 0 0, .slice none 0 0, .slice none 0 0, .slice none 0 0, .slice none 0 0, .slice none 0 0, .slice none 0 0, .slice none 0 0, .slice none 0 0, .slice none 0 0, .slice none 0 0]⟩ 49 (0, 0)) fun b h4 => T7 (some ⟨b, 0, none⟩) l1 h4 fun r3 h5 => retS r3 fun l4 => T8 (some ⟨b, 0, none⟩) l2 h5 fun r4 h6 => retS r4 fun l5 => ∃ (I : Int → Hp → Prop) (m : Int → Hp → Nat), I 0 h6 ∧ (∀ n55 : Int, ∀ h7 : Hp, I n55 h7 → par (n55 < 2) (T9 n28 n29 n30 n31 n32 n33 n34 n35 n36 n37 n38 n39 n40 n41 n42 n43 n44 n45 n46 n47 n48 n49 n50 n51 n52 n53 n54 p l3 l4 l5 n27 h7 fun r5 h8 => retB r5 (T10 p l3 h8 fun r6 h9 => retB r6 (T11 (some ⟨b, 0, none⟩) h9 fun r7 h10 => retB r7 (I (IntKind.wrap .i64 (n55 + 1)) h10 ∧ m (IntKind.wrap .i64 (n55 + 1)) h10 < m n55 h7) (Q (.bool false) h10)) (Q (.bool false) h9)) (Q (.bool false) h8)) (∃ (I1 : Int → Hp → Prop) (m1 : Int → Hp → Nat), I1 0 h7 ∧ (∀ n56 : Int, ∀ h11 : Hp, I1 n56 h11 → par (n56 < (l4.n : Int)) (ix l4.a n56 l4.n fun b1 o => ldT h11 b1 (o + n56.toNat) fun s => ix l1.a n56 l1.n fun b2 o1 => ldT h11 b2 (o1 + n56.toNat) fun s1 => par (s = s1) (ix l4.a n56 l4.n fun b3 o2 => ldT h11 b3 (o2 + n56.toNat) fun s2 => ((s2.size + (ByteArray.mk #[109]).size : Nat) : Int) ≤ 9223372036854775807 ∧ ix l4.a n56 l4.n fun b4 o3 => st h11 b4 (o3 + n56.toNat) 1 [.string (s2 ++ (ByteArray.mk #[109]))] fun h12 => I1 (IntKind.wrap .i64 (n56 + 1)) h12 ∧ m1 (IntKind.wrap .i64 (n56 + 1)) h12 < m1 n56 h11) (Q (.bool false) h11)) (∃ (I2 : Int → Hp → Prop) (m2 : Int → Hp → Nat), I2 0 h11 ∧ (∀ n57 : Int, ∀ h13 : Hp, I2 n57 h13 → par (n57 < (l5.n : Int)) (ix l5.a n57 l5.n fun b5 o4 => ldI .u64 h13 b5 (o4 + n57.toNat) fun n58 => ix l2.a n57 l2.n fun b6 o5 => ldI .u64 h13 b6 (o5 + n57.toNat) fun n59 => par (n58 = n59) (ix l5.a n57 l5.n fun b7 o6 => ldI .u64 h13 b7 (o6 + n57.toNat) fun n60 => ix l5.a n57 l5.n fun b8 o7 => st h13 b8 (o7 + n57.toNat) 1 [.int .u64 (IntKind.wrap .u64 (n60 + 1))] fun h14 => I2 (IntKind.wrap .i64 (n57 + 1)) h14 ∧ m2 (IntKind.wrap .i64 (n57 + 1)) h14 < m2 n57 h13) (Q (.bool false) h13)) (T9 n28 n29 n30 n31 n32 n33 n34 n35 n36 n37 n38 n39 n40 n41 n42 n43 n44 n45 n46 n47 n48 n49 n50 n51 n52 n53 n54 p l3 l4 l5 n27 h13 fun r8 h15 => retB r8 (T10 p l3 h15 fun r9 h16 => retB r9 (T11 (some ⟨b, 0, none⟩) h16 fun r10 h17 => retB r10 (Q (.bool true) h17) (Q (.bool false) h17)) (Q (.bool false) h16)) (Q (.bool false) h15))))))))) (Q (.bool true) h1)
def F3.T := F3.G F4.T F5.T F6.T F7.T F8.T F9.T F10.T F11.T
theorem F3.gen (V T4 T5 T6 T7 T8 T9 T10 T11 n n1 n2 n3 n4 n5 n6 n7 n8 n9 n10 n11 n12 n13 n14 n15 n16 n17 n18 n19 n20 n21 n22 n23 n24 n25 n26 l l1 l2 n27) : denF Tryz.prog [5] [(4, F4.W T4), (5, F5.W T5), (6, F6.W T6), (7, F7.W T7), (8, F8.W T8), (9, F9.W T9), (10, F10.W T10), (11, F11.W T11)] V [(2042, .loop [(16, .int .i64)] []), (4090, .loop [(17, .int .i64)] []), (8186, .loop [(18, .int .i64)] []), (261776, .order [0, 1, 2, 3, 4, 5, 6, 7, 8]), (523920, .order [0, 1, 2, 3, 4, 5, 6, 7, 8])] Tryz.f3 [.v (.agg ⟨[.int .i64 n, .int .i64 n1, .int .i64 n2, .int .i64 n3, .int .i64 n4, .int .i64 n5, .int .i64 n6, .int .i64 n7, .int .i64 n8, .int .i64 n9, .int .i64 n10, .int .i64 n11, .int .i64 n12, .int .i64 n13, .int .i64 n14, .int .i64 n15, .int .i64 n16, .int .i64 n17, .int .i64 n18, .int .i64 n19, .int .i64 n20, .int .i64 n21, .int .i64 n22, .int .i64 n23, .int .i64 n24, .int .i64 n25, .int .i64 n26]⟩), .v (.slice l.a l.n l.c), .v (.slice l1.a l1.n l1.c), .v (.slice l2.a l2.n l2.c), .v (.int .i64 n27)] = F3.G T4 T5 T6 T7 T8 T9 T10 T11 n n1 n2 n3 n4 n5 n6 n7 n8 n9 n10 n11 n12 n13 n14 n15 n16 n17 n18 n19 n20 n21 n22 n23 n24 n25 n26 l l1 l2 n27 := by kernel_rfl
def F3.W (T3 : I9 <| I9 <| I9 <| Sl → Sl → Sl → Int → PT) (args : List Value) : PT := match args with
  | [.agg ⟨[.int .i64 n, .int .i64 n1, .int .i64 n2, .int .i64 n3, .int .i64 n4, .int .i64 n5, .int .i64 n6, .int .i64 n7, .int .i64 n8, .int .i64 n9, .int .i64 n10, .int .i64 n11, .int .i64 n12, .int .i64 n13, .int .i64 n14, .int .i64 n15, .int .i64 n16, .int .i64 n17, .int .i64 n18, .int .i64 n19, .int .i64 n20, .int .i64 n21, .int .i64 n22, .int .i64 n23, .int .i64 n24, .int .i64 n25, .int .i64 n26]⟩, .slice l_a l_n l_c, .slice l1_a l1_n l1_c, .slice l2_a l2_n l2_c, .int .i64 n27] => T3 n n1 n2 n3 n4 n5 n6 n7 n8 n9 n10 n11 n12 n13 n14 n15 n16 n17 n18 n19 n20 n21 n22 n23 n24 n25 n26 ⟨l_a, l_n, l_c⟩ ⟨l1_a, l1_n, l1_c⟩ ⟨l2_a, l2_n, l2_c⟩ n27
  | _ => fun _ _ => False
def F3.V : List Value → PT := F3.W F3.T
theorem F3.ok : FOk Tryz.prog 3 F3.V := by
  refine ⟨⟨_, Tryz.func3, rfl, rfl⟩, fun args => ?_⟩
  unfold F3.V F3.W
  split
  · exact denF_okE (GOk.cons F4.ok (GOk.cons F5.ok (GOk.cons F6.ok (GOk.cons F7.ok (GOk.cons F8.ok (GOk.cons F9.ok (GOk.cons F10.ok (GOk.cons F11.ok (GOk.nil))))))))) noV_ok Tryz.func3 (F3.gen noV F4.T F5.T F6.T F7.T F8.T F9.T F10.T F11.T _ _ _ _ _ _ _ _ _ _ _ _ _ _ _ _ _ _ _ _ _ _ _ _ _ _ _ ⟨_, _, _⟩ ⟨_, _, _⟩ ⟨_, _, _⟩ _)
  · exact fun _ _ h => h.elim
end Go.Eng.YtbjnlacacapjiaaGreat
end
section
set_option maxRecDepth 100000
namespace Go.Eng.YtbjnlacacapjiaaGreat
theorem tab_ix {h : Hp} {l : Sl} {P R : List Tab} {t : Tab} {ts : List Tab} (hr : h.row l.a (l.n * 6) (tabV ts)) (e : ts = P ++ t :: R) : ∃ b o, l.a = some ⟨b, o, none⟩ ∧ ((0 : Int) ≤ (P.length : Int) ∧ (P.length : Int) < (l.n : Int)) ∧ h.at b (o + ((P.length : Int)).toNat * 6) = some (.int .u64 t.num) ∧ h.at b ((o + ((P.length : Int)).toNat * 6) + 1) = some (.int .i64 t.weight) ∧ h.at b ((o + ((P.length : Int)).toNat * 6) + 2) = some (.int .i64 t.bytes) ∧ h.at b ((o + ((P.length : Int)).toNat * 6) + 3) = some (.int .i64 t.entries) ∧ h.at b ((o + ((P.length : Int)).toNat * 6) + 4) = some (.string t.least) ∧ h.at b ((o + ((P.length : Int)).toNat * 6) + 5) = some (.string t.greatest) := by
  subst e
  obtain ⟨b, o, ha, hi, _, g0, _, g1, _, g2, _, g3, _, g4, _, g5, k⟩ := tab_rd hr rfl (K := fun _ _ a c d e s s1 => a = t.num ∧ c = t.weight ∧ d = t.bytes ∧ e = t.entries ∧ s = t.least ∧ s1 = t.greatest) (fun _ _ => ⟨rfl, rfl, rfl, rfl, rfl, rfl⟩)
  obtain ⟨rfl, rfl, rfl, rfl, rfl, rfl⟩ := k
  exact ⟨b, o, ha, hi, g0, g1, g2, g3, g4, g5⟩
theorem lt_rd {h : Hp} {l : Sl} {lv : Lv} (T : LT h l lv) {i : Nat} {ts : List Tab} (hi : lv[i]? = some ts) : ∃ b o s, l.a = some ⟨b, o, none⟩ ∧ ((0 : Int) ≤ (i : Int) ∧ (i : Int) < (l.n : Int)) ∧ h.at b (o + ((i : Int)).toNat) = some (.slice s.a s.n s.c) ∧ TB h s ts := by
  obtain ⟨ys, B, Ts, rfl⟩ := T
  rw [List.getElem?_map] at hi
  obtain ⟨y, hy, rfl⟩ := Option.map_eq_some_iff.1 hi
  have hil := (List.getElem?_eq_some_iff.1 hy).1
  have hn : l.n = ys.length := by have := B.len; rw [slV_length, List.length_map] at this; omega
  obtain ⟨b, o, ha, hat⟩ := row_get (row_one B) (i := i) (by omega)
  refine ⟨b, o, y.1, ha, ⟨by omega, by omega⟩, ?_, Ts y (List.mem_of_getElem? hy)⟩
  rw [Int.toNat_natCast, hat i (by omega)]
  simp [slV, hy]
theorem LT.keep {h h' : Hp} {l : Sl} {lv : Lv} (K : Keep h h') (T : LT h l lv) : LT h' l lv := by
  obtain ⟨ys, B, Ts, e⟩ := T
  exact ⟨ys, B.keep K, fun y hy => Buf.keep K (Ts y hy), e⟩
theorem LT.n {h : Hp} {l : Sl} {lv : Lv} (T : LT h l lv) : l.n = lv.length := by
  obtain ⟨ys, B, Ts, rfl⟩ := T
  have := B.len; rw [slV_length, List.length_map] at this; rw [List.length_map]; omega
theorem lt_tab {h : Hp} {l : Sl} {xs : List (Sl × List Tab)} (T : LT h l (xs.map (·.2))) {i : Nat} (hi : i < xs.length) : ∃ b o s, l.a = some ⟨b, o, none⟩ ∧ ((0 : Int) ≤ (i : Int) ∧ (i : Int) < (l.n : Int)) ∧ h.at b (o + ((i : Int)).toNat) = some (.slice s.a s.n s.c) ∧ TB h s (tabsI xs (i : Int)) := by
  have hx : xs[i]? = some xs[i] := List.getElem?_eq_getElem hi
  rw [tabsI_nat xs hx]
  exact lt_rd T (by rw [List.getElem?_map, hx]; rfl)
section
variable {g h h' : Hp} {vb : Nat} {ls l l1 l2 : Sl} {xs : List (Sl × List Tab)} {Q : Value → Hp → Prop} {n n1 n2 n3 n4 n5 n6 n7 n8 n9 n10 n11 n12 n13 n14 n15 n16 n17 n18 n19 n20 n21 n22 n23 n24 n25 n26 : Int}
theorem wd_s {ts : List Tab} (B : TB h l ts) (hl : ts.length ≤ 60000) (hQ : Q (.int .i64 (weightW ts)) h) : F59.T l h Q := by
  have hn := tb_new B
  unfold F59.T
  refine ⟨fun w i h2 => h2 = h ∧ ∃ P R, ts = P ++ R ∧ i = (P.length : Int) ∧ w = weightW P, fun _ i _ => ts.length - i.toNat, ⟨rfl, [], _, rfl, rfl, rfl⟩, ?_⟩
  rintro w i h2 ⟨rfl, P, R, e, rfl, rfl⟩
  have e2 := congrArg List.length e
  rw [List.length_append] at e2
  refine ⟨fun hlt => ?_, fun hge => ?_⟩
  · rcases R with _ | ⟨t, R⟩
    · exact absurd hlt (by simp at e2; omega)
    rw [List.length_cons] at e2
    obtain ⟨b, o, ha, hi, _, g1, _⟩ := tab_ix B.row e
    refine ⟨b, o, ha, hi, _, g1, ?_⟩
    rw [next_i (n := 70000) (by omega) (by omega)]
    refine ⟨⟨rfl, P ++ [t], R, by rw [e]; simp, by simp, ?_⟩, by dsimp only; omega⟩
    unfold weightW
    rw [List.foldl_append]; rfl
  · have hR : R = [] := List.eq_nil_of_length_eq_zero (by omega)
    subst hR
    rw [List.append_nil] at e
    subst e
    exact hQ
theorem scoresD_s (T : LT h l (xs.map (·.2))) (P : PkOk xs) (O : CfOk n5 n7 n8 n9 n10 n12) (h8 : n8 = (xs.length : Int)) (hQ : ∀ h' r, Keep h h' → Buf h' r 1 3 (nV3 ((List.range (xs.length - 1)).map (scoreM n5 n9 n10 xs))) → NewN h r → Q (.slice r.a r.n r.c) h') : F25.T n n1 n2 n3 n4 n5 n6 n7 n8 n9 n10 n11 n12 n13 n14 n15 n16 n17 n18 n19 n20 n21 n22 n23 n24 n25 n26 l h Q := by
  have hx := P.len
  have snoc : ∀ k, nV3 ((List.range (k + 1)).map (scoreM n5 n9 n10 xs)) = nV3 ((List.range k).map (scoreM n5 n9 n10 xs)) ++ [.int .i64 (scoreM n5 n9 n10 xs k)] := fun k => by
    rw [List.range_succ, List.map_append]; unfold nV3; rw [List.map_append]; rfl
  unfold F25.T F25.G
  obtain ⟨b, o, s, ha, hi, g0, B0⟩ := lt_tab T (i := 0) (by omega)
  have hs0 := tb_new B0
  have h0l := P.tl 0
  have e0 : ((0 : Nat) : Int) = 0 := rfl
  rw [e0] at hi g0 hs0 B0
  refine ⟨b, o, ha, hi, s, g0, by have := O.trig; omega, fun b1 hb1 => ?_⟩
  have tr := O.trig
  have w0 : IntKind.wrap .i64 (1000 * (s.n : Int)) = 1000 * ((tabsI xs 0).length : Int) := by rw [hs0]; exact wrap_i64 (by omega) (by omega)
  have w1 : IntKind.wrap .i64 (Int.tdiv (1000 * ((tabsI xs 0).length : Int)) n5) = scoreM n5 n9 n10 xs 0 := by
    have h1 : Int.tdiv (1000 * ((tabsI xs 0).length : Int)) n5 ≤ 1000 * ((tabsI xs 0).length : Int) := Int.tdiv_le_self _ (by omega)
    have h2 : 0 ≤ Int.tdiv (1000 * ((tabsI xs 0).length : Int)) n5 := Int.tdiv_nonneg (by omega) (by omega)
    unfold scoreM
    rw [if_pos rfl]
    exact wrap_i64 (by omega) (by omega)
  rw [w0, w1]
  have K1 := Keep.new hb1 (.cells ⟨[.int .i64 (scoreM n5 n9 n10 xs 0)]⟩ 3 (0, 0))
  have B1 : Buf (h.new b1 (.cells ⟨[.int .i64 (scoreM n5 n9 n10 xs 0)]⟩ 3 (0, 0))) ⟨some ⟨b1, 0, none⟩, 1, 1⟩ 1 3 (nV3 ((List.range 1).map (scoreM n5 n9 n10 xs))) :=
    ⟨rfl, Nat.le_refl _, .inr ⟨b1, _, _, rfl, new_at _ _ _, Nat.le_refl 1, fun j hj => by omega, List.take_length⟩⟩
  have N1 : NewN h ⟨some ⟨b1, 0, none⟩, 1, 1⟩ := .inr ⟨b1, rfl, hb1⟩
  generalize h.new b1 (.cells ⟨[.int .i64 (scoreM n5 n9 n10 xs 0)]⟩ 3 (0, 0)) = h1 at K1 B1 ⊢
  refine ⟨fun l2 lim i h2 => ∃ k : Nat, i = (k : Int) ∧ 1 ≤ k ∧ k ≤ xs.length - 1 ∧ lim = limit n9 n10 (k - 1) ∧ Keep h h2 ∧ Buf h2 l2 1 3 (nV3 ((List.range k).map (scoreM n5 n9 n10 xs))) ∧ NewN h l2, fun _ _ i _ => xs.length - i.toNat, ⟨1, rfl, Nat.le_refl _, by omega, rfl, K1, B1, N1⟩, ?_⟩
  rintro l2 lim i h2 ⟨k, rfl, hk1, hk, rfl, K2, B2, N2⟩
  have hln : l2.n = k := by have := B2.len; rw [nV3_len, List.length_map, List.length_range] at this; omega
  rw [wrap_i64 (n := n8 - 1) (by omega) (by omega)]
  refine ⟨fun hlt => ?_, fun hge => ?_⟩
  · obtain ⟨b2, o2, s2, ha2, hi2, g2, B3⟩ := lt_tab (T.keep K2) (i := k) (by omega)
    have hL := limit_bd O.base O.mult (k - 1) (by omega)
    have hL2 := limit_bd O.base O.mult k (by omega)
    have hp : (10 : Int) ^ k ≤ 10000 := by
      have : k = 1 ∨ k = 2 ∨ k = 3 ∨ k = 4 := by omega
      rcases this with rfl | rfl | rfl | rfl <;> decide
    have hlk : limit n9 n10 (k - 1) * n10 = limit n9 n10 k := by
      obtain ⟨j, rfl⟩ : ∃ j, k = j + 1 := ⟨k - 1, by omega⟩
      rfl
    refine ⟨b2, o2, ha2, hi2, s2, g2, ?_⟩
    refine wd_s B3 (P.tl _) ⟨_, rfl, by omega, ?_⟩
    have hw := P.w (k : Int)
    have sk : scoreM n5 n9 n10 xs k = Int.tdiv (1000 * weightW (tabsI xs (k : Int))) (limit n9 n10 (k - 1)) := by unfold scoreM; rw [if_neg (by omega)]
    have h1 : Int.tdiv (1000 * weightW (tabsI xs (k : Int))) (limit n9 n10 (k - 1)) ≤ 1000 * weightW (tabsI xs (k : Int)) := Int.tdiv_le_self _ (by omega)
    have h2 : 0 ≤ Int.tdiv (1000 * weightW (tabsI xs (k : Int))) (limit n9 n10 (k - 1)) := Int.tdiv_nonneg (by omega) (by omega)
    rw [wrap_i64 (n := 1000 * weightW (tabsI xs (k : Int))) (by omega) (by omega), wrap_i64 (n := Int.tdiv _ _) (by omega) (by omega), ← sk]
    refine append_buf (us := [.int .i64 (scoreM n5 n9 n10 xs k)]) B2 rfl rfl (by omega) fun l4 h5 B5 _ U5 => ?_
    obtain ⟨K5, N5⟩ := NewN.upd K2 N2 U5
    rw [next_i (n := 100) (by omega) (by omega), hlk, wrap_i64 (by omega) (by omega)]
    refine ⟨⟨k + 1, rfl, by omega, by omega, by rw [Nat.add_sub_cancel], K5, ?_, N5⟩, by dsimp only; omega⟩
    rw [snoc]; exact B5
  · have hk2 : k = xs.length - 1 := by omega
    subst hk2
    exact hQ h2 l2 K2 B2 N2
end
end Go.Eng.YtbjnlacacapjiaaGreat
end
section
set_option maxRecDepth 100000
namespace Go.Eng.YtbjnlacacapjiaaGreat
theorem nd_len : ∀ (n : Nat) (o : List Nat), o.Nodup → (∀ i ∈ o, i < n) → o.length ≤ n
  | 0, o, _, h => by
    cases o with
    | nil => exact Nat.le_refl _
    | cons a o => exact absurd (h a List.mem_cons_self) (by omega)
  | n + 1, o, nd, h => by
    have h1 := nd_len n (o.erase n) (nd.erase n) fun i hi => by
      have h2 := (nd.mem_erase_iff.1 hi)
      have := h i h2.2
      have := h2.1
      omega
    rw [List.length_erase] at h1
    split at h1 <;> omega
def BestU (z : Nat → Int) (i : Nat) (best : Int) : Prop := (best = -1 ∧ ∀ j, j < i → z j < 1000) ∨ ∃ b : Nat, best = (b : Int) ∧ b < i ∧ 1000 ≤ z b ∧ (∀ j, j < i → z j ≤ z b) ∧ ∀ j, j < b → z j < z b
theorem best_step {z : Nat → Int} {i : Nat} {best : Int} (B : BestU z i best) :
    (z i < 1000 → BestU z (i + 1) best) ∧ (1000 ≤ z i → best < 0 → BestU z (i + 1) (i : Int)) ∧ (1000 ≤ z i → ¬ best < 0 → ∃ b : Nat, best = (b : Int) ∧ b < i ∧ (z b < z i → BestU z (i + 1) (i : Int)) ∧ (¬ z b < z i → BestU z (i + 1) best)) := by
  have cut : ∀ j, j < i + 1 → j < i ∨ j = i := fun j hj => by omega
  rcases B with ⟨rfl, h0⟩ | ⟨b, rfl, hb, h1, h2, h3⟩
  · refine ⟨fun hz => .inl ⟨rfl, fun j hj => ?_⟩, fun hz _ => .inr ⟨i, rfl, by omega, hz, fun j hj => ?_, fun j hj => ?_⟩, fun _ hn => absurd (by decide) hn⟩
    · rcases cut j hj with h | rfl
      · exact h0 j h
      · exact hz
    · rcases cut j hj with h | rfl
      · have := h0 j h; omega
      · exact Int.le_refl _
    · have := h0 j hj; omega
  · refine ⟨fun hz => .inr ⟨b, rfl, by omega, h1, fun j hj => ?_, h3⟩, fun _ hn => absurd hn (by omega), fun hz _ => ⟨b, rfl, hb, fun hlt => .inr ⟨i, rfl, by omega, hz, fun j hj => ?_, fun j hj => ?_⟩, fun hge => .inr ⟨b, rfl, by omega, h1, fun j hj => ?_, h3⟩⟩⟩
    · rcases cut j hj with h | rfl
      · exact h2 j h
      · omega
    · rcases cut j hj with h | rfl
      · have := h2 j h; omega
      · exact Int.le_refl _
    · have := h2 j hj; omega
    · rcases cut j hj with h | rfl
      · exact h2 j h
      · omega
theorem iV_snoc (o : List Nat) (b : Nat) : iV (o ++ [b]) = iV o ++ [.int .i64 (b : Int)] := by unfold iV; rw [List.map_append]; rfl
theorem nV3_set (z : List Int) (k : Nat) (v : Int) : (nV3 z).set k (.int .i64 v) = nV3 (z.set k v) := by unfold nV3; rw [List.map_set]
theorem set_getD (z : List Int) {k : Nat} (hk : k < z.length) (i : Nat) : ((z.set k 0)[i]?.getD 0) = if i = k then 0 else z[i]?.getD 0 := by
  rw [List.getElem?_set]
  by_cases e : k = i
  · subst e; simp [hk]
  · rw [if_neg e, if_neg (fun h => e h.symm)]
section
variable {g h h' : Hp} {vb : Nat} {ls l l1 l2 : Sl} {xs : List (Sl × List Tab)} {Q : Value → Hp → Prop} {n n1 n2 n3 n4 n5 n6 n7 n8 n9 n10 n11 n12 n13 n14 n15 n16 n17 n18 n19 n20 n21 n22 n23 n24 n25 n26 : Int}
theorem orderD_s (T : LT h l (xs.map (·.2))) (P : PkOk xs) (O : CfOk n5 n7 n8 n9 n10 n12) (h8 : n8 = (xs.length : Int)) (hQ : ∀ h' r o, Keep h h' → Buf h' r 1 3 (iV o) → NewN h r → IsOrder (xs.length - 1) (decide (n7 ≤ ((tabsI xs 0).length : Int))) (scoreM n5 n9 n10 xs) o → Q (.slice r.a r.n r.c) h') : F27.T n n1 n2 n3 n4 n5 n6 n7 n8 n9 n10 n11 n12 n13 n14 n15 n16 n17 n18 n19 n20 n21 n22 n23 n24 n25 n26 l h Q := by
  have hx := P.len
  unfold F27.T F27.G
  refine scoresD_s T P O h8 fun h1 l1 K1 B1 N1 => ⟨l1, rfl, ?_⟩
  generalize hst : decide (n7 ≤ ((tabsI xs 0).length : Int)) = stp at hQ
  generalize hsc : scoreM n5 n9 n10 xs = sc at hQ B1
  generalize hN : xs.length - 1 = N at hQ B1
  have St : ∀ (hh : Hp) (z : List Int), Buf hh l1 1 3 (nV3 z) → l1.n = z.length := fun hh z B => by have := B.len; rw [nV3_len] at this; omega
  have ln1 : l1.n = N := by rw [St _ _ B1, List.length_map, List.length_range]
  refine ⟨fun l3 h2 => ∃ (z : List Int) (o : List Nat), Keep h h2 ∧ Buf h2 l1 1 3 (nV3 z) ∧ Buf h2 l3 1 3 (iV o) ∧ NewN h l3 ∧ Off l1 l3 ∧ Off l3 l1 ∧ z.length = N ∧ Sel N stp sc (fun i => z[i]?.getD 0) o, ?_, ?_⟩
  · intro l2 h2 J0
    refine ⟨fun l3 h2 => ∃ (z : List Int) (o : List Nat), Keep h h2 ∧ Buf h2 l1 1 3 (nV3 z) ∧ Buf h2 l3 1 3 (iV o) ∧ NewN h l3 ∧ Off l1 l3 ∧ Off l3 l1 ∧ z.length = N ∧ Sel N stp sc (fun i => z[i]?.getD 0) o, fun l3 _ => N - l3.n, J0, ?_⟩
    rintro l3 h3 ⟨z, o, K3, Bz, Bo, No, o1, o2, hz, S⟩
    have hol : l3.n = o.length := by have := Bo.len; rw [iV_len] at this; omega
    refine ⟨fun best n h4 => h4 = h3 ∧ ∃ i : Nat, n = (i : Int) ∧ i ≤ N ∧ BestU (fun i => z[i]?.getD 0) i best, fun _ n _ => N - n.toNat, ⟨rfl, 0, rfl, Nat.zero_le _, .inl ⟨rfl, fun j hj => absurd hj (by omega)⟩⟩, ?_⟩
    rintro best n h4 ⟨rfl, i, rfl, hi, Bs⟩
    refine ⟨fun hlt => ?_, fun hge => ?_⟩
    · have hin : i < z.length := by omega
      obtain ⟨b, ha, hr, g0⟩ := sc_rd Bz hin
      obtain ⟨s1, s2, s3⟩ := best_step Bs
      have wi : IntKind.wrap .i64 ((i : Int) + 1) = ((i + 1 : Nat) : Int) := next_i (n := 100) (by omega) (by omega)
      rw [wi]
      refine ⟨b, 0, ha, hr, _, g0, fun hge => ⟨fun hneg => ⟨⟨rfl, i + 1, rfl, by omega, s2 hge hneg⟩, by dsimp only; omega⟩, fun hneg => ?_⟩, fun hlt' => ⟨⟨rfl, i + 1, rfl, by omega, s1 (by omega)⟩, by dsimp only; omega⟩⟩
      obtain ⟨c, rfl, hc, t1, t2⟩ := s3 hge hneg
      obtain ⟨b2, ha2, hr2, g2⟩ := sc_rd Bz (i := c) (by omega)
      exact ⟨b, 0, ha, hr, _, g0, b2, 0, ha2, hr2, _, g2, fun hlt2 => ⟨⟨rfl, i + 1, rfl, by omega, t1 hlt2⟩, by dsimp only; omega⟩, fun hge2 => ⟨⟨rfl, i + 1, rfl, by omega, t2 hge2⟩, by dsimp only; omega⟩⟩
    · have hiN : i = N := by omega
      subst hiN
      refine ⟨fun hneg => ?_, fun hpos => ?_⟩
      · rcases Bs with ⟨_, h0⟩ | ⟨b, rfl, _⟩
        · exact hQ _ _ _ K3 Bo No (S.done h0)
        · exact absurd hneg (by omega)
      · rcases Bs with ⟨rfl, _⟩ | ⟨b, rfl, hb, b1, b2, b3⟩
        · exact absurd (by decide) hpos
        · have hlen := nd_len i o S.nd fun j hj => (S.mem j hj).1
          have S2 := S.next hb b1 b2 b3 (fun j _ => set_getD z (by omega) j)
          have hlen2 := nd_len i _ S2.nd fun j hj => (S2.mem j hj).1
          rw [List.length_append] at hlen2
          simp only [List.length_cons, List.length_nil] at hlen2
          refine append_buf (us := [.int .i64 (b : Int)]) Bo rfl rfl (by omega) fun l4 h5 B5 n5' U5 => ?_
          obtain ⟨K5, N5⟩ := NewN.upd K3 No U5
          have Bz5 := Bz.upd U5 o1
          obtain ⟨b6, ha6, _, hw6, hs6⟩ := buf_set Bz5 (k := b) (by rw [nV3_len]; omega)
          obtain ⟨U6, B6⟩ := hs6 (.int .i64 0)
          have N1h : NewN h l1 := N1
          obtain ⟨K6, _⟩ := NewN.upd K5 N1h U6
          have o14 : Off l1 l4 ∧ Off l4 l1 := by
            rcases U5.at_ with h0 | ⟨b', e', hn'⟩
            · exact ⟨fun b x y e1 e2 => o1 b x y e1 (by rw [← h0]; exact e2), fun b x y e1 e2 => o2 b x y (by rw [← h0]; exact e1) e2⟩
            · exact new_off (.inr ⟨b', e', hn'⟩) Bz
          refine ⟨b6, 0, ha6, ⟨by omega, by omega⟩, ?_⟩
          dsimp only
          rw [Nat.zero_add, Int.toNat_natCast]
          refine ⟨hw6, ⟨z.set b 0, o ++ [b], K6, ?_, ?_, N5, o14.1, o14.2, by rw [List.length_set]; exact hz, S2⟩, by omega⟩
          · rw [← nV3_set]; exact B6
          · rw [iV_snoc]; exact B5.upd U6 o14.2
  · obtain ⟨b, o, s, ha, hi, g0, B0⟩ := lt_tab (T.keep K1) (i := 0) (by omega)
    have hs0 := tb_new B0
    have e0 : ((0 : Nat) : Int) = 0 := rfl
    rw [e0] at hi g0 hs0 B0
    have zeq : ∀ i, i < N → ((List.range N).map sc)[i]?.getD 0 = sc i := fun i hi => by simp [hi]
    refine ⟨b, o, ha, hi, s, g0, fun hle => ?_, fun hgt => ?_⟩
    · have hs : stp = true := by rw [← hst, ← hs0]; exact decide_eq_true hle
      refine append_buf (us := [.int .i64 0]) (Buf.nil h1 1 3) rfl rfl (by decide) fun l6 h7 B7 _ U7 => ?_
      obtain ⟨K7, N7⟩ := NewN.upd K1 (NewN.nil h) U7
      have K17 : Keep h1 h7 := (NewN.upd (Keep.refl h1) (NewN.nil h1) U7).1
      have N17 : NewN h1 l6 := (NewN.upd (Keep.refl h1) (NewN.nil h1) U7).2
      have off := N17.off B1
      obtain ⟨b6, ha6, _, hw6, hs6⟩ := buf_set (B1.keep K17) (k := 0) (by rw [nV3_len, List.length_map, List.length_range]; omega)
      obtain ⟨U6, B6⟩ := hs6 (.int .i64 0)
      obtain ⟨K6, _⟩ := NewN.upd K7 N1 U6
      refine ⟨b6, 0, ha6, ⟨by omega, by omega⟩, hw6, ⟨((List.range N).map sc).set 0 0, [0], K6, ?_, ?_, N7, off.1, off.2, by simp, ?_⟩⟩
      · rw [← nV3_set]; exact B6
      · exact B7.upd U6 off.2
      · have := Sel.start (st := stp) (sc := sc) (n := N) (z := fun i => (((List.range N).map sc).set 0 0)[i]?.getD 0) (by omega) (fun i hi => by
          rw [set_getD _ (by simp; omega)]
          by_cases e : i = 0
          · rw [if_pos e, if_pos ⟨hs, e⟩]
          · rw [if_neg e, if_neg (fun c => e c.2), zeq i hi])
        rw [if_pos hs] at this
        exact this
    · have hs : ¬ stp = true := by rw [← hst, ← hs0]; intro hh; exact hgt (of_decide_eq_true hh)
      refine ⟨(List.range N).map sc, [], K1, B1, Buf.nil _ _ _, NewN.nil _, fun _ _ _ _ e => (by cases e), fun _ _ _ e => (by cases e), by simp, ?_⟩
      have := Sel.start (st := stp) (sc := sc) (n := N) (z := fun i => ((List.range N).map sc)[i]?.getD 0) (by omega) (fun i hi => by
        rw [if_neg (fun c => hs c.1), zeq i hi])
      rw [if_neg hs] at this
      exact this
end
end Go.Eng.YtbjnlacacapjiaaGreat
end
section
set_option maxRecDepth 100000
namespace Go.Eng.YtbjnlacacapjiaaGreat
theorem nbl_of {a b : ByteArray} (h : ¬ Bl a b) : blB a b = false := by
  cases hb : blB a b with
  | false => rfl
  | true => exact absurd (blB_t.1 hb) h
theorem behind_of {P R : List Tab} {t : Tab} {key : ByteArray} (hP : ∀ u ∈ P, blB key u.least = false) (ht : blB key t.least = true) : behindM (P ++ t :: R) key = t := by
  unfold behindM
  rw [List.find?_append, List.find?_eq_none.2 (fun u hu => by rw [hP u hu]; decide)]
  simp [ht]
theorem behind_none {ts : List Tab} {t : Tab} {key : ByteArray} (hP : ∀ u ∈ t :: ts, blB key u.least = false) : behindM (t :: ts) key = t := by
  unfold behindM
  rw [List.find?_eq_none.2 (fun u hu => by rw [hP u hu]; decide)]
  rfl
section
variable {g h h' : Hp} {vb : Nat} {ls l l1 l2 : Sl} {xs : List (Sl × List Tab)} {Q : Value → Hp → Prop} {n n1 n2 n3 n4 n5 n6 n7 n8 n9 n10 n11 n12 n13 n14 n15 n16 n17 n18 n19 n20 n21 n22 n23 n24 n25 n26 : Int}
theorem overD_s {ts : List Tab} {s s1 : ByteArray} (B1 : TB h l ts) (hl : ts.length ≤ 60000) (hQ : ∀ h' r, Keep h h' → TB h' r (overM s s1 ts) → NewN h r → Q (.slice r.a r.n r.c) h') : F68.T l s s1 h Q := by
  have hn := tb_new B1
  unfold F68.T
  refine ⟨fun l1 i h2 => ∃ P R, ts = P ++ R ∧ i = (P.length : Int) ∧ Keep h h2 ∧ TB h2 l1 (overM s s1 P) ∧ NewN h l1, fun _ i _ => ts.length - i.toNat, ⟨[], _, rfl, rfl, Keep.refl _, Buf.nil _ _ _, NewN.nil _⟩, ?_⟩
  rintro l1 i h2 ⟨P, R, e, rfl, K2, B2, N2⟩
  have e2 := congrArg List.length e
  rw [List.length_append] at e2
  refine ⟨fun hlt => ?_, fun hge => ?_⟩
  · rcases R with _ | ⟨t, R⟩
    · exact absurd hlt (by simp at e2; omega)
    rw [List.length_cons] at e2
    obtain ⟨b, o, ha, hr, g0, g1, g2, g3, g4, g5⟩ := tab_ix (B1.keep K2).row e
    have hn1 := tb_new B2
    have hfl : (overM s s1 P).length ≤ P.length := List.length_filter_le _ _
    have skip : (blB t.greatest s = true ∨ blB s1 t.least = true) → (∃ P_1 R_1, ts = P_1 ++ R_1 ∧ ((P.length + 1 : Nat) : Int) = (P_1.length : Int) ∧ Keep h h2 ∧ TB h2 l1 (overM s s1 P_1) ∧ NewN h l1) := fun hc => by
      refine ⟨P ++ [t], R, by rw [e]; simp, by simp, K2, ?_, N2⟩
      have : overM s s1 (P ++ [t]) = overM s s1 P := by
        unfold overM
        rw [List.filter_append]
        have : ([t] : List Tab).filter (fun t => !blB t.greatest s && !blB s1 t.least) = [] := by
          rcases hc with hc | hc <;> simp [hc]
        rw [this, List.append_nil]
      rw [this]; exact B2
    rw [next_i (n := 70000) (by omega) (by omega)]
    refine ⟨b, o, ha, hr, _, g5, fun hlt1 => ⟨skip (.inl (blB_t.2 ((sLt_bl _ _).1 hlt1))), by dsimp only; omega⟩, fun hge1 => ⟨b, o, ha, hr, _, g4, fun hle => ⟨b, o, ha, hr, _, g0, _, g1, _, g2, _, g3, _, g4, _, g5, ?_⟩, fun hgt => ⟨skip (.inr ?_), by dsimp only; omega⟩⟩⟩
    · refine append_buf (us := t.cells) B2 rfl rfl (by omega) fun l3 h3 B3 _ U3 => ?_
      obtain ⟨K3, N3⟩ := NewN.upd K2 N2 U3
      refine ⟨⟨P ++ [t], R, by rw [e]; simp, by simp, K3, ?_, N3⟩, by dsimp only; omega⟩
      have : overM s s1 (P ++ [t]) = overM s s1 P ++ [t] := by
        unfold overM
        rw [List.filter_append]
        have h1 : blB t.greatest s = false := nbl_of fun hb => hge1 ((sLt_bl _ _).2 hb)
        have h2 : blB s1 t.least = false := nbl_of (sle.1 hle)
        congr 1
        simp [h1, h2]
      rw [this]
      unfold TB
      rw [tabV_app]
      have : tabV [t] = t.cells := by unfold tabV; simp
      rw [this]
      exact B3
    · cases hb : blB s1 t.least with
      | true => rfl
      | false => exact absurd (sle.2 fun hbl => by rw [blB_t.2 hbl] at hb; cases hb) hgt
  · have hR : R = [] := List.eq_nil_of_length_eq_zero (by omega)
    subst hR
    rw [List.append_nil] at e
    rw [e] at hQ
    exact hQ h2 l1 K2 B2 N2
theorem inputsD_s {ptrs : List ByteArray} {level : Int} (T : LT h l (xs.map (·.2))) (P : PkOk xs) (O : CfOk n5 n7 n8 n9 n10 n12) (h8 : n8 = (xs.length : Int)) (B : h.row l1.a l1.n (ptrV ptrs)) (hlv : level < 9223372036854775808)
    (hN : inputsM n12 xs ptrs level = none → ∀ h', Keep h h' → Q (.tuple ⟨[.agg ⟨[.int .i64 0, .slice none 0 0, .slice none 0 0, .string (ByteArray.mk #[]), .bool false]⟩, .bool false]⟩) h')
    (hS : ∀ j, inputsM n12 xs ptrs level = some j → ∀ h' l1 l2, Keep h h' → TB h' l1 j.up → TB h' l2 j.lo → Q (.tuple ⟨[.agg ⟨[.int .i64 j.lv, .slice l1.a l1.n l1.c, .slice l2.a l2.n l2.c, .string j.cut, .bool j.mv]⟩, .bool true]⟩) h') : F29.T n n1 n2 n3 n4 n5 n6 n7 n8 n9 n10 n11 n12 n13 n14 n15 n16 n17 n18 n19 n20 n21 n22 n23 n24 n25 n26 l l1 level h Q := by
  have hx := P.len
  obtain ⟨fan, rfl⟩ := Int.eq_ofNat_of_zero_le (show 0 ≤ n12 by have := O.fan; omega)
  have hf1 : 1 ≤ fan := by have := O.fan; omega
  have hln := T.n
  rw [List.length_map] at hln
  unfold F29.T F29.G
  rw [wrap_i64 (n := n8 - 1) (by omega) (by omega)]
  refine ⟨fun hneg => hN (by unfold inputsM; rw [if_pos (.inl hneg)]) h (Keep.refl _), fun hpos => ⟨fun hle => hN (by unfold inputsM; rw [if_pos (.inr (by omega))]) h (Keep.refl _), fun hlt => ?_⟩⟩
  have c1 : ¬ (level < 0 ∨ (xs.length : Int) - 1 ≤ level) := by omega
  obtain ⟨i, rfl⟩ := Int.eq_ofNat_of_zero_le (show 0 ≤ level by omega)
  obtain ⟨b0, o0, s0, ha0, hi0, g0, T0⟩ := lt_tab T (i := i) (by omega)
  have hs0 := tb_new T0
  have htl := P.tl (i : Int)
  refine ⟨b0, o0, ha0, hi0, s0, g0, fun h0 => hN (by unfold inputsM; rw [if_neg c1, if_pos (List.eq_nil_of_length_eq_zero (by omega))]) h (Keep.refl _), fun h0 => ⟨b0, o0, ha0, hi0, s0, g0, fun hi => ?_, fun hi => ?_⟩⟩
  · have hi' : i = 0 := by omega
    subst hi'
    have c2 : tabsI xs ((0 : Nat) : Int) ≠ [] := fun e => h0 (by rw [hs0, e]; rfl)
    have hj : inputsM (fan : Int) xs ptrs ((0 : Nat) : Int) = some ⟨0, tabsI xs 0, overM (hullM (tabsI xs 0)).1 (hullM (tabsI xs 0)).2 (tabsI xs 1), ⟨#[]⟩, false⟩ := by
      unfold inputsM; rw [if_neg c1, if_neg c2, if_pos (show ((0 : Nat) : Int) = 0 from rfl)]
    obtain ⟨b6, o6, s6, ha6, hi6, g6, T6⟩ := lt_tab T (i := 1) (by omega)
    have e0 : ((0 : Nat) : Int) = 0 := rfl
    have e1 : ((1 : Nat) : Int) = 1 := rfl
    rw [e0] at hs0 htl c2 hj T0
    rw [e1] at hi6 g6 T6
    have hS1 := hS _ hj
    clear hS hN
    generalize tabsI xs 0 = ts at *
    rcases ts with _ | ⟨t, ts⟩
    · exact absurd rfl c2
    obtain ⟨b, o, ha, hr, _, _, _, _, g4, g5⟩ := tab_ix (P := []) (R := ts) (t := t) T0.row rfl
    refine ⟨b, o, ha, hr, _, g4, b, o, ha, hr, _, g5, g5, ?_⟩
    refine ⟨fun s2 s3 n h1 => h1 = h ∧ ∃ P R, t :: ts = P ++ R ∧ n = (P.length : Int) ∧ (s2, s3) = P.foldl (fun p u => (sMin p.1 u.least, sMax p.2 u.greatest)) (t.least, t.greatest), fun _ _ n _ => (t :: ts).length - n.toNat, ⟨rfl, [], _, rfl, rfl, rfl⟩, ?_⟩
    rintro s2 s3 n h1 ⟨rfl, P', R, e, rfl, es⟩
    have e2 := congrArg List.length e
    rw [List.length_append] at e2
    refine ⟨fun hlt => ?_, fun hge => ?_⟩
    · rcases R with _ | ⟨u, R⟩
      · exact absurd hlt (by simp at e2 hs0; omega)
      rw [List.length_cons] at e2
      obtain ⟨b, o, ha, hr, _, _, _, _, g4, g5⟩ := tab_ix T0.row e
      simp only [List.length_cons] at htl e2
      rw [next_i (n := 70000) (by omega) (by omega)]
      refine ⟨b, o, ha, hr, _, g4, b, o, ha, hr, _, g5, g5, ⟨rfl, P' ++ [u], R, by rw [e]; simp, by simp, ?_⟩, by dsimp only; simp only [List.length_cons]; omega⟩
      rw [List.foldl_append, ← es]; rfl
    · have hR : R = [] := List.eq_nil_of_length_eq_zero (by omega)
      subst hR
      rw [List.append_nil] at e
      have hh : hullM (t :: ts) = (s2, s3) := by rw [es, ← e]; rfl
      rw [hh] at hS1
      refine ⟨_, T0.row, tab_one _, ?_⟩
      refine append_buf (Buf.nil h1 6 65) rfl (by rw [tabV_len, hs0]) (by dsimp only; omega) fun l4 h2 B4 _ U4 => ?_
      obtain ⟨K4, N4⟩ := NewN.upd (Keep.refl h1) (NewN.nil h1) U4
      rw [List.nil_append] at B4
      refine ⟨b6, o6, ha6, hi6, s6, K4.at g6, ?_⟩
      exact overD_s (Buf.keep K4 T6) (P.tl 1) fun h5 l5 K5 B5 N5 => ⟨l5, rfl, hS1 h5 l4 l5 (K4.trans K5) (Buf.keep K5 B4) B5⟩
  · have c2 : tabsI xs (i : Int) ≠ [] := fun e => h0 (by rw [hs0, e]; rfl)
    generalize hkey : ptrs[i]?.getD ⟨#[]⟩ = key
    have hnp : l1.n = ptrs.length := by have := B.1; rw [ptrV_length] at this; omega
    refine ⟨fun s6 h4 => h4 = h ∧ s6 = key, ?_, ?_⟩
    · rintro s6 h4 ⟨rfl, rfl⟩
      refine ⟨fun n h5 => h5 = h4 ∧ ∃ P' R, tabsI xs (i : Int) = P' ++ R ∧ n = (P'.length : Int) ∧ (∀ u ∈ P', blB s6 u.least = false) ∧ ∀ t R', R = t :: R' → blB s6 t.least = true, ?_, ?_⟩
      · rintro n h5 ⟨rfl, P', R, e, rfl, hP, hR⟩
        refine ⟨fun n h6 => h6 = h5 ∧ ∃ P' t R, tabsI xs (i : Int) = P' ++ t :: R ∧ n = (P'.length : Int) ∧ behindM (tabsI xs (i : Int)) s6 = t, ?_, ?_⟩
        · rintro n h6 ⟨rfl, P2, t, R2, e3, rfl, ht⟩
          obtain ⟨b, o, ha, hr, f0, f1, f2, f3, f4, f5⟩ := tab_ix T0.row e3
          refine ⟨b, o, ha, hr, _, f0, _, f1, _, f2, _, f3, _, f4, _, f5, ?_⟩
          refine append_buf (us := t.cells) (Buf.nil h6 6 65) rfl rfl (by decide) fun l7 h7 B7 _ U7 => ?_
          obtain ⟨K7, N7⟩ := NewN.upd (Keep.refl h6) (NewN.nil h6) U7
          have B7' : TB h7 l7 [t] := by
            unfold TB
            have e : tabV [t] = t.cells := by unfold tabV; simp
            rw [e]; exact B7
          rw [wrap_i64 (n := (i : Int) + 1) (by omega) (by omega)]
          have e1 : (i : Int) + 1 = ((i + 1 : Nat) : Int) := by omega
          rw [e1]
          obtain ⟨b8, o8, s8, ha8, hi8, g8, T8⟩ := lt_tab (T.keep K7) (i := i + 1) (by omega)
          refine ⟨b8, o8, ha8, hi8, s8, g8, b, o, ha, hr, _, K7.at f4, b, o, ha, hr, _, K7.at f5, ?_⟩
          refine overD_s T8 (P.tl _) fun h9 l9 K9 B9 N9 => ⟨l9, rfl, ?_⟩
          have hl3 := tb_new B9
          have K79 := K7.trans K9
          have B79 : TB h9 l7 [t] := Buf.keep K9 B7'
          rw [← e1] at B9 hl3
          have hLB : (overM t.least t.greatest (tabsI xs ((i : Int) + 1))).length ≤ 60000 := Nat.le_trans (List.length_filter_le _ _) (P.tl _)
          generalize hlo : overM t.least t.greatest (tabsI xs ((i : Int) + 1)) = lo at B9 hl3 hLB
          have hj : inputsM (fan : Int) xs ptrs (i : Int) = match lo[fan]? with
              | some c => some ⟨(i : Int), [t], lo.take fan, c.least, decide (lo = [] ∧ (i : Int) + 1 ≠ (xs.length : Int) - 1)⟩
              | none => some ⟨(i : Int), [t], lo, ⟨#[]⟩, decide (lo = [] ∧ (i : Int) + 1 ≠ (xs.length : Int) - 1)⟩ := by
            subst hlo; subst ht; subst hkey
            unfold inputsM
            rw [if_neg c1, if_neg c2, if_neg hi]
            rfl
          refine ⟨fun hlt9 => ?_, fun hge9 => ?_⟩
          · have hk : fan < lo.length := by omega
            have hc : lo[fan]? = some lo[fan] := List.getElem?_eq_getElem hk
            rw [hc] at hj
            obtain ⟨b11, o11, q1, q2, q3⟩ := tb_at B9 hc
            have hcap := B9.cap
            have hlo0 : lo ≠ [] := fun e => by rw [e] at hk; simp at hk
            refine ⟨b11, o11, q1, q2, _, q3, ⟨by omega, by omega, by omega, by omega⟩, ?_⟩
            have hmv : decide (lo = [] ∧ (i : Int) + 1 ≠ (xs.length : Int) - 1) = false := decide_eq_false fun hc => hlo0 hc.1
            rw [hmv] at hj
            rw [cut0]
            refine ⟨fun hz => absurd hz (by simp only [Int.toNat_natCast]; omega), fun _ => ?_⟩
            refine hS _ hj h9 l7 ⟨l9.a, fan, l9.c⟩ K79 B79 ?_
            have e : tabV lo = tabV (lo.take fan) ++ tabV (lo.drop fan) := by rw [← tabV_app, List.take_append_drop]
            unfold TB at B9
            rw [e] at B9
            exact buf_cap B9 (by rw [tabV_len, List.length_take, Nat.min_eq_left (Nat.le_of_lt hk)]) (by omega) (by omega) (Nat.le_refl _) (fun h0 => by rw [h0] at q1; cases q1)
          · have hc : lo[fan]? = none := List.getElem?_eq_none (by omega)
            rw [hc] at hj
            refine ⟨fun hz => ?_, fun hz => ?_⟩
            · have hlo0 : lo = [] := List.eq_nil_of_length_eq_zero (by omega)
              refine ⟨fun he => ?_, fun he => ?_⟩
              · have hmv : decide (lo = [] ∧ (i : Int) + 1 ≠ (xs.length : Int) - 1) = false := decide_eq_false fun hc => hc.2 (by omega)
                rw [hmv] at hj
                exact hS _ hj h9 l7 l9 K79 B79 B9
              · have hmv : decide (lo = [] ∧ (i : Int) + 1 ≠ (xs.length : Int) - 1) = true := decide_eq_true ⟨hlo0, by omega⟩
                rw [hmv] at hj
                exact hS _ hj h9 l7 l9 K79 B79 B9
            · have hmv : decide (lo = [] ∧ (i : Int) + 1 ≠ (xs.length : Int) - 1) = false := decide_eq_false fun hc => hz (by rw [hl3, hc.1]; rfl)
              rw [hmv] at hj
              exact hS _ hj h9 l7 l9 K79 B79 B9
        · have e2 := congrArg List.length e
          rw [List.length_append] at e2
          refine ⟨fun he => ?_, fun he => ?_⟩
          · have hR0 : R = [] := List.eq_nil_of_length_eq_zero (by omega)
            subst hR0
            rw [List.append_nil] at e
            rcases P' with _ | ⟨t, P'⟩
            · exact absurd e c2
            · exact ⟨rfl, [], t, P', e, rfl, by rw [e]; exact behind_none hP⟩
          · rcases R with _ | ⟨t, R⟩
            · exact absurd (show ((P'.length : Nat) : Int) = (s0.n : Int) by simp at e2; omega) he
            · exact ⟨rfl, P', t, R, e, rfl, by rw [e]; exact behind_of hP (hR t R rfl)⟩
      · refine ⟨fun n h5 => h5 = h4 ∧ ∃ P' R, tabsI xs (i : Int) = P' ++ R ∧ n = (P'.length : Int) ∧ ∀ u ∈ P', blB s6 u.least = false, fun n _ => (tabsI xs (i : Int)).length - n.toNat, ⟨rfl, [], _, rfl, rfl, fun u hu => (by cases hu)⟩, ?_⟩
        rintro n h5 ⟨rfl, P', R, e, rfl, hP⟩
        have e2 := congrArg List.length e
        rw [List.length_append] at e2
        refine ⟨fun hlt => ?_, fun hge => ?_⟩
        · rcases R with _ | ⟨t, R⟩
          · exact absurd hlt (by simp at e2; omega)
          rw [List.length_cons] at e2
          obtain ⟨b, o, ha, hr, _, _, _, _, f4, _⟩ := tab_ix T0.row e
          rw [next_i (n := 70000) (by omega) (by omega)]
          refine ⟨b, o, ha, hr, _, f4, fun hle => ⟨⟨rfl, P' ++ [t], R, by rw [e]; simp, by simp, fun u hu => ?_⟩, by dsimp only; omega⟩, fun hgt => ⟨rfl, P', t :: R, e, rfl, hP, fun t' R' hh => ?_⟩⟩
          · rcases List.mem_append.1 hu with hu | hu
            · exact hP u hu
            · rw [List.mem_singleton.1 hu]; exact nbl_of (sle.1 hle)
          · cases hh
            cases hb : blB s6 t.least with
            | true => rfl
            | false => exact absurd (sle.2 fun hbl => by rw [blB_t.2 hbl] at hb; cases hb) hgt
        · have hR0 : R = [] := List.eq_nil_of_length_eq_zero (by omega)
          subst hR0
          exact ⟨rfl, P', [], e, rfl, hP, fun t R' hh => (by cases hh)⟩
    · refine ⟨fun hlt => ?_, fun hge => ⟨rfl, by rw [← hkey, List.getElem?_eq_none (by omega)]; rfl⟩⟩
      obtain ⟨b, o, ha, hat⟩ := row_get B (i := i) (by omega)
      have hi : i < ptrs.length := by omega
      refine ⟨b, o, ha, ⟨by omega, hlt⟩, ptrs[i], ?_, rfl, by rw [← hkey, List.getElem?_eq_getElem hi]; rfl⟩
      rw [Int.toNat_natCast, hat i (by omega)]
      unfold ptrV
      rw [List.getElem?_map, List.getElem?_eq_getElem hi]; rfl
end
end Go.Eng.YtbjnlacacapjiaaGreat
end
section
set_option maxRecDepth 100000
namespace Go.Eng.YtbjnlacacapjiaaGreat
section
variable {xs : List (Sl × List Tab)}
theorem want_tabs {trig base mult stop : Int} {i : Nat} (ht : 1 ≤ trig) (hs : 1 ≤ stop) (h : want (decide (stop ≤ ((tabsI xs 0).length : Int))) (scoreM trig base mult xs) i) : tabsI xs (i : Int) ≠ [] := fun e => by
  rcases h with h | ⟨rfl, h⟩
  · unfold scoreM at h
    split at h
    · next h0 =>
      subst h0
      have : tabsI xs 0 = [] := e
      rw [this] at h
      simp at h
    · rw [e] at h
      unfold weightW at h
      simp at h
  · have : tabsI xs 0 = [] := e
    rw [this] at h
    simp at h
    omega
theorem inputs_some {fan : Int} {ptrs : List ByteArray} {n : Int} (h0 : 0 ≤ n) (h1 : n < (xs.length : Int) - 1) : (∃ j, inputsM fan xs ptrs n = some j) ↔ tabsI xs n ≠ [] := by
  unfold inputsM
  rw [if_neg (by omega)]
  by_cases c2 : tabsI xs n = []
  · rw [if_pos c2]
    exact ⟨fun ⟨j, h⟩ => (by cases h), fun h => absurd c2 h⟩
  · rw [if_neg c2]
    refine ⟨fun _ => c2, fun _ => ?_⟩
    split
    · exact ⟨_, rfl⟩
    · dsimp only
      split <;> exact ⟨_, rfl⟩
end
def bV8 (R : Nat → Bool) : List Value := [.bool (R 0), .bool (R 1), .bool (R 2), .bool (R 3), .bool (R 4), .bool (R 5), .bool (R 6), .bool (R 7)]
theorem bV8_get (R : Nat → Bool) {i : Nat} (hi : i < 8) : (⟨bV8 R⟩ : Array Value)[i]? = some (.bool (R i)) := by
  have : i = 0 ∨ i = 1 ∨ i = 2 ∨ i = 3 ∨ i = 4 ∨ i = 5 ∨ i = 6 ∨ i = 7 := by omega
  rcases this with rfl | rfl | rfl | rfl | rfl | rfl | rfl | rfl <;> rfl
theorem bV8_set (R : Nat → Bool) {i : Nat} (hi : i < 7) : (bV8 R).set i (.bool true) = bV8 (fun k => if k = i then true else R k) ∧ ((bV8 R).set i (.bool true)).set (i + 1) (.bool true) = bV8 (setR R i) := by
  have : i = 0 ∨ i = 1 ∨ i = 2 ∨ i = 3 ∨ i = 4 ∨ i = 5 ∨ i = 6 := by omega
  rcases this with rfl | rfl | rfl | rfl | rfl | rfl | rfl <;> exact ⟨rfl, rfl⟩
theorem mark8 {h3 : Hp} {b i : Nat} {R : Nat → Bool} {K : Hp → Prop} (hb : h3 b = some (.cells ⟨bV8 R⟩ 119 (0, 0))) (hi : i < 7) (hK : ((h3.wr b i [.bool true]).wr b (i + 1) [.bool true]) b = some (.cells ⟨bV8 (setR R i)⟩ 119 (0, 0)) → K ((h3.wr b i [.bool true]).wr b (i + 1) [.bool true])) :
    ((0 : Int) ≤ (i : Int) ∧ (i : Int) < ((8 : Nat) : Int)) ∧ st h3 b (0 + ((i : Nat) : Int).toNat) 1 [.bool true] fun h4 => ((0 : Int) ≤ ((i + 1 : Nat) : Int) ∧ ((i + 1 : Nat) : Int) < ((8 : Nat) : Int)) ∧ st h4 b (0 + ((i + 1 : Nat) : Int).toNat) 1 [.bool true] K := by
  rw [Int.toNat_natCast, Int.toNat_natCast, Nat.zero_add, Nat.zero_add]
  obtain ⟨s1, s2⟩ := bV8_set R hi
  have e1 : (h3.wr b i [.bool true]) b = some (.cells ⟨bV8 (fun k => if k = i then true else R k)⟩ 119 (0, 0)) := by
    unfold Hp.wr
    rw [if_pos rfl, hb]
    show some (Obj.cells ((bV8 R).set i (.bool true)).toArray 119 (0, 0)) = _
    rw [s1]
  refine ⟨⟨by omega, by omega⟩, canW_new hb (by show i + 1 ≤ 8; omega), ⟨by omega, by omega⟩, canW_new e1 (by show i + 1 + 1 ≤ 8; omega), hK ?_⟩
  unfold Hp.wr at e1 ⊢
  rw [if_pos rfl, if_pos rfl, hb]
  show some (Obj.cells (((bV8 R).set i (.bool true)).set (i + 1) (.bool true)).toArray 119 (0, 0)) = _
  rw [s2]
section
variable {g h h' : Hp} {vb b : Nat} {ls l l1 l2 : Sl} {xs : List (Sl × List Tab)} {Q : Value → Hp → Prop} {n n1 n2 n3 n4 n5 n6 n7 n8 n9 n10 n11 n12 n13 n14 n15 n16 n17 n18 n19 n20 n21 n22 n23 n24 n25 n26 : Int}
theorem lockedD_s {ts : List Tab} {lk : List Int} (B : TB h l ts) (hl : ts.length ≤ 60000) (BL : h.row l1.a l1.n (uvs lk)) (hlk : l1.n < 9223372036854775807) (hQ : Q (.bool (ts.any fun t => lk.contains t.num)) h) : F71.T l l1 h Q := by
  have hn := tb_new B
  have hnl : l1.n = lk.length := by have := BL.1; unfold uvs at this; rw [List.length_map] at this; omega
  unfold F71.T
  refine ⟨fun n h1 => h1 = h ∧ ∃ P R, ts = P ++ R ∧ n = (P.length : Int) ∧ ∀ t ∈ P, lk.contains t.num = false, fun n _ => ts.length - n.toNat, ⟨rfl, [], _, rfl, rfl, fun t ht => (by cases ht)⟩, ?_⟩
  rintro n h1 ⟨rfl, P, R, e, rfl, hP⟩
  have e2 := congrArg List.length e
  rw [List.length_append] at e2
  refine ⟨fun hlt => ?_, fun hge => ?_⟩
  · rcases R with _ | ⟨t, R⟩
    · exact absurd hlt (by simp at e2; omega)
    rw [List.length_cons] at e2
    obtain ⟨b, o, ha, hr, g0, _⟩ := tab_ix B.row e
    refine ⟨fun n h2 => h2 = h1 ∧ ∃ P' R', lk = P' ++ R' ∧ n = (P'.length : Int) ∧ t.num ∉ P', fun n _ => lk.length - n.toNat, ⟨rfl, [], _, rfl, rfl, by simp⟩, ?_⟩
    rintro n h2 ⟨rfl, P', R', e', rfl, hP'⟩
    have e3 := congrArg List.length e'
    rw [List.length_append] at e3
    refine ⟨fun hlt' => ?_, fun hge' => ?_⟩
    · rcases R' with _ | ⟨u, R'⟩
      · exact absurd hlt' (by simp at e3; omega)
      rw [List.length_cons] at e3
      obtain ⟨b1, o1, ha1, hat⟩ := row_get BL (i := P'.length) (by omega)
      refine ⟨b, o, ha, hr, _, g0, b1, o1, ha1, ⟨by omega, hlt'⟩, u, ?_, fun hu => ?_, fun hu => ?_⟩
      · rw [Int.toNat_natCast, hat P'.length (by omega), e']
        unfold uvs
        simp
      · have : (ts.any fun t => lk.contains t.num) = true := by
          rw [e, List.any_append, List.any_cons]
          have : lk.contains t.num = true := by rw [e', hu]; simp
          rw [this]; simp
        rw [this] at hQ; exact hQ
      · rw [next_i (n := lk.length) (by omega) (by omega)]
        refine ⟨⟨rfl, P' ++ [u], R', by rw [e']; simp, by simp, ?_⟩, by dsimp only; omega⟩
        rw [List.mem_append, List.mem_singleton]
        exact fun hh => hh.elim hP' hu
    · have hR : R' = [] := List.eq_nil_of_length_eq_zero (by omega)
      subst hR
      rw [List.append_nil] at e'
      subst e'
      rw [next_i (n := 70000) (by omega) (by omega)]
      refine ⟨⟨rfl, P ++ [t], R, by rw [e]; simp, by simp, fun u hu => ?_⟩, by dsimp only; omega⟩
      rcases List.mem_append.1 hu with hu | hu
      · exact hP u hu
      · rw [List.mem_singleton.1 hu]; simpa using hP'
  · have hR : R = [] := List.eq_nil_of_length_eq_zero (by omega)
    subst hR
    rw [List.append_nil] at e
    subst e
    have : (ts.any fun t => lk.contains t.num) = false := List.any_eq_false.2 fun t ht => by rw [hP t ht]; decide
    rw [this] at hQ; exact hQ
theorem nextD_s {ptrs : List ByteArray} {lk : List Int} (T : LT h l (xs.map (·.2))) (P : PkOk xs) (O : CfOk n5 n7 n8 n9 n10 n12) (h8 : n8 = (xs.length : Int)) (B : h.row l1.a l1.n (ptrV ptrs)) (BL : h.row l2.a l2.n (uvs lk)) (hlk : l2.n < 9223372036854775807)
    (hN : ∀ o, IsOrder (xs.length - 1) (decide (n7 ≤ ((tabsI xs 0).length : Int))) (scoreM n5 n9 n10 xs) o → nextL n12 xs ptrs lk (fun _ => false) o = none → ∀ h', Keep h h' → Q (.tuple ⟨[.agg ⟨[.int .i64 0, .slice none 0 0, .slice none 0 0, .string (ByteArray.mk #[]), .bool false]⟩, .int .i64 (if o = [] then 0 else 1)]⟩) h')
    (hS : ∀ o j, IsOrder (xs.length - 1) (decide (n7 ≤ ((tabsI xs 0).length : Int))) (scoreM n5 n9 n10 xs) o → nextL n12 xs ptrs lk (fun _ => false) o = some j → ∀ h' u1 u2, Keep h h' → TB h' u1 j.up → TB h' u2 j.lo → Q (.tuple ⟨[.agg ⟨[.int .i64 j.lv, .slice u1.a u1.n u1.c, .slice u2.a u2.n u2.c, .string j.cut, .bool j.mv]⟩, .int .i64 2]⟩) h') : F32.T n n1 n2 n3 n4 n5 n6 n7 n8 n9 n10 n11 n12 n13 n14 n15 n16 n17 n18 n19 n20 n21 n22 n23 n24 n25 n26 l l1 l2 h Q := by
  have hx := P.len
  unfold F32.T F32.G
  refine orderD_s T P O h8 fun h1 r o K1 B1 N1 hO => ⟨r, rfl, fun b hb => ?_⟩
  have hol : ∀ i ∈ o, i < xs.length - 1 := fun i hi => ((hO.mem i).1 hi).1
  have hsome : ∀ i ∈ o, ∃ j, inputsM n12 xs ptrs (i : Int) = some j := fun i hi => by
    have h1 := (hO.mem i).1 hi
    exact (inputs_some (by omega) (by omega)).2 (want_tabs O.trig.1 (by have := O.stop; omega) h1.2)
  have hon : r.n = o.length := by have := B1.len; rw [iV_len] at this; omega
  have holn : o.length ≤ 4 := by
    have h2 := List.Nodup.length_le_of_subset hO.nd (l₂ := List.range (xs.length - 1)) (fun i hi => List.mem_range.2 (hol i hi))
    rw [List.length_range] at h2; omega
  have hN := hN o hO
  have hS := fun j => hS o j hO
  generalize hT : nextL n12 xs ptrs lk (fun _ => false) o = Tn at hN hS
  refine ⟨fun n _ _ _ _ f h2 => isF f ∧ ∃ A w R, o = A ++ w ∧ n = (A.length : Int) ∧ Keep h1 h2 ∧ h2 b = some (.cells ⟨bV8 R⟩ 119 (0, 0)) ∧ nextL n12 xs ptrs lk R w = Tn, fun n _ _ _ _ _ _ => o.length - n.toNat, ⟨rfl, [], o, fun _ => false, rfl, rfl, Keep.new hb _, new_at _ _ _, hT⟩, ?_⟩
  intro n28 n29 l3 l4 s
  refine ⟨fun h2 hh => (Bool.noConfusion (show true = false from hh.1)), ?_⟩
  rintro h2 ⟨-, A, w, R, e, rfl, K2, x2, hw⟩
  have e2 := congrArg List.length e
  rw [List.length_append] at e2
  refine ⟨fun hlt => ?_, fun hge => ?_⟩
  · rcases w with _ | ⟨i, w⟩
    · exact absurd hlt (by simp at e2; omega)
    rw [List.length_cons] at e2
    have him : i ∈ o := by rw [e]; simp
    have hi : i < 4 := by have := hol i him; omega
    obtain ⟨jj, hjj⟩ := hsome i him
    obtain ⟨b2, ha, hat, _⟩ := buf_set (B1.keep K2) (k := A.length) (by rw [iV_len]; omega)
    have hat' : h2.at b2 (0 + ((A.length : Int)).toNat) = some (.int .i64 (i : Int)) := by
      rw [Int.toNat_natCast, Nat.zero_add, hat, e]
      unfold iV
      simp
    have w1 : IntKind.wrap .i64 ((i : Int) + 1) = ((i + 1 : Nat) : Int) := next_i (n := 10) (by omega) (by omega)
    have w2 : IntKind.wrap .i64 ((A.length : Int) + 1) = ((A.length + 1 : Nat) : Int) := next_i (n := 10) (by omega) (by omega)
    have K12 := K1.trans K2
    have hb2 : h1 b = none := hb
    rw [w2]
    refine ⟨fun _ _ _ _ f h4 => isF f ∧ ∃ A' w R, o = A' ++ w ∧ ((A.length + 1 : Nat) : Int) = (A'.length : Int) ∧ Keep h1 h4 ∧ h4 b = some (.cells ⟨bV8 R⟩ 119 (0, 0)) ∧ nextL n12 xs ptrs lk R w = Tn, fun _ _ _ _ => ⟨fun h4 hh => (Bool.noConfusion (show true = false from hh.1)), fun h4 J4 => ⟨J4, by dsimp only; omega⟩⟩, b2, 0, ha, ⟨by omega, hlt⟩, (i : Int), hat', ?_⟩
    have mk : ∀ h3, Keep h2 h3 → nextL n12 xs ptrs lk (setR R i) w = Tn → ((0 : Int) ≤ (i : Int) ∧ (i : Int) < ((8 : Nat) : Int)) ∧ st h3 b (0 + ((i : Nat) : Int).toNat) 1 [.bool true] fun h4 => ((0 : Int) ≤ ((i + 1 : Nat) : Int) ∧ ((i + 1 : Nat) : Int) < ((8 : Nat) : Int)) ∧ st h4 b (0 + ((i + 1 : Nat) : Int).toNat) 1 [.bool true] fun h5 => (isF false ∧ ∃ A' w R, o = A' ++ w ∧ ((A.length + 1 : Nat) : Int) = (A'.length : Int) ∧ Keep h1 h5 ∧ h5 b = some (.cells ⟨bV8 R⟩ 119 (0, 0)) ∧ nextL n12 xs ptrs lk R w = Tn) := fun h3 K3 ht =>
      mark8 (K3 _ _ x2) (i := i) (by omega) fun x5 => ⟨rfl, A ++ [i], w, _, by rw [e]; simp, by simp, ((K2.trans K3).wr hb2 _ _).wr hb2 _ _, x5, ht⟩
    unfold nextL at hw
    refine inputsD_s (T.keep K12) P O h8 (K12.row B) (by omega) (fun hin h3 K3 => by rw [hjj] at hin; cases hin) (fun j hin h3 u1 u2 K3 T1 T2 => ?_)
    rw [hin] at hw
    dsimp only at hw
    obtain ⟨zu, zl⟩ := inputs_sz P hin
    have rd : ∀ k, k < 8 → h3.at b (0 + ((k : Nat) : Int).toNat) = some (.bool (R k)) := fun k hk => by
      rw [Int.toNat_natCast, Nat.zero_add, at_of (K3 _ _ x2) k, bV8_get R hk]
    have K13 := K12.trans K3
    have fnd := hS j
    rw [w1]
    refine ⟨j.lv, u1, u2, j.cut, j.mv, ?_⟩
    obtain ⟨lv, up, lo, cut, mv⟩ := j
    dsimp only at zu zl T1 T2 fnd hw ⊢
    cases mv
    all_goals
      first
        | refine ⟨fun hh => (Bool.noConfusion hh), fun _ => ⟨true, fun _ => ?_, fun hh => (Bool.noConfusion hh)⟩⟩
        | refine ⟨fun _ => ⟨true, fun _ => ?_, fun hh => (Bool.noConfusion hh)⟩, fun hh => (Bool.noConfusion hh)⟩
      refine ⟨rfl, ⟨by omega, by omega⟩, R i, rd i (by omega), fun hr => ?_, fun hr => ⟨⟨by omega, by omega⟩, R (i + 1), rd (i + 1) (by omega), fun hr1 => ?_, fun hr1 => ?_⟩⟩
      · rw [if_neg (fun c => by rw [c.1] at hr; cases hr)] at hw
        exact mk h3 K3 hw
      · rw [if_neg (fun c => by rw [c.2.1] at hr1; cases hr1)] at hw
        exact mk h3 K3 hw
      · have ua : ∀ A B : List Tab, ((A ++ B).any fun t => lk.contains t.num) = ((A.any fun t => lk.contains t.num) || (B.any fun t => lk.contains t.num)) := fun A B => List.any_append
        refine lockedD_s T1 zu (K13.row BL) hlk ⟨_, rfl, fun hh => ?_, fun hh => ?_⟩
        · rw [if_neg (fun c => by
            have := c.2.2
            unfold hit at this
            rw [ua, hh] at this; cases this)] at hw
          exact mk h3 K3 hw
        · refine lockedD_s T2 zl (K13.row BL) hlk ⟨_, rfl, fun hh2 => ?_, fun hh2 => ?_⟩
          · rw [if_neg (fun c => by
              have := c.2.2
              unfold hit at this
              rw [ua, hh, hh2] at this; cases this)] at hw
            exact mk h3 K3 hw
          · rw [if_pos ⟨hr, hr1, by unfold hit; rw [ua, hh, hh2]; rfl⟩] at hw
            exact fnd hw.symm h3 u1 u2 K13 T1 T2
  · have hw0 : w = [] := List.eq_nil_of_length_eq_zero (by omega)
    subst hw0
    unfold nextL at hw
    subst hw
    refine ⟨fun hpos => ?_, fun hneg => ?_⟩
    · have := hN rfl h2 (K1.trans K2)
      rw [if_neg (fun e => by rw [e] at hon; simp at hon; omega)] at this
      exact this
    · have := hN rfl h2 (K1.trans K2)
      rw [if_pos (List.eq_nil_of_length_eq_zero (by omega))] at this
      exact this
end
end Go.Eng.YtbjnlacacapjiaaGreat
end
section
set_option maxRecDepth 100000
namespace Go.Eng.YtbjnlacacapjiaaGreat
theorem pB_t {T F : Prop} (h : T) : parB true T F := ⟨fun _ => h, fun e => (by cases e)⟩
theorem pB_f {T F : Prop} (h : F) : parB false T F := ⟨fun e => (by cases e), fun _ => h⟩
theorem iV_n (o : List Nat) : iV o = nV3 (o.map fun i : Nat => (i : Int)) := by unfold iV nV3; rw [List.map_map]; rfl
theorem next_in {fan : Int} {xs : List (Sl × List Tab)} {ptrs : List ByteArray} {lk : List Int} {j : Jb} : ∀ (o : List Nat) (R : Nat → Bool), nextL fan xs ptrs lk R o = some j → ∃ (A : Unit) (i : Nat) (_ : Unit) (_ : Unit), inputsM fan xs ptrs (i : Int) = some j ∧ True
  | [], R, h => by unfold nextL at h; cases h
  | i :: w, R, h => by
    unfold nextL at h
    split at h
    · exact next_in w _ h
    · next j' hj =>
      split at h
      · cases h; exact ⟨(), i, (), (), hj, trivial⟩
      · exact next_in w _ h
section
variable {g h h' : Hp} {vb b : Nat} {ls l l1 l2 : Sl} {xs : List (Sl × List Tab)} {Q : Value → Hp → Prop} {n n1 n2 n3 n4 n5 n6 n7 n8 n9 n10 n11 n12 n13 n14 n15 n16 n17 n18 n19 n20 n21 n22 n23 n24 n25 n26 : Int}
theorem asked_s {ptrs : List ByteArray} {lk : List Int} {level : Int} (V : Ver g h vb ls xs) (T : LT h l (xs.map (·.2))) (P : PkOk xs) (O : CfOk n5 n7 n8 n9 n10 n12) (h8 : n8 = (xs.length : Int)) (B : h.row l1.a l1.n (ptrV ptrs)) (BL : h.row l2.a l2.n (uvs lk)) (hlk : l2.n < 9223372036854775807) (hlv : level < 9223372036854775808)
    (hQ : ∀ h', Keep h h' → Q (.bool true) h') : F9.T n n1 n2 n3 n4 n5 n6 n7 n8 n9 n10 n11 n12 n13 n14 n15 n16 n17 n18 n19 n20 n21 n22 n23 n24 n25 n26 (some ⟨vb, 0, none⟩) l l1 l2 level h Q := by
  have hx := P.len
  unfold F9.T F9.G
  refine scores_s V P O h8 fun h1 r1 K1 B1 N1 => ⟨r1, rfl, ?_⟩
  refine scoresD_s (T.keep K1) P O h8 fun h2 r2 K2 B2 N2 => ⟨r2, rfl, ?_⟩
  have K12 := K1.trans K2
  refine sameI_s (row_one (B1.keep K2)) (row_one B2) (by simp; omega) (fun _ => ⟨true, rfl, pB_t ?_⟩) (fun hh => absurd rfl hh)
  refine order_s (V.keep K12) P O h8 fun h3 r3 o K3 B3 N3 O3 => ⟨r3, rfl, ?_⟩
  refine orderD_s (T.keep (K12.trans K3)) P O h8 fun h4 r4 o' K4 B4 N4 O4 => ⟨r4, rfl, ?_⟩
  have eo := O3.one O4
  subst eo
  have holn := nd_len (xs.length - 1) o O3.nd fun i hi => ((O3.mem i).1 hi).1
  have K14 := (K12.trans K3).trans K4
  have Bo3 := row_one (B3.keep K4)
  have Bo4 := row_one B4
  rw [iV_n] at Bo3 Bo4
  refine sameI_s Bo3 Bo4 (by rw [List.length_map]; omega) (fun _ => ⟨true, rfl, pB_t ?_⟩) (fun hh => absurd rfl hh)
  refine ⟨fun n hh => Keep h hh ∧ -2 ≤ n ∧ n ≤ n8 + 2, fun n _ => (n8 + 2 - n).toNat, ⟨K14, by omega, by omega⟩, ?_⟩
  rintro n28 h7 ⟨K7, hn1, hn2⟩
  have w8 : IntKind.wrap .i64 (n8 + 2) = n8 + 2 := wrap_i64 (by omega) (by omega)
  rw [w8]
  refine ⟨fun hlt => ?_, fun hge => ?_⟩
  · have w1 : IntKind.wrap .i64 (n28 + 1) = n28 + 1 := wrap_i64 (by omega) (by omega)
    rw [w1]
    refine ⟨fun hh => Keep h hh, fun h8' K8 => ⟨⟨K8, by omega, by omega⟩, by dsimp only; omega⟩, ?_⟩
    refine ⟨fun n hh => n < 9223372036854775808 ∧ Keep h hh, ?_, fun _ => ⟨hlv, K7⟩, fun _ => ⟨by omega, K7⟩⟩
    rintro n29 h9 ⟨hn29, K9⟩
    refine inputs_s (V.keep K9) P O h8 (K9.row B) hn29 (fun hin h10 K10 => ?_) (fun j hin h10 u1 u2 K10 T1 _ T2 _ _ _ => ?_)
    · refine ⟨0, ⟨none, 0, 0⟩, ⟨none, 0, 0⟩, _, false, pB_f ⟨false, pB_f ⟨rfl, ?_⟩⟩⟩
      have K90 := K9.trans K10
      refine inputsD_s (T.keep K90) P O h8 (K90.row B) hn29 (fun _ h11 K11 => ?_) (fun j hin2 => by rw [hin] at hin2; cases hin2)
      refine ⟨0, ⟨none, 0, 0⟩, ⟨none, 0, 0⟩, _, false, pB_f ⟨false, pB_f ⟨rfl, fun _ => ?_, fun hh => absurd rfl hh⟩⟩⟩
      have r0 : h11.row (Sl.mk none 0 0).a ((Sl.mk none 0 0).n * 6) (tabV []) := (Buf.nil h11 6 65).row
      exact sameJ_s (i := ⟨0, [], [], ⟨#[]⟩, false⟩) (j := ⟨0, [], [], ⟨#[]⟩, false⟩) r0 r0 r0 r0 (Nat.zero_le _) (Nat.zero_le _) (fun _ => ⟨true, rfl, pB_t (K90.trans K11)⟩) (fun hh => absurd rfl hh)
    · have K90 := K9.trans K10
      obtain ⟨zu, zl⟩ := inputs_sz P hin
      refine ⟨j.lv, u1, u2, j.cut, j.mv, ?_⟩
      obtain ⟨lv, up, lo, cut, mv⟩ := j
      dsimp only at zu zl T1 T2 ⊢
      cases mv
      all_goals
        first
          | refine pB_f ⟨true, pB_t ⟨rfl, ?_⟩⟩
          | refine pB_t ⟨true, pB_t ⟨rfl, ?_⟩⟩
        refine inputsD_s (T.keep K90) P O h8 (K90.row B) hn29 (fun hin2 => by rw [hin] at hin2; cases hin2) (fun j2 hin2 h11 v1 v2 K11 T3 T4 => ?_)
        rw [hin] at hin2
        cases hin2
        first
          | refine ⟨lv, v1, v2, cut, false, pB_f ⟨true, pB_t ⟨rfl, fun _ => ?_, fun hh => absurd rfl hh⟩⟩⟩
          | refine ⟨lv, v1, v2, cut, true, pB_t ⟨true, pB_t ⟨rfl, fun _ => ?_, fun hh => absurd rfl hh⟩⟩⟩
        first
          | exact sameJ_s (i := ⟨lv, up, lo, cut, false⟩) (j := ⟨lv, up, lo, cut, false⟩) (Buf.row (Buf.keep K11 T1)) (Buf.row (Buf.keep K11 T2)) (Buf.row T3) (Buf.row T4) zu zl (fun _ => ⟨true, rfl, pB_t (K90.trans K11)⟩) (fun hh => absurd rfl hh)
          | exact sameJ_s (i := ⟨lv, up, lo, cut, true⟩) (j := ⟨lv, up, lo, cut, true⟩) (Buf.row (Buf.keep K11 T1)) (Buf.row (Buf.keep K11 T2)) (Buf.row T3) (Buf.row T4) zu zl (fun _ => ⟨true, rfl, pB_t (K90.trans K11)⟩) (fun hh => absurd rfl hh)
  · refine next_s (V.keep K7) P O h8 (K7.row B) (K7.row BL) hlk (fun o hO hn h10 K10 => ?_) (fun o j hO hn h10 u1 u2 K10 T1 _ T2 _ _ _ => ?_)
    · have K90 := K7.trans K10
      refine ⟨0, ⟨none, 0, 0⟩, ⟨none, 0, 0⟩, _, false, pB_f ⟨_, rfl, ?_⟩⟩
      refine nextD_s (T.keep K90) P O h8 (K90.row B) (K90.row BL) hlk (fun o2 hO2 hn2 h11 K11 => ?_) (fun o2 j hO2 hn2 => by rw [← hO.one hO2, hn] at hn2; cases hn2)
      rw [← hO.one hO2]
      refine ⟨0, ⟨none, 0, 0⟩, ⟨none, 0, 0⟩, _, false, pB_f ⟨_, rfl, fun _ => ?_, fun hh => absurd rfl hh⟩⟩
      have r0 : h11.row (Sl.mk none 0 0).a ((Sl.mk none 0 0).n * 6) (tabV []) := (Buf.nil h11 6 65).row
      exact sameJ_s (i := ⟨0, [], [], ⟨#[]⟩, false⟩) (j := ⟨0, [], [], ⟨#[]⟩, false⟩) r0 r0 r0 r0 (Nat.zero_le _) (Nat.zero_le _) (fun _ => ⟨true, rfl, pB_t (hQ _ (K90.trans K11))⟩) (fun hh => absurd rfl hh)
    · have K90 := K7.trans K10
      have zz : j.up.length ≤ 60000 ∧ j.lo.length ≤ 60000 := by
        obtain ⟨A, i, _, _, hin, _⟩ := next_in o _ hn
        exact inputs_sz P hin
      obtain ⟨zu, zl⟩ := zz
      refine ⟨j.lv, u1, u2, j.cut, j.mv, ?_⟩
      obtain ⟨lv, up, lo, cut, mv⟩ := j
      dsimp only at zu zl T1 T2 ⊢
      cases mv
      all_goals
        first
          | refine pB_f ⟨_, rfl, ?_⟩
          | refine pB_t ⟨_, rfl, ?_⟩
        refine nextD_s (T.keep K90) P O h8 (K90.row B) (K90.row BL) hlk (fun o2 hO2 hn2 => by rw [← hO.one hO2, hn] at hn2; cases hn2) (fun o2 j2 hO2 hn2 h11 v1 v2 K11 T3 T4 => ?_)
        rw [← hO.one hO2, hn] at hn2
        cases hn2
        first
          | refine ⟨lv, v1, v2, cut, false, pB_f ⟨_, rfl, fun _ => ?_, fun hh => absurd rfl hh⟩⟩
          | refine ⟨lv, v1, v2, cut, true, pB_t ⟨_, rfl, fun _ => ?_, fun hh => absurd rfl hh⟩⟩
        first
          | exact sameJ_s (i := ⟨lv, up, lo, cut, false⟩) (j := ⟨lv, up, lo, cut, false⟩) (Buf.row (Buf.keep K11 T1)) (Buf.row (Buf.keep K11 T2)) (Buf.row T3) (Buf.row T4) zu zl (fun _ => ⟨true, rfl, pB_t (hQ _ (K90.trans K11))⟩) (fun hh => absurd rfl hh)
          | exact sameJ_s (i := ⟨lv, up, lo, cut, true⟩) (j := ⟨lv, up, lo, cut, true⟩) (Buf.row (Buf.keep K11 T1)) (Buf.row (Buf.keep K11 T2)) (Buf.row T3) (Buf.row T4) zu zl (fun _ => ⟨true, rfl, pB_t (hQ _ (K90.trans K11))⟩) (fun hh => absurd rfl hh)
end
end Go.Eng.YtbjnlacacapjiaaGreat
end
section
namespace Go.Eng
def NewB (g : Hp) (s : Sl) : Prop := s.a = none ∨ ∃ b, s.a = some ⟨b, 0, none⟩ ∧ g b = none
theorem NewB.mono {g h : Hp} (d : ∀ k, h k = none → g k = none) {s : Sl} (N : NewB h s) : NewB g s := N.imp id fun ⟨b, e, n⟩ => ⟨b, e, d b n⟩
theorem NewB.off {g : Hp} {s r : Sl} {sz t : Nat} {vs : List Value} (N : NewB g s) (B : Buf g r sz t vs) : Off r s ∧ Off s r := by
  rcases B.own with ⟨ha, _⟩ | ⟨b, c, f, ha, hb, _⟩
  · exact ⟨fun k o o' e => (by rw [ha] at e; cases e), fun k o o' _ e => (by rw [ha] at e; cases e)⟩
  · rcases N with hn | ⟨b', hb', hn⟩
    · exact ⟨fun k o o' _ e => (by rw [hn] at e; cases e), fun k o o' e => (by rw [hn] at e; cases e)⟩
    · have : b ≠ b' := fun e => by rw [e, hn] at hb; cases hb
      refine ⟨fun k o o' e1 e2 => this ?_, fun k o o' e1 e2 => this ?_⟩
      · rw [ha] at e1; rw [hb'] at e2
        simp only [Option.some.injEq, Addr.mk.injEq] at e1 e2
        rw [e1.1, e2.1]
      · rw [hb'] at e1; rw [ha] at e2
        simp only [Option.some.injEq, Addr.mk.injEq] at e1 e2
        rw [e1.1, e2.1]
theorem keepB {g h h' : Hp} (K : Keep g h) {s s' : Sl} (N : NewB g s) (U : Upd h h' s s') : Keep g h' := fun k x e => U.keep k x (fun o hs => by
  rcases N with hn | ⟨b, hb, hn⟩
  · rw [hn] at hs; cases hs
  · rw [hb] at hs
    simp only [Option.some.injEq, Addr.mk.injEq] at hs
    rw [← hs.1, hn] at e; cases e) (K k x e)
theorem newB {g h h' : Hp} (K : Keep g h) {s s' : Sl} (N : NewB g s) (U : Upd h h' s s') : NewB g s' := by
  rcases U.at_ with h0 | ⟨b, hb, hn⟩
  · unfold NewB; rw [h0]; exact N
  · exact .inr ⟨b, hb, K.dom b hn⟩
structure Bf where
  s : Sl
  sz : Nat
  t : Nat
  vs : List Value
abbrev Key := Nat × Nat × Nat
abbrev Mem := Key → Option Bf
structure Mine (h0 h : Hp) (m : Mem) : Prop where
  keep : Keep h0 h
  buf : ∀ k x, m k = some x → Buf h x.s x.sz x.t x.vs
  new : ∀ k x, m k = some x → NewB h0 x.s
  off : ∀ k k' x x', k ≠ k' → m k = some x → m k' = some x' → Off x.s x'.s
def Mem.put (m : Mem) (k : Key) (x : Bf) : Mem := fun j => if j = k then some x else m j
theorem put_self (m : Mem) (k : Key) (x : Bf) : (m.put k x) k = some x := if_pos rfl
theorem put_ne (m : Mem) {k j : Key} (x : Bf) (h : j ≠ k) : (m.put k x) j = m j := if_neg h
theorem Mine.keepH {h0 h h' : Hp} {m : Mem} (O : Mine h0 h m) (K : Keep h h') : Mine h0 h' m := ⟨O.keep.trans K, fun k x e => (O.buf k x e).keep K, O.new, O.off⟩
theorem Mine.of_eq {h0 h : Hp} {m m' : Mem} (O : Mine h0 h m) (e : ∀ k, m' k = m k) : Mine h0 h m' := by
  have : m' = m := funext e
  rw [this]; exact O
theorem Mine.write {h0 h h' : Hp} {m : Mem} {k : Key} {x : Bf} {s' : Sl} {sz t : Nat} {vs : List Value} (O : Mine h0 h m) (hk : m k = some x) (U : Upd h h' x.s s') (B : Buf h' s' sz t vs) : Mine h0 h' (m.put k ⟨s', sz, t, vs⟩) := by
  have N := O.new k x hk
  have off1 : ∀ j y, j ≠ k → m j = some y → Off y.s s' ∧ Off s' y.s := fun j y hj e => by
    have o1 := O.off j k y x hj e hk
    have o2 := O.off k j x y (Ne.symm hj) hk e
    rcases U.at_ with h0' | hn
    · exact ⟨fun b p q e1 e2 => o1 b p q e1 (by rw [← h0']; exact e2), fun b p q e1 e2 => o2 b p q (by rw [← h0']; exact e1) e2⟩
    · exact NewB.off (.inr hn) (O.buf j y e)
  refine ⟨keepB O.keep N U, fun j y e => ?_, fun j y e => ?_, fun j j' y y' hne e e' => ?_⟩
  · unfold Mem.put at e
    by_cases hj : j = k
    · rw [if_pos hj] at e; cases e; exact B
    · rw [if_neg hj] at e
      exact (O.buf j y e).upd U (O.off j k y x hj e hk)
  · unfold Mem.put at e
    by_cases hj : j = k
    · rw [if_pos hj] at e; cases e; exact newB O.keep N U
    · rw [if_neg hj] at e; exact O.new j y e
  · unfold Mem.put at e e'
    by_cases hj : j = k
    · rw [if_pos hj] at e; cases e
      rw [if_neg (fun c => hne (by rw [hj, c]))] at e'
      exact (off1 j' y' (fun c => hne (by rw [hj, c])) e').2
    · rw [if_neg hj] at e
      by_cases hj' : j' = k
      · rw [if_pos hj'] at e'; cases e'
        exact (off1 j y hj e).1
      · rw [if_neg hj'] at e'
        exact O.off j j' y y' hne e e'
theorem Mine.add {h0 h h' : Hp} {m : Mem} {k : Key} {s : Sl} {sz t : Nat} {vs : List Value} (O : Mine h0 h m) (hk : m k = none) (K : Keep h h') (N : NewB h s) (B : Buf h' s sz t vs) : Mine h0 h' (m.put k ⟨s, sz, t, vs⟩) := by
  refine ⟨O.keep.trans K, fun j y e => ?_, fun j y e => ?_, fun j j' y y' hne e e' => ?_⟩
  · unfold Mem.put at e
    by_cases hj : j = k
    · rw [if_pos hj] at e; cases e; exact B
    · rw [if_neg hj] at e; exact (O.buf j y e).keep K
  · unfold Mem.put at e
    by_cases hj : j = k
    · rw [if_pos hj] at e; cases e; exact N.mono O.keep.dom
    · rw [if_neg hj] at e; exact O.new j y e
  · unfold Mem.put at e e'
    by_cases hj : j = k
    · rw [if_pos hj] at e; cases e
      rw [if_neg (fun c => hne (by rw [hj, c]))] at e'
      exact (N.off (O.buf j' y' e')).2
    · rw [if_neg hj] at e
      by_cases hj' : j' = k
      · rw [if_pos hj'] at e'; cases e'
        exact (N.off (O.buf j y e)).1
      · rw [if_neg hj'] at e'
        exact O.off j j' y y' hne e e'
theorem buf_new {h : Hp} {b t sz n : Nat} (vs : List Value) (hl : vs.length = n * sz) : Buf (h.new b (.cells ⟨vs⟩ t (0, 0))) ⟨some ⟨b, 0, none⟩, n, n⟩ sz t vs :=
  ⟨hl, Nat.le_refl _, .inr ⟨b, _, (0, 0), rfl, by unfold Hp.new; rw [if_pos rfl], by show n * sz ≤ vs.length; omega, fun j _ => by simp, by show vs.take vs.length = vs; exact List.take_length⟩⟩
theorem buf_wr {h : Hp} {s : Sl} {sz t : Nat} {A U V B : List Value} (Bf : Buf h s sz t (A ++ (U ++ B))) (hu : U.length = V.length) (h0 : 0 < U.length) : ∃ b, s.a = some ⟨b, 0, none⟩ ∧ h.canW b A.length V.length ∧ Upd h (h.wr b A.length V) s s ∧ Buf (h.wr b A.length V) s sz t (A ++ (V ++ B)) := by
  have app : ∀ (V A U B : List Value), U.length = V.length → setL (A ++ (U ++ B)) A.length V = A ++ (V ++ B) := fun V => by
    induction V with
    | nil => intro A U B h; have : U = [] := List.eq_nil_of_length_eq_zero h; subst this; rfl
    | cons v V ih =>
      intro A U B h
      rcases U with _ | ⟨u, U⟩
      · cases h
      unfold setL
      have e : (A ++ (u :: U ++ B)).set A.length v = (A ++ [v]) ++ (U ++ B) := by simp
      have l : A.length + 1 = (A ++ [v]).length := by simp
      rw [e, l, ih (A ++ [v]) U B (by simpa using h)]
      simp
  have slen : ∀ (vs c : List Value) (o : Nat), (setL c o vs).length = c.length := fun vs => by
    induction vs with
    | nil => intro c o; rfl
    | cons v vs ih => intro c o; unfold setL; rw [ih, List.length_set]
  have hlen0 : (A ++ (U ++ B)).length = A.length + (U.length + B.length) := by simp
  have hlen1 : (A ++ (V ++ B)).length = A.length + (U.length + B.length) := by simp [hu]
  rcases Bf.own with ⟨ha, hc⟩ | ⟨b, c, f, ha, hb, hsz, hf, ht⟩
  · have h1 := Bf.len
    have h2 := Bf.cap
    have : s.n = 0 := by omega
    rw [this, Nat.zero_mul] at h1
    omega
  · have hcl : (A ++ (U ++ B)).length ≤ c.size := by
      rw [Bf.len]
      exact Nat.le_trans (Nat.mul_le_mul_right _ Bf.cap) hsz
    have hct : c.toList = A ++ (U ++ (B ++ c.toList.drop (A ++ (U ++ B)).length)) := by
      have := List.take_append_drop (A ++ (U ++ B)).length c.toList
      rw [ht] at this
      rw [← this]
      simp
    have wrs : (h.wr b A.length V) b = some (.cells (setL c.toList A.length V).toArray t f) := by unfold Hp.wr; rw [if_pos rfl, hb]
    refine ⟨b, ha, ⟨c, t, f, hb, by omega, fun j h1 h2 => hf j (by omega)⟩, ⟨fun j x hj e => ?_, .inl rfl, fun j e => ?_⟩, ⟨by rw [hlen1, ← hlen0]; exact Bf.len, Bf.cap, .inr ⟨b, (setL c.toList A.length V).toArray, f, ha, wrs, ?_, ?_, ?_⟩⟩⟩
    · have hjb : j ≠ b := fun q => hj 0 (by rw [q]; exact ha)
      unfold Hp.wr
      rw [if_neg hjb]
      exact e
    · unfold Hp.wr at e
      by_cases hjb : j = b
      · rw [if_pos hjb, hb] at e; cases e
      · rw [if_neg hjb] at e; exact e
    · simp only [List.size_toArray, slen, Array.length_toList]; exact hsz
    · intro j hj
      simp only [List.size_toArray, slen, Array.length_toList] at hj
      exact hf j hj
    · show ((setL c.toList A.length V).take (A ++ (V ++ B)).length) = A ++ (V ++ B)
      rw [hct, app V A U _ hu, show A ++ (V ++ (B ++ c.toList.drop (A ++ (U ++ B)).length)) = (A ++ (V ++ B)) ++ c.toList.drop (A ++ (U ++ B)).length by simp, List.take_left' rfl]
theorem buf_wr1 {h : Hp} {s : Sl} {sz t k : Nat} {vs : List Value} (B : Buf h s sz t vs) (hk : k < vs.length) (v : Value) : ∃ b, s.a = some ⟨b, 0, none⟩ ∧ h.canW b k 1 ∧ Upd h (h.wr b k [v]) s s ∧ Buf (h.wr b k [v]) s sz t (vs.set k v) := by
  have e : vs = vs.take k ++ ([vs[k]] ++ vs.drop (k + 1)) := by
    have e := List.take_append_drop k vs
    rw [List.drop_eq_getElem_cons hk] at e
    exact e.symm
  have lt : (vs.take k).length = k := by rw [List.length_take]; omega
  have e2 : vs.set k v = vs.take k ++ ([v] ++ vs.drop (k + 1)) := by
    rw [List.set_eq_take_append_cons_drop, if_pos hk]; rfl
  have B' : Buf h s sz t (vs.take k ++ ([vs[k]] ++ vs.drop (k + 1))) := by rw [← e]; exact B
  obtain ⟨b, ha, hc, U, Bw⟩ := buf_wr (V := [v]) B' rfl (by simp)
  rw [lt] at hc U Bw
  rw [← e2] at Bw
  exact ⟨b, ha, hc, U, Bw⟩
theorem buf_at {h : Hp} {s : Sl} {sz t k : Nat} {vs : List Value} (B : Buf h s sz t vs) (hk : k < vs.length) : ∃ b, s.a = some ⟨b, 0, none⟩ ∧ h.at b (0 + k) = vs[k]? := by
  rcases B.own with ⟨ha, hc⟩ | ⟨b, c, f, ha, hb, hsz, hf, ht⟩
  · have h1 := B.len
    have h2 := B.cap
    have : s.n = 0 := by omega
    rw [this, Nat.zero_mul] at h1
    omega
  · refine ⟨b, ha, ?_⟩
    unfold Hp.at
    rw [hb, Nat.zero_add]
    show c[k]? = _
    rw [← ht, List.getElem?_take, if_pos hk, Array.getElem?_toList]
def markL (mk : Nat → List Value) (k : Nat) : List Value := (List.range k).flatMap mk
theorem markL_succ (mk : Nat → List Value) (k : Nat) : markL mk (k + 1) = markL mk k ++ mk k := by unfold markL; rw [List.range_succ, List.flatMap_append]; simp
theorem flatL {α : Type} (f : α → List Value) (sz : Nat) (hf : ∀ x, (f x).length = sz) : ∀ l : List α, (l.flatMap f).length = l.length * sz
  | [] => by simp
  | x :: l => by rw [List.flatMap_cons, List.length_append, hf, flatL f sz hf l, List.length_cons, Nat.add_mul]; omega
theorem markL_len {mk : Nat → List Value} {sz : Nat} (h : ∀ j, (mk j).length = sz) (k : Nat) : (markL mk k).length = k * sz := by
  unfold markL; rw [flatL mk sz h, List.length_range]
theorem flatG {α : Type} (f : α → List Value) (sz : Nat) (hf : ∀ x, (f x).length = sz) : ∀ (l : List α) (i c : Nat) (hi : i < l.length), c < sz → (l.flatMap f)[i * sz + c]? = (f l[i])[c]?
  | [], i, c, hi, _ => absurd hi (by simp)
  | x :: l, 0, c, _, hc => by rw [List.flatMap_cons, List.getElem?_append_left (by rw [hf]; omega)]; simp
  | x :: l, i + 1, c, hi, hc => by
    rw [List.flatMap_cons, List.getElem?_append_right (by rw [hf, Nat.add_mul]; omega), hf, show (i + 1) * sz + c - sz = i * sz + c by rw [Nat.add_mul]; omega]
    exact flatG f sz hf l i c (by simpa using hi) hc
theorem mark_at {mk : Nat → List Value} {sz m : Nat} (hm : ∀ j, (mk j).length = sz) {us : List Value} {n : Nat} (hus : us.length = n * sz) {j c : Nat} (hj : j < m) (hc : c < sz) : (us ++ markL mk m)[(n + j) * sz + c]? = (mk j)[c]? := by
  have h2 : (n + j) * sz = n * sz + j * sz := Nat.add_mul _ _ _
  rw [List.getElem?_append_right (by omega), show (n + j) * sz + c - us.length = j * sz + c by omega]
  unfold markL
  rw [flatG mk sz hm (List.range m) j c (by rw [List.length_range]; exact hj) hc, List.getElem_range]
theorem nx_i {k n : Nat} (hk : k < n) (hn : n < 9223372036854775807) : IntKind.wrap .i64 ((k : Int) + 1) = ((k + 1 : Nat) : Int) := by rw [wrap_i64 (by omega) (by omega)]; omega
theorem lay_own {h0 h : Hp} {m : Mem} {kr kw kn kd : Key} {pb slot R tr tw ti t sz bytes M : Nat} {mk : Nat → List Value} {z us ws ns cs : List Value} {G : Int → Hp → (List Value → Hp → Prop) → Prop} {w n l : Sl} {Q : Value → Hp → Prop}
    (hG : ∀ (j : Nat) h K, K (mk j) h → G (j : Int) h K) (hmk : ∀ j, (mk j).length = sz) (hz : z.length = sz) (hone : ∀ v ∈ us, Value.oneCell' v = true)
    (O : Mine h0 h m) (er : m kr = some ⟨⟨some ⟨pb, 0, none⟩, 1, 1⟩, R, tr, cs⟩) (ew : m kw = some ⟨w, 1, tw, ws⟩) (en : m kn = some ⟨n, 1, ti, ns⟩) (ed : m kd = none)
    (n1 : kw ≠ kr) (n2 : kn ≠ kr) (n3 : kw ≠ kn) (hslot : slot + 1 < R) (hw : cs[slot]? = some (.slice w.a w.n w.c)) (hn : cs[slot + 1]? = some (.slice n.a n.n n.c))
    (hr : h.row l.a (l.n * sz) us) (hb : (l.n + M) * bytes ≤ 140737488355328) (hM : M ≤ 100000) (hb0 : 0 < bytes) (hws : ws.length ≤ 100000) (hns : ns.length ≤ 100000)
    (hQ : ∀ h' w' n' s, Mine h0 h' ((((m.put kd ⟨s, sz, t, us ++ markL mk M⟩).put kw ⟨w', 1, tw, ws ++ [.slice s.a s.n s.c]⟩).put kn ⟨n', 1, ti, ns ++ [.int .i64 (l.n : Int)]⟩).put kr ⟨⟨some ⟨pb, 0, none⟩, 1, 1⟩, R, tr, (cs.set slot (.slice w'.a w'.n w'.c)).set (slot + 1) (.slice n'.a n'.n n'.c)⟩) → s.n = l.n + M → s.n ≤ s.c → (∃ b, s.a = some ⟨b, 0, none⟩) →
      Q (.slice (Sl.cut s sz 0 (l.n : Int) (s.n : Int)).a (Sl.cut s sz 0 (l.n : Int) (s.n : Int)).n (Sl.cut s sz 0 (l.n : Int) (s.n : Int)).c) h') :
    nw h (.cells ⟨[]⟩ t (0, 0)) fun b h1 => ∃ vs, h1.row l.a (l.n * sz) vs ∧ (∀ v ∈ vs, Value.oneCell' v = true) ∧ appendD ⟨(some ⟨b, 0, none⟩), 0, 0⟩ t sz bytes z l.n vs h1 fun l1 h2 => ∃ (I : Sl → Int → Hp → Prop) (m : Sl → Int → Hp → Nat), I l1 0 h2 ∧ (∀ l2 : Sl, ∀ n1 : Int, ∀ h3 : Hp, I l2 n1 h3 → par (n1 < (M : Int)) (G n1 h3 fun us h4 => appendD l2 t sz bytes z 1 us h4 fun l3 h5 => I l3 (IntKind.wrap .i64 (n1 + 1)) h5 ∧ m l3 (IntKind.wrap .i64 (n1 + 1)) h5 < m l2 n1 h3) (dr (some ⟨pb, 0, none⟩) fun b1 o => ldS h3 b1 (o + slot) fun l4 => appendD l4 tw 1 24 [.slice none 0 0] 1 [.slice l2.a l2.n l2.c] h3 fun l5 h6 => dr (some ⟨pb, 0, none⟩) fun b2 o1 => st h6 b2 (o1 + slot) 1 [.slice l5.a l5.n l5.c] fun h7 => dr (some ⟨pb, 0, none⟩) fun b3 o2 => ldS h7 b3 (o2 + (slot + 1)) fun l6 => appendD l6 ti 1 8 [.int .i64 0] 1 [.int .i64 (l.n : Int)] h7 fun l7 h8 => dr (some ⟨pb, 0, none⟩) fun b4 o3 => st h8 b4 (o3 + (slot + 1)) 1 [.slice l7.a l7.n l7.c] fun h9 => Sl.okCut l2 0 (l.n : Int) (l2.n : Int) ∧ Q (.slice (Sl.cut l2 sz 0 (l.n : Int) (l2.n : Int)).a (Sl.cut l2 sz 0 (l.n : Int) (l2.n : Int)).n (Sl.cut l2 sz 0 (l.n : Int) (l2.n : Int)).c) h9)) := by
  intro b hbn
  have hus := hr.1
  have nd1 : kd ≠ kr := fun e => by rw [e, er] at ed; cases ed
  have nd2 : kd ≠ kw := fun e => by rw [e, ew] at ed; cases ed
  have nd3 : kd ≠ kn := fun e => by rw [e, en] at ed; cases ed
  have k0 := Keep.new hbn (.cells ⟨[]⟩ t (0, 0))
  have B0 := buf_new (h := h) (b := b) (t := t) (sz := sz) (n := 0) [] (by simp)
  have O0 := O.add ed k0 (.inr ⟨b, rfl, hbn⟩) B0
  have r0 := k0.row hr
  generalize h.new b (.cells ⟨[]⟩ t (0, 0)) = h1 at k0 B0 O0 r0 ⊢
  refine ⟨us, r0, hone, ?_⟩
  have mulle : ∀ x : Nat, x ≤ l.n + M → x * bytes ≤ 140737488355328 := fun x hx => Nat.le_trans (Nat.mul_le_mul_right _ hx) hb
  have hlM : l.n + M ≤ 140737488355328 := Nat.le_trans (Nat.le_mul_of_pos_right _ hb0) hb
  refine append_buf B0 hz (by rw [hus]) (mulle _ (by show 0 + l.n ≤ _; omega)) fun s1 h2 B1 hn1 U1 => ?_
  rw [List.nil_append] at B1
  have O1 := O0.write (put_self _ _ _) U1 B1
  have put2 : ∀ (x y : Bf), (m.put kd x).put kd y = m.put kd y := fun x y => funext fun j => by
    unfold Mem.put; by_cases hj : j = kd
    · rw [if_pos hj, if_pos hj]
    · rw [if_neg hj, if_neg hj, if_neg hj]
  rw [put2] at O1
  have hs1 : ∃ b, s1.a = some ⟨b, 0, none⟩ := by
    rcases U1.at_ with h0' | ⟨b', e', _⟩
    · exact ⟨b, h0'⟩
    · exact ⟨b', e'⟩
  refine ⟨fun l2 n1 h3 => ∃ j : Nat, n1 = (j : Int) ∧ j ≤ M ∧ Mine h0 h3 (m.put kd ⟨l2, sz, t, us ++ markL mk j⟩) ∧ l2.n = l.n + j ∧ ∃ b, l2.a = some ⟨b, 0, none⟩, fun _ n1 _ => M - n1.toNat, ⟨0, rfl, Nat.zero_le _, by simpa [markL] using O1, by rw [hn1]; show 0 + l.n = _; omega, hs1⟩, ?_⟩
  rintro l2 n1 h3 ⟨j, rfl, hj, O2, l2n, ba⟩
  have B2 : Buf h3 l2 sz t (us ++ markL mk j) := O2.buf kd _ (put_self _ _ _)
  refine ⟨fun hlt => hG _ _ _ ?_, fun hge => ?_⟩
  · have w3 : IntKind.wrap .i64 ((j : Int) + 1) = ((j + 1 : Nat) : Int) := nx_i (n := M) (by omega) (by omega)
    refine append_buf B2 hz (by rw [hmk, Nat.one_mul]) (mulle _ (by omega)) fun l3 h4 B4 hn4 U4 => ?_
    rw [w3]
    have O4 := O2.write (put_self _ _ _) U4 B4
    rw [put2] at O4
    refine ⟨⟨j + 1, rfl, by omega, ?_, by omega, ?_⟩, by dsimp only; omega⟩
    · rw [markL_succ, ← List.append_assoc]
      exact O4
    · obtain ⟨b', hb'⟩ := ba
      rcases U4.at_ with h0' | ⟨c', e', _⟩
      · exact ⟨b', by rw [h0']; exact hb'⟩
      · exact ⟨c', e'⟩
  · have hjM : j = M := by omega
    subst hjM
    have er2 : (m.put kd ⟨l2, sz, t, us ++ markL mk j⟩) kr = some ⟨⟨some ⟨pb, 0, none⟩, 1, 1⟩, R, tr, cs⟩ := by rw [put_ne _ _ (Ne.symm nd1)]; exact er
    have ew2 : (m.put kd ⟨l2, sz, t, us ++ markL mk j⟩) kw = some ⟨w, 1, tw, ws⟩ := by rw [put_ne _ _ (Ne.symm nd2)]; exact ew
    have en2 : (m.put kd ⟨l2, sz, t, us ++ markL mk j⟩) kn = some ⟨n, 1, ti, ns⟩ := by rw [put_ne _ _ (Ne.symm nd3)]; exact en
    have BR := O2.buf kr _ er2
    have BW := O2.buf kw _ ew2
    have hcl : cs.length = R := by have := BR.len; simpa using this
    have hwn : w.n = ws.length := by have := BW.len; simp only [Nat.mul_one] at this; omega
    obtain ⟨b1, hb1, g1⟩ := buf_at BR (k := slot) (by show slot < cs.length; omega)
    cases hb1
    refine ⟨pb, 0, rfl, w, by rw [g1]; exact hw, ?_⟩
    refine append_buf BW rfl rfl (by omega) fun l5 h6 B5 hn5 U5 => ?_
    have O5 := O2.write ew2 U5 B5
    have er5 : ((m.put kd ⟨l2, sz, t, us ++ markL mk j⟩).put kw ⟨l5, 1, tw, ws ++ [.slice l2.a l2.n l2.c]⟩) kr = some ⟨⟨some ⟨pb, 0, none⟩, 1, 1⟩, R, tr, cs⟩ := by rw [put_ne _ _ (Ne.symm n1)]; exact er2
    obtain ⟨b2, hb2, c2, U6, B6⟩ := buf_wr1 (O5.buf kr _ er5) (k := slot) (by show slot < cs.length; omega) (.slice l5.a l5.n l5.c)
    cases hb2
    have O6 := O5.write er5 U6 B6
    refine ⟨pb, 0, rfl, ?_⟩
    dsimp only
    rw [Nat.zero_add]
    refine ⟨c2, pb, 0, rfl, ?_⟩
    generalize h6.wr pb slot [.slice l5.a l5.n l5.c] = h7 at U6 B6 O6 ⊢
    have en6 : (((m.put kd ⟨l2, sz, t, us ++ markL mk j⟩).put kw ⟨l5, 1, tw, ws ++ [.slice l2.a l2.n l2.c]⟩).put kr ⟨⟨some ⟨pb, 0, none⟩, 1, 1⟩, R, tr, cs.set slot (.slice l5.a l5.n l5.c)⟩) kn = some ⟨n, 1, ti, ns⟩ := by rw [put_ne _ _ n2, put_ne _ _ (Ne.symm n3)]; exact en2
    have BN := O6.buf kn _ en6
    have hnn : n.n = ns.length := by have := BN.len; simp only [Nat.mul_one] at this; omega
    obtain ⟨b3, hb3, g3⟩ := buf_at B6 (k := slot + 1) (by rw [List.length_set]; show slot + 1 < cs.length; omega)
    cases hb3
    refine ⟨n, by rw [g3, List.getElem?_set_ne (by omega)]; exact hn, ?_⟩
    refine append_buf BN rfl rfl (by omega) fun l7 h8 B7 hn7 U7 => ?_
    have O7 := O6.write en6 U7 B7
    have er7 : ((((m.put kd ⟨l2, sz, t, us ++ markL mk j⟩).put kw ⟨l5, 1, tw, ws ++ [.slice l2.a l2.n l2.c]⟩).put kr ⟨⟨some ⟨pb, 0, none⟩, 1, 1⟩, R, tr, cs.set slot (.slice l5.a l5.n l5.c)⟩).put kn ⟨l7, 1, ti, ns ++ [.int .i64 (l.n : Int)]⟩) kr = some ⟨⟨some ⟨pb, 0, none⟩, 1, 1⟩, R, tr, cs.set slot (.slice l5.a l5.n l5.c)⟩ := by rw [put_ne _ _ (Ne.symm n2)]; exact put_self _ _ _
    obtain ⟨b4, hb4, c4, U8, B8⟩ := buf_wr1 (O7.buf kr _ er7) (k := slot + 1) (by show slot + 1 < (cs.set slot _).length; rw [List.length_set]; omega) (.slice l7.a l7.n l7.c)
    cases hb4
    have O8 := O7.write er7 U8 B8
    refine ⟨pb, 0, rfl, ?_⟩
    dsimp only
    rw [Nat.zero_add]
    have cap2 := B2.cap
    refine ⟨c4, ⟨by decide, by omega, by omega, by omega⟩, ?_⟩
    refine hQ _ l5 l7 l2 (O8.of_eq fun k => ?_) l2n cap2 ba
    unfold Mem.put
    by_cases h1 : k = kr
    · rw [if_pos h1, if_pos h1]
    · rw [if_neg h1, if_neg h1]
      by_cases h2 : k = kn
      · rw [if_pos h2, if_pos h2]
      · rw [if_neg h2, if_neg h2, if_neg h1]
theorem hold_own {h : Hp} {pb slot R tr tw ti M : Nat} {cs : List Value} {ls : List (Sl × Nat)} {w n : Sl} {Q : Value → Hp → Prop} {BODY : Nat → Nat → Int → Int → Hp → (Hp → Prop) → Prop}
    (BR : Buf h ⟨some ⟨pb, 0, none⟩, 1, 1⟩ R tr cs) (BW : Buf h w 1 tw (ls.map fun x => .slice x.1.a x.1.n x.1.c)) (BN : Buf h n 1 ti (ls.map fun x => .int .i64 (x.2 : Int))) (hslot : slot + 1 < R) (hw : cs[slot]? = some (.slice w.a w.n w.c)) (hn : cs[slot + 1]? = some (.slice n.a n.n n.c))
    (hl : ∀ x ∈ ls, x.1.n = x.2 + M ∧ x.1.n < 9223372036854775807) (hls : ls.length ≤ 100000)
    (hB : ∀ x ∈ ls, ∀ j, j < M → ∀ P : Hp → Prop, P h → ∃ b o, x.1.a = some ⟨b, o, none⟩ ∧ BODY b o ((x.2 + j : Nat) : Int) (x.2 : Int) h P)
    (hQ : Q (.bool true) h) : ∃ (I : Int → Hp → Prop) (m : Int → Hp → Nat), I 0 h ∧ (∀ n : Int, ∀ h1 : Hp, I n h1 → dr (some ⟨pb, 0, none⟩) fun b o => ldS h1 b (o + slot) fun l => par (n < (l.n : Int)) (dr (some ⟨pb, 0, none⟩) fun b1 o1 => ldS h1 b1 (o1 + (slot + 1)) fun l1 => ix l1.a n l1.n fun b2 o2 => ldI .i64 h1 b2 (o2 + n.toNat) fun n1 => ∃ (I1 : Int → Hp → Prop) (m1 : Int → Hp → Nat), I1 n1 h1 ∧ (∀ n2 : Int, ∀ h2 : Hp, I1 n2 h2 → dr (some ⟨pb, 0, none⟩) fun b3 o3 => ldS h2 b3 (o3 + slot) fun l2 => ix l2.a n l2.n fun b4 o4 => ldS h2 b4 (o4 + n.toNat) fun l3 => par (n2 < (l3.n : Int)) (dr (some ⟨pb, 0, none⟩) fun b5 o5 => ldS h2 b5 (o5 + slot) fun l4 => ix l4.a n l4.n fun b6 o6 => ldS h2 b6 (o6 + n.toNat) fun l5 => ix l5.a n2 l5.n fun b7 o7 => BODY b7 o7 n2 n1 h2 fun h3 => I1 (IntKind.wrap .i64 (n2 + 1)) h3 ∧ m1 (IntKind.wrap .i64 (n2 + 1)) h3 < m1 n2 h2) (I (IntKind.wrap .i64 (n + 1)) h2 ∧ m (IntKind.wrap .i64 (n + 1)) h2 < m n h1))) (Q (.bool true) h1)) := by
  have hcl : cs.length = R := by have := BR.len; simpa using this
  have hwn : w.n = ls.length := by have := BW.len; simp only [List.length_map, Nat.mul_one] at this; omega
  have hnn : n.n = ls.length := by have := BN.len; simp only [List.length_map, Nat.mul_one] at this; omega
  obtain ⟨b1, hb1, g1⟩ := buf_at BR (k := slot) (by omega)
  cases hb1
  rw [hw] at g1
  obtain ⟨b1, hb1, g2⟩ := buf_at BR (k := slot + 1) (by omega)
  cases hb1
  rw [hn] at g2
  refine ⟨fun n h1 => ∃ i : Nat, n = (i : Int) ∧ i ≤ ls.length ∧ h1 = h, fun n _ => ls.length - n.toNat, ⟨0, rfl, Nat.zero_le _, rfl⟩, ?_⟩
  rintro n2 h1 ⟨i, rfl, hi, rfl⟩
  refine ⟨pb, 0, rfl, w, g1, fun hlt => ?_, fun _ => hQ⟩
  have hi1 : i < ls.length := by omega
  have hx := List.getElem_mem hi1
  obtain ⟨x1, x2⟩ := hl _ hx
  obtain ⟨b2, ha2, c2⟩ := buf_at BN (k := i) (by rw [List.length_map]; exact hi1)
  obtain ⟨b4, ha4, c4⟩ := buf_at BW (k := i) (by rw [List.length_map]; exact hi1)
  rw [List.getElem?_map, List.getElem?_eq_getElem hi1] at c2 c4
  refine ⟨pb, 0, rfl, n, g2, b2, 0, ha2, ⟨by omega, by omega⟩, _, by rw [Int.toNat_natCast]; exact c2, ?_⟩
  refine ⟨fun n2 h2 => ∃ j : Nat, n2 = ((ls[i].2 + j : Nat) : Int) ∧ j ≤ M ∧ h2 = h1, fun n2 _ => ls[i].2 + M - n2.toNat, ⟨0, rfl, Nat.zero_le _, rfl⟩, ?_⟩
  rintro n3 h2 ⟨j, rfl, hj, rfl⟩
  refine ⟨pb, 0, rfl, w, g1, b4, 0, ha4, ⟨by omega, by omega⟩, _, by rw [Int.toNat_natCast]; exact c4, fun hlt2 => ?_, fun hge2 => ?_⟩
  · have hj4 : j < M := by omega
    have w2 : IntKind.wrap .i64 (((ls[i].2 + j : Nat) : Int) + 1) = ((ls[i].2 + (j + 1) : Nat) : Int) := by rw [wrap_i64 (by omega) (by omega)]; omega
    obtain ⟨b7, o7, ha7, hbody⟩ := hB _ hx j hj4 (fun h3 => h3 = h2) rfl
    obtain ⟨b8, o8, ha8, hbody⟩ := hB _ hx j hj4 (fun h3 => (∃ j' : Nat, IntKind.wrap .i64 (((ls[i].2 + j : Nat) : Int) + 1) = ((ls[i].2 + j' : Nat) : Int) ∧ j' ≤ M ∧ h3 = h2) ∧ ls[i].2 + M - (IntKind.wrap .i64 (((ls[i].2 + j : Nat) : Int) + 1)).toNat < ls[i].2 + M - (((ls[i].2 + j : Nat) : Int)).toNat) ⟨⟨j + 1, w2, by omega, rfl⟩, by rw [w2]; omega⟩
    exact ⟨pb, 0, rfl, w, g1, b4, 0, ha4, ⟨by omega, by omega⟩, _, by rw [Int.toNat_natCast]; exact c4, b8, o8, ha8, ⟨by omega, hlt2⟩, hbody⟩
  · rw [nx_i hi1 (by omega)]
    exact ⟨⟨i + 1, rfl, hi1, rfl⟩, by dsimp only; omega⟩
theorem hold_nil {h : Hp} {pb slot : Nat} {R : Hp → Prop} {A : (Int → Hp → Prop) → (Int → Hp → Nat) → Int → Hp → Sl → Prop} (hc : h.at pb (0 + slot) = some (.slice none 0 0)) (hQ : R h) : ∃ (I : Int → Hp → Prop) (m : Int → Hp → Nat), I 0 h ∧ (∀ n : Int, ∀ h1 : Hp, I n h1 → dr (some ⟨pb, 0, none⟩) fun b o => ldS h1 b (o + slot) fun l => par (n < (l.n : Int)) (A I m n h1 l) (R h1)) := by
  refine ⟨fun n h1 => n = 0 ∧ h1 = h, fun _ _ => 0, ⟨rfl, rfl⟩, ?_⟩
  rintro n h1 ⟨rfl, rfl⟩
  exact ⟨pb, 0, rfl, ⟨none, 0, 0⟩, hc, fun h0 => absurd h0 (by decide), fun _ => hQ⟩
end Go.Eng
end
section
set_option maxRecDepth 100000
namespace Go.Eng.YtbjnlacacapjiaaGreat
theorem weight_bd (ts : List Tab) : ∀ (a : Int) (k : Nat), (∀ t ∈ ts, 0 ≤ t.weight ∧ t.weight < 2147483648) → k + ts.length ≤ 1000 → 0 ≤ a → a ≤ 2147483648 * (k : Int) → 0 ≤ ts.foldl (fun n t => IntKind.wrap .i64 (n + t.weight)) a ∧ ts.foldl (fun n t => IntKind.wrap .i64 (n + t.weight)) a ≤ 2147483648 * ((k + ts.length : Nat) : Int) := by
  induction ts with
  | nil => intro a k _ _ h0 h1; exact ⟨h0, h1⟩
  | cons t ts ih =>
    intro a k hw hl h0 h1
    obtain ⟨w0, w1⟩ := hw t List.mem_cons_self
    rw [List.length_cons] at hl ⊢
    rw [List.foldl_cons, wrap_i64 (n := a + t.weight) (by omega) (by omega)]
    have := ih (a + t.weight) (k + 1) (fun u hu => hw u (List.mem_cons_of_mem _ hu)) (by omega) (by omega) (by omega)
    rw [show k + (ts.length + 1) = k + 1 + ts.length by omega]
    exact this
theorem pk_ok {xs : List (Sl × List Tab)} (hl : 3 ≤ xs.length ∧ xs.length ≤ 5) (ht : totL (xs.map (·.2)) ≤ 400) (hw : ∀ l ∈ xs.map (·.2), ∀ t ∈ l, 0 ≤ t.weight ∧ t.weight < 2147483648) : PkOk xs := by
  have sz : ∀ x ∈ xs, x.2.length ≤ 400 := fun x hx => totL_le ht x.2 (List.mem_map.2 ⟨x, hx, rfl⟩)
  refine ⟨hl, fun x hx => Nat.le_trans (sz x hx) (by omega), fun i => ?_⟩
  have key : (tabsI xs i).length ≤ 400 ∧ ∀ t ∈ tabsI xs i, 0 ≤ t.weight ∧ t.weight < 2147483648 := by
    unfold tabsI
    split
    · exact ⟨by simp, fun t ht => by cases ht⟩
    · split
      · next x hx =>
        have := List.mem_of_getElem? hx
        exact ⟨sz x this, hw x.2 (List.mem_map.2 ⟨x, this, rfl⟩)⟩
      · exact ⟨by simp, fun t ht => by cases ht⟩
  have := weight_bd (tabsI xs i) 0 0 key.2 (by omega) (Int.le_refl _) (by omega)
  unfold weightW
  exact ⟨this.1, by omega⟩
def lotI (j : Nat) : Int := if j % 2 = 0 then -7701 else -7702
def lotU (j : Nat) : List Value := [.int .u64 (IntKind.wrap .u64 (lotI j))]
def wordB (j : Nat) : ByteArray := if j % 2 = 0 then ByteArray.mk #[60, 111, 110, 101, 62] else ByteArray.mk #[60, 116, 119, 111, 62]
def wordV (j : Nat) : List Value := [.string (wordB j)]
def rcs (n nn t tn : Sl) : List Value := [.slice none 0 0, .slice none 0 0, .slice none 0 0, .slice none 0 0, .slice n.a n.n n.c, .slice nn.a nn.n nn.c, .slice t.a t.n t.c, .slice tn.a tn.n tn.c, .slice none 0 0, .slice none 0 0, .slice none 0 0, .slice none 0 0, .slice none 0 0, .slice none 0 0, .slice none 0 0, .slice none 0 0, .slice none 0 0, .slice none 0 0, .slice none 0 0, .slice none 0 0, .slice none 0 0, .slice none 0 0, .slice none 0 0, .slice none 0 0, .slice none 0 0, .slice none 0 0, .slice none 0 0, .slice none 0 0]
def nilS : Sl := ⟨none, 0, 0⟩
def slc (s : Sl) : Value := .slice s.a s.n s.c
def memR (pb : Nat) (n nn t tn st sn : Sl) (np nl : Int) (vt vn : List Value) : Mem := fun k =>
  if k = (0, 0, 0) then some ⟨⟨some ⟨pb, 0, none⟩, 1, 1⟩, 28, 49, rcs n nn t tn⟩ else
  if k = (2, 1, 0) then some ⟨nn, 1, 3, [.int .i64 nl]⟩ else
  if k = (1, 1, 0) then some ⟨n, 1, 26, [slc sn]⟩ else
  if k = (3, 1, 0) then some ⟨sn, 1, 55, vn⟩ else
  if k = (2, 0, 0) then some ⟨tn, 1, 3, [.int .i64 np]⟩ else
  if k = (1, 0, 0) then some ⟨t, 1, 25, [slc st]⟩ else
  if k = (3, 0, 0) then some ⟨st, 1, 9, vt⟩ else none
structure RmA (g h : Hp) (pb : Nat) (n nn t tn st sn : Sl) (P : List ByteArray) (L : List Int) : Prop where
  O : Mine g h (memR pb n nn t tn st sn (P.length : Int) (L.length : Int) (ptrV P ++ markL wordV 40) (uvs L ++ markL lotU 40))
  lt : st.n = P.length + 40 ∧ st.n ≤ st.c
  ln : sn.n = L.length + 40 ∧ sn.n ≤ sn.c
section
variable {g h h' : Hp} {pb : Nat} {n nn t tn st sn l : Sl} {P : List ByteArray} {L : List Int}
theorem RmA.br (R : RmA g h pb n nn t tn st sn P L) : Buf h ⟨some ⟨pb, 0, none⟩, 1, 1⟩ 28 49 (rcs n nn t tn) := R.O.buf (0, 0, 0) ⟨⟨some ⟨pb, 0, none⟩, 1, 1⟩, 28, 49, rcs n nn t tn⟩ (by simp [memR])
theorem RmA.bw (R : RmA g h pb n nn t tn st sn P L) : Buf h n 1 26 [slc sn] := R.O.buf (1, 1, 0) ⟨n, 1, 26, [slc sn]⟩ (by simp [memR])
theorem RmA.bwn (R : RmA g h pb n nn t tn st sn P L) : Buf h nn 1 3 [.int .i64 (L.length : Int)] := R.O.buf (2, 1, 0) ⟨nn, 1, 3, [.int .i64 (L.length : Int)]⟩ (by simp [memR])
theorem RmA.bv (R : RmA g h pb n nn t tn st sn P L) : Buf h t 1 25 [slc st] := R.O.buf (1, 0, 0) ⟨t, 1, 25, [slc st]⟩ (by simp [memR])
theorem RmA.bvn (R : RmA g h pb n nn t tn st sn P L) : Buf h tn 1 3 [.int .i64 (P.length : Int)] := R.O.buf (2, 0, 0) ⟨tn, 1, 3, [.int .i64 (P.length : Int)]⟩ (by simp [memR])
theorem RmA.bt (R : RmA g h pb n nn t tn st sn P L) : Buf h st 1 9 (ptrV P ++ markL wordV 40) := R.O.buf (3, 0, 0) ⟨st, 1, 9, ptrV P ++ markL wordV 40⟩ (by simp [memR])
theorem RmA.bn (R : RmA g h pb n nn t tn st sn P L) : Buf h sn 1 55 (uvs L ++ markL lotU 40) := R.O.buf (3, 1, 0) ⟨sn, 1, 55, uvs L ++ markL lotU 40⟩ (by simp [memR])
end
theorem uvs_length (L : List Int) : (uvs L).length = L.length := by unfold uvs; exact List.length_map _
theorem buf_take {h : Hp} {s : Sl} {t : Nat} {A B : List Value} (Bf : Buf h s 1 t (A ++ B)) {n : Nat} (hA : A.length = n) (c : Nat) : h.row (Sl.mk s.a n c).a (Sl.mk s.a n c).n A := by
  have r := Bf.row
  rw [Nat.mul_one] at r
  refine ⟨hA, ?_⟩
  have hl := r.1
  rw [List.length_append] at hl
  rcases Nat.eq_zero_or_pos n with h0 | h0
  · exact .inl h0
  · obtain ⟨b, o, ha, hat⟩ := row_get r (i := 0) (by omega)
    refine .inr ⟨b, o, ha, fun j hj => ?_⟩
    have hj : j < n := hj
    rw [hat j (by omega), List.getElem?_append_left (by omega)]
section
variable {g h h' : Hp} {pb : Nat} {n nn t tn st sn l : Sl} {P : List ByteArray} {L : List Int} {Q : Value → Hp → Prop}
theorem lot_s {j : Nat} (hQ : Q (.int .i64 (lotI j)) h) : F55.T (j : Int) h Q := by
  have e : Int.tmod (j : Int) 2 = ((j % 2 : Nat) : Int) := by rw [Int.tmod_eq_emod_of_nonneg (by omega)]; omega
  refine ⟨by decide, fun h0 => ?_, fun h0 => ?_⟩
  · unfold lotI at hQ; rw [if_pos (by omega)] at hQ; exact hQ
  · unfold lotI at hQ; rw [if_neg (by omega)] at hQ; exact hQ
theorem word_s {j : Nat} (hQ : Q (.string (wordB j)) h) : F54.T (j : Int) h Q := by
  have e : Int.tmod (j : Int) 2 = ((j % 2 : Nat) : Int) := by rw [Int.tmod_eq_emod_of_nonneg (by omega)]; omega
  refine ⟨by decide, fun h0 => ?_, fun h0 => ?_⟩
  · unfold wordB at hQ; rw [if_pos (by omega)] at hQ; exact hQ
  · unfold wordB at hQ; rw [if_neg (by omega)] at hQ; exact hQ
theorem RmA.keep (R : RmA g h pb n nn t tn st sn P L) (K : Keep h h') : RmA g h' pb n nn t tn st sn P L := ⟨R.O.keepH K, R.lt, R.ln⟩
theorem RmA.rt (R : RmA g h pb n nn t tn st sn P L) : h.row (Sl.mk st.a P.length st.n).a (Sl.mk st.a P.length st.n).n (ptrV P) := buf_take R.bt (ptrV_length P) _
theorem RmA.rn (R : RmA g h pb n nn t tn st sn P L) : h.row (Sl.mk sn.a L.length sn.n).a (Sl.mk sn.a L.length sn.n).n (uvs L) := buf_take R.bn (uvs_length L) _
theorem nil35_s (hc : h.at pb (0 + 0) = some (.slice none 0 0)) (hQ : Q (.bool true) h) : F35.T (some ⟨pb, 0, none⟩) h Q := by
  unfold F35.T F35.G
  exact hold_nil hc hQ
theorem nil36_s (hc : h.at pb (0 + 2) = some (.slice none 0 0)) (hQ : Q (.bool true) h) : F36.T (some ⟨pb, 0, none⟩) h Q := by
  unfold F36.T F36.G
  exact hold_nil hc hQ
theorem nil39_s (hc : h.at pb (0 + 8) = some (.slice none 0 0)) (hQ : Q (.bool true) h) : F39.T (some ⟨pb, 0, none⟩) h Q := by
  unfold F39.T F39.G
  exact hold_nil hc hQ
theorem nil40_s (hc : h.at pb (0 + 10) = some (.slice none 0 0)) (hQ : Q (.bool true) h) : F40.T (some ⟨pb, 0, none⟩) h Q := by
  unfold F40.T F40.G
  exact hold_nil hc hQ
theorem nil41_s (hc : h.at pb (0 + 12) = some (.slice none 0 0)) (hQ : Q (.bool true) h) : F41.T (some ⟨pb, 0, none⟩) h Q := by
  unfold F41.T F41.G
  exact hold_nil hc hQ
theorem nil42_s (hc : h.at pb (0 + 14) = some (.slice none 0 0)) (hQ : Q (.bool true) h) : F42.T (some ⟨pb, 0, none⟩) h Q := by
  unfold F42.T F42.G
  exact hold_nil hc hQ
theorem nil43_s (hc : h.at pb (0 + 16) = some (.slice none 0 0)) (hQ : Q (.bool true) h) : F43.T (some ⟨pb, 0, none⟩) h Q := by
  unfold F43.T F43.G
  exact hold_nil hc hQ
theorem nil44_s (hc : h.at pb (0 + 18) = some (.slice none 0 0)) (hQ : Q (.bool true) h) : F44.T (some ⟨pb, 0, none⟩) h Q := by
  unfold F44.T F44.G
  exact hold_nil hc hQ
theorem nil45_s (hc : h.at pb (0 + 20) = some (.slice none 0 0)) (hQ : Q (.bool true) h) : F45.T (some ⟨pb, 0, none⟩) h Q := by
  unfold F45.T F45.G
  exact hold_nil hc hQ
theorem nil46_s (hc : h.at pb (0 + 22) = some (.slice none 0 0)) (hQ : Q (.bool true) h) : F46.T (some ⟨pb, 0, none⟩) h Q := by
  unfold F46.T F46.G
  exact hold_nil hc hQ
theorem nil47_s (hc : h.at pb (0 + 24) = some (.slice none 0 0)) (hQ : Q (.bool true) h) : F47.T (some ⟨pb, 0, none⟩) h Q := by
  unfold F47.T F47.G
  exact hold_nil hc hQ
theorem nil48_s (hc : h.at pb (0 + 26) = some (.slice none 0 0)) (hQ : Q (.bool true) h) : F48.T (some ⟨pb, 0, none⟩) h Q := by
  unfold F48.T F48.G
  exact hold_nil hc hQ
theorem hold37_s (R : RmA g h pb n nn t tn st sn P L) (hL : L.length ≤ 1000000000000000000) (hQ : Q (.bool true) h) : F37.T (some ⟨pb, 0, none⟩) h Q := by
  have mln : ∀ j, (lotU j).length = 1 := fun _ => rfl
  unfold F37.T F37.G
  refine hold_own (M := 40) (slot := 4) (ls := [(sn, L.length)]) (BODY := fun b o n2 n1 h P => ldI .u64 h b (o + n2.toNat) fun n3 => F55.T (IntKind.wrap .i64 (n2 - n1)) h fun r h3 => retI .i64 r fun n4 => par (n3 = (IntKind.wrap .u64 n4)) (P h3) (Q (.bool false) h3)) R.br R.bw R.bwn (by decide) rfl rfl ?_ (by simp) ?_ hQ
  · intro x hx; rw [List.mem_singleton] at hx; subst hx; exact ⟨R.ln.1, by have := R.ln.1; show sn.n < _; omega⟩
  · intro x hx j hj K hK
    rw [List.mem_singleton] at hx; subst hx
    dsimp only
    have m0 := mark_at mln (us := uvs L) (n := L.length) (by rw [uvs_length, Nat.mul_one]) (m := 40) hj (c := 0) (by decide)
    rw [Nat.mul_one, Nat.add_zero] at m0
    obtain ⟨b, ha, hat⟩ := buf_at R.bn (k := L.length + j) (by rw [List.length_append, uvs_length, markL_len mln]; omega)
    rw [wrap_i64 (n := ((L.length + j : Nat) : Int) - (L.length : Int)) (by omega) (by omega)]
    have ej : ((L.length + j : Nat) : Int) - (L.length : Int) = (j : Int) := by omega
    rw [ej]
    exact ⟨b, 0, ha, _, by rw [Int.toNat_natCast, hat, m0]; rfl, lot_s ⟨_, rfl, fun _ => hK, fun hh => absurd rfl hh⟩⟩
theorem hold38_s (R : RmA g h pb n nn t tn st sn P L) (hP : P.length ≤ 10000000000000000) (hQ : Q (.bool true) h) : F38.T (some ⟨pb, 0, none⟩) h Q := by
  have mlt : ∀ j, (wordV j).length = 1 := fun _ => rfl
  unfold F38.T F38.G
  refine hold_own (M := 40) (slot := 6) (ls := [(st, P.length)]) (BODY := fun b o n2 n1 h P => ldT h b (o + n2.toNat) fun s => F54.T (IntKind.wrap .i64 (n2 - n1)) h fun r h3 => retT r fun s1 => par (s = s1) (P h3) (Q (.bool false) h3)) R.br R.bv R.bvn (by decide) rfl rfl ?_ (by simp) ?_ hQ
  · intro x hx; rw [List.mem_singleton] at hx; subst hx; exact ⟨R.lt.1, by have := R.lt.1; show st.n < _; omega⟩
  · intro x hx j hj K hK
    rw [List.mem_singleton] at hx; subst hx
    dsimp only
    have m0 := mark_at mlt (us := ptrV P) (n := P.length) (by rw [ptrV_length, Nat.mul_one]) (m := 40) hj (c := 0) (by decide)
    rw [Nat.mul_one, Nat.add_zero] at m0
    obtain ⟨b, ha, hat⟩ := buf_at R.bt (k := P.length + j) (by rw [List.length_append, ptrV_length, markL_len mlt]; omega)
    rw [wrap_i64 (n := ((P.length + j : Nat) : Int) - (P.length : Int)) (by omega) (by omega)]
    have ej : ((P.length + j : Nat) : Int) - (P.length : Int) = (j : Int) := by omega
    rw [ej]
    exact ⟨b, 0, ha, _, by rw [Int.toNat_natCast, hat, m0]; rfl, word_s ⟨_, rfl, fun _ => hK, fun hh => absurd rfl hh⟩⟩
theorem holdA_s (R : RmA g h pb n nn t tn st sn P L) (hP : P.length ≤ 10000000000000000) (hL : L.length ≤ 1000000000000000000) (hQ : Q (.bool true) h) : F11.T (some ⟨pb, 0, none⟩) h Q := by
  have e : ∀ k, k < 28 → h.at pb (0 + k) = (rcs n nn t tn)[k]? := fun k hk => by
    obtain ⟨b, hb, g⟩ := buf_at R.br (k := k) hk
    cases hb; exact g
  have nx : ∀ {A B : Prop}, A → ∃ b : Bool, (Value.bool true) = .bool b ∧ parB b A B := fun {A B} a => ⟨true, rfl, fun _ => a, fun h0 => (by cases h0)⟩
  unfold F11.T F11.G
  exact nil35_s (e 0 (by decide)) (nx (nil36_s (e 2 (by decide)) (nx (hold37_s R hL (nx (hold38_s R hP (nx (nil39_s (e 8 (by decide)) (nx (nil40_s (e 10 (by decide)) (nx (nil41_s (e 12 (by decide)) (nx (nil42_s (e 14 (by decide)) (nx (nil43_s (e 16 (by decide)) (nx (nil44_s (e 18 (by decide)) (nx (nil45_s (e 20 (by decide)) (nx (nil46_s (e 22 (by decide)) (nx (nil47_s (e 24 (by decide)) (nx (nil48_s (e 26 (by decide)) (nx hQ)))))))))))))))))))))))))))
end
end Go.Eng.YtbjnlacacapjiaaGreat
end
section
set_option maxRecDepth 100000
namespace Go.Eng.YtbjnlacacapjiaaGreat
def mem0 (pb : Nat) : Mem := fun k =>
  if k = (0, 0, 0) then some ⟨⟨some ⟨pb, 0, none⟩, 1, 1⟩, 28, 49, rcs nilS nilS nilS nilS⟩ else
  if k = (2, 1, 0) then some ⟨nilS, 1, 3, []⟩ else
  if k = (1, 1, 0) then some ⟨nilS, 1, 26, []⟩ else
  if k = (2, 0, 0) then some ⟨nilS, 1, 3, []⟩ else
  if k = (1, 0, 0) then some ⟨nilS, 1, 25, []⟩ else none
def mem1 (pb : Nat) (t tn st : Sl) (np : Int) (vt : List Value) : Mem := fun k =>
  if k = (0, 0, 0) then some ⟨⟨some ⟨pb, 0, none⟩, 1, 1⟩, 28, 49, rcs nilS nilS t tn⟩ else
  if k = (2, 1, 0) then some ⟨nilS, 1, 3, []⟩ else
  if k = (1, 1, 0) then some ⟨nilS, 1, 26, []⟩ else
  if k = (2, 0, 0) then some ⟨tn, 1, 3, [.int .i64 np]⟩ else
  if k = (1, 0, 0) then some ⟨t, 1, 25, [slc st]⟩ else
  if k = (3, 0, 0) then some ⟨st, 1, 9, vt⟩ else none
theorem key_cases (k : Key) : k = (0, 0, 0) ∨ k = (2, 1, 0) ∨ k = (1, 1, 0) ∨ k = (3, 1, 0) ∨ k = (2, 0, 0) ∨ k = (1, 0, 0) ∨ k = (3, 0, 0) ∨ (k ≠ (0, 0, 0) ∧ k ≠ (2, 1, 0) ∧ k ≠ (1, 1, 0) ∧ k ≠ (3, 1, 0) ∧ k ≠ (2, 0, 0) ∧ k ≠ (1, 0, 0) ∧ k ≠ (3, 0, 0)) := by
  by_cases h1 : k = (0, 0, 0)
  · exact .inl h1
  by_cases h2 : k = (2, 1, 0)
  · exact .inr (.inl h2)
  by_cases h3 : k = (1, 1, 0)
  · exact .inr (.inr (.inl h3))
  by_cases h4 : k = (3, 1, 0)
  · exact .inr (.inr (.inr (.inl h4)))
  by_cases h5 : k = (2, 0, 0)
  · exact .inr (.inr (.inr (.inr (.inl h5))))
  by_cases h6 : k = (1, 0, 0)
  · exact .inr (.inr (.inr (.inr (.inr (.inl h6)))))
  by_cases h7 : k = (3, 0, 0)
  · exact .inr (.inr (.inr (.inr (.inr (.inr (.inl h7))))))
  exact .inr (.inr (.inr (.inr (.inr (.inr (.inr ⟨h1, h2, h3, h4, h5, h6, h7⟩))))))
theorem mem0_mine {h : Hp} {b : Nat} (hb : h b = none) : Mine h (h.new b (.cells ⟨rcs nilS nilS nilS nilS⟩ 49 (0, 0))) (mem0 b) := by
  have K := Keep.new hb (.cells ⟨rcs nilS nilS nilS nilS⟩ 49 (0, 0))
  have B := buf_new (h := h) (b := b) (t := 49) (sz := 28) (n := 1) (rcs nilS nilS nilS nilS) rfl
  have key : ∀ k x, mem0 b k = some x → (k = (0, 0, 0) ∧ x = ⟨⟨some ⟨b, 0, none⟩, 1, 1⟩, 28, 49, rcs nilS nilS nilS nilS⟩) ∨ (x.s = nilS ∧ x.vs = []) := by
    intro k x e
    unfold mem0 at e
    split at e
    · next hk => cases e; exact .inl ⟨hk, rfl⟩
    · right
      repeat' split at e
      all_goals first | (cases e; exact ⟨rfl, rfl⟩) | cases e
  refine ⟨K, fun k x e => ?_, fun k x e => ?_, fun k k' x x' hne e e' => ?_⟩
  · rcases key k x e with ⟨_, rfl⟩ | ⟨h1, h2⟩
    · exact B
    · rw [h1, h2]; exact Buf.nil _ _ _
  · rcases key k x e with ⟨_, rfl⟩ | ⟨h1, h2⟩
    · exact .inr ⟨b, rfl, hb⟩
    · exact .inl (by rw [h1]; rfl)
  · rcases key k x e with ⟨hk, rfl⟩ | ⟨h1, h2⟩
    · rcases key k' x' e' with ⟨hk', rfl⟩ | ⟨h1, h2⟩
      · exact absurd (hk.trans hk'.symm) hne
      · rw [h1]; exact fun _ _ _ _ e => (by cases e)
    · rw [h1]; exact fun _ _ _ e => (by cases e)
section
variable {g h h' : Hp} {pb : Nat} {n nn t tn st sn l : Sl} {P : List ByteArray} {L : List Int} {Q : Value → Hp → Prop}
theorem texts_s (M0 : Mine g h (mem0 pb)) (hr : h.row l.a l.n (ptrV P)) (hl : (P.length + 40) * 16 ≤ 140737488355328)
    (hQ : ∀ h' t tn st, Mine g h' (mem1 pb t tn st (P.length : Int) (ptrV P ++ markL wordV 40)) → st.n = P.length + 40 → st.n ≤ st.c → Q (.slice st.a P.length st.n) h') : F7.T (some ⟨pb, 0, none⟩) l h Q := by
  have hln : l.n = P.length := by have := hr.1; rw [ptrV_length] at this; omega
  unfold F7.T F7.G F21.T F21.G
  refine lay_own (kr := (0, 0, 0)) (kw := (1, 0, 0)) (kn := (2, 0, 0)) (kd := (3, 0, 0)) (slot := 6) (R := 28) (tr := 49) (tw := 25) (ti := 3) (t := 9) (sz := 1) (bytes := 16) (M := 40) (mk := wordV) (us := ptrV P) (w := nilS) (n := nilS) (ws := []) (ns := []) (cs := rcs nilS nilS nilS nilS) (G := fun n h K => F54.T n h fun r h4 => retT r fun s => K [.string s] h4) (Q := fun v h' => retS v fun l1 => Q (.slice l1.a l1.n l1.c) h')
    (fun j h K hK => word_s ⟨_, rfl, hK⟩) (fun _ => rfl) rfl (fun v hv => ?_) M0 (by simp [mem0]) (by simp [mem0]) (by simp [mem0]) (by simp [mem0]) (by decide) (by decide) (by decide) (by decide) rfl rfl (by rw [Nat.mul_one]; exact hr) (by omega) (by decide) (by decide) (by decide) (by decide) (fun h' w' n' s Ms hs1 hs2 _ => ?_)
  · unfold ptrV at hv
    obtain ⟨s, _, rfl⟩ := List.mem_map.1 hv
    rfl
  · refine ⟨⟨s.a, l.n, s.n⟩, by rw [cut0]; simp, ?_⟩
    have := hQ h' w' n' s (Ms.of_eq fun k => ?_) (by omega) hs2
    · rw [← hln] at this; exact this
    · rw [hln]
      unfold Mem.put mem1 mem0
      rcases key_cases k with rfl | rfl | rfl | rfl | rfl | rfl | rfl | ⟨h1, h2, h3, h4, h5, h6, h7⟩
      all_goals first | rfl | (simp only [if_neg h1, if_neg h2, if_neg h3, if_neg h4, if_neg h5, if_neg h6, if_neg h7]; done) | (simp; done)
theorem nums_s (M1 : Mine g h (mem1 pb t tn st (P.length : Int) (ptrV P ++ markL wordV 40))) (ht : st.n = P.length + 40 ∧ st.n ≤ st.c) (hr : h.row l.a l.n (uvs L)) (hl : (L.length + 40) * 8 ≤ 140737488355328)
    (hQ : ∀ h' n nn sn, RmA g h' pb n nn t tn st sn P L → Q (.slice sn.a L.length sn.n) h') : F8.T (some ⟨pb, 0, none⟩) l h Q := by
  have hln : l.n = L.length := by have := hr.1; rw [uvs_length] at this; omega
  unfold F8.T F8.G F22.T F22.G
  refine lay_own (kr := (0, 0, 0)) (kw := (1, 1, 0)) (kn := (2, 1, 0)) (kd := (3, 1, 0)) (slot := 4) (R := 28) (tr := 49) (tw := 26) (ti := 3) (t := 55) (sz := 1) (bytes := 8) (M := 40) (mk := lotU) (us := uvs L) (w := nilS) (n := nilS) (ws := []) (ns := []) (cs := rcs nilS nilS t tn) (G := fun n h K => F55.T n h fun r h4 => retI .i64 r fun n2 => K [.int .u64 (IntKind.wrap .u64 n2)] h4) (Q := fun v h' => retS v fun l1 => Q (.slice l1.a l1.n l1.c) h')
    (fun j h K hK => lot_s ⟨_, rfl, hK⟩) (fun _ => rfl) rfl (fun v hv => ?_) M1 (by simp [mem1]) (by simp [mem1]) (by simp [mem1]) (by simp [mem1]) (by decide) (by decide) (by decide) (by decide) rfl rfl (by rw [Nat.mul_one]; exact hr) (by rw [hln]; exact hl) (by decide) (by decide) (by decide) (by decide) (fun h' w' n' s Ms hs1 hs2 _ => ?_)
  · unfold uvs at hv
    obtain ⟨s, _, rfl⟩ := List.mem_map.1 hv
    rfl
  · refine ⟨⟨s.a, l.n, s.n⟩, by rw [cut0]; simp, ?_⟩
    have := hQ h' w' n' s ⟨Ms.of_eq fun k => ?_, ht, by omega, hs2⟩
    · rw [← hln] at this; exact this
    · rw [hln]
      unfold Mem.put mem1 memR
      rcases key_cases k with rfl | rfl | rfl | rfl | rfl | rfl | rfl | ⟨h1, h2, h3, h4, h5, h6, h7⟩
      all_goals first | rfl | (simp only [if_neg h1, if_neg h2, if_neg h3, if_neg h4, if_neg h5, if_neg h6, if_neg h7]; done) | (simp; done)
theorem set_app {A B : List Value} {i : Nat} {v : Value} (hi : i < A.length) : (A ++ B).set i v = A.set i v ++ B := by rw [List.set_append, if_pos hi]
theorem RmA.wrT (R : RmA g h pb n nn t tn st sn P L) {i : Nat} (hi : i < P.length) (v : ByteArray) : ∃ b, st.a = some ⟨b, 0, none⟩ ∧ h.at b (0 + i) = some (.string P[i]) ∧ h.canW b i 1 ∧ RmA g (h.wr b i [.string v]) pb n nn t tn st sn (P.set i v) L := by
  have hl : i < (ptrV P ++ markL wordV 40).length := by rw [List.length_append, ptrV_length]; omega
  obtain ⟨b, ha, hc, U, B⟩ := buf_wr1 R.bt hl (.string v)
  obtain ⟨b', ha', hat⟩ := buf_at R.bt hl
  rw [ha] at ha'
  cases ha'
  have e1 : (ptrV P ++ markL wordV 40)[i]? = some (.string P[i]) := by
    rw [List.getElem?_append_left (by rw [ptrV_length]; exact hi)]
    unfold ptrV
    rw [List.getElem?_map, List.getElem?_eq_getElem hi]; rfl
  rw [e1] at hat
  have e2 : (ptrV P ++ markL wordV 40).set i (.string v) = ptrV (P.set i v) ++ markL wordV 40 := by
    rw [set_app (by rw [ptrV_length]; exact hi)]
    unfold ptrV; rw [List.map_set]
  rw [e2] at B
  have M := R.O.write (k := (3, 0, 0)) (x := ⟨st, 1, 9, ptrV P ++ markL wordV 40⟩) (by simp [memR]) U B
  refine ⟨b, ha, hat, hc, ⟨M.of_eq fun k => ?_, by rw [List.length_set]; exact R.lt, R.ln⟩⟩
  unfold Mem.put memR
  rw [List.length_set]
  rcases key_cases k with rfl | rfl | rfl | rfl | rfl | rfl | rfl | ⟨h1, h2, h3, h4, h5, h6, h7⟩
  all_goals first | rfl | (simp only [if_neg h1, if_neg h2, if_neg h3, if_neg h4, if_neg h5, if_neg h6, if_neg h7]; done) | (simp; done)
theorem RmA.wrN (R : RmA g h pb n nn t tn st sn P L) {i : Nat} (hi : i < L.length) (v : Int) : ∃ b, sn.a = some ⟨b, 0, none⟩ ∧ h.at b (0 + i) = some (.int .u64 L[i]) ∧ h.canW b i 1 ∧ RmA g (h.wr b i [.int .u64 v]) pb n nn t tn st sn P (L.set i v) := by
  have hl : i < (uvs L ++ markL lotU 40).length := by rw [List.length_append, uvs_length]; omega
  obtain ⟨b, ha, hc, U, B⟩ := buf_wr1 R.bn hl (.int .u64 v)
  obtain ⟨b', ha', hat⟩ := buf_at R.bn hl
  rw [ha] at ha'
  cases ha'
  have e1 : (uvs L ++ markL lotU 40)[i]? = some (.int .u64 L[i]) := by
    rw [List.getElem?_append_left (by rw [uvs_length]; exact hi)]
    unfold uvs
    rw [List.getElem?_map, List.getElem?_eq_getElem hi]; rfl
  rw [e1] at hat
  have e2 : (uvs L ++ markL lotU 40).set i (.int .u64 v) = uvs (L.set i v) ++ markL lotU 40 := by
    rw [set_app (by rw [uvs_length]; exact hi)]
    unfold uvs; rw [List.map_set]
  rw [e2] at B
  have M := R.O.write (k := (3, 1, 0)) (x := ⟨sn, 1, 55, uvs L ++ markL lotU 40⟩) (by simp [memR]) U B
  refine ⟨b, ha, hat, hc, ⟨M.of_eq fun k => ?_, R.lt, by rw [List.length_set]; exact R.ln⟩⟩
  unfold Mem.put memR
  rw [List.length_set]
  rcases key_cases k with rfl | rfl | rfl | rfl | rfl | rfl | rfl | ⟨h1, h2, h3, h4, h5, h6, h7⟩
  all_goals first | rfl | (simp only [if_neg h1, if_neg h2, if_neg h3, if_neg h4, if_neg h5, if_neg h6, if_neg h7]; done) | (simp; done)
end
section
variable {g h h' : Hp} {vb b : Nat} {ls l l1 l2 : Sl} {xs : List (Sl × List Tab)} {Q : Value → Hp → Prop} {n n1 n2 n3 n4 n5 n6 n7 n8 n9 n10 n11 n12 n13 n14 n15 n16 n17 n18 n19 n20 n21 n22 n23 n24 n25 n26 : Int}
theorem held_s (V : Ver g h vb ls xs) (T : LT h l (xs.map (·.2))) (P : PkOk xs) (hQ : ∀ h', Keep h h' → Q (.bool true) h') : F10.T (some ⟨vb, 0, none⟩) l h Q := by
  have hx := P.len
  have hln := T.n
  rw [List.length_map] at hln
  unfold F10.T F10.G
  refine ⟨fun n h1 => ∃ i : Nat, n = (i : Int) ∧ i ≤ xs.length ∧ Keep h h1, fun n _ => xs.length - n.toNat, ⟨0, rfl, Nat.zero_le _, Keep.refl _⟩, ?_⟩
  rintro n h1 ⟨i, rfl, hi, K1⟩
  refine ⟨fun hlt => ?_, fun hge => ?_⟩
  · have hi1 : i < xs.length := by omega
    obtain ⟨b, o, s, ha, hr, hat, B⟩ := lt_tab (T.keep K1) hi1
    refine ⟨b, o, ha, hr, s, hat, ?_⟩
    refine tables_s (V.keep K1) P.sz fun h2 r K2 B2 _ => ⟨r, rfl, K2.at hat, ?_⟩
    refine sameT_s (Buf.row B2) (Buf.row (Buf.keep K2 B)) (P.tl _) (fun _ => ⟨true, rfl, pB_t ?_⟩) (fun hh => absurd rfl hh)
    rw [next_i (n := 100) (by omega) (by omega)]
    exact ⟨⟨i + 1, rfl, hi1, K1.trans K2⟩, by dsimp only; omega⟩
  · refine levels_spec (V.keep K1) ⟨_, rfl, fun _ => hQ _ K1, fun hh => absurd (by omega) hh⟩
theorem pall_s {inn : List Placed} {ptrs : List ByteArray} {lk : List Int} {n27 : Int} (hin : h.row l.a (l.n * 7) (inV inn)) (hr : ∀ p ∈ inn, -9223372036854775808 ≤ p.lv ∧ -9223372036854775808 ≤ p.weight)
    (B : h.row l1.a l1.n (ptrV ptrs)) (hp : ∀ s ∈ ptrs, s.size ≤ 140737488355328) (hpl : ptrs.length ≤ 1000000000000000) (BL : h.row l2.a l2.n (uvs lk)) (hlk : (lk.length + 40) * 8 ≤ 140737488355328)
    (r5 : -9223372036854775808 ≤ n5) (r7 : -9223372036854775808 ≤ n7) (r8 : -9223372036854775808 ≤ n8) (r9 : -9223372036854775808 ≤ n9) (r10 : -9223372036854775808 ≤ n10) (r12 : -9223372036854775808 ≤ n12) (hlv : n27 < 9223372036854775808)
    (hpl2 : (ptrs.length + 40) * 16 ≤ 140737488355328) (hQ : ∀ h', Keep h h' → Q (.bool true) h') : F3.T n n1 n2 n3 n4 n5 n6 n7 n8 n9 n10 n11 n12 n13 n14 n15 n16 n17 n18 n19 n20 n21 n22 n23 n24 n25 n26 l l1 l2 n27 h Q := by
  have hl1 : l1.n = ptrs.length := by have := B.1; rw [ptrV_length] at this; omega
  have hl2 : l2.n = lk.length := by have := BL.1; rw [uvs_length] at this; omega
  unfold F3.T F3.G
  refine few_s B (by omega) fun h1 r K1 => ⟨r, rfl, fun _ => ?_, fun _ => hQ _ K1⟩
  refine right_s r5 r7 r8 r9 r10 r12 fun m5 m7 m8 m9 m10 m12 O => ⟨_, _, _, _, _, _, _, _, _, _, _, _, _, _, _, _, _, _, _, _, _, _, _, _, _, _, _, rfl, ?_⟩
  refine built_s (K1.row hin) hr O.lv fun G vb ls xs lr K4 V Gd ht h8 T => ⟨_, _, rfl, fun a b _ e => (by cases e), fun e => (by cases e), fun _ => ?_⟩
  have Pk : PkOk xs := pk_ok (by have := O.lv; omega) ht Gd.w
  intro pb hpb
  have M0 := mem0_mine hpb
  show F7.T (some ⟨pb, 0, none⟩) l1 (G.new pb (.cells ⟨rcs nilS nilS nilS nilS⟩ 49 (0, 0))) _
  generalize G.new pb (.cells ⟨rcs nilS nilS nilS nilS⟩ 49 (0, 0)) = h5 at M0 ⊢
  have KG := K1.trans K4
  have BG := KG.row B
  have BLG := KG.row BL
  refine texts_s M0 (M0.keep.row BG) (by omega) fun h6 t tn st M1 ht1 ht2 => ⟨⟨st.a, ptrs.length, st.n⟩, rfl, ?_⟩
  refine nums_s M1 ⟨ht1, ht2⟩ (M1.keep.row BLG) hlk fun h7 w wn sn R => ⟨⟨sn.a, lk.length, sn.n⟩, rfl, ?_⟩
  have key : ∀ (P' : List ByteArray) (L' : List Int) (h8 : Hp) (Q' : Value → Hp → Prop), P'.length = ptrs.length → L'.length = lk.length → RmA G h8 pb w wn t tn st sn P' L' → (∀ h', RmA G h' pb w wn t tn st sn P' L' → Q' (.bool true) h') → F9.T n n1 n2 n3 n4 m5 n6 m7 m8 m9 m10 n11 m12 n13 n14 n15 n16 n17 n18 n19 n20 n21 n22 n23 n24 n25 n26 (some ⟨vb, 0, none⟩) lr ⟨st.a, ptrs.length, st.n⟩ ⟨sn.a, lk.length, sn.n⟩ n27 h8 Q' := fun P' L' h8' Q' e1 e2 R' hk => by
    have r1 := R'.rt
    have r2 := R'.rn
    rw [e1] at r1
    rw [e2] at r2
    exact asked_s (V.keep R'.O.keep) (T.keep R'.O.keep) Pk O h8 r1 r2 (by dsimp only; omega) hlv fun h' K => hk h' (R'.keep K)
  have rest : ∀ (P' : List ByteArray) (L' : List Int) (h9 : Hp) (Q' : Hp → Prop), P'.length = ptrs.length → L'.length = lk.length → RmA G h9 pb w wn t tn st sn P' L' → (∀ h', RmA G h' pb w wn t tn st sn P' L' → Q' h') → F10.T (some ⟨vb, 0, none⟩) lr h9 fun r6 h9 => retB r6 (F11.T (some ⟨pb, 0, none⟩) h9 fun r7 h10 => retB r7 (Q' h10) (Q (.bool false) h10)) (Q (.bool false) h9) := fun P' L' h9 Q' e1 e2 R9 hk => by
    refine held_s (V.keep R9.O.keep) (T.keep R9.O.keep) Pk fun h10 K10 => ⟨true, rfl, pB_t ?_⟩
    exact holdA_s (R9.keep K10) (by omega) (by omega) ⟨true, rfl, pB_t (hk _ (R9.keep K10))⟩
  refine ⟨fun k h8 => ∃ i : Nat, k = (i : Int) ∧ i ≤ 2 ∧ RmA G h8 pb w wn t tn st sn ptrs lk, fun k _ => 2 - k.toNat, ⟨0, rfl, by omega, R⟩, ?_⟩
  rintro k h8' ⟨i, rfl, hi, R⟩
  refine ⟨fun hlt => ?_, fun hge => ?_⟩
  · refine key ptrs lk _ _ rfl rfl R fun h9 R9 => ⟨true, rfl, pB_t ?_⟩
    refine rest ptrs lk _ _ rfl rfl R9 fun h10 R10 => ?_
    rw [next_i (n := 100) (by omega) (by omega)]
    exact ⟨⟨i + 1, rfl, by omega, R10⟩, by dsimp only; omega⟩
  · refine ⟨fun k h11 => ∃ (i : Nat) (P' : List ByteArray), k = (i : Int) ∧ i ≤ ptrs.length ∧ RmA G h11 pb w wn t tn st sn P' lk ∧ P'.length = ptrs.length ∧ ∀ j, i ≤ j → P'[j]? = ptrs[j]?, fun k _ => ptrs.length - k.toNat, ⟨0, ptrs, rfl, Nat.zero_le _, R, rfl, fun _ _ => rfl⟩, ?_⟩
    rintro k h11 ⟨i, P', rfl, hi, R', eP, hP⟩
    refine ⟨fun hlt => ?_, fun hge => ?_⟩
    · have hlt : (i : Int) < ((ptrs.length : Nat) : Int) := hlt
      have hi1 : i < ptrs.length := by omega
      have hiP : i < P'.length := by omega
      have eq : P'[i] = ptrs[i] := by
        have := hP i (Nat.le_refl _)
        rw [List.getElem?_eq_getElem hi1, List.getElem?_eq_getElem hiP] at this
        exact Option.some.inj this
      obtain ⟨b, ha, hat, hc, Rw⟩ := R'.wrT hiP (P'[i] ++ ByteArray.mk #[109])
      obtain ⟨b2, o2, ha2, hat2⟩ := row_get (R'.O.keep.row BG) (i := i) (by omega)
      have hz := hp _ (List.getElem_mem hi1)
      refine ⟨b, 0, ha, ⟨by omega, hlt⟩, P'[i], by rw [Int.toNat_natCast]; exact hat, b2, o2, ha2, ⟨by omega, by omega⟩, ptrs[i], ?_, fun _ => ⟨b, 0, ha, ⟨by omega, hlt⟩, P'[i], by rw [Int.toNat_natCast]; exact hat, ?_, b, 0, ha, ⟨by omega, hlt⟩, ?_⟩, fun hne => absurd eq hne⟩
      · rw [Int.toNat_natCast, hat2 i (by omega)]
        unfold ptrV
        rw [List.getElem?_map, List.getElem?_eq_getElem hi1]; rfl
      · rw [eq]
        show ((ptrs[i].size + 1 : Nat) : Int) ≤ _
        omega
      · dsimp only
        rw [Nat.zero_add, Int.toNat_natCast, next_i (n := 1000000000000000000) (by omega) (by omega)]
        refine ⟨hc, ⟨i + 1, _, rfl, hi1, Rw, by rw [List.length_set]; exact eP, fun j hj => ?_⟩, by omega⟩
        rw [List.getElem?_set_ne (by omega)]
        exact hP j (by omega)
    · refine ⟨fun k h13 => ∃ (i : Nat) (L' : List Int), k = (i : Int) ∧ i ≤ lk.length ∧ RmA G h13 pb w wn t tn st sn P' L' ∧ L'.length = lk.length ∧ ∀ j, i ≤ j → L'[j]? = lk[j]?, fun k _ => lk.length - k.toNat, ⟨0, lk, rfl, Nat.zero_le _, R', rfl, fun _ _ => rfl⟩, ?_⟩
      rintro k h13 ⟨i, L', rfl, hi, R2, eL, hL⟩
      refine ⟨fun hlt => ?_, fun hge => ?_⟩
      · have hlt : (i : Int) < ((lk.length : Nat) : Int) := hlt
        have hi1 : i < lk.length := by omega
        have hiL : i < L'.length := by omega
        have eq : L'[i] = lk[i] := by
          have := hL i (Nat.le_refl _)
          rw [List.getElem?_eq_getElem hi1, List.getElem?_eq_getElem hiL] at this
          exact Option.some.inj this
        obtain ⟨b, ha, hat, hc, Rw⟩ := R2.wrN hiL (IntKind.wrap .u64 (L'[i] + 1))
        obtain ⟨b2, o2, ha2, hat2⟩ := row_get (R2.O.keep.row BLG) (i := i) (by omega)
        refine ⟨b, 0, ha, ⟨by omega, hlt⟩, L'[i], by rw [Int.toNat_natCast]; exact hat, b2, o2, ha2, ⟨by omega, by omega⟩, lk[i], ?_, fun _ => ⟨b, 0, ha, ⟨by omega, hlt⟩, L'[i], by rw [Int.toNat_natCast]; exact hat, b, 0, ha, ⟨by omega, hlt⟩, ?_⟩, fun hne => absurd eq hne⟩
        · rw [Int.toNat_natCast, hat2 i (by omega)]
          unfold uvs
          rw [List.getElem?_map, List.getElem?_eq_getElem hi1]; rfl
        · dsimp only
          rw [Nat.zero_add, Int.toNat_natCast, next_i (n := 1000000000000000000) (by omega) (by omega)]
          refine ⟨hc, ⟨i + 1, _, rfl, hi1, Rw, by rw [List.length_set]; exact eL, fun j hj => ?_⟩, by omega⟩
          rw [List.getElem?_set_ne (by omega)]
          exact hL j (by omega)
      · refine key P' L' _ _ eP eL R2 fun h9 R9 => ⟨true, rfl, pB_t ?_⟩
        exact rest P' L' _ (fun h => Q (.bool true) h) eP eL R9 fun h10 R10 => hQ _ (KG.trans R10.O.keep)
end
end Go.Eng.YtbjnlacacapjiaaGreat
end
