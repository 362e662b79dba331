/-
  TEXTS OF MINE, JOINED: J9 J6 JA JB RV PKA JP1 JP2.
-/
import Derived.Test.YtbjnlacacapjiaaK5
import Derived.Test.YtbjnlacacapjiaaK2
import Derived.Test.YtbjnlacacapjiaaProg
import Derived.Test.YtbjnlacacapjiaaK4
import Derived.ChangeSlices
import Derived.SizedLaws
import Derived.Below
section

set_option maxRecDepth 100000
set_option linter.unusedVariables false
open Go.Proofs
namespace Go.Eng.Ytbjnlacacapjiaa
def F61.T (l : Sl) : PT := fun h Q =>
  ∃ b o, (l.a : Option Addr) = some ⟨b, o, none⟩ ∧ ((0 : Int) ≤ 0 ∧ 0 < (l.n : Int)) ∧ ∃ s : ByteArray, h.at b ((o + (0 : Int).toNat * 6) + 4) = some (.string s) ∧ ∃ b1 o1, (l.a : Option Addr) = some ⟨b1, o1, none⟩ ∧ ((0 : Int) ≤ 0 ∧ 0 < (l.n : Int)) ∧ ∃ s1 : ByteArray, h.at b1 ((o1 + (0 : Int).toNat * 6) + 5) = some (.string s1) ∧ h.at b1 ((o1 + (0 : Int).toNat * 6) + 5) = some (.string s1) ∧ ∃ (I : ByteArray → ByteArray → Int → Hp → Prop) (m : ByteArray → ByteArray → Int → Hp → Nat), I s s1 0 h ∧ (∀ s2 : ByteArray, ∀ s3 : ByteArray, ∀ n : Int, ∀ h1 : Hp, I s2 s3 n h1 → par (n < (l.n : Int)) (∃ b2 o2, (l.a : Option Addr) = some ⟨b2, o2, none⟩ ∧ ((0 : Int) ≤ n ∧ n < (l.n : Int)) ∧ ∃ n1 : Int, h1.at b2 (o2 + n.toNat * 6) = some (.int .u64 n1) ∧ ∃ n2 : Int, h1.at b2 ((o2 + n.toNat * 6) + 1) = some (.int .i64 n2) ∧ ∃ n3 : Int, h1.at b2 ((o2 + n.toNat * 6) + 2) = some (.int .i64 n3) ∧ ∃ n4 : Int, h1.at b2 ((o2 + n.toNat * 6) + 3) = some (.int .i64 n4) ∧ ∃ s4 : ByteArray, h1.at b2 ((o2 + n.toNat * 6) + 4) = some (.string s4) ∧ ∃ s5 : ByteArray, h1.at b2 ((o2 + n.toNat * 6) + 5) = some (.string s5) ∧ I (sMin s2 s4) (sMax s3 s5) (IntKind.wrap .i64 (n + 1)) h1 ∧ m (sMin s2 s4) (sMax s3 s5) (IntKind.wrap .i64 (n + 1)) h1 < m s2 s3 n h1) (Q (.tuple ⟨[.string s2, .string s3]⟩) h1))
theorem F61.den (V : Value → List Value → PT) (l : Sl) : denF Try.prog [7] [] V [(6, .order [0, 1, 2, 3, 4, 5, 6, 7, 8, 9]), (58, .loop [(4, .str), (5, .str), (18, .int .i64)] []), (3737, .order [0, 1, 2, 3, 4, 5, 6, 7, 8, 9])] Try.f61 [.v (.slice l.a l.n l.c)] = F61.T l := by kernel_rfl
def F61.W (T61 : Sl → PT) (args : List Value) : PT := match args with
  | [.slice l_a l_n l_c] => T61 ⟨l_a, l_n, l_c⟩
  | _ => fun _ _ => False
def F61.V : List Value → PT := F61.W F61.T
theorem F61.ok : FOk Try.prog 61 F61.V := by
  refine ⟨⟨_, Try.func61, rfl, rfl⟩, fun args => ?_⟩
  have hG : GOk Try.prog [] := GOk.nil
  have hV : VOk Try.prog noV := noV_ok
  unfold F61.V F61.W
  split
  · exact denF_okV hG hV Try.func61 (fun h Q hq => (F61.den _ _) ▸ hq)
  · exact fun h Q hq => hq.elim
def F62.T (l : Sl) (s : ByteArray) : PT := fun h Q =>
  ∃ (I : Int → Int → Int → Int → Int → ByteArray → ByteArray → Hp → Prop) (m : Int → Int → Int → Int → Int → ByteArray → ByteArray → Hp → Nat), I 0 0 0 0 0 (ByteArray.mk #[]) (ByteArray.mk #[]) h ∧ (∀ n : Int, ∀ n1 : Int, ∀ n2 : Int, ∀ n3 : Int, ∀ n4 : Int, ∀ s1 : ByteArray, ∀ s2 : ByteArray, ∀ h1 : Hp, I n n1 n2 n3 n4 s1 s2 h1 → par (n < (l.n : Int)) (∃ b o, (l.a : Option Addr) = some ⟨b, o, none⟩ ∧ ((0 : Int) ≤ n ∧ n < (l.n : Int)) ∧ ∃ n5 : Int, h1.at b (o + n.toNat * 6) = some (.int .u64 n5) ∧ ∃ n6 : Int, h1.at b ((o + n.toNat * 6) + 1) = some (.int .i64 n6) ∧ ∃ n7 : Int, h1.at b ((o + n.toNat * 6) + 2) = some (.int .i64 n7) ∧ ∃ n8 : Int, h1.at b ((o + n.toNat * 6) + 3) = some (.int .i64 n8) ∧ ∃ s3 : ByteArray, h1.at b ((o + n.toNat * 6) + 4) = some (.string s3) ∧ ∃ s4 : ByteArray, h1.at b ((o + n.toNat * 6) + 5) = some (.string s4) ∧ par (sLt s3 s ∨ s3 = s) (I (IntKind.wrap .i64 (n + 1)) n1 n2 n3 n4 s1 s2 h1 ∧ m (IntKind.wrap .i64 (n + 1)) n1 n2 n3 n4 s1 s2 h1 < m n n1 n2 n3 n4 s1 s2 h1) (par (([.int .u64 n1, .int .i64 n2, .int .i64 n3, .int .i64 n4, .string s1, .string s2] : List Value) = [.int .u64 0, .int .i64 0, .int .i64 0, .int .i64 0, .string (ByteArray.mk #[]), .string (ByteArray.mk #[])]) (I (IntKind.wrap .i64 (n + 1)) n5 n6 n7 n8 s3 s4 h1 ∧ m (IntKind.wrap .i64 (n + 1)) n5 n6 n7 n8 s3 s4 h1 < m n n1 n2 n3 n4 s1 s2 h1) (I (IntKind.wrap .i64 (n + 1)) n1 n2 n3 n4 s1 s2 h1 ∧ m (IntKind.wrap .i64 (n + 1)) n1 n2 n3 n4 s1 s2 h1 < m n n1 n2 n3 n4 s1 s2 h1))) (par (([.int .u64 n1, .int .i64 n2, .int .i64 n3, .int .i64 n4, .string s1, .string s2] : List Value) = [.int .u64 0, .int .i64 0, .int .i64 0, .int .i64 0, .string (ByteArray.mk #[]), .string (ByteArray.mk #[])]) (∃ b1 o1, (l.a : Option Addr) = some ⟨b1, o1, none⟩ ∧ ((0 : Int) ≤ 0 ∧ 0 < (l.n : Int)) ∧ ∃ n9 : Int, h1.at b1 (o1 + (0 : Int).toNat * 6) = some (.int .u64 n9) ∧ ∃ n10 : Int, h1.at b1 ((o1 + (0 : Int).toNat * 6) + 1) = some (.int .i64 n10) ∧ ∃ n11 : Int, h1.at b1 ((o1 + (0 : Int).toNat * 6) + 2) = some (.int .i64 n11) ∧ ∃ n12 : Int, h1.at b1 ((o1 + (0 : Int).toNat * 6) + 3) = some (.int .i64 n12) ∧ ∃ s5 : ByteArray, h1.at b1 ((o1 + (0 : Int).toNat * 6) + 4) = some (.string s5) ∧ ∃ s6 : ByteArray, h1.at b1 ((o1 + (0 : Int).toNat * 6) + 5) = some (.string s6) ∧ Q (.agg ⟨[.int .u64 n9, .int .i64 n10, .int .i64 n11, .int .i64 n12, .string s5, .string s6]⟩) h1) (Q (.agg ⟨[.int .u64 n1, .int .i64 n2, .int .i64 n3, .int .i64 n4, .string s1, .string s2]⟩) h1)))
theorem F62.den (V : Value → List Value → PT) (l : Sl) (s : ByteArray) : denF Try.prog [4, 5, 7] [] V [(58, .loop [(10, .int .i64)] [(5, [.int .u64, .int .i64, .int .i64, .int .i64, .str, .str])])] Try.f62 [.v (.slice l.a l.n l.c), .v (.string s)] = F62.T l s := by kernel_rfl
def F62.W (T62 : Sl → ByteArray → PT) (args : List Value) : PT := match args with
  | [.slice l_a l_n l_c, .string s] => T62 ⟨l_a, l_n, l_c⟩ s
  | _ => fun _ _ => False
def F62.V : List Value → PT := F62.W F62.T
theorem F62.ok : FOk Try.prog 62 F62.V := by
  refine ⟨⟨_, Try.func62, rfl, rfl⟩, fun args => ?_⟩
  have hG : GOk Try.prog [] := GOk.nil
  have hV : VOk Try.prog noV := noV_ok
  unfold F62.V F62.W
  split
  · exact denF_okV hG hV Try.func62 (fun h Q hq => (F62.den _ _ _) ▸ hq)
  · exact fun h Q hq => hq.elim
def F63.T (l : Sl) (n : Int) : PT := fun h Q =>
  par (n < (l.n : Int)) (∃ b o, (l.a : Option Addr) = some ⟨b, o, none⟩ ∧ ((0 : Int) ≤ n ∧ n < (l.n : Int)) ∧ ∃ s : ByteArray, h.at b (o + n.toNat) = some (.string s) ∧ Q (.string s) h) (Q (.string (ByteArray.mk #[])) h)
theorem F63.den (V : Value → List Value → PT) (l : Sl) (n : Int) : denF Try.prog [] [] V [] Try.f63 [.v (.slice l.a l.n l.c), .v (.int .i64 n)] = F63.T l n := by kernel_rfl
def F63.W (T63 : Sl → Int → PT) (args : List Value) : PT := match args with
  | [.slice l_a l_n l_c, .int .i64 n] => T63 ⟨l_a, l_n, l_c⟩ n
  | _ => fun _ _ => False
def F63.V : List Value → PT := F63.W F63.T
theorem F63.ok : FOk Try.prog 63 F63.V := by
  refine ⟨⟨_, Try.func63, rfl, rfl⟩, fun args => ?_⟩
  have hG : GOk Try.prog [] := GOk.nil
  have hV : VOk Try.prog noV := noV_ok
  unfold F63.V F63.W
  split
  · exact denF_okV hG hV Try.func63 (fun h Q hq => (F63.den _ _ _) ▸ hq)
  · exact fun h Q hq => hq.elim
@[reducible] def F29.G (T27 : Option Addr → Int → PT) (T47 : Option Addr → Int → ByteArray → ByteArray → PT) (T58 : Int → Int → Int → Int → Int → Int → Int → Int → Int → Int → Int → Int → Int → Int → Int → Int → Int → Int → Int → Int → Int → Int → Int → Int → Int → Int → Int → Option Addr → PT) (T61 : Sl → PT) (T62 : Sl → ByteArray → PT) (T63 : Sl → Int → PT) (n n1 : Int) (n2 n3 : Int) (n4 n5 : Int) (n6 n7 : Int) (n8 n9 : Int) (n10 n11 : Int) (n12 n13 : Int) (n14 n15 : Int) (n16 n17 : Int) (n18 n19 : Int) (n20 n21 : Int) (n22 n23 : Int) (n24 n25 n26 : Int) (p : Option Addr) (l : Sl) (n27 : Int) : PT := fun h Q =>
  par (n27 < 0) (Q (.tuple ⟨[.agg ⟨[.int .i64 0, .slice none 0 0, .slice none 0 0, .string (ByteArray.mk #[]), .bool false]⟩, .bool false]⟩) h) (T58 n n1 n2 n3 n4 n5 n6 n7 n8 n9 n10 n11 n12 n13 n14 n15 n16 n17 n18 n19 n20 n21 n22 n23 n24 n25 n26 p h fun r h1 => ∃ n28 : Int, r = .int .i64 n28 ∧ par (n28 ≤ n27) (Q (.tuple ⟨[.agg ⟨[.int .i64 0, .slice none 0 0, .slice none 0 0, .string (ByteArray.mk #[]), .bool false]⟩, .bool false]⟩) h1) (T27 p n27 h1 fun r1 h2 => ∃ l1 : Sl, r1 = .slice l1.a l1.n l1.c ∧ par ((l1.n : Int) = 0) (Q (.tuple ⟨[.agg ⟨[.int .i64 0, .slice none 0 0, .slice none 0 0, .string (ByteArray.mk #[]), .bool false]⟩, .bool false]⟩) h2) (par (n27 = 0) (T61 l1 h2 fun r2 h3 => ∃ s : ByteArray, ∃ s1 : ByteArray, r2 = .tuple ⟨[.string s, .string s1]⟩ ∧ T47 p 1 s s1 h3 fun r3 h4 => ∃ l2 : Sl, r3 = .slice l2.a l2.n l2.c ∧ Q (.tuple ⟨[.agg ⟨[.int .i64 0, .slice l1.a l1.n l1.c, .slice l2.a l2.n l2.c, .string (ByteArray.mk #[]), .bool false]⟩, .bool true]⟩) h4) (T63 l n27 h2 fun r4 h5 => ∃ s2 : ByteArray, r4 = .string s2 ∧ T62 l1 s2 h5 fun r5 h6 => ∃ n29 : Int, ∃ n30 : Int, ∃ n31 : Int, ∃ n32 : Int, ∃ s3 : ByteArray, ∃ s4 : ByteArray, r5 = .agg ⟨[.int .u64 n29, .int .i64 n30, .int .i64 n31, .int .i64 n32, .string s3, .string s4]⟩ ∧ ∀ b, h6 b = none → T47 p (IntKind.wrap .i64 (n27 + 1)) s3 s4 (h6.new b (.cells ⟨[.int .u64 n29, .int .i64 n30, .int .i64 n31, .int .i64 n32, .string s3, .string s4]⟩ 47 (0, 0))) fun r6 h7 => ∃ l3 : Sl, r6 = .slice l3.a l3.n l3.c ∧ par ((l3.n : Int) = 0) (T58 n n1 n2 n3 n4 n5 n6 n7 n8 n9 n10 n11 n12 n13 n14 n15 n16 n17 n18 n19 n20 n21 n22 n23 n24 n25 n26 p h7 fun r7 h8 => ∃ n33 : Int, r7 = .int .i64 n33 ∧ par ((IntKind.wrap .i64 (n27 + 1)) = n33) (par ((iMax n12 0) < (l3.n : Int)) (∃ b1 o, (l3.a : Option Addr) = some ⟨b1, o, none⟩ ∧ ((0 : Int) ≤ (iMax n12 0) ∧ (iMax n12 0) < (l3.n : Int)) ∧ ∃ s5 : ByteArray, h8.at b1 ((o + ((iMax n12 0)).toNat * 6) + 4) = some (.string s5) ∧ Sl.okCut l3 0 (iMax n12 0) (iMax n12 0) ∧ Q (.tuple ⟨[.agg ⟨[.int .i64 n27, .slice (some ⟨b, 0, none⟩) 1 1, .slice (Sl.cut l3 6 0 (iMax n12 0) (iMax n12 0)).a (Sl.cut l3 6 0 (iMax n12 0) (iMax n12 0)).n (Sl.cut l3 6 0 (iMax n12 0) (iMax n12 0)).c, .string s5, .bool false]⟩, .bool true]⟩) h8) (Q (.tuple ⟨[.agg ⟨[.int .i64 n27, .slice (some ⟨b, 0, none⟩) 1 1, .slice l3.a l3.n l3.c, .string (ByteArray.mk #[]), .bool false]⟩, .bool true]⟩) h8)) (par ((iMax n12 0) < (l3.n : Int)) (∃ b2 o1, (l3.a : Option Addr) = some ⟨b2, o1, none⟩ ∧ ((0 : Int) ≤ (iMax n12 0) ∧ (iMax n12 0) < (l3.n : Int)) ∧ ∃ s6 : ByteArray, h8.at b2 ((o1 + ((iMax n12 0)).toNat * 6) + 4) = some (.string s6) ∧ Sl.okCut l3 0 (iMax n12 0) (iMax n12 0) ∧ Q (.tuple ⟨[.agg ⟨[.int .i64 n27, .slice (some ⟨b, 0, none⟩) 1 1, .slice (Sl.cut l3 6 0 (iMax n12 0) (iMax n12 0)).a (Sl.cut l3 6 0 (iMax n12 0) (iMax n12 0)).n (Sl.cut l3 6 0 (iMax n12 0) (iMax n12 0)).c, .string s6, .bool true]⟩, .bool true]⟩) h8) (Q (.tuple ⟨[.agg ⟨[.int .i64 n27, .slice (some ⟨b, 0, none⟩) 1 1, .slice l3.a l3.n l3.c, .string (ByteArray.mk #[]), .bool true]⟩, .bool true]⟩) h8))) (par ((iMax n12 0) < (l3.n : Int)) (∃ b3 o2, (l3.a : Option Addr) = some ⟨b3, o2, none⟩ ∧ ((0 : Int) ≤ (iMax n12 0) ∧ (iMax n12 0) < (l3.n : Int)) ∧ ∃ s7 : ByteArray, h7.at b3 ((o2 + ((iMax n12 0)).toNat * 6) + 4) = some (.string s7) ∧ Sl.okCut l3 0 (iMax n12 0) (iMax n12 0) ∧ Q (.tuple ⟨[.agg ⟨[.int .i64 n27, .slice (some ⟨b, 0, none⟩) 1 1, .slice (Sl.cut l3 6 0 (iMax n12 0) (iMax n12 0)).a (Sl.cut l3 6 0 (iMax n12 0) (iMax n12 0)).n (Sl.cut l3 6 0 (iMax n12 0) (iMax n12 0)).c, .string s7, .bool false]⟩, .bool true]⟩) h7) (Q (.tuple ⟨[.agg ⟨[.int .i64 n27, .slice (some ⟨b, 0, none⟩) 1 1, .slice l3.a l3.n l3.c, .string (ByteArray.mk #[]), .bool false]⟩, .bool true]⟩) h7))))))
def F29.T (n n1 : Int) (n2 n3 : Int) (n4 n5 : Int) (n6 n7 : Int) (n8 n9 : Int) (n10 n11 : Int) (n12 n13 : Int) (n14 n15 : Int) (n16 n17 : Int) (n18 n19 : Int) (n20 n21 : Int) (n22 n23 : Int) (n24 n25 n26 : Int) (p : Option Addr) (l : Sl) (n27 : Int) : PT := F29.G F27.T F47.T F58.T F61.T F62.T F63.T n n1 n2 n3 n4 n5 n6 n7 n8 n9 n10 n11 n12 n13 n14 n15 n16 n17 n18 n19 n20 n21 n22 n23 n24 n25 n26 p l n27
theorem F29.gen (V : Value → List Value → PT) (T27 : Option Addr → Int → PT) (T47 : Option Addr → Int → ByteArray → ByteArray → PT) (T58 : Int → Int → Int → Int → Int → Int → Int → Int → Int → Int → Int → Int → Int → Int → Int → Int → Int → Int → Int → Int → Int → Int → Int → Int → Int → Int → Int → Option Addr → PT) (T61 : Sl → PT) (T62 : Sl → ByteArray → PT) (T63 : Sl → Int → PT) (n n1 : Int) (n2 n3 : Int) (n4 n5 : Int) (n6 n7 : Int) (n8 n9 : Int) (n10 n11 : Int) (n12 n13 : Int) (n14 n15 : Int) (n16 n17 : Int) (n18 n19 : Int) (n20 n21 : Int) (n22 n23 : Int) (n24 n25 n26 : Int) (p : Option Addr) (l : Sl) (n27 : Int) : denF Try.prog [4, 8, 13, 14] [(27, F27.W T27), (47, F47.W T47), (58, F58.W T58), (61, F61.W T61), (62, F62.W T62), (63, F63.W T63)] V [] Try.f29 [.v (.agg ⟨[.int .i64 n, .int .i64 n1, .int .i64 n2, .int .i64 n3, .int .i64 n4, .int .i64 n5, .int .i64 n6, .int .i64 n7, .int .i64 n8, .int .i64 n9, .int .i64 n10, .int .i64 n11, .int .i64 n12, .int .i64 n13, .int .i64 n14, .int .i64 n15, .int .i64 n16, .int .i64 n17, .int .i64 n18, .int .i64 n19, .int .i64 n20, .int .i64 n21, .int .i64 n22, .int .i64 n23, .int .i64 n24, .int .i64 n25, .int .i64 n26]⟩), .v (.pointer p), .v (.slice l.a l.n l.c), .v (.int .i64 n27)] = F29.G T27 T47 T58 T61 T62 T63 n n1 n2 n3 n4 n5 n6 n7 n8 n9 n10 n11 n12 n13 n14 n15 n16 n17 n18 n19 n20 n21 n22 n23 n24 n25 n26 p l n27 := by kernel_rfl
theorem F29.den (V : Value → List Value → PT) (n n1 : Int) (n2 n3 : Int) (n4 n5 : Int) (n6 n7 : Int) (n8 n9 : Int) (n10 n11 : Int) (n12 n13 : Int) (n14 n15 : Int) (n16 n17 : Int) (n18 n19 : Int) (n20 n21 : Int) (n22 n23 : Int) (n24 n25 n26 : Int) (p : Option Addr) (l : Sl) (n27 : Int) : denF Try.prog [4, 8, 13, 14] [(27, F27.V), (47, F47.V), (58, F58.V), (61, F61.V), (62, F62.V), (63, F63.V)] V [] Try.f29 [.v (.agg ⟨[.int .i64 n, .int .i64 n1, .int .i64 n2, .int .i64 n3, .int .i64 n4, .int .i64 n5, .int .i64 n6, .int .i64 n7, .int .i64 n8, .int .i64 n9, .int .i64 n10, .int .i64 n11, .int .i64 n12, .int .i64 n13, .int .i64 n14, .int .i64 n15, .int .i64 n16, .int .i64 n17, .int .i64 n18, .int .i64 n19, .int .i64 n20, .int .i64 n21, .int .i64 n22, .int .i64 n23, .int .i64 n24, .int .i64 n25, .int .i64 n26]⟩), .v (.pointer p), .v (.slice l.a l.n l.c), .v (.int .i64 n27)] = F29.T n n1 n2 n3 n4 n5 n6 n7 n8 n9 n10 n11 n12 n13 n14 n15 n16 n17 n18 n19 n20 n21 n22 n23 n24 n25 n26 p l n27 := F29.gen V F27.T F47.T F58.T F61.T F62.T F63.T n n1 n2 n3 n4 n5 n6 n7 n8 n9 n10 n11 n12 n13 n14 n15 n16 n17 n18 n19 n20 n21 n22 n23 n24 n25 n26 p l n27
def F29.W (T29 : Int → Int → Int → Int → Int → Int → Int → Int → Int → Int → Int → Int → Int → Int → Int → Int → Int → Int → Int → Int → Int → Int → Int → Int → Int → Int → Int → Option Addr → Sl → Int → PT) (args : List Value) : PT := match args with
  | [.agg ⟨[.int .i64 n, .int .i64 n1, .int .i64 n2, .int .i64 n3, .int .i64 n4, .int .i64 n5, .int .i64 n6, .int .i64 n7, .int .i64 n8, .int .i64 n9, .int .i64 n10, .int .i64 n11, .int .i64 n12, .int .i64 n13, .int .i64 n14, .int .i64 n15, .int .i64 n16, .int .i64 n17, .int .i64 n18, .int .i64 n19, .int .i64 n20, .int .i64 n21, .int .i64 n22, .int .i64 n23, .int .i64 n24, .int .i64 n25, .int .i64 n26]⟩, .pointer p, .slice l_a l_n l_c, .int .i64 n27] => T29 n n1 n2 n3 n4 n5 n6 n7 n8 n9 n10 n11 n12 n13 n14 n15 n16 n17 n18 n19 n20 n21 n22 n23 n24 n25 n26 p ⟨l_a, l_n, l_c⟩ n27
  | _ => fun _ _ => False
def F29.V : List Value → PT := F29.W F29.T
theorem F29.ok : FOk Try.prog 29 F29.V := by
  refine ⟨⟨_, Try.func29, rfl, rfl⟩, fun args => ?_⟩
  have hG : GOk Try.prog [(27, F27.V), (47, F47.V), (58, F58.V), (61, F61.V), (62, F62.V), (63, F63.V)] := GOk.cons F27.ok (GOk.cons F47.ok (GOk.cons F58.ok (GOk.cons F61.ok (GOk.cons F62.ok (GOk.cons F63.ok (GOk.nil))))))
  have hV : VOk Try.prog noV := noV_ok
  unfold F29.V F29.W
  split
  · exact denF_okV hG hV Try.func29 (fun h Q hq => (F29.den _ _ _ _ _ _ _ _ _ _ _ _ _ _ _ _ _ _ _ _ _ _ _ _ _ _ _ _ _ _ _) ▸ hq)
  · exact fun h Q hq => hq.elim
def F74.T (n n1 : Int) (s s1 : ByteArray) : PT := fun h Q =>
  Q (.agg ⟨[.int .u64 n, .int .i64 n1, .int .i64 0, .int .i64 0, .string s, .string s1]⟩) h
theorem F74.den (V : Value → List Value → PT) (n n1 : Int) (s s1 : ByteArray) : denF Try.prog [8] [] V [] Try.f74 [.v (.int .u64 n), .v (.int .i64 n1), .v (.string s), .v (.string s1)] = F74.T n n1 s s1 := by kernel_rfl
def F74.W (T74 : Int → Int → ByteArray → ByteArray → PT) (args : List Value) : PT := match args with
  | [.int .u64 n, .int .i64 n1, .string s, .string s1] => T74 n n1 s s1
  | _ => fun _ _ => False
def F74.V : List Value → PT := F74.W F74.T
theorem F74.ok : FOk Try.prog 74 F74.V := by
  refine ⟨⟨_, Try.func74, rfl, rfl⟩, fun args => ?_⟩
  have hG : GOk Try.prog [] := GOk.nil
  have hV : VOk Try.prog noV := noV_ok
  unfold F74.V F74.W
  split
  · exact denF_okV hG hV Try.func74 (fun h Q hq => (F74.den _ _ _ _ _) ▸ hq)
  · exact fun h Q hq => hq.elim
@[reducible] def F48.G (T10 : Int → PT) (T11 : Option Addr → PT) (T13 : Option Addr → Int → Int → Int → Sl → Sl → Sl → PT) (T74 : Int → Int → ByteArray → ByteArray → PT)  : PT := fun h Q =>
  T10 4 h fun r h1 => ∃ p : Option Addr, r = .pointer p ∧ okPtr h1 p none ∧ par ((p : Option Addr) = none) (Q (.tuple ⟨[.agg ⟨[.int .i64 0, .int .i64 0, .int .i64 0, .int .i64 0, .int .i64 0, .int .i64 2, .int .i64 0, .int .i64 4, .int .i64 4, .int .i64 4096, .int .i64 2, .int .i64 0, .int .i64 2, .int .i64 0, .int .i64 0, .int .i64 0, .int .i64 0, .int .i64 0, .int .i64 0, .int .i64 0, .int .i64 0, .int .i64 0, .int .i64 0, .int .i64 0, .int .i64 0, .int .i64 0, .int .i64 0]⟩, .pointer none]⟩) h1) (T74 9 500 (ByteArray.mk #[98]) (ByteArray.mk #[100]) h1 fun r1 h2 => ∃ n : Int, ∃ n1 : Int, ∃ n2 : Int, ∃ n3 : Int, ∃ s : ByteArray, ∃ s1 : ByteArray, r1 = .agg ⟨[.int .u64 n, .int .i64 n1, .int .i64 n2, .int .i64 n3, .string s, .string s1]⟩ ∧ T74 12 500 (ByteArray.mk #[99]) (ByteArray.mk #[107]) h2 fun r2 h3 => ∃ n4 : Int, ∃ n5 : Int, ∃ n6 : Int, ∃ n7 : Int, ∃ s2 : ByteArray, ∃ s3 : ByteArray, r2 = .agg ⟨[.int .u64 n4, .int .i64 n5, .int .i64 n6, .int .i64 n7, .string s2, .string s3]⟩ ∧ T74 3 2000 (ByteArray.mk #[97]) (ByteArray.mk #[99]) h3 fun r3 h4 => ∃ n8 : Int, ∃ n9 : Int, ∃ n10 : Int, ∃ n11 : Int, ∃ s4 : ByteArray, ∃ s5 : ByteArray, r3 = .agg ⟨[.int .u64 n8, .int .i64 n9, .int .i64 n10, .int .i64 n11, .string s4, .string s5]⟩ ∧ T74 4 2000 (ByteArray.mk #[101]) (ByteArray.mk #[112]) h4 fun r4 h5 => ∃ n12 : Int, ∃ n13 : Int, ∃ n14 : Int, ∃ n15 : Int, ∃ s6 : ByteArray, ∃ s7 : ByteArray, r4 = .agg ⟨[.int .u64 n12, .int .i64 n13, .int .i64 n14, .int .i64 n15, .string s6, .string s7]⟩ ∧ T74 5 1000 (ByteArray.mk #[113]) (ByteArray.mk #[122]) h5 fun r5 h6 => ∃ n16 : Int, ∃ n17 : Int, ∃ n18 : Int, ∃ n19 : Int, ∃ s8 : ByteArray, ∃ s9 : ByteArray, r5 = .agg ⟨[.int .u64 n16, .int .i64 n17, .int .i64 n18, .int .i64 n19, .string s8, .string s9]⟩ ∧ T74 6 3000 (ByteArray.mk #[100]) (ByteArray.mk #[102]) h6 fun r6 h7 => ∃ n20 : Int, ∃ n21 : Int, ∃ n22 : Int, ∃ n23 : Int, ∃ s10 : ByteArray, ∃ s11 : ByteArray, r6 = .agg ⟨[.int .u64 n20, .int .i64 n21, .int .i64 n22, .int .i64 n23, .string s10, .string s11]⟩ ∧ T74 7 3000 (ByteArray.mk #[103]) (ByteArray.mk #[105]) h7 fun r7 h8 => ∃ n24 : Int, ∃ n25 : Int, ∃ n26 : Int, ∃ n27 : Int, ∃ s12 : ByteArray, ∃ s13 : ByteArray, r7 = .agg ⟨[.int .u64 n24, .int .i64 n25, .int .i64 n26, .int .i64 n27, .string s12, .string s13]⟩ ∧ T74 8 2000 (ByteArray.mk #[107]) (ByteArray.mk #[108]) h8 fun r8 h9 => ∃ n28 : Int, ∃ n29 : Int, ∃ n30 : Int, ∃ n31 : Int, ∃ s14 : ByteArray, ∃ s15 : ByteArray, r8 = .agg ⟨[.int .u64 n28, .int .i64 n29, .int .i64 n30, .int .i64 n31, .string s14, .string s15]⟩ ∧ T74 10 1000 (ByteArray.mk #[120]) (ByteArray.mk #[122]) h9 fun r9 h10 => ∃ n32 : Int, ∃ n33 : Int, ∃ n34 : Int, ∃ n35 : Int, ∃ s16 : ByteArray, ∃ s17 : ByteArray, r9 = .agg ⟨[.int .u64 n32, .int .i64 n33, .int .i64 n34, .int .i64 n35, .string s16, .string s17]⟩ ∧ T74 11 90000 (ByteArray.mk #[97]) (ByteArray.mk #[122]) h10 fun r10 h11 => ∃ n36 : Int, ∃ n37 : Int, ∃ n38 : Int, ∃ n39 : Int, ∃ s18 : ByteArray, ∃ s19 : ByteArray, r10 = .agg ⟨[.int .u64 n36, .int .i64 n37, .int .i64 n38, .int .i64 n39, .string s18, .string s19]⟩ ∧ ∀ b, h11 b = none → ∀ b1, (h11.new b (.cells ⟨[.int .i64 0, .int .u64 n, .int .i64 n1, .int .i64 n2, .int .i64 n3, .string s, .string s1, .int .i64 0, .int .u64 n4, .int .i64 n5, .int .i64 n6, .int .i64 n7, .string s2, .string s3, .int .i64 1, .int .u64 n8, .int .i64 n9, .int .i64 n10, .int .i64 n11, .string s4, .string s5, .int .i64 1, .int .u64 n12, .int .i64 n13, .int .i64 n14, .int .i64 n15, .string s6, .string s7, .int .i64 1, .int .u64 n16, .int .i64 n17, .int .i64 n18, .int .i64 n19, .string s8, .string s9, .int .i64 2, .int .u64 n20, .int .i64 n21, .int .i64 n22, .int .i64 n23, .string s10, .string s11, .int .i64 2, .int .u64 n24, .int .i64 n25, .int .i64 n26, .int .i64 n27, .string s12, .string s13, .int .i64 2, .int .u64 n28, .int .i64 n29, .int .i64 n30, .int .i64 n31, .string s14, .string s15, .int .i64 2, .int .u64 n32, .int .i64 n33, .int .i64 n34, .int .i64 n35, .string s16, .string s17, .int .i64 3, .int .u64 n36, .int .i64 n37, .int .i64 n38, .int .i64 n39, .string s18, .string s19]⟩ 49 (0, 0))) b1 = none → T13 p 0 0 0 ⟨none, 0, 0⟩ ⟨(some ⟨b, 0, none⟩), 10, 10⟩ ⟨(some ⟨b1, 0, none⟩), 4, 4⟩ ((h11.new b (.cells ⟨[.int .i64 0, .int .u64 n, .int .i64 n1, .int .i64 n2, .int .i64 n3, .string s, .string s1, .int .i64 0, .int .u64 n4, .int .i64 n5, .int .i64 n6, .int .i64 n7, .string s2, .string s3, .int .i64 1, .int .u64 n8, .int .i64 n9, .int .i64 n10, .int .i64 n11, .string s4, .string s5, .int .i64 1, .int .u64 n12, .int .i64 n13, .int .i64 n14, .int .i64 n15, .string s6, .string s7, .int .i64 1, .int .u64 n16, .int .i64 n17, .int .i64 n18, .int .i64 n19, .string s8, .string s9, .int .i64 2, .int .u64 n20, .int .i64 n21, .int .i64 n22, .int .i64 n23, .string s10, .string s11, .int .i64 2, .int .u64 n24, .int .i64 n25, .int .i64 n26, .int .i64 n27, .string s12, .string s13, .int .i64 2, .int .u64 n28, .int .i64 n29, .int .i64 n30, .int .i64 n31, .string s14, .string s15, .int .i64 2, .int .u64 n32, .int .i64 n33, .int .i64 n34, .int .i64 n35, .string s16, .string s17, .int .i64 3, .int .u64 n36, .int .i64 n37, .int .i64 n38, .int .i64 n39, .string s18, .string s19]⟩ 49 (0, 0))).new b1 (.cells ⟨[.string (ByteArray.mk #[]), .string (ByteArray.mk #[]), .string (ByteArray.mk #[]), .string (ByteArray.mk #[])]⟩ 9 (0, 0))) fun r11 h12 => ∃ l : Sl, ∃ n40 : Int, r11 = .tuple ⟨[.slice l.a l.n l.c, .int .i64 n40]⟩ ∧ par (n40 = 0) (T11 p h12 fun r12 h13 => ∃ p1 : Option Addr, r12 = .pointer p1 ∧ Q (.tuple ⟨[.agg ⟨[.int .i64 0, .int .i64 0, .int .i64 0, .int .i64 0, .int .i64 0, .int .i64 2, .int .i64 0, .int .i64 4, .int .i64 4, .int .i64 4096, .int .i64 2, .int .i64 0, .int .i64 2, .int .i64 0, .int .i64 0, .int .i64 0, .int .i64 0, .int .i64 0, .int .i64 0, .int .i64 0, .int .i64 0, .int .i64 0, .int .i64 0, .int .i64 0, .int .i64 0, .int .i64 0, .int .i64 0]⟩, .pointer p1]⟩) h13) (Q (.tuple ⟨[.agg ⟨[.int .i64 0, .int .i64 0, .int .i64 0, .int .i64 0, .int .i64 0, .int .i64 2, .int .i64 0, .int .i64 4, .int .i64 4, .int .i64 4096, .int .i64 2, .int .i64 0, .int .i64 2, .int .i64 0, .int .i64 0, .int .i64 0, .int .i64 0, .int .i64 0, .int .i64 0, .int .i64 0, .int .i64 0, .int .i64 0, .int .i64 0, .int .i64 0, .int .i64 0, .int .i64 0, .int .i64 0]⟩, .pointer none]⟩) h12))
def F48.T  : PT := F48.G F10.T F11.T F13.T F74.T 
theorem F48.gen (V : Value → List Value → PT) (T10 : Int → PT) (T11 : Option Addr → PT) (T13 : Option Addr → Int → Int → Int → Sl → Sl → Sl → PT) (T74 : Int → Int → ByteArray → ByteArray → PT) : denF Try.prog [0, 2] [(10, F10.W T10), (11, F11.W T11), (13, F13.W T13), (74, F74.W T74)] V [(510, .order [0, 1, 2, 3, 4])] Try.f48 [] = F48.G T10 T11 T13 T74  := by kernel_rfl
theorem F48.den (V : Value → List Value → PT)  : denF Try.prog [0, 2] [(10, F10.V), (11, F11.V), (13, F13.V), (74, F74.V)] V [(510, .order [0, 1, 2, 3, 4])] Try.f48 [] = F48.T  := F48.gen V F10.T F11.T F13.T F74.T 
def F48.W (T48 : PT) (args : List Value) : PT := match args with
  | [] => T48 
  | _ => fun _ _ => False
def F48.V : List Value → PT := F48.W F48.T
theorem F48.ok : FOk Try.prog 48 F48.V := by
  refine ⟨⟨_, Try.func48, rfl, rfl⟩, fun args => ?_⟩
  have hG : GOk Try.prog [(10, F10.V), (11, F11.V), (13, F13.V), (74, F74.V)] := GOk.cons F10.ok (GOk.cons F11.ok (GOk.cons F13.ok (GOk.cons F74.ok (GOk.nil))))
  have hV : VOk Try.prog noV := noV_ok
  unfold F48.V F48.W
  split
  · exact denF_okV hG hV Try.func48 (fun h Q hq => (F48.den _ ) ▸ hq)
  · exact fun h Q hq => hq.elim
def F49.T (l l1 : Sl) : PT := fun h Q =>
  par ((l.n : Int) = (l1.n : Int)) (∃ (I : Int → Hp → Prop) (m : Int → Hp → Nat), I 0 h ∧ (∀ n : Int, ∀ h1 : Hp, I n h1 → par (n < (l.n : Int)) (∃ b o, (l.a : Option Addr) = some ⟨b, o, none⟩ ∧ ((0 : Int) ≤ n ∧ n < (l.n : Int)) ∧ ∃ n1 : Int, h1.at b (o + n.toNat) = some (.int .i64 n1) ∧ ∃ b1 o1, (l1.a : Option Addr) = some ⟨b1, o1, none⟩ ∧ ((0 : Int) ≤ n ∧ n < (l1.n : Int)) ∧ ∃ n2 : Int, h1.at b1 (o1 + n.toNat) = some (.int .i64 n2) ∧ par (n1 = n2) (I (IntKind.wrap .i64 (n + 1)) h1 ∧ m (IntKind.wrap .i64 (n + 1)) h1 < m n h1) (Q (.bool false) h1)) (Q (.bool true) h1))) (Q (.bool false) h)
theorem F49.den (V : Value → List Value → PT) (l l1 : Sl) : denF Try.prog [] [] V [(58, .loop [(5, .int .i64)] []), (1864, .order [0, 1, 2, 3, 4, 5, 6, 7, 8])] Try.f49 [.v (.slice l.a l.n l.c), .v (.slice l1.a l1.n l1.c)] = F49.T l l1 := by kernel_rfl
def F49.W (T49 : Sl → Sl → PT) (args : List Value) : PT := match args with
  | [.slice l_a l_n l_c, .slice l1_a l1_n l1_c] => T49 ⟨l_a, l_n, l_c⟩ ⟨l1_a, l1_n, l1_c⟩
  | _ => fun _ _ => False
def F49.V : List Value → PT := F49.W F49.T
theorem F49.ok : FOk Try.prog 49 F49.V := by
  refine ⟨⟨_, Try.func49, rfl, rfl⟩, fun args => ?_⟩
  have hG : GOk Try.prog [] := GOk.nil
  have hV : VOk Try.prog noV := noV_ok
  unfold F49.V F49.W
  split
  · exact denF_okV hG hV Try.func49 (fun h Q hq => (F49.den _ _ _) ▸ hq)
  · exact fun h Q hq => hq.elim
def F84.T (l : Sl) (n : Int) : PT := fun h Q =>
  par (n < 0) (False) (par ((0 : Int) < (IntKind.wrap .i64 (n - (IntKind.wrap .i64 ((l.c : Int) - (l.n : Int)))))) (Sl.okCut l 0 (l.c : Int) (l.c : Int) ∧ (0 : Int) ≤ (IntKind.wrap .i64 (n - (IntKind.wrap .i64 ((l.c : Int) - (l.n : Int))))) ∧ appendD (Sl.cut l 6 0 (l.c : Int) (l.c : Int)) 47 6 64 [.int .u64 0, .int .i64 0, .int .i64 0, .int .i64 0, .string (ByteArray.mk #[]), .string (ByteArray.mk #[])] (IntKind.wrap .i64 (n - (IntKind.wrap .i64 ((l.c : Int) - (l.n : Int))))).toNat (zerosV [.int .u64 0, .int .i64 0, .int .i64 0, .int .i64 0, .string (ByteArray.mk #[]), .string (ByteArray.mk #[])] (IntKind.wrap .i64 (n - (IntKind.wrap .i64 ((l.c : Int) - (l.n : Int))))).toNat) h fun l1 h1 => Sl.okCut l1 0 (l.n : Int) (l1.c : Int) ∧ Q (.slice (Sl.cut l1 6 0 (l.n : Int) (l1.c : Int)).a (Sl.cut l1 6 0 (l.n : Int) (l1.c : Int)).n (Sl.cut l1 6 0 (l.n : Int) (l1.c : Int)).c) h1) (Q (.slice l.a l.n l.c) h))
theorem F84.den (V : Value → List Value → PT) (l : Sl) (n : Int) : denF Try.prog [] [] V [] Try.f84 [.v (.slice l.a l.n l.c), .v (.int .i64 n)] = F84.T l n := by kernel_rfl
def F84.W (T84 : Sl → Int → PT) (args : List Value) : PT := match args with
  | [.slice l_a l_n l_c, .int .i64 n] => T84 ⟨l_a, l_n, l_c⟩ n
  | _ => fun _ _ => False
def F84.V : List Value → PT := F84.W F84.T
theorem F84.ok : FOk Try.prog 84 F84.V := by
  refine ⟨⟨_, Try.func84, rfl, rfl⟩, fun args => ?_⟩
  have hG : GOk Try.prog [] := GOk.nil
  have hV : VOk Try.prog noV := noV_ok
  unfold F84.V F84.W
  split
  · exact denF_okV hG hV Try.func84 (fun h Q hq => (F84.den _ _ _) ▸ hq)
  · exact fun h Q hq => hq.elim
@[reducible] def F75.G (T84 : Sl → Int → PT) (l : Sl) : PT := fun h Q =>
  ∃ (I : Int → Int → Hp → Prop) (m : Int → Int → Hp → Nat), I 0 0 h ∧ (∀ n : Int, ∀ n1 : Int, ∀ h1 : Hp, I n n1 h1 → par (n1 < (l.n : Int)) (∃ b o, (l.a : Option Addr) = some ⟨b, o, none⟩ ∧ ((0 : Int) ≤ n1 ∧ n1 < (l.n : Int)) ∧ ∃ l1 : Sl, h1.at b (o + n1.toNat) = some (.slice l1.a l1.n l1.c) ∧ par ((IntKind.wrap .i64 (n + (l1.n : Int))) < 0) (False) (I (IntKind.wrap .i64 (n + (l1.n : Int))) (IntKind.wrap .i64 (n1 + 1)) h1 ∧ m (IntKind.wrap .i64 (n + (l1.n : Int))) (IntKind.wrap .i64 (n1 + 1)) h1 < m n n1 h1)) (T84 ⟨none, 0, 0⟩ n h1 fun r h2 => ∃ l2 : Sl, r = .slice l2.a l2.n l2.c ∧ ∃ (I1 : Sl → Int → Hp → Prop) (m1 : Sl → Int → Hp → Nat), I1 l2 0 h2 ∧ (∀ l3 : Sl, ∀ n2 : Int, ∀ h3 : Hp, I1 l3 n2 h3 → par (n2 < (l.n : Int)) (∃ b1 o1, (l.a : Option Addr) = some ⟨b1, o1, none⟩ ∧ ((0 : Int) ≤ n2 ∧ n2 < (l.n : Int)) ∧ ∃ l4 : Sl, h3.at b1 (o1 + n2.toNat) = some (.slice l4.a l4.n l4.c) ∧ ∃ vs, h3.row l4.a (l4.n * 6) vs ∧ (∀ v ∈ vs, Value.oneCell' v = true) ∧ appendD l3 47 6 64 [.int .u64 0, .int .i64 0, .int .i64 0, .int .i64 0, .string (ByteArray.mk #[]), .string (ByteArray.mk #[])] l4.n vs h3 fun l5 h4 => I1 l5 (IntKind.wrap .i64 (n2 + 1)) h4 ∧ m1 l5 (IntKind.wrap .i64 (n2 + 1)) h4 < m1 l3 n2 h3) (Q (.slice l3.a l3.n l3.c) h3))))
def F75.T (l : Sl) : PT := F75.G F84.T l
theorem F75.gen (V : Value → List Value → PT) (T84 : Sl → Int → PT) (l : Sl) : denF Try.prog [] [(84, F84.W T84)] V [(58, .loop [(3, .int .i64), (11, .int .i64)] []), (250, .loop [(6, .sl), (27, .int .i64)] [])] Try.f75 [.v (.slice l.a l.n l.c)] = F75.G T84 l := by kernel_rfl
theorem F75.den (V : Value → List Value → PT) (l : Sl) : denF Try.prog [] [(84, F84.V)] V [(58, .loop [(3, .int .i64), (11, .int .i64)] []), (250, .loop [(6, .sl), (27, .int .i64)] [])] Try.f75 [.v (.slice l.a l.n l.c)] = F75.T l := F75.gen V F84.T l
def F75.W (T75 : Sl → PT) (args : List Value) : PT := match args with
  | [.slice l_a l_n l_c] => T75 ⟨l_a, l_n, l_c⟩
  | _ => fun _ _ => False
def F75.V : List Value → PT := F75.W F75.T
theorem F75.ok : FOk Try.prog 75 F75.V := by
  refine ⟨⟨_, Try.func75, rfl, rfl⟩, fun args => ?_⟩
  have hG : GOk Try.prog [(84, F84.V)] := GOk.cons F84.ok (GOk.nil)
  have hV : VOk Try.prog noV := noV_ok
  unfold F75.V F75.W
  split
  · exact denF_okV hG hV Try.func75 (fun h Q hq => (F75.den _ _) ▸ hq)
  · exact fun h Q hq => hq.elim
def F85.T (l : Sl) (n : Int) : PT := fun h Q =>
  ∃ (I : Int → Hp → Prop) (m : Int → Hp → Nat), I 0 h ∧ (∀ n1 : Int, ∀ h1 : Hp, I n1 h1 → par (n1 < (l.n : Int)) (∃ b o, (l.a : Option Addr) = some ⟨b, o, none⟩ ∧ ((0 : Int) ≤ n1 ∧ n1 < (l.n : Int)) ∧ ∃ n2 : Int, h1.at b (o + n1.toNat) = some (.int .u64 n2) ∧ par (n = n2) (Q (.int .i64 n1) h1) (I (IntKind.wrap .i64 (n1 + 1)) h1 ∧ m (IntKind.wrap .i64 (n1 + 1)) h1 < m n1 h1)) (Q (.int .i64 (-1)) h1))
theorem F85.den (V : Value → List Value → PT) (l : Sl) (n : Int) : denF Try.prog [] [] V [(26, .loop [(8, .int .i64)] [])] Try.f85 [.v (.slice l.a l.n l.c), .v (.int .u64 n)] = F85.T l n := by kernel_rfl
def F85.W (T85 : Sl → Int → PT) (args : List Value) : PT := match args with
  | [.slice l_a l_n l_c, .int .u64 n] => T85 ⟨l_a, l_n, l_c⟩ n
  | _ => fun _ _ => False
def F85.V : List Value → PT := F85.W F85.T
theorem F85.ok : FOk Try.prog 85 F85.V := by
  refine ⟨⟨_, Try.func85, rfl, rfl⟩, fun args => ?_⟩
  have hG : GOk Try.prog [] := GOk.nil
  have hV : VOk Try.prog noV := noV_ok
  unfold F85.V F85.W
  split
  · exact denF_okV hG hV Try.func85 (fun h Q hq => (F85.den _ _ _) ▸ hq)
  · exact fun h Q hq => hq.elim
@[reducible] def F76.G (T85 : Sl → Int → PT) (l : Sl) (n : Int) : PT := fun h Q =>
  T85 l n h fun r h1 => ∃ n1 : Int, r = .int .i64 n1 ∧ par ((0 : Int) ≤ n1) (Q (.bool true) h1) (Q (.bool false) h1)
def F76.T (l : Sl) (n : Int) : PT := F76.G F85.T l n
theorem F76.gen (V : Value → List Value → PT) (T85 : Sl → Int → PT) (l : Sl) (n : Int) : denF Try.prog [] [(85, F85.W T85)] V [] Try.f76 [.v (.slice l.a l.n l.c), .v (.int .u64 n)] = F76.G T85 l n := by kernel_rfl
theorem F76.den (V : Value → List Value → PT) (l : Sl) (n : Int) : denF Try.prog [] [(85, F85.V)] V [] Try.f76 [.v (.slice l.a l.n l.c), .v (.int .u64 n)] = F76.T l n := F76.gen V F85.T l n
def F76.W (T76 : Sl → Int → PT) (args : List Value) : PT := match args with
  | [.slice l_a l_n l_c, .int .u64 n] => T76 ⟨l_a, l_n, l_c⟩ n
  | _ => fun _ _ => False
def F76.V : List Value → PT := F76.W F76.T
theorem F76.ok : FOk Try.prog 76 F76.V := by
  refine ⟨⟨_, Try.func76, rfl, rfl⟩, fun args => ?_⟩
  have hG : GOk Try.prog [(85, F85.V)] := GOk.cons F85.ok (GOk.nil)
  have hV : VOk Try.prog noV := noV_ok
  unfold F76.V F76.W
  split
  · exact denF_okV hG hV Try.func76 (fun h Q hq => (F76.den _ _ _) ▸ hq)
  · exact fun h Q hq => hq.elim
@[reducible] def F50.G (T25 : Int → Int → Int → Int → Int → Int → Int → Int → Int → Int → Int → Int → Int → Int → Int → Int → Int → Int → Int → Int → Int → Int → Int → Int → Int → Int → Int → Option Addr → PT) (T29 : Int → Int → Int → Int → Int → Int → Int → Int → Int → Int → Int → Int → Int → Int → Int → Int → Int → Int → Int → Int → Int → Int → Int → Int → Int → Int → Int → Option Addr → Sl → Int → PT) (T75 : Sl → PT) (T76 : Sl → Int → PT) (n n1 : Int) (n2 n3 : Int) (n4 n5 : Int) (n6 n7 : Int) (n8 n9 : Int) (n10 n11 : Int) (n12 n13 : Int) (n14 n15 : Int) (n16 n17 : Int) (n18 n19 : Int) (n20 n21 : Int) (n22 n23 : Int) (n24 n25 n26 : Int) (p : Option Addr) (l l1 : Sl) : PT := fun h Q =>
  T25 n n1 n2 n3 n4 n5 n6 n7 n8 n9 n10 n11 n12 n13 n14 n15 n16 n17 n18 n19 n20 n21 n22 n23 n24 n25 n26 p h fun r h1 => ∃ l2 : Sl, r = .slice l2.a l2.n l2.c ∧ ∀ b, h1 b = none → ∃ (I : Int → Int → Sl → Sl → ByteArray → Bool → Hp → Prop) (m : Int → Int → Sl → Sl → ByteArray → Bool → Hp → Nat), I 0 0 ⟨none, 0, 0⟩ ⟨none, 0, 0⟩ (ByteArray.mk #[]) false (h1.new b (.cells ⟨[.bool false, .bool false, .bool false, .bool false, .bool false, .bool false]⟩ 127 (0, 0))) ∧ (∀ n27 : Int, ∀ n28 : Int, ∀ l3 : Sl, ∀ l4 : Sl, ∀ s : ByteArray, (∀ h2 : Hp, I n27 n28 l3 l4 s true h2 → par (n27 < (l2.n : Int)) (∃ b2 o, (l2.a : Option Addr) = some ⟨b2, o, none⟩ ∧ ((0 : Int) ≤ n27 ∧ n27 < (l2.n : Int)) ∧ ∃ n29 : Int, h2.at b2 (o + n27.toNat) = some (.int .i64 n29) ∧ T29 n n1 n2 n3 n4 n5 n6 n7 n8 n9 n10 n11 n12 n13 n14 n15 n16 n17 n18 n19 n20 n21 n22 n23 n24 n25 n26 p l n29 h2 fun r1 h3 => ∃ n30 : Int, ∃ l5 : Sl, ∃ l6 : Sl, ∃ s1 : ByteArray, ∃ b3 : Bool, parB b3 (∃ b4 : Bool, parB b4 (r1 = .tuple ⟨[.agg ⟨[.int .i64 n30, .slice l5.a l5.n l5.c, .slice l6.a l6.n l6.c, .string s1, .bool true]⟩, .bool true]⟩ ∧ ((0 : Int) ≤ n29 ∧ n29 < ((6 : Nat) : Int)) ∧ ∃ b5 : Bool, h3.at b (0 + (n29 : Int).toNat) = some (.bool b5) ∧ parB b5 (((0 : Int) ≤ n29 ∧ n29 < ((6 : Nat) : Int)) ∧ h3.canW b (0 + (n29 : Int).toNat) 1 ∧ ((0 : Int) ≤ (IntKind.wrap .i64 (n29 + 1)) ∧ (IntKind.wrap .i64 (n29 + 1)) < ((6 : Nat) : Int)) ∧ (h3.wr b (0 + (n29 : Int).toNat) [.bool true]).canW b (0 + ((IntKind.wrap .i64 (n29 + 1)) : Int).toNat) 1 ∧ I (IntKind.wrap .i64 (n27 + 1)) n28 l3 l4 s true ((h3.wr b (0 + (n29 : Int).toNat) [.bool true]).wr b (0 + ((IntKind.wrap .i64 (n29 + 1)) : Int).toNat) [.bool true]) ∧ m (IntKind.wrap .i64 (n27 + 1)) n28 l3 l4 s true ((h3.wr b (0 + (n29 : Int).toNat) [.bool true]).wr b (0 + ((IntKind.wrap .i64 (n29 + 1)) : Int).toNat) [.bool true]) < m n27 n28 l3 l4 s true h2) (((0 : Int) ≤ (IntKind.wrap .i64 (n29 + 1)) ∧ (IntKind.wrap .i64 (n29 + 1)) < ((6 : Nat) : Int)) ∧ ∃ b6 : Bool, h3.at b (0 + ((IntKind.wrap .i64 (n29 + 1)) : Int).toNat) = some (.bool b6) ∧ parB b6 (((0 : Int) ≤ n29 ∧ n29 < ((6 : Nat) : Int)) ∧ h3.canW b (0 + (n29 : Int).toNat) 1 ∧ ((0 : Int) ≤ (IntKind.wrap .i64 (n29 + 1)) ∧ (IntKind.wrap .i64 (n29 + 1)) < ((6 : Nat) : Int)) ∧ (h3.wr b (0 + (n29 : Int).toNat) [.bool true]).canW b (0 + ((IntKind.wrap .i64 (n29 + 1)) : Int).toNat) 1 ∧ I (IntKind.wrap .i64 (n27 + 1)) n28 l3 l4 s true ((h3.wr b (0 + (n29 : Int).toNat) [.bool true]).wr b (0 + ((IntKind.wrap .i64 (n29 + 1)) : Int).toNat) [.bool true]) ∧ m (IntKind.wrap .i64 (n27 + 1)) n28 l3 l4 s true ((h3.wr b (0 + (n29 : Int).toNat) [.bool true]).wr b (0 + ((IntKind.wrap .i64 (n29 + 1)) : Int).toNat) [.bool true]) < m n27 n28 l3 l4 s true h2) (∀ b7, h3 b7 = none → T75 ⟨(some ⟨b7, 0, none⟩), 2, 2⟩ (h3.new b7 (.cells ⟨[.slice l5.a l5.n l5.c, .slice l6.a l6.n l6.c]⟩ 66 (0, 0))) fun r2 h4 => ∃ l7 : Sl, r2 = .slice l7.a l7.n l7.c ∧ ∃ (I1 : Int → Hp → Prop) (m1 : Int → Hp → Nat), I1 0 h4 ∧ (∀ n31 : Int, ∀ h5 : Hp, I1 n31 h5 → par (n31 < (l7.n : Int)) (∃ b8 o1, (l7.a : Option Addr) = some ⟨b8, o1, none⟩ ∧ ((0 : Int) ≤ n31 ∧ n31 < (l7.n : Int)) ∧ ∃ n32 : Int, h5.at b8 (o1 + n31.toNat * 6) = some (.int .u64 n32) ∧ ∃ n33 : Int, h5.at b8 ((o1 + n31.toNat * 6) + 1) = some (.int .i64 n33) ∧ ∃ n34 : Int, h5.at b8 ((o1 + n31.toNat * 6) + 2) = some (.int .i64 n34) ∧ ∃ n35 : Int, h5.at b8 ((o1 + n31.toNat * 6) + 3) = some (.int .i64 n35) ∧ ∃ s2 : ByteArray, h5.at b8 ((o1 + n31.toNat * 6) + 4) = some (.string s2) ∧ ∃ s3 : ByteArray, h5.at b8 ((o1 + n31.toNat * 6) + 5) = some (.string s3) ∧ T76 l1 n32 h5 fun r3 h6 => ∃ b9 : Bool, r3 = .bool b9 ∧ parB b9 (((0 : Int) ≤ n29 ∧ n29 < ((6 : Nat) : Int)) ∧ h6.canW b (0 + (n29 : Int).toNat) 1 ∧ ((0 : Int) ≤ (IntKind.wrap .i64 (n29 + 1)) ∧ (IntKind.wrap .i64 (n29 + 1)) < ((6 : Nat) : Int)) ∧ (h6.wr b (0 + (n29 : Int).toNat) [.bool true]).canW b (0 + ((IntKind.wrap .i64 (n29 + 1)) : Int).toNat) 1 ∧ I (IntKind.wrap .i64 (n27 + 1)) n28 l3 l4 s true ((h6.wr b (0 + (n29 : Int).toNat) [.bool true]).wr b (0 + ((IntKind.wrap .i64 (n29 + 1)) : Int).toNat) [.bool true]) ∧ m (IntKind.wrap .i64 (n27 + 1)) n28 l3 l4 s true ((h6.wr b (0 + (n29 : Int).toNat) [.bool true]).wr b (0 + ((IntKind.wrap .i64 (n29 + 1)) : Int).toNat) [.bool true]) < m n27 n28 l3 l4 s true h2) (I1 (IntKind.wrap .i64 (n31 + 1)) h6 ∧ m1 (IntKind.wrap .i64 (n31 + 1)) h6 < m1 n31 h5)) (Q (.tuple ⟨[.agg ⟨[.int .i64 n30, .slice l5.a l5.n l5.c, .slice l6.a l6.n l6.c, .string s1, .bool true]⟩, .int .i64 2]⟩) h5))))) (r1 = .tuple ⟨[.agg ⟨[.int .i64 n30, .slice l5.a l5.n l5.c, .slice l6.a l6.n l6.c, .string s1, .bool true]⟩, .bool false]⟩ ∧ I (IntKind.wrap .i64 (n27 + 1)) n28 l3 l4 s true h3 ∧ m (IntKind.wrap .i64 (n27 + 1)) n28 l3 l4 s true h3 < m n27 n28 l3 l4 s true h2)) (∃ b10 : Bool, parB b10 (r1 = .tuple ⟨[.agg ⟨[.int .i64 n30, .slice l5.a l5.n l5.c, .slice l6.a l6.n l6.c, .string s1, .bool false]⟩, .bool true]⟩ ∧ ((0 : Int) ≤ n29 ∧ n29 < ((6 : Nat) : Int)) ∧ ∃ b11 : Bool, h3.at b (0 + (n29 : Int).toNat) = some (.bool b11) ∧ parB b11 (((0 : Int) ≤ n29 ∧ n29 < ((6 : Nat) : Int)) ∧ h3.canW b (0 + (n29 : Int).toNat) 1 ∧ ((0 : Int) ≤ (IntKind.wrap .i64 (n29 + 1)) ∧ (IntKind.wrap .i64 (n29 + 1)) < ((6 : Nat) : Int)) ∧ (h3.wr b (0 + (n29 : Int).toNat) [.bool true]).canW b (0 + ((IntKind.wrap .i64 (n29 + 1)) : Int).toNat) 1 ∧ I (IntKind.wrap .i64 (n27 + 1)) n28 l3 l4 s true ((h3.wr b (0 + (n29 : Int).toNat) [.bool true]).wr b (0 + ((IntKind.wrap .i64 (n29 + 1)) : Int).toNat) [.bool true]) ∧ m (IntKind.wrap .i64 (n27 + 1)) n28 l3 l4 s true ((h3.wr b (0 + (n29 : Int).toNat) [.bool true]).wr b (0 + ((IntKind.wrap .i64 (n29 + 1)) : Int).toNat) [.bool true]) < m n27 n28 l3 l4 s true h2) (((0 : Int) ≤ (IntKind.wrap .i64 (n29 + 1)) ∧ (IntKind.wrap .i64 (n29 + 1)) < ((6 : Nat) : Int)) ∧ ∃ b12 : Bool, h3.at b (0 + ((IntKind.wrap .i64 (n29 + 1)) : Int).toNat) = some (.bool b12) ∧ parB b12 (((0 : Int) ≤ n29 ∧ n29 < ((6 : Nat) : Int)) ∧ h3.canW b (0 + (n29 : Int).toNat) 1 ∧ ((0 : Int) ≤ (IntKind.wrap .i64 (n29 + 1)) ∧ (IntKind.wrap .i64 (n29 + 1)) < ((6 : Nat) : Int)) ∧ (h3.wr b (0 + (n29 : Int).toNat) [.bool true]).canW b (0 + ((IntKind.wrap .i64 (n29 + 1)) : Int).toNat) 1 ∧ I (IntKind.wrap .i64 (n27 + 1)) n28 l3 l4 s true ((h3.wr b (0 + (n29 : Int).toNat) [.bool true]).wr b (0 + ((IntKind.wrap .i64 (n29 + 1)) : Int).toNat) [.bool true]) ∧ m (IntKind.wrap .i64 (n27 + 1)) n28 l3 l4 s true ((h3.wr b (0 + (n29 : Int).toNat) [.bool true]).wr b (0 + ((IntKind.wrap .i64 (n29 + 1)) : Int).toNat) [.bool true]) < m n27 n28 l3 l4 s true h2) (∀ b13, h3 b13 = none → T75 ⟨(some ⟨b13, 0, none⟩), 2, 2⟩ (h3.new b13 (.cells ⟨[.slice l5.a l5.n l5.c, .slice l6.a l6.n l6.c]⟩ 66 (0, 0))) fun r4 h7 => ∃ l8 : Sl, r4 = .slice l8.a l8.n l8.c ∧ ∃ (I2 : Int → Hp → Prop) (m2 : Int → Hp → Nat), I2 0 h7 ∧ (∀ n36 : Int, ∀ h8 : Hp, I2 n36 h8 → par (n36 < (l8.n : Int)) (∃ b14 o2, (l8.a : Option Addr) = some ⟨b14, o2, none⟩ ∧ ((0 : Int) ≤ n36 ∧ n36 < (l8.n : Int)) ∧ ∃ n37 : Int, h8.at b14 (o2 + n36.toNat * 6) = some (.int .u64 n37) ∧ ∃ n38 : Int, h8.at b14 ((o2 + n36.toNat * 6) + 1) = some (.int .i64 n38) ∧ ∃ n39 : Int, h8.at b14 ((o2 + n36.toNat * 6) + 2) = some (.int .i64 n39) ∧ ∃ n40 : Int, h8.at b14 ((o2 + n36.toNat * 6) + 3) = some (.int .i64 n40) ∧ ∃ s4 : ByteArray, h8.at b14 ((o2 + n36.toNat * 6) + 4) = some (.string s4) ∧ ∃ s5 : ByteArray, h8.at b14 ((o2 + n36.toNat * 6) + 5) = some (.string s5) ∧ T76 l1 n37 h8 fun r5 h9 => ∃ b15 : Bool, r5 = .bool b15 ∧ parB b15 (((0 : Int) ≤ n29 ∧ n29 < ((6 : Nat) : Int)) ∧ h9.canW b (0 + (n29 : Int).toNat) 1 ∧ ((0 : Int) ≤ (IntKind.wrap .i64 (n29 + 1)) ∧ (IntKind.wrap .i64 (n29 + 1)) < ((6 : Nat) : Int)) ∧ (h9.wr b (0 + (n29 : Int).toNat) [.bool true]).canW b (0 + ((IntKind.wrap .i64 (n29 + 1)) : Int).toNat) 1 ∧ I (IntKind.wrap .i64 (n27 + 1)) n28 l3 l4 s true ((h9.wr b (0 + (n29 : Int).toNat) [.bool true]).wr b (0 + ((IntKind.wrap .i64 (n29 + 1)) : Int).toNat) [.bool true]) ∧ m (IntKind.wrap .i64 (n27 + 1)) n28 l3 l4 s true ((h9.wr b (0 + (n29 : Int).toNat) [.bool true]).wr b (0 + ((IntKind.wrap .i64 (n29 + 1)) : Int).toNat) [.bool true]) < m n27 n28 l3 l4 s true h2) (I2 (IntKind.wrap .i64 (n36 + 1)) h9 ∧ m2 (IntKind.wrap .i64 (n36 + 1)) h9 < m2 n36 h8)) (Q (.tuple ⟨[.agg ⟨[.int .i64 n30, .slice l5.a l5.n l5.c, .slice l6.a l6.n l6.c, .string s1, .bool false]⟩, .int .i64 2]⟩) h8))))) (r1 = .tuple ⟨[.agg ⟨[.int .i64 n30, .slice l5.a l5.n l5.c, .slice l6.a l6.n l6.c, .string s1, .bool false]⟩, .bool false]⟩ ∧ I (IntKind.wrap .i64 (n27 + 1)) n28 l3 l4 s true h3 ∧ m (IntKind.wrap .i64 (n27 + 1)) n28 l3 l4 s true h3 < m n27 n28 l3 l4 s true h2))) (par ((0 : Int) < (l2.n : Int)) (Q (.tuple ⟨[.agg ⟨[.int .i64 0, .slice none 0 0, .slice none 0 0, .string (ByteArray.mk #[]), .bool false]⟩, .int .i64 1]⟩) h2) (Q (.tuple ⟨[.agg ⟨[.int .i64 0, .slice none 0 0, .slice none 0 0, .string (ByteArray.mk #[]), .bool false]⟩, .int .i64 0]⟩) h2))) ∧ (∀ h2 : Hp, I n27 n28 l3 l4 s false h2 → par (n27 < (l2.n : Int)) (∃ b16 o3, (l2.a : Option Addr) = some ⟨b16, o3, none⟩ ∧ ((0 : Int) ≤ n27 ∧ n27 < (l2.n : Int)) ∧ ∃ n41 : Int, h2.at b16 (o3 + n27.toNat) = some (.int .i64 n41) ∧ T29 n n1 n2 n3 n4 n5 n6 n7 n8 n9 n10 n11 n12 n13 n14 n15 n16 n17 n18 n19 n20 n21 n22 n23 n24 n25 n26 p l n41 h2 fun r6 h10 => ∃ n42 : Int, ∃ l9 : Sl, ∃ l10 : Sl, ∃ s6 : ByteArray, ∃ b17 : Bool, parB b17 (∃ b18 : Bool, parB b18 (r6 = .tuple ⟨[.agg ⟨[.int .i64 n42, .slice l9.a l9.n l9.c, .slice l10.a l10.n l10.c, .string s6, .bool true]⟩, .bool true]⟩ ∧ ((0 : Int) ≤ n41 ∧ n41 < ((6 : Nat) : Int)) ∧ ∃ b19 : Bool, h10.at b (0 + (n41 : Int).toNat) = some (.bool b19) ∧ parB b19 (((0 : Int) ≤ n41 ∧ n41 < ((6 : Nat) : Int)) ∧ h10.canW b (0 + (n41 : Int).toNat) 1 ∧ ((0 : Int) ≤ (IntKind.wrap .i64 (n41 + 1)) ∧ (IntKind.wrap .i64 (n41 + 1)) < ((6 : Nat) : Int)) ∧ (h10.wr b (0 + (n41 : Int).toNat) [.bool true]).canW b (0 + ((IntKind.wrap .i64 (n41 + 1)) : Int).toNat) 1 ∧ I (IntKind.wrap .i64 (n27 + 1)) n28 l3 l4 s false ((h10.wr b (0 + (n41 : Int).toNat) [.bool true]).wr b (0 + ((IntKind.wrap .i64 (n41 + 1)) : Int).toNat) [.bool true]) ∧ m (IntKind.wrap .i64 (n27 + 1)) n28 l3 l4 s false ((h10.wr b (0 + (n41 : Int).toNat) [.bool true]).wr b (0 + ((IntKind.wrap .i64 (n41 + 1)) : Int).toNat) [.bool true]) < m n27 n28 l3 l4 s false h2) (((0 : Int) ≤ (IntKind.wrap .i64 (n41 + 1)) ∧ (IntKind.wrap .i64 (n41 + 1)) < ((6 : Nat) : Int)) ∧ ∃ b20 : Bool, h10.at b (0 + ((IntKind.wrap .i64 (n41 + 1)) : Int).toNat) = some (.bool b20) ∧ parB b20 (((0 : Int) ≤ n41 ∧ n41 < ((6 : Nat) : Int)) ∧ h10.canW b (0 + (n41 : Int).toNat) 1 ∧ ((0 : Int) ≤ (IntKind.wrap .i64 (n41 + 1)) ∧ (IntKind.wrap .i64 (n41 + 1)) < ((6 : Nat) : Int)) ∧ (h10.wr b (0 + (n41 : Int).toNat) [.bool true]).canW b (0 + ((IntKind.wrap .i64 (n41 + 1)) : Int).toNat) 1 ∧ I (IntKind.wrap .i64 (n27 + 1)) n28 l3 l4 s false ((h10.wr b (0 + (n41 : Int).toNat) [.bool true]).wr b (0 + ((IntKind.wrap .i64 (n41 + 1)) : Int).toNat) [.bool true]) ∧ m (IntKind.wrap .i64 (n27 + 1)) n28 l3 l4 s false ((h10.wr b (0 + (n41 : Int).toNat) [.bool true]).wr b (0 + ((IntKind.wrap .i64 (n41 + 1)) : Int).toNat) [.bool true]) < m n27 n28 l3 l4 s false h2) (∀ b21, h10 b21 = none → T75 ⟨(some ⟨b21, 0, none⟩), 2, 2⟩ (h10.new b21 (.cells ⟨[.slice l9.a l9.n l9.c, .slice l10.a l10.n l10.c]⟩ 66 (0, 0))) fun r7 h11 => ∃ l11 : Sl, r7 = .slice l11.a l11.n l11.c ∧ ∃ (I3 : Int → Hp → Prop) (m3 : Int → Hp → Nat), I3 0 h11 ∧ (∀ n43 : Int, ∀ h12 : Hp, I3 n43 h12 → par (n43 < (l11.n : Int)) (∃ b22 o4, (l11.a : Option Addr) = some ⟨b22, o4, none⟩ ∧ ((0 : Int) ≤ n43 ∧ n43 < (l11.n : Int)) ∧ ∃ n44 : Int, h12.at b22 (o4 + n43.toNat * 6) = some (.int .u64 n44) ∧ ∃ n45 : Int, h12.at b22 ((o4 + n43.toNat * 6) + 1) = some (.int .i64 n45) ∧ ∃ n46 : Int, h12.at b22 ((o4 + n43.toNat * 6) + 2) = some (.int .i64 n46) ∧ ∃ n47 : Int, h12.at b22 ((o4 + n43.toNat * 6) + 3) = some (.int .i64 n47) ∧ ∃ s7 : ByteArray, h12.at b22 ((o4 + n43.toNat * 6) + 4) = some (.string s7) ∧ ∃ s8 : ByteArray, h12.at b22 ((o4 + n43.toNat * 6) + 5) = some (.string s8) ∧ T76 l1 n44 h12 fun r8 h13 => ∃ b23 : Bool, r8 = .bool b23 ∧ parB b23 (((0 : Int) ≤ n41 ∧ n41 < ((6 : Nat) : Int)) ∧ h13.canW b (0 + (n41 : Int).toNat) 1 ∧ ((0 : Int) ≤ (IntKind.wrap .i64 (n41 + 1)) ∧ (IntKind.wrap .i64 (n41 + 1)) < ((6 : Nat) : Int)) ∧ (h13.wr b (0 + (n41 : Int).toNat) [.bool true]).canW b (0 + ((IntKind.wrap .i64 (n41 + 1)) : Int).toNat) 1 ∧ I (IntKind.wrap .i64 (n27 + 1)) n28 l3 l4 s false ((h13.wr b (0 + (n41 : Int).toNat) [.bool true]).wr b (0 + ((IntKind.wrap .i64 (n41 + 1)) : Int).toNat) [.bool true]) ∧ m (IntKind.wrap .i64 (n27 + 1)) n28 l3 l4 s false ((h13.wr b (0 + (n41 : Int).toNat) [.bool true]).wr b (0 + ((IntKind.wrap .i64 (n41 + 1)) : Int).toNat) [.bool true]) < m n27 n28 l3 l4 s false h2) (I3 (IntKind.wrap .i64 (n43 + 1)) h13 ∧ m3 (IntKind.wrap .i64 (n43 + 1)) h13 < m3 n43 h12)) (Q (.tuple ⟨[.agg ⟨[.int .i64 n42, .slice l9.a l9.n l9.c, .slice l10.a l10.n l10.c, .string s6, .bool true]⟩, .int .i64 2]⟩) h12))))) (r6 = .tuple ⟨[.agg ⟨[.int .i64 n42, .slice l9.a l9.n l9.c, .slice l10.a l10.n l10.c, .string s6, .bool true]⟩, .bool false]⟩ ∧ I (IntKind.wrap .i64 (n27 + 1)) n28 l3 l4 s false h10 ∧ m (IntKind.wrap .i64 (n27 + 1)) n28 l3 l4 s false h10 < m n27 n28 l3 l4 s false h2)) (∃ b24 : Bool, parB b24 (r6 = .tuple ⟨[.agg ⟨[.int .i64 n42, .slice l9.a l9.n l9.c, .slice l10.a l10.n l10.c, .string s6, .bool false]⟩, .bool true]⟩ ∧ ((0 : Int) ≤ n41 ∧ n41 < ((6 : Nat) : Int)) ∧ ∃ b25 : Bool, h10.at b (0 + (n41 : Int).toNat) = some (.bool b25) ∧ parB b25 (((0 : Int) ≤ n41 ∧ n41 < ((6 : Nat) : Int)) ∧ h10.canW b (0 + (n41 : Int).toNat) 1 ∧ ((0 : Int) ≤ (IntKind.wrap .i64 (n41 + 1)) ∧ (IntKind.wrap .i64 (n41 + 1)) < ((6 : Nat) : Int)) ∧ (h10.wr b (0 + (n41 : Int).toNat) [.bool true]).canW b (0 + ((IntKind.wrap .i64 (n41 + 1)) : Int).toNat) 1 ∧ I (IntKind.wrap .i64 (n27 + 1)) n28 l3 l4 s false ((h10.wr b (0 + (n41 : Int).toNat) [.bool true]).wr b (0 + ((IntKind.wrap .i64 (n41 + 1)) : Int).toNat) [.bool true]) ∧ m (IntKind.wrap .i64 (n27 + 1)) n28 l3 l4 s false ((h10.wr b (0 + (n41 : Int).toNat) [.bool true]).wr b (0 + ((IntKind.wrap .i64 (n41 + 1)) : Int).toNat) [.bool true]) < m n27 n28 l3 l4 s false h2) (((0 : Int) ≤ (IntKind.wrap .i64 (n41 + 1)) ∧ (IntKind.wrap .i64 (n41 + 1)) < ((6 : Nat) : Int)) ∧ ∃ b26 : Bool, h10.at b (0 + ((IntKind.wrap .i64 (n41 + 1)) : Int).toNat) = some (.bool b26) ∧ parB b26 (((0 : Int) ≤ n41 ∧ n41 < ((6 : Nat) : Int)) ∧ h10.canW b (0 + (n41 : Int).toNat) 1 ∧ ((0 : Int) ≤ (IntKind.wrap .i64 (n41 + 1)) ∧ (IntKind.wrap .i64 (n41 + 1)) < ((6 : Nat) : Int)) ∧ (h10.wr b (0 + (n41 : Int).toNat) [.bool true]).canW b (0 + ((IntKind.wrap .i64 (n41 + 1)) : Int).toNat) 1 ∧ I (IntKind.wrap .i64 (n27 + 1)) n28 l3 l4 s false ((h10.wr b (0 + (n41 : Int).toNat) [.bool true]).wr b (0 + ((IntKind.wrap .i64 (n41 + 1)) : Int).toNat) [.bool true]) ∧ m (IntKind.wrap .i64 (n27 + 1)) n28 l3 l4 s false ((h10.wr b (0 + (n41 : Int).toNat) [.bool true]).wr b (0 + ((IntKind.wrap .i64 (n41 + 1)) : Int).toNat) [.bool true]) < m n27 n28 l3 l4 s false h2) (∀ b27, h10 b27 = none → T75 ⟨(some ⟨b27, 0, none⟩), 2, 2⟩ (h10.new b27 (.cells ⟨[.slice l9.a l9.n l9.c, .slice l10.a l10.n l10.c]⟩ 66 (0, 0))) fun r9 h14 => ∃ l12 : Sl, r9 = .slice l12.a l12.n l12.c ∧ ∃ (I4 : Int → Hp → Prop) (m4 : Int → Hp → Nat), I4 0 h14 ∧ (∀ n48 : Int, ∀ h15 : Hp, I4 n48 h15 → par (n48 < (l12.n : Int)) (∃ b28 o5, (l12.a : Option Addr) = some ⟨b28, o5, none⟩ ∧ ((0 : Int) ≤ n48 ∧ n48 < (l12.n : Int)) ∧ ∃ n49 : Int, h15.at b28 (o5 + n48.toNat * 6) = some (.int .u64 n49) ∧ ∃ n50 : Int, h15.at b28 ((o5 + n48.toNat * 6) + 1) = some (.int .i64 n50) ∧ ∃ n51 : Int, h15.at b28 ((o5 + n48.toNat * 6) + 2) = some (.int .i64 n51) ∧ ∃ n52 : Int, h15.at b28 ((o5 + n48.toNat * 6) + 3) = some (.int .i64 n52) ∧ ∃ s9 : ByteArray, h15.at b28 ((o5 + n48.toNat * 6) + 4) = some (.string s9) ∧ ∃ s10 : ByteArray, h15.at b28 ((o5 + n48.toNat * 6) + 5) = some (.string s10) ∧ T76 l1 n49 h15 fun r10 h16 => ∃ b29 : Bool, r10 = .bool b29 ∧ parB b29 (((0 : Int) ≤ n41 ∧ n41 < ((6 : Nat) : Int)) ∧ h16.canW b (0 + (n41 : Int).toNat) 1 ∧ ((0 : Int) ≤ (IntKind.wrap .i64 (n41 + 1)) ∧ (IntKind.wrap .i64 (n41 + 1)) < ((6 : Nat) : Int)) ∧ (h16.wr b (0 + (n41 : Int).toNat) [.bool true]).canW b (0 + ((IntKind.wrap .i64 (n41 + 1)) : Int).toNat) 1 ∧ I (IntKind.wrap .i64 (n27 + 1)) n28 l3 l4 s false ((h16.wr b (0 + (n41 : Int).toNat) [.bool true]).wr b (0 + ((IntKind.wrap .i64 (n41 + 1)) : Int).toNat) [.bool true]) ∧ m (IntKind.wrap .i64 (n27 + 1)) n28 l3 l4 s false ((h16.wr b (0 + (n41 : Int).toNat) [.bool true]).wr b (0 + ((IntKind.wrap .i64 (n41 + 1)) : Int).toNat) [.bool true]) < m n27 n28 l3 l4 s false h2) (I4 (IntKind.wrap .i64 (n48 + 1)) h16 ∧ m4 (IntKind.wrap .i64 (n48 + 1)) h16 < m4 n48 h15)) (Q (.tuple ⟨[.agg ⟨[.int .i64 n42, .slice l9.a l9.n l9.c, .slice l10.a l10.n l10.c, .string s6, .bool false]⟩, .int .i64 2]⟩) h15))))) (r6 = .tuple ⟨[.agg ⟨[.int .i64 n42, .slice l9.a l9.n l9.c, .slice l10.a l10.n l10.c, .string s6, .bool false]⟩, .bool false]⟩ ∧ I (IntKind.wrap .i64 (n27 + 1)) n28 l3 l4 s false h10 ∧ m (IntKind.wrap .i64 (n27 + 1)) n28 l3 l4 s false h10 < m n27 n28 l3 l4 s false h2))) (par ((0 : Int) < (l2.n : Int)) (Q (.tuple ⟨[.agg ⟨[.int .i64 0, .slice none 0 0, .slice none 0 0, .string (ByteArray.mk #[]), .bool false]⟩, .int .i64 1]⟩) h2) (Q (.tuple ⟨[.agg ⟨[.int .i64 0, .slice none 0 0, .slice none 0 0, .string (ByteArray.mk #[]), .bool false]⟩, .int .i64 0]⟩) h2))))
def F50.T (n n1 : Int) (n2 n3 : Int) (n4 n5 : Int) (n6 n7 : Int) (n8 n9 : Int) (n10 n11 : Int) (n12 n13 : Int) (n14 n15 : Int) (n16 n17 : Int) (n18 n19 : Int) (n20 n21 : Int) (n22 n23 : Int) (n24 n25 n26 : Int) (p : Option Addr) (l l1 : Sl) : PT := F50.G F25.T F29.T F75.T F76.T n n1 n2 n3 n4 n5 n6 n7 n8 n9 n10 n11 n12 n13 n14 n15 n16 n17 n18 n19 n20 n21 n22 n23 n24 n25 n26 p l l1
theorem F50.gen (V : Value → List Value → PT) (T25 : Int → Int → Int → Int → Int → Int → Int → Int → Int → Int → Int → Int → Int → Int → Int → Int → Int → Int → Int → Int → Int → Int → Int → Int → Int → Int → Int → Option Addr → PT) (T29 : Int → Int → Int → Int → Int → Int → Int → Int → Int → Int → Int → Int → Int → Int → Int → Int → Int → Int → Int → Int → Int → Int → Int → Int → Int → Int → Int → Option Addr → Sl → Int → PT) (T75 : Sl → PT) (T76 : Sl → Int → PT) (n n1 : Int) (n2 n3 : Int) (n4 n5 : Int) (n6 n7 : Int) (n8 n9 : Int) (n10 n11 : Int) (n12 n13 : Int) (n14 n15 : Int) (n16 n17 : Int) (n18 n19 : Int) (n20 n21 : Int) (n22 n23 : Int) (n24 n25 n26 : Int) (p : Option Addr) (l l1 : Sl) : denF Try.prog [4, 8, 14, 17] [(25, F25.W T25), (29, F29.W T29), (75, F75.W T75), (76, F76.W T76)] V [(3, .jump 0), (442, .loop [(23, .int .i64)] [(8, [.int .i64, .sl, .sl, .str, .bool])]), (7248338, .loop [(55, .int .i64)] [])] Try.f50 [.v (.agg ⟨[.int .i64 n, .int .i64 n1, .int .i64 n2, .int .i64 n3, .int .i64 n4, .int .i64 n5, .int .i64 n6, .int .i64 n7, .int .i64 n8, .int .i64 n9, .int .i64 n10, .int .i64 n11, .int .i64 n12, .int .i64 n13, .int .i64 n14, .int .i64 n15, .int .i64 n16, .int .i64 n17, .int .i64 n18, .int .i64 n19, .int .i64 n20, .int .i64 n21, .int .i64 n22, .int .i64 n23, .int .i64 n24, .int .i64 n25, .int .i64 n26]⟩), .v (.pointer p), .v (.slice l.a l.n l.c), .v (.slice l1.a l1.n l1.c)] = F50.G T25 T29 T75 T76 n n1 n2 n3 n4 n5 n6 n7 n8 n9 n10 n11 n12 n13 n14 n15 n16 n17 n18 n19 n20 n21 n22 n23 n24 n25 n26 p l l1 := by kernel_rfl
theorem F50.den (V : Value → List Value → PT) (n n1 : Int) (n2 n3 : Int) (n4 n5 : Int) (n6 n7 : Int) (n8 n9 : Int) (n10 n11 : Int) (n12 n13 : Int) (n14 n15 : Int) (n16 n17 : Int) (n18 n19 : Int) (n20 n21 : Int) (n22 n23 : Int) (n24 n25 n26 : Int) (p : Option Addr) (l l1 : Sl) : denF Try.prog [4, 8, 14, 17] [(25, F25.V), (29, F29.V), (75, F75.V), (76, F76.V)] V [(3, .jump 0), (442, .loop [(23, .int .i64)] [(8, [.int .i64, .sl, .sl, .str, .bool])]), (7248338, .loop [(55, .int .i64)] [])] Try.f50 [.v (.agg ⟨[.int .i64 n, .int .i64 n1, .int .i64 n2, .int .i64 n3, .int .i64 n4, .int .i64 n5, .int .i64 n6, .int .i64 n7, .int .i64 n8, .int .i64 n9, .int .i64 n10, .int .i64 n11, .int .i64 n12, .int .i64 n13, .int .i64 n14, .int .i64 n15, .int .i64 n16, .int .i64 n17, .int .i64 n18, .int .i64 n19, .int .i64 n20, .int .i64 n21, .int .i64 n22, .int .i64 n23, .int .i64 n24, .int .i64 n25, .int .i64 n26]⟩), .v (.pointer p), .v (.slice l.a l.n l.c), .v (.slice l1.a l1.n l1.c)] = F50.T n n1 n2 n3 n4 n5 n6 n7 n8 n9 n10 n11 n12 n13 n14 n15 n16 n17 n18 n19 n20 n21 n22 n23 n24 n25 n26 p l l1 := F50.gen V F25.T F29.T F75.T F76.T n n1 n2 n3 n4 n5 n6 n7 n8 n9 n10 n11 n12 n13 n14 n15 n16 n17 n18 n19 n20 n21 n22 n23 n24 n25 n26 p l l1
def F50.W (T50 : Int → Int → Int → Int → Int → Int → Int → Int → Int → Int → Int → Int → Int → Int → Int → Int → Int → Int → Int → Int → Int → Int → Int → Int → Int → Int → Int → Option Addr → Sl → Sl → PT) (args : List Value) : PT := match args with
  | [.agg ⟨[.int .i64 n, .int .i64 n1, .int .i64 n2, .int .i64 n3, .int .i64 n4, .int .i64 n5, .int .i64 n6, .int .i64 n7, .int .i64 n8, .int .i64 n9, .int .i64 n10, .int .i64 n11, .int .i64 n12, .int .i64 n13, .int .i64 n14, .int .i64 n15, .int .i64 n16, .int .i64 n17, .int .i64 n18, .int .i64 n19, .int .i64 n20, .int .i64 n21, .int .i64 n22, .int .i64 n23, .int .i64 n24, .int .i64 n25, .int .i64 n26]⟩, .pointer p, .slice l_a l_n l_c, .slice l1_a l1_n l1_c] => T50 n n1 n2 n3 n4 n5 n6 n7 n8 n9 n10 n11 n12 n13 n14 n15 n16 n17 n18 n19 n20 n21 n22 n23 n24 n25 n26 p ⟨l_a, l_n, l_c⟩ ⟨l1_a, l1_n, l1_c⟩
  | _ => fun _ _ => False
def F50.V : List Value → PT := F50.W F50.T
theorem F50.ok : FOk Try.prog 50 F50.V := by
  refine ⟨⟨_, Try.func50, rfl, rfl⟩, fun args => ?_⟩
  have hG : GOk Try.prog [(25, F25.V), (29, F29.V), (75, F75.V), (76, F76.V)] := GOk.cons F25.ok (GOk.cons F29.ok (GOk.cons F75.ok (GOk.cons F76.ok (GOk.nil))))
  have hV : VOk Try.prog noV := noV_ok
  unfold F50.V F50.W
  split
  · exact denF_okV hG hV Try.func50 (fun h Q hq => (F50.den _ _ _ _ _ _ _ _ _ _ _ _ _ _ _ _ _ _ _ _ _ _ _ _ _ _ _ _ _ _ _) ▸ hq)
  · exact fun h Q hq => hq.elim
def F77.T (l l1 : Sl) : PT := fun h Q =>
  par ((l.n : Int) = (l1.n : Int)) (∃ (I : Int → Hp → Prop) (m : Int → Hp → Nat), I 0 h ∧ (∀ n : Int, ∀ h1 : Hp, I n h1 → par (n < (l.n : Int)) (∃ b o, (l.a : Option Addr) = some ⟨b, o, none⟩ ∧ ((0 : Int) ≤ n ∧ n < (l.n : Int)) ∧ ∃ n1 : Int, h1.at b (o + n.toNat * 6) = some (.int .u64 n1) ∧ ∃ n2 : Int, h1.at b ((o + n.toNat * 6) + 1) = some (.int .i64 n2) ∧ ∃ n3 : Int, h1.at b ((o + n.toNat * 6) + 2) = some (.int .i64 n3) ∧ ∃ n4 : Int, h1.at b ((o + n.toNat * 6) + 3) = some (.int .i64 n4) ∧ ∃ s : ByteArray, h1.at b ((o + n.toNat * 6) + 4) = some (.string s) ∧ ∃ s1 : ByteArray, h1.at b ((o + n.toNat * 6) + 5) = some (.string s1) ∧ ∃ b1 o1, (l1.a : Option Addr) = some ⟨b1, o1, none⟩ ∧ ((0 : Int) ≤ n ∧ n < (l1.n : Int)) ∧ ∃ n5 : Int, h1.at b1 (o1 + n.toNat * 6) = some (.int .u64 n5) ∧ ∃ n6 : Int, h1.at b1 ((o1 + n.toNat * 6) + 1) = some (.int .i64 n6) ∧ ∃ n7 : Int, h1.at b1 ((o1 + n.toNat * 6) + 2) = some (.int .i64 n7) ∧ ∃ n8 : Int, h1.at b1 ((o1 + n.toNat * 6) + 3) = some (.int .i64 n8) ∧ ∃ s2 : ByteArray, h1.at b1 ((o1 + n.toNat * 6) + 4) = some (.string s2) ∧ ∃ s3 : ByteArray, h1.at b1 ((o1 + n.toNat * 6) + 5) = some (.string s3) ∧ par (([.int .u64 n1, .int .i64 n2, .int .i64 n3, .int .i64 n4, .string s, .string s1] : List Value) = [.int .u64 n5, .int .i64 n6, .int .i64 n7, .int .i64 n8, .string s2, .string s3]) (I (IntKind.wrap .i64 (n + 1)) h1 ∧ m (IntKind.wrap .i64 (n + 1)) h1 < m n h1) (Q (.bool false) h1)) (Q (.bool true) h1))) (Q (.bool false) h)
theorem F77.den (V : Value → List Value → PT) (l l1 : Sl) : denF Try.prog [] [] V [(58, .loop [(5, .int .i64)] []), (1864, .order [0, 1, 2, 3, 4, 5, 6, 7, 8])] Try.f77 [.v (.slice l.a l.n l.c), .v (.slice l1.a l1.n l1.c)] = F77.T l l1 := by kernel_rfl
def F77.W (T77 : Sl → Sl → PT) (args : List Value) : PT := match args with
  | [.slice l_a l_n l_c, .slice l1_a l1_n l1_c] => T77 ⟨l_a, l_n, l_c⟩ ⟨l1_a, l1_n, l1_c⟩
  | _ => fun _ _ => False
def F77.V : List Value → PT := F77.W F77.T
theorem F77.ok : FOk Try.prog 77 F77.V := by
  refine ⟨⟨_, Try.func77, rfl, rfl⟩, fun args => ?_⟩
  have hG : GOk Try.prog [] := GOk.nil
  have hV : VOk Try.prog noV := noV_ok
  unfold F77.V F77.W
  split
  · exact denF_okV hG hV Try.func77 (fun h Q hq => (F77.den _ _ _) ▸ hq)
  · exact fun h Q hq => hq.elim
@[reducible] def F51.G (T77 : Sl → Sl → PT) (n : Int) (l l1 : Sl) (s : ByteArray) (b : Bool) (n1 : Int) (l2 l3 : Sl) (s1 : ByteArray) (b1 : Bool) : PT := fun h Q =>
  par (n = n1) (T77 l l2 h fun r h1 => ∃ b2 : Bool, r = .bool b2 ∧ parB b2 (T77 l1 l3 h1 fun r1 h2 => ∃ b3 : Bool, r1 = .bool b3 ∧ parB b3 (par (s = s1) (par ((b : Bool) = b1) (Q (.bool true) h2) (Q (.bool false) h2)) (Q (.bool false) h2)) (Q (.bool false) h2)) (Q (.bool false) h1)) (Q (.bool false) h)
def F51.T (n : Int) (l l1 : Sl) (s : ByteArray) (b : Bool) (n1 : Int) (l2 l3 : Sl) (s1 : ByteArray) (b1 : Bool) : PT := F51.G F77.T n l l1 s b n1 l2 l3 s1 b1
theorem F51.gen (V : Value → List Value → PT) (T77 : Sl → Sl → PT) (n : Int) (l l1 : Sl) (s : ByteArray) (b : Bool) (n1 : Int) (l2 l3 : Sl) (s1 : ByteArray) (b1 : Bool) : denF Try.prog [2, 3] [(77, F77.W T77)] V [] Try.f51 [.v (.agg ⟨[.int .i64 n, .slice l.a l.n l.c, .slice l1.a l1.n l1.c, .string s, .bool b]⟩), .v (.agg ⟨[.int .i64 n1, .slice l2.a l2.n l2.c, .slice l3.a l3.n l3.c, .string s1, .bool b1]⟩)] = F51.G T77 n l l1 s b n1 l2 l3 s1 b1 := by kernel_rfl
theorem F51.den (V : Value → List Value → PT) (n : Int) (l l1 : Sl) (s : ByteArray) (b : Bool) (n1 : Int) (l2 l3 : Sl) (s1 : ByteArray) (b1 : Bool) : denF Try.prog [2, 3] [(77, F77.V)] V [] Try.f51 [.v (.agg ⟨[.int .i64 n, .slice l.a l.n l.c, .slice l1.a l1.n l1.c, .string s, .bool b]⟩), .v (.agg ⟨[.int .i64 n1, .slice l2.a l2.n l2.c, .slice l3.a l3.n l3.c, .string s1, .bool b1]⟩)] = F51.T n l l1 s b n1 l2 l3 s1 b1 := F51.gen V F77.T n l l1 s b n1 l2 l3 s1 b1
def F51.W (T51 : Int → Sl → Sl → ByteArray → Bool → Int → Sl → Sl → ByteArray → Bool → PT) (args : List Value) : PT := match args with
  | [.agg ⟨[.int .i64 n, .slice l_a l_n l_c, .slice l1_a l1_n l1_c, .string s, .bool b]⟩, .agg ⟨[.int .i64 n1, .slice l2_a l2_n l2_c, .slice l3_a l3_n l3_c, .string s1, .bool b1]⟩] => T51 n ⟨l_a, l_n, l_c⟩ ⟨l1_a, l1_n, l1_c⟩ s b n1 ⟨l2_a, l2_n, l2_c⟩ ⟨l3_a, l3_n, l3_c⟩ s1 b1
  | _ => fun _ _ => False
def F51.V : List Value → PT := F51.W F51.T
theorem F51.ok : FOk Try.prog 51 F51.V := by
  refine ⟨⟨_, Try.func51, rfl, rfl⟩, fun args => ?_⟩
  have hG : GOk Try.prog [(77, F77.V)] := GOk.cons F77.ok (GOk.nil)
  have hV : VOk Try.prog noV := noV_ok
  unfold F51.V F51.W
  split
  · exact denF_okV hG hV Try.func51 (fun h Q hq => (F51.den _ _ _ _ _ _ _ _ _ _ _) ▸ hq)
  · exact fun h Q hq => hq.elim
end Go.Eng.Ytbjnlacacapjiaa
end
section

set_option maxRecDepth 100000
set_option linter.unusedVariables false
open Go.Proofs
namespace Go.Eng.Ytbjnlacacapjiaa
def F37.T (n : Int) : PT := fun h Q =>
  ∀ b, h b = none → Q (.pointer (some ⟨b, 0, none⟩)) (h.new b (.cells ⟨[.int .i64 n]⟩ 117 (0, 0)))
theorem F37.den (V : Value → List Value → PT) (n : Int) : denF Try.prog [] [] V [] Try.f37 [.v (.int .i64 n)] = F37.T n := by kernel_rfl
def F37.W (T37 : Int → PT) (args : List Value) : PT := match args with
  | [.int .i64 n] => T37 n
  | _ => fun _ _ => False
def F37.V : List Value → PT := F37.W F37.T
theorem F37.ok : FOk Try.prog 37 F37.V := by
  refine ⟨⟨_, Try.func37, rfl, rfl⟩, fun args => ?_⟩
  have hG : GOk Try.prog [] := GOk.nil
  have hV : VOk Try.prog noV := noV_ok
  unfold F37.V F37.W
  split
  · exact denF_okV hG hV Try.func37 (fun h Q hq => (F37.den _ _) ▸ hq)
  · exact fun h Q hq => hq.elim
def F39.T (p : Option Addr) : PT := fun h Q =>
  ∃ b o, (p : Option Addr) = some ⟨b, o, none⟩ ∧ ∃ n : Int, h.at b o = some (.int .i64 n) ∧ par ((0 : Int) ≤ n) (Q (.bool true) h) (Q (.bool false) h)
theorem F39.den (V : Value → List Value → PT) (p : Option Addr) : denF Try.prog [] [] V [] Try.f39 [.v (.pointer p)] = F39.T p := by kernel_rfl
def F39.W (T39 : Option Addr → PT) (args : List Value) : PT := match args with
  | [.pointer p] => T39 p
  | _ => fun _ _ => False
def F39.V : List Value → PT := F39.W F39.T
theorem F39.ok : FOk Try.prog 39 F39.V := by
  refine ⟨⟨_, Try.func39, rfl, rfl⟩, fun args => ?_⟩
  have hG : GOk Try.prog [] := GOk.nil
  have hV : VOk Try.prog noV := noV_ok
  unfold F39.V F39.W
  split
  · exact denF_okV hG hV Try.func39 (fun h Q hq => (F39.den _ _) ▸ hq)
  · exact fun h Q hq => hq.elim
def F52.T (p : Option Addr) (n : Int) : PT := fun h Q =>
  ∃ b o, (p : Option Addr) = some ⟨b, o, none⟩ ∧ ∃ n1 : Int, h.at b o = some (.int .i64 n1) ∧ par ((0 : Int) ≤ n1) (∃ b1 o1, (p : Option Addr) = some ⟨b1, o1, none⟩ ∧ ∃ n2 : Int, h.at b1 o1 = some (.int .i64 n2) ∧ ∃ b2 o2, (p : Option Addr) = some ⟨b2, o2, none⟩ ∧ h.canW b2 o2 1 ∧ ∃ b3 o3, (p : Option Addr) = some ⟨b3, o3, none⟩ ∧ ∃ n3 : Int, (h.wr b2 o2 [.int .i64 (IntKind.wrap .i64 (n2 - n))]).at b3 o3 = some (.int .i64 n3) ∧ par ((0 : Int) ≤ n3) (Q (.bool true) (h.wr b2 o2 [.int .i64 (IntKind.wrap .i64 (n2 - n))])) (Q (.bool false) (h.wr b2 o2 [.int .i64 (IntKind.wrap .i64 (n2 - n))]))) (∃ b4 o4, (p : Option Addr) = some ⟨b4, o4, none⟩ ∧ ∃ n4 : Int, h.at b4 o4 = some (.int .i64 n4) ∧ par ((0 : Int) ≤ n4) (Q (.bool true) h) (Q (.bool false) h))
theorem F52.den (V : Value → List Value → PT) (p : Option Addr) (n : Int) : denF Try.prog [] [] V [] Try.f52 [.v (.pointer p), .v (.int .i64 n)] = F52.T p n := by kernel_rfl
def F52.W (T52 : Option Addr → Int → PT) (args : List Value) : PT := match args with
  | [.pointer p, .int .i64 n] => T52 p n
  | _ => fun _ _ => False
def F52.V : List Value → PT := F52.W F52.T
theorem F52.ok : FOk Try.prog 52 F52.V := by
  refine ⟨⟨_, Try.func52, rfl, rfl⟩, fun args => ?_⟩
  have hG : GOk Try.prog [] := GOk.nil
  have hV : VOk Try.prog noV := noV_ok
  unfold F52.V F52.W
  split
  · exact denF_okV hG hV Try.func52 (fun h Q hq => (F52.den _ _ _) ▸ hq)
  · exact fun h Q hq => hq.elim
@[reducible] def F53.G (T52 : Option Addr → Int → PT) (p : Option Addr) (s : ByteArray) : PT := fun h Q =>
  T52 p (IntKind.wrap .i64 (1 + (s.size : Int))) h fun r h1 => ∃ b : Bool, r = .bool b ∧ parB b (Q (.tuple ⟨[]⟩) h1) (Q (.tuple ⟨[]⟩) h1)
def F53.T (p : Option Addr) (s : ByteArray) : PT := F53.G F52.T p s
theorem F53.gen (V : Value → List Value → PT) (T52 : Option Addr → Int → PT) (p : Option Addr) (s : ByteArray) : denF Try.prog [] [(52, F52.W T52)] V [] Try.f53 [.v (.pointer p), .v (.string s)] = F53.G T52 p s := by kernel_rfl
theorem F53.den (V : Value → List Value → PT) (p : Option Addr) (s : ByteArray) : denF Try.prog [] [(52, F52.V)] V [] Try.f53 [.v (.pointer p), .v (.string s)] = F53.T p s := F53.gen V F52.T p s
def F53.W (T53 : Option Addr → ByteArray → PT) (args : List Value) : PT := match args with
  | [.pointer p, .string s] => T53 p s
  | _ => fun _ _ => False
def F53.V : List Value → PT := F53.W F53.T
theorem F53.ok : FOk Try.prog 53 F53.V := by
  refine ⟨⟨_, Try.func53, rfl, rfl⟩, fun args => ?_⟩
  have hG : GOk Try.prog [(52, F52.V)] := GOk.cons F52.ok (GOk.nil)
  have hV : VOk Try.prog noV := noV_ok
  unfold F53.V F53.W
  split
  · exact denF_okV hG hV Try.func53 (fun h Q hq => (F53.den _ _ _) ▸ hq)
  · exact fun h Q hq => hq.elim
end Go.Eng.Ytbjnlacacapjiaa
end
section

set_option maxRecDepth 100000
set_option linter.unusedVariables false
open Go.Proofs
namespace Go.Eng.Ytbjnlacacapjiaa
@[reducible] def F21.G (T25 : Int → Int → Int → Int → Int → Int → Int → Int → Int → Int → Int → Int → Int → Int → Int → Int → Int → Int → Int → Int → Int → Int → Int → Int → Int → Int → Int → Option Addr → PT) (T26 : Int → Int → Int → Int → Int → Int → Int → Int → Int → Int → Int → Int → Int → Int → Int → Int → Int → Int → Int → Int → Int → Int → Int → Int → Int → Int → Int → Option Addr → PT) (T29 : Int → Int → Int → Int → Int → Int → Int → Int → Int → Int → Int → Int → Int → Int → Int → Int → Int → Int → Int → Int → Int → Int → Int → Int → Int → Int → Int → Option Addr → Sl → Int → PT) (T48 : PT) (T49 : Sl → Sl → PT) (T50 : Int → Int → Int → Int → Int → Int → Int → Int → Int → Int → Int → Int → Int → Int → Int → Int → Int → Int → Int → Int → Int → Int → Int → Int → Int → Int → Int → Option Addr → Sl → Sl → PT) (T51 : Int → Sl → Sl → ByteArray → Bool → Int → Sl → Sl → ByteArray → Bool → PT)  : PT := fun h Q =>
  T48 h fun r h1 => ∃ n : Int, ∃ n1 : Int, ∃ n2 : Int, ∃ n3 : Int, ∃ n4 : Int, ∃ n5 : Int, ∃ n6 : Int, ∃ n7 : Int, ∃ n8 : Int, ∃ n9 : Int, ∃ n10 : Int, ∃ n11 : Int, ∃ n12 : Int, ∃ n13 : Int, ∃ n14 : Int, ∃ n15 : Int, ∃ n16 : Int, ∃ n17 : Int, ∃ n18 : Int, ∃ n19 : Int, ∃ n20 : Int, ∃ n21 : Int, ∃ n22 : Int, ∃ n23 : Int, ∃ n24 : Int, ∃ n25 : Int, ∃ n26 : Int, ∃ p : Option Addr, r = .tuple ⟨[.agg ⟨[.int .i64 n, .int .i64 n1, .int .i64 n2, .int .i64 n3, .int .i64 n4, .int .i64 n5, .int .i64 n6, .int .i64 n7, .int .i64 n8, .int .i64 n9, .int .i64 n10, .int .i64 n11, .int .i64 n12, .int .i64 n13, .int .i64 n14, .int .i64 n15, .int .i64 n16, .int .i64 n17, .int .i64 n18, .int .i64 n19, .int .i64 n20, .int .i64 n21, .int .i64 n22, .int .i64 n23, .int .i64 n24, .int .i64 n25, .int .i64 n26]⟩, .pointer p]⟩ ∧ okPtr h1 p none ∧ par ((p : Option Addr) = none) (Q (.bool false) h1) (T26 n n1 n2 n3 n4 n5 n6 n7 n8 n9 n10 n11 n12 n13 n14 n15 n16 n17 n18 n19 n20 n21 n22 n23 n24 n25 n26 p h1 fun r1 h2 => ∃ l : Sl, r1 = .slice l.a l.n l.c ∧ ∀ b, h2 b = none → T49 l ⟨(some ⟨b, 0, none⟩), 3, 3⟩ (h2.new b (.cells ⟨[.int .i64 1000, .int .i64 1220, .int .i64 1098]⟩ 3 (0, 0))) fun r2 h3 => ∃ b1 : Bool, r2 = .bool b1 ∧ parB b1 (T25 n n1 n2 n3 n4 n5 n6 n7 n8 n9 n10 n11 n12 n13 n14 n15 n16 n17 n18 n19 n20 n21 n22 n23 n24 n25 n26 p h3 fun r3 h4 => ∃ l1 : Sl, r3 = .slice l1.a l1.n l1.c ∧ ∀ b2, h4 b2 = none → T49 l1 ⟨(some ⟨b2, 0, none⟩), 3, 3⟩ (h4.new b2 (.cells ⟨[.int .i64 1, .int .i64 2, .int .i64 0]⟩ 3 (0, 0))) fun r4 h5 => ∃ b3 : Bool, r4 = .bool b3 ∧ parB b3 (∀ b4, h5 b4 = none → T29 n n1 n2 n3 n4 n5 n6 n7 n8 n9 n10 n11 n12 n13 n14 n15 n16 n17 n18 n19 n20 n21 n22 n23 n24 n25 n26 p ⟨(some ⟨b4, 0, none⟩), 2, 2⟩ 1 (h5.new b4 (.cells ⟨[.string (ByteArray.mk #[]), .string (ByteArray.mk #[99])]⟩ 9 (0, 0))) fun r5 h6 => ∃ n27 : Int, ∃ l2 : Sl, ∃ l3 : Sl, ∃ s : ByteArray, ∃ b5 : Bool, parB b5 (∃ b6 : Bool, parB b6 (r5 = .tuple ⟨[.agg ⟨[.int .i64 n27, .slice l2.a l2.n l2.c, .slice l3.a l3.n l3.c, .string s, .bool true]⟩, .bool true]⟩ ∧ ∀ b7, h6 b7 = none → ∀ b8, (h6.new b7 (.cells ⟨[.string (ByteArray.mk #[]), .string (ByteArray.mk #[99])]⟩ 9 (0, 0))) b8 = none → T50 n n1 n2 n3 n4 n5 n6 n7 n8 n9 n10 n11 n12 n13 n14 n15 n16 n17 n18 n19 n20 n21 n22 n23 n24 n25 n26 p ⟨(some ⟨b7, 0, none⟩), 2, 2⟩ ⟨(some ⟨b8, 0, none⟩), 1, 1⟩ ((h6.new b7 (.cells ⟨[.string (ByteArray.mk #[]), .string (ByteArray.mk #[99])]⟩ 9 (0, 0))).new b8 (.cells ⟨[.int .u64 9]⟩ 33 (0, 0))) fun r6 h7 => ∃ n28 : Int, ∃ l4 : Sl, ∃ l5 : Sl, ∃ s1 : ByteArray, ∃ b9 : Bool, parB b9 (∃ n29 : Int, r6 = .tuple ⟨[.agg ⟨[.int .i64 n28, .slice l4.a l4.n l4.c, .slice l5.a l5.n l5.c, .string s1, .bool true]⟩, .int .i64 n29]⟩ ∧ ∀ b10, h7 b10 = none → ∀ b11, (h7.new b10 (.cells ⟨[.string (ByteArray.mk #[]), .string (ByteArray.mk #[99])]⟩ 9 (0, 0))) b11 = none → T50 n n1 n2 n3 n4 n5 n6 n7 n8 n9 n10 n11 n12 n13 n14 n15 n16 n17 n18 n19 n20 n21 n22 n23 n24 n25 n26 p ⟨(some ⟨b10, 0, none⟩), 2, 2⟩ ⟨(some ⟨b11, 0, none⟩), 1, 1⟩ ((h7.new b10 (.cells ⟨[.string (ByteArray.mk #[]), .string (ByteArray.mk #[99])]⟩ 9 (0, 0))).new b11 (.cells ⟨[.int .u64 7]⟩ 33 (0, 0))) fun r7 h8 => ∃ n30 : Int, ∃ l6 : Sl, ∃ l7 : Sl, ∃ s2 : ByteArray, ∃ b12 : Bool, parB b12 (∃ n31 : Int, r7 = .tuple ⟨[.agg ⟨[.int .i64 n30, .slice l6.a l6.n l6.c, .slice l7.a l7.n l7.c, .string s2, .bool true]⟩, .int .i64 n31]⟩ ∧ par ((l2.n : Int) = 1) (∃ b13 o, (l2.a : Option Addr) = some ⟨b13, o, none⟩ ∧ ((0 : Int) ≤ 0 ∧ 0 < (l2.n : Int)) ∧ ∃ n32 : Int, h8.at b13 (o + (0 : Int).toNat * 6) = some (.int .u64 n32) ∧ par (n32 = 4) (par ((l3.n : Int) = 2) (∃ b14 o1, (l3.a : Option Addr) = some ⟨b14, o1, none⟩ ∧ ((0 : Int) ≤ 1 ∧ 1 < (l3.n : Int)) ∧ ∃ n33 : Int, h8.at b14 (o1 + (1 : Int).toNat * 6) = some (.int .u64 n33) ∧ par (n33 = 7) (par (s = (ByteArray.mk #[107])) (Q (.bool false) h8) (Q (.bool false) h8)) (Q (.bool false) h8)) (Q (.bool false) h8)) (Q (.bool false) h8)) (Q (.bool false) h8)) (∃ n34 : Int, r7 = .tuple ⟨[.agg ⟨[.int .i64 n30, .slice l6.a l6.n l6.c, .slice l7.a l7.n l7.c, .string s2, .bool false]⟩, .int .i64 n34]⟩ ∧ par ((l2.n : Int) = 1) (∃ b15 o2, (l2.a : Option Addr) = some ⟨b15, o2, none⟩ ∧ ((0 : Int) ≤ 0 ∧ 0 < (l2.n : Int)) ∧ ∃ n35 : Int, h8.at b15 (o2 + (0 : Int).toNat * 6) = some (.int .u64 n35) ∧ par (n35 = 4) (par ((l3.n : Int) = 2) (∃ b16 o3, (l3.a : Option Addr) = some ⟨b16, o3, none⟩ ∧ ((0 : Int) ≤ 1 ∧ 1 < (l3.n : Int)) ∧ ∃ n36 : Int, h8.at b16 (o3 + (1 : Int).toNat * 6) = some (.int .u64 n36) ∧ par (n36 = 7) (par (s = (ByteArray.mk #[107])) (Q (.bool false) h8) (Q (.bool false) h8)) (Q (.bool false) h8)) (Q (.bool false) h8)) (Q (.bool false) h8)) (Q (.bool false) h8))) (∃ n37 : Int, r6 = .tuple ⟨[.agg ⟨[.int .i64 n28, .slice l4.a l4.n l4.c, .slice l5.a l5.n l5.c, .string s1, .bool false]⟩, .int .i64 n37]⟩ ∧ ∀ b17, h7 b17 = none → ∀ b18, (h7.new b17 (.cells ⟨[.string (ByteArray.mk #[]), .string (ByteArray.mk #[99])]⟩ 9 (0, 0))) b18 = none → T50 n n1 n2 n3 n4 n5 n6 n7 n8 n9 n10 n11 n12 n13 n14 n15 n16 n17 n18 n19 n20 n21 n22 n23 n24 n25 n26 p ⟨(some ⟨b17, 0, none⟩), 2, 2⟩ ⟨(some ⟨b18, 0, none⟩), 1, 1⟩ ((h7.new b17 (.cells ⟨[.string (ByteArray.mk #[]), .string (ByteArray.mk #[99])]⟩ 9 (0, 0))).new b18 (.cells ⟨[.int .u64 7]⟩ 33 (0, 0))) fun r8 h9 => ∃ n38 : Int, ∃ l8 : Sl, ∃ l9 : Sl, ∃ s3 : ByteArray, ∃ b19 : Bool, parB b19 (∃ n39 : Int, r8 = .tuple ⟨[.agg ⟨[.int .i64 n38, .slice l8.a l8.n l8.c, .slice l9.a l9.n l9.c, .string s3, .bool true]⟩, .int .i64 n39]⟩ ∧ par ((l2.n : Int) = 1) (∃ b20 o4, (l2.a : Option Addr) = some ⟨b20, o4, none⟩ ∧ ((0 : Int) ≤ 0 ∧ 0 < (l2.n : Int)) ∧ ∃ n40 : Int, h9.at b20 (o4 + (0 : Int).toNat * 6) = some (.int .u64 n40) ∧ par (n40 = 4) (par ((l3.n : Int) = 2) (∃ b21 o5, (l3.a : Option Addr) = some ⟨b21, o5, none⟩ ∧ ((0 : Int) ≤ 1 ∧ 1 < (l3.n : Int)) ∧ ∃ n41 : Int, h9.at b21 (o5 + (1 : Int).toNat * 6) = some (.int .u64 n41) ∧ par (n41 = 7) (par (s = (ByteArray.mk #[107])) (Q (.bool false) h9) (Q (.bool false) h9)) (Q (.bool false) h9)) (Q (.bool false) h9)) (Q (.bool false) h9)) (Q (.bool false) h9)) (∃ n42 : Int, r8 = .tuple ⟨[.agg ⟨[.int .i64 n38, .slice l8.a l8.n l8.c, .slice l9.a l9.n l9.c, .string s3, .bool false]⟩, .int .i64 n42]⟩ ∧ par ((l2.n : Int) = 1) (∃ b22 o6, (l2.a : Option Addr) = some ⟨b22, o6, none⟩ ∧ ((0 : Int) ≤ 0 ∧ 0 < (l2.n : Int)) ∧ ∃ n43 : Int, h9.at b22 (o6 + (0 : Int).toNat * 6) = some (.int .u64 n43) ∧ par (n43 = 4) (par ((l3.n : Int) = 2) (∃ b23 o7, (l3.a : Option Addr) = some ⟨b23, o7, none⟩ ∧ ((0 : Int) ≤ 1 ∧ 1 < (l3.n : Int)) ∧ ∃ n44 : Int, h9.at b23 (o7 + (1 : Int).toNat * 6) = some (.int .u64 n44) ∧ par (n44 = 7) (par (s = (ByteArray.mk #[107])) (Q (.bool false) h9) (Q (.bool false) h9)) (Q (.bool false) h9)) (Q (.bool false) h9)) (Q (.bool false) h9)) (Q (.bool false) h9)))) (r5 = .tuple ⟨[.agg ⟨[.int .i64 n27, .slice l2.a l2.n l2.c, .slice l3.a l3.n l3.c, .string s, .bool true]⟩, .bool false]⟩ ∧ ∀ b24, h6 b24 = none → ∀ b25, (h6.new b24 (.cells ⟨[.string (ByteArray.mk #[]), .string (ByteArray.mk #[99])]⟩ 9 (0, 0))) b25 = none → T50 n n1 n2 n3 n4 n5 n6 n7 n8 n9 n10 n11 n12 n13 n14 n15 n16 n17 n18 n19 n20 n21 n22 n23 n24 n25 n26 p ⟨(some ⟨b24, 0, none⟩), 2, 2⟩ ⟨(some ⟨b25, 0, none⟩), 1, 1⟩ ((h6.new b24 (.cells ⟨[.string (ByteArray.mk #[]), .string (ByteArray.mk #[99])]⟩ 9 (0, 0))).new b25 (.cells ⟨[.int .u64 9]⟩ 33 (0, 0))) fun r9 h10 => ∃ n45 : Int, ∃ l10 : Sl, ∃ l11 : Sl, ∃ s4 : ByteArray, ∃ b26 : Bool, parB b26 (∃ n46 : Int, r9 = .tuple ⟨[.agg ⟨[.int .i64 n45, .slice l10.a l10.n l10.c, .slice l11.a l11.n l11.c, .string s4, .bool true]⟩, .int .i64 n46]⟩ ∧ ∀ b27, h10 b27 = none → ∀ b28, (h10.new b27 (.cells ⟨[.string (ByteArray.mk #[]), .string (ByteArray.mk #[99])]⟩ 9 (0, 0))) b28 = none → T50 n n1 n2 n3 n4 n5 n6 n7 n8 n9 n10 n11 n12 n13 n14 n15 n16 n17 n18 n19 n20 n21 n22 n23 n24 n25 n26 p ⟨(some ⟨b27, 0, none⟩), 2, 2⟩ ⟨(some ⟨b28, 0, none⟩), 1, 1⟩ ((h10.new b27 (.cells ⟨[.string (ByteArray.mk #[]), .string (ByteArray.mk #[99])]⟩ 9 (0, 0))).new b28 (.cells ⟨[.int .u64 7]⟩ 33 (0, 0))) fun r10 h11 => ∃ n47 : Int, ∃ l12 : Sl, ∃ l13 : Sl, ∃ s5 : ByteArray, ∃ b29 : Bool, parB b29 (∃ n48 : Int, r10 = .tuple ⟨[.agg ⟨[.int .i64 n47, .slice l12.a l12.n l12.c, .slice l13.a l13.n l13.c, .string s5, .bool true]⟩, .int .i64 n48]⟩ ∧ Q (.bool false) h11) (∃ n49 : Int, r10 = .tuple ⟨[.agg ⟨[.int .i64 n47, .slice l12.a l12.n l12.c, .slice l13.a l13.n l13.c, .string s5, .bool false]⟩, .int .i64 n49]⟩ ∧ Q (.bool false) h11)) (∃ n50 : Int, r9 = .tuple ⟨[.agg ⟨[.int .i64 n45, .slice l10.a l10.n l10.c, .slice l11.a l11.n l11.c, .string s4, .bool false]⟩, .int .i64 n50]⟩ ∧ ∀ b30, h10 b30 = none → ∀ b31, (h10.new b30 (.cells ⟨[.string (ByteArray.mk #[]), .string (ByteArray.mk #[99])]⟩ 9 (0, 0))) b31 = none → T50 n n1 n2 n3 n4 n5 n6 n7 n8 n9 n10 n11 n12 n13 n14 n15 n16 n17 n18 n19 n20 n21 n22 n23 n24 n25 n26 p ⟨(some ⟨b30, 0, none⟩), 2, 2⟩ ⟨(some ⟨b31, 0, none⟩), 1, 1⟩ ((h10.new b30 (.cells ⟨[.string (ByteArray.mk #[]), .string (ByteArray.mk #[99])]⟩ 9 (0, 0))).new b31 (.cells ⟨[.int .u64 7]⟩ 33 (0, 0))) fun r11 h12 => ∃ n51 : Int, ∃ l14 : Sl, ∃ l15 : Sl, ∃ s6 : ByteArray, ∃ b32 : Bool, parB b32 (∃ n52 : Int, r11 = .tuple ⟨[.agg ⟨[.int .i64 n51, .slice l14.a l14.n l14.c, .slice l15.a l15.n l15.c, .string s6, .bool true]⟩, .int .i64 n52]⟩ ∧ Q (.bool false) h12) (∃ n53 : Int, r11 = .tuple ⟨[.agg ⟨[.int .i64 n51, .slice l14.a l14.n l14.c, .slice l15.a l15.n l15.c, .string s6, .bool false]⟩, .int .i64 n53]⟩ ∧ Q (.bool false) h12)))) (∃ b33 : Bool, parB b33 (r5 = .tuple ⟨[.agg ⟨[.int .i64 n27, .slice l2.a l2.n l2.c, .slice l3.a l3.n l3.c, .string s, .bool false]⟩, .bool true]⟩ ∧ ∀ b34, h6 b34 = none → ∀ b35, (h6.new b34 (.cells ⟨[.string (ByteArray.mk #[]), .string (ByteArray.mk #[99])]⟩ 9 (0, 0))) b35 = none → T50 n n1 n2 n3 n4 n5 n6 n7 n8 n9 n10 n11 n12 n13 n14 n15 n16 n17 n18 n19 n20 n21 n22 n23 n24 n25 n26 p ⟨(some ⟨b34, 0, none⟩), 2, 2⟩ ⟨(some ⟨b35, 0, none⟩), 1, 1⟩ ((h6.new b34 (.cells ⟨[.string (ByteArray.mk #[]), .string (ByteArray.mk #[99])]⟩ 9 (0, 0))).new b35 (.cells ⟨[.int .u64 9]⟩ 33 (0, 0))) fun r12 h13 => ∃ n54 : Int, ∃ l16 : Sl, ∃ l17 : Sl, ∃ s7 : ByteArray, ∃ b36 : Bool, parB b36 (∃ n55 : Int, r12 = .tuple ⟨[.agg ⟨[.int .i64 n54, .slice l16.a l16.n l16.c, .slice l17.a l17.n l17.c, .string s7, .bool true]⟩, .int .i64 n55]⟩ ∧ ∀ b37, h13 b37 = none → ∀ b38, (h13.new b37 (.cells ⟨[.string (ByteArray.mk #[]), .string (ByteArray.mk #[99])]⟩ 9 (0, 0))) b38 = none → T50 n n1 n2 n3 n4 n5 n6 n7 n8 n9 n10 n11 n12 n13 n14 n15 n16 n17 n18 n19 n20 n21 n22 n23 n24 n25 n26 p ⟨(some ⟨b37, 0, none⟩), 2, 2⟩ ⟨(some ⟨b38, 0, none⟩), 1, 1⟩ ((h13.new b37 (.cells ⟨[.string (ByteArray.mk #[]), .string (ByteArray.mk #[99])]⟩ 9 (0, 0))).new b38 (.cells ⟨[.int .u64 7]⟩ 33 (0, 0))) fun r13 h14 => ∃ n56 : Int, ∃ l18 : Sl, ∃ l19 : Sl, ∃ s8 : ByteArray, ∃ b39 : Bool, parB b39 (∃ n57 : Int, r13 = .tuple ⟨[.agg ⟨[.int .i64 n56, .slice l18.a l18.n l18.c, .slice l19.a l19.n l19.c, .string s8, .bool true]⟩, .int .i64 n57]⟩ ∧ par ((l2.n : Int) = 1) (∃ b40 o8, (l2.a : Option Addr) = some ⟨b40, o8, none⟩ ∧ ((0 : Int) ≤ 0 ∧ 0 < (l2.n : Int)) ∧ ∃ n58 : Int, h14.at b40 (o8 + (0 : Int).toNat * 6) = some (.int .u64 n58) ∧ par (n58 = 4) (par ((l3.n : Int) = 2) (∃ b41 o9, (l3.a : Option Addr) = some ⟨b41, o9, none⟩ ∧ ((0 : Int) ≤ 1 ∧ 1 < (l3.n : Int)) ∧ ∃ n59 : Int, h14.at b41 (o9 + (1 : Int).toNat * 6) = some (.int .u64 n59) ∧ par (n59 = 7) (par (s = (ByteArray.mk #[107])) (par (n55 = 2) (T51 n54 l16 l17 s7 true n27 l2 l3 s false h14 fun r14 h15 => ∃ b42 : Bool, r14 = .bool b42 ∧ parB b42 (par (n57 = 1) (Q (.bool true) h15) (Q (.bool false) h15)) (Q (.bool false) h15)) (Q (.bool false) h14)) (Q (.bool false) h14)) (Q (.bool false) h14)) (Q (.bool false) h14)) (Q (.bool false) h14)) (Q (.bool false) h14)) (∃ n60 : Int, r13 = .tuple ⟨[.agg ⟨[.int .i64 n56, .slice l18.a l18.n l18.c, .slice l19.a l19.n l19.c, .string s8, .bool false]⟩, .int .i64 n60]⟩ ∧ par ((l2.n : Int) = 1) (∃ b43 o10, (l2.a : Option Addr) = some ⟨b43, o10, none⟩ ∧ ((0 : Int) ≤ 0 ∧ 0 < (l2.n : Int)) ∧ ∃ n61 : Int, h14.at b43 (o10 + (0 : Int).toNat * 6) = some (.int .u64 n61) ∧ par (n61 = 4) (par ((l3.n : Int) = 2) (∃ b44 o11, (l3.a : Option Addr) = some ⟨b44, o11, none⟩ ∧ ((0 : Int) ≤ 1 ∧ 1 < (l3.n : Int)) ∧ ∃ n62 : Int, h14.at b44 (o11 + (1 : Int).toNat * 6) = some (.int .u64 n62) ∧ par (n62 = 7) (par (s = (ByteArray.mk #[107])) (par (n55 = 2) (T51 n54 l16 l17 s7 true n27 l2 l3 s false h14 fun r15 h16 => ∃ b45 : Bool, r15 = .bool b45 ∧ parB b45 (par (n60 = 1) (Q (.bool true) h16) (Q (.bool false) h16)) (Q (.bool false) h16)) (Q (.bool false) h14)) (Q (.bool false) h14)) (Q (.bool false) h14)) (Q (.bool false) h14)) (Q (.bool false) h14)) (Q (.bool false) h14))) (∃ n63 : Int, r12 = .tuple ⟨[.agg ⟨[.int .i64 n54, .slice l16.a l16.n l16.c, .slice l17.a l17.n l17.c, .string s7, .bool false]⟩, .int .i64 n63]⟩ ∧ ∀ b46, h13 b46 = none → ∀ b47, (h13.new b46 (.cells ⟨[.string (ByteArray.mk #[]), .string (ByteArray.mk #[99])]⟩ 9 (0, 0))) b47 = none → T50 n n1 n2 n3 n4 n5 n6 n7 n8 n9 n10 n11 n12 n13 n14 n15 n16 n17 n18 n19 n20 n21 n22 n23 n24 n25 n26 p ⟨(some ⟨b46, 0, none⟩), 2, 2⟩ ⟨(some ⟨b47, 0, none⟩), 1, 1⟩ ((h13.new b46 (.cells ⟨[.string (ByteArray.mk #[]), .string (ByteArray.mk #[99])]⟩ 9 (0, 0))).new b47 (.cells ⟨[.int .u64 7]⟩ 33 (0, 0))) fun r16 h17 => ∃ n64 : Int, ∃ l20 : Sl, ∃ l21 : Sl, ∃ s9 : ByteArray, ∃ b48 : Bool, parB b48 (∃ n65 : Int, r16 = .tuple ⟨[.agg ⟨[.int .i64 n64, .slice l20.a l20.n l20.c, .slice l21.a l21.n l21.c, .string s9, .bool true]⟩, .int .i64 n65]⟩ ∧ par ((l2.n : Int) = 1) (∃ b49 o12, (l2.a : Option Addr) = some ⟨b49, o12, none⟩ ∧ ((0 : Int) ≤ 0 ∧ 0 < (l2.n : Int)) ∧ ∃ n66 : Int, h17.at b49 (o12 + (0 : Int).toNat * 6) = some (.int .u64 n66) ∧ par (n66 = 4) (par ((l3.n : Int) = 2) (∃ b50 o13, (l3.a : Option Addr) = some ⟨b50, o13, none⟩ ∧ ((0 : Int) ≤ 1 ∧ 1 < (l3.n : Int)) ∧ ∃ n67 : Int, h17.at b50 (o13 + (1 : Int).toNat * 6) = some (.int .u64 n67) ∧ par (n67 = 7) (par (s = (ByteArray.mk #[107])) (par (n63 = 2) (T51 n54 l16 l17 s7 false n27 l2 l3 s false h17 fun r17 h18 => ∃ b51 : Bool, r17 = .bool b51 ∧ parB b51 (par (n65 = 1) (Q (.bool true) h18) (Q (.bool false) h18)) (Q (.bool false) h18)) (Q (.bool false) h17)) (Q (.bool false) h17)) (Q (.bool false) h17)) (Q (.bool false) h17)) (Q (.bool false) h17)) (Q (.bool false) h17)) (∃ n68 : Int, r16 = .tuple ⟨[.agg ⟨[.int .i64 n64, .slice l20.a l20.n l20.c, .slice l21.a l21.n l21.c, .string s9, .bool false]⟩, .int .i64 n68]⟩ ∧ par ((l2.n : Int) = 1) (∃ b52 o14, (l2.a : Option Addr) = some ⟨b52, o14, none⟩ ∧ ((0 : Int) ≤ 0 ∧ 0 < (l2.n : Int)) ∧ ∃ n69 : Int, h17.at b52 (o14 + (0 : Int).toNat * 6) = some (.int .u64 n69) ∧ par (n69 = 4) (par ((l3.n : Int) = 2) (∃ b53 o15, (l3.a : Option Addr) = some ⟨b53, o15, none⟩ ∧ ((0 : Int) ≤ 1 ∧ 1 < (l3.n : Int)) ∧ ∃ n70 : Int, h17.at b53 (o15 + (1 : Int).toNat * 6) = some (.int .u64 n70) ∧ par (n70 = 7) (par (s = (ByteArray.mk #[107])) (par (n63 = 2) (T51 n54 l16 l17 s7 false n27 l2 l3 s false h17 fun r18 h19 => ∃ b54 : Bool, r18 = .bool b54 ∧ parB b54 (par (n68 = 1) (Q (.bool true) h19) (Q (.bool false) h19)) (Q (.bool false) h19)) (Q (.bool false) h17)) (Q (.bool false) h17)) (Q (.bool false) h17)) (Q (.bool false) h17)) (Q (.bool false) h17)) (Q (.bool false) h17)))) (r5 = .tuple ⟨[.agg ⟨[.int .i64 n27, .slice l2.a l2.n l2.c, .slice l3.a l3.n l3.c, .string s, .bool false]⟩, .bool false]⟩ ∧ ∀ b55, h6 b55 = none → ∀ b56, (h6.new b55 (.cells ⟨[.string (ByteArray.mk #[]), .string (ByteArray.mk #[99])]⟩ 9 (0, 0))) b56 = none → T50 n n1 n2 n3 n4 n5 n6 n7 n8 n9 n10 n11 n12 n13 n14 n15 n16 n17 n18 n19 n20 n21 n22 n23 n24 n25 n26 p ⟨(some ⟨b55, 0, none⟩), 2, 2⟩ ⟨(some ⟨b56, 0, none⟩), 1, 1⟩ ((h6.new b55 (.cells ⟨[.string (ByteArray.mk #[]), .string (ByteArray.mk #[99])]⟩ 9 (0, 0))).new b56 (.cells ⟨[.int .u64 9]⟩ 33 (0, 0))) fun r19 h20 => ∃ n71 : Int, ∃ l22 : Sl, ∃ l23 : Sl, ∃ s10 : ByteArray, ∃ b57 : Bool, parB b57 (∃ n72 : Int, r19 = .tuple ⟨[.agg ⟨[.int .i64 n71, .slice l22.a l22.n l22.c, .slice l23.a l23.n l23.c, .string s10, .bool true]⟩, .int .i64 n72]⟩ ∧ ∀ b58, h20 b58 = none → ∀ b59, (h20.new b58 (.cells ⟨[.string (ByteArray.mk #[]), .string (ByteArray.mk #[99])]⟩ 9 (0, 0))) b59 = none → T50 n n1 n2 n3 n4 n5 n6 n7 n8 n9 n10 n11 n12 n13 n14 n15 n16 n17 n18 n19 n20 n21 n22 n23 n24 n25 n26 p ⟨(some ⟨b58, 0, none⟩), 2, 2⟩ ⟨(some ⟨b59, 0, none⟩), 1, 1⟩ ((h20.new b58 (.cells ⟨[.string (ByteArray.mk #[]), .string (ByteArray.mk #[99])]⟩ 9 (0, 0))).new b59 (.cells ⟨[.int .u64 7]⟩ 33 (0, 0))) fun r20 h21 => ∃ n73 : Int, ∃ l24 : Sl, ∃ l25 : Sl, ∃ s11 : ByteArray, ∃ b60 : Bool, parB b60 (∃ n74 : Int, r20 = .tuple ⟨[.agg ⟨[.int .i64 n73, .slice l24.a l24.n l24.c, .slice l25.a l25.n l25.c, .string s11, .bool true]⟩, .int .i64 n74]⟩ ∧ Q (.bool false) h21) (∃ n75 : Int, r20 = .tuple ⟨[.agg ⟨[.int .i64 n73, .slice l24.a l24.n l24.c, .slice l25.a l25.n l25.c, .string s11, .bool false]⟩, .int .i64 n75]⟩ ∧ Q (.bool false) h21)) (∃ n76 : Int, r19 = .tuple ⟨[.agg ⟨[.int .i64 n71, .slice l22.a l22.n l22.c, .slice l23.a l23.n l23.c, .string s10, .bool false]⟩, .int .i64 n76]⟩ ∧ ∀ b61, h20 b61 = none → ∀ b62, (h20.new b61 (.cells ⟨[.string (ByteArray.mk #[]), .string (ByteArray.mk #[99])]⟩ 9 (0, 0))) b62 = none → T50 n n1 n2 n3 n4 n5 n6 n7 n8 n9 n10 n11 n12 n13 n14 n15 n16 n17 n18 n19 n20 n21 n22 n23 n24 n25 n26 p ⟨(some ⟨b61, 0, none⟩), 2, 2⟩ ⟨(some ⟨b62, 0, none⟩), 1, 1⟩ ((h20.new b61 (.cells ⟨[.string (ByteArray.mk #[]), .string (ByteArray.mk #[99])]⟩ 9 (0, 0))).new b62 (.cells ⟨[.int .u64 7]⟩ 33 (0, 0))) fun r21 h22 => ∃ n77 : Int, ∃ l26 : Sl, ∃ l27 : Sl, ∃ s12 : ByteArray, ∃ b63 : Bool, parB b63 (∃ n78 : Int, r21 = .tuple ⟨[.agg ⟨[.int .i64 n77, .slice l26.a l26.n l26.c, .slice l27.a l27.n l27.c, .string s12, .bool true]⟩, .int .i64 n78]⟩ ∧ Q (.bool false) h22) (∃ n79 : Int, r21 = .tuple ⟨[.agg ⟨[.int .i64 n77, .slice l26.a l26.n l26.c, .slice l27.a l27.n l27.c, .string s12, .bool false]⟩, .int .i64 n79]⟩ ∧ Q (.bool false) h22))))) (Q (.bool false) h5)) (Q (.bool false) h3))
def F21.T  : PT := F21.G F25.T F26.T F29.T F48.T F49.T F50.T F51.T 
theorem F21.gen (V : Value → List Value → PT) (T25 : Int → Int → Int → Int → Int → Int → Int → Int → Int → Int → Int → Int → Int → Int → Int → Int → Int → Int → Int → Int → Int → Int → Int → Int → Int → Int → Int → Option Addr → PT) (T26 : Int → Int → Int → Int → Int → Int → Int → Int → Int → Int → Int → Int → Int → Int → Int → Int → Int → Int → Int → Int → Int → Int → Int → Int → Int → Int → Int → Option Addr → PT) (T29 : Int → Int → Int → Int → Int → Int → Int → Int → Int → Int → Int → Int → Int → Int → Int → Int → Int → Int → Int → Int → Int → Int → Int → Int → Int → Int → Int → Option Addr → Sl → Int → PT) (T48 : PT) (T49 : Sl → Sl → PT) (T50 : Int → Int → Int → Int → Int → Int → Int → Int → Int → Int → Int → Int → Int → Int → Int → Int → Int → Int → Int → Int → Int → Int → Int → Int → Int → Int → Int → Option Addr → Sl → Sl → PT) (T51 : Int → Sl → Sl → ByteArray → Bool → Int → Sl → Sl → ByteArray → Bool → PT) : denF Try.prog [1, 3, 5, 7] [(25, F25.W T25), (26, F26.W T26), (29, F29.W T29), (48, F48.W T48), (49, F49.W T49), (50, F50.W T50), (51, F51.W T51)] V [] Try.f21 [] = F21.G T25 T26 T29 T48 T49 T50 T51  := by kernel_rfl
theorem F21.den (V : Value → List Value → PT)  : denF Try.prog [1, 3, 5, 7] [(25, F25.V), (26, F26.V), (29, F29.V), (48, F48.V), (49, F49.V), (50, F50.V), (51, F51.V)] V [] Try.f21 [] = F21.T  := F21.gen V F25.T F26.T F29.T F48.T F49.T F50.T F51.T 
def F21.W (T21 : PT) (args : List Value) : PT := match args with
  | [] => T21 
  | _ => fun _ _ => False
def F21.V : List Value → PT := F21.W F21.T
theorem F21.ok : FOk Try.prog 21 F21.V := by
  refine ⟨⟨_, Try.func21, rfl, rfl⟩, fun args => ?_⟩
  have hG : GOk Try.prog [(25, F25.V), (26, F26.V), (29, F29.V), (48, F48.V), (49, F49.V), (50, F50.V), (51, F51.V)] := GOk.cons F25.ok (GOk.cons F26.ok (GOk.cons F29.ok (GOk.cons F48.ok (GOk.cons F49.ok (GOk.cons F50.ok (GOk.cons F51.ok (GOk.nil)))))))
  have hV : VOk Try.prog noV := noV_ok
  unfold F21.V F21.W
  split
  · exact denF_okV hG hV Try.func21 (fun h Q hq => (F21.den _ ) ▸ hq)
  · exact fun h Q hq => hq.elim
@[reducible] def F22.G (T37 : Int → PT) (T39 : Option Addr → PT) (T52 : Option Addr → Int → PT) (T53 : Option Addr → ByteArray → PT) (l l1 : Sl) : PT := fun h Q =>
  T37 10000 h fun r h1 => ∃ p : Option Addr, r = .pointer p ∧ T52 p (l.n : Int) h1 fun r1 h2 => ∃ b : Bool, r1 = .bool b ∧ parB b (∃ (I : Int → Hp → Prop) (m : Int → Hp → Nat), I 0 h2 ∧ (∀ n : Int, ∀ h3 : Hp, I n h3 → par (n < (l1.n : Int)) (T39 p h3 fun r2 h4 => ∃ b1 : Bool, r2 = .bool b1 ∧ parB b1 (∃ b2 o, (l1.a : Option Addr) = some ⟨b2, o, none⟩ ∧ ((0 : Int) ≤ n ∧ n < (l1.n : Int)) ∧ ∃ s : ByteArray, h4.at b2 (o + n.toNat) = some (.string s) ∧ T53 p s h4 fun r3 h5 => I (IntKind.wrap .i64 (n + 1)) h5 ∧ m (IntKind.wrap .i64 (n + 1)) h5 < m n h3) (T39 p h4 fun r4 h6 => ∃ b3 : Bool, r4 = .bool b3 ∧ parB b3 (Q (.bool true) h6) (Q (.bool false) h6))) (T39 p h3 fun r5 h7 => ∃ b4 : Bool, r5 = .bool b4 ∧ parB b4 (Q (.bool true) h7) (Q (.bool false) h7)))) (∃ (I1 : Int → Hp → Prop) (m1 : Int → Hp → Nat), I1 0 h2 ∧ (∀ n1 : Int, ∀ h8 : Hp, I1 n1 h8 → par (n1 < (l1.n : Int)) (T39 p h8 fun r6 h9 => ∃ b5 : Bool, r6 = .bool b5 ∧ parB b5 (∃ b6 o1, (l1.a : Option Addr) = some ⟨b6, o1, none⟩ ∧ ((0 : Int) ≤ n1 ∧ n1 < (l1.n : Int)) ∧ ∃ s1 : ByteArray, h9.at b6 (o1 + n1.toNat) = some (.string s1) ∧ T53 p s1 h9 fun r7 h10 => I1 (IntKind.wrap .i64 (n1 + 1)) h10 ∧ m1 (IntKind.wrap .i64 (n1 + 1)) h10 < m1 n1 h8) (T39 p h9 fun r8 h11 => ∃ b7 : Bool, r8 = .bool b7 ∧ parB b7 (Q (.bool true) h11) (Q (.bool false) h11))) (T39 p h8 fun r9 h12 => ∃ b8 : Bool, r9 = .bool b8 ∧ parB b8 (Q (.bool true) h12) (Q (.bool false) h12))))
def F22.T (l l1 : Sl) : PT := F22.G F37.T F39.T F52.T F53.T l l1
theorem F22.gen (V : Value → List Value → PT) (T37 : Int → PT) (T39 : Option Addr → PT) (T52 : Option Addr → Int → PT) (T53 : Option Addr → ByteArray → PT) (l l1 : Sl) : denF Try.prog [] [(37, F37.W T37), (39, F39.W T39), (52, F52.W T52), (53, F53.W T53)] V [(122, .loop [(6, .int .i64)] [])] Try.f22 [.v (.slice l.a l.n l.c), .v (.slice l1.a l1.n l1.c)] = F22.G T37 T39 T52 T53 l l1 := by kernel_rfl
theorem F22.den (V : Value → List Value → PT) (l l1 : Sl) : denF Try.prog [] [(37, F37.V), (39, F39.V), (52, F52.V), (53, F53.V)] V [(122, .loop [(6, .int .i64)] [])] Try.f22 [.v (.slice l.a l.n l.c), .v (.slice l1.a l1.n l1.c)] = F22.T l l1 := F22.gen V F37.T F39.T F52.T F53.T l l1
def F22.W (T22 : Sl → Sl → PT) (args : List Value) : PT := match args with
  | [.slice l_a l_n l_c, .slice l1_a l1_n l1_c] => T22 ⟨l_a, l_n, l_c⟩ ⟨l1_a, l1_n, l1_c⟩
  | _ => fun _ _ => False
def F22.V : List Value → PT := F22.W F22.T
theorem F22.ok : FOk Try.prog 22 F22.V := by
  refine ⟨⟨_, Try.func22, rfl, rfl⟩, fun args => ?_⟩
  have hG : GOk Try.prog [(37, F37.V), (39, F39.V), (52, F52.V), (53, F53.V)] := GOk.cons F37.ok (GOk.cons F39.ok (GOk.cons F52.ok (GOk.cons F53.ok (GOk.nil))))
  have hV : VOk Try.prog noV := noV_ok
  unfold F22.V F22.W
  split
  · exact denF_okV hG hV Try.func22 (fun h Q hq => (F22.den _ _ _) ▸ hq)
  · exact fun h Q hq => hq.elim
def F32.T (n n1 : Int) : PT := fun h Q =>
  par (n < 0) (n1 ≠ 0 ∧ Q (.int .i64 (Int.tmod (IntKind.wrap .i64 (0 - (IntKind.wrap .i64 (n + 1)))) n1)) h) (n1 ≠ 0 ∧ Q (.int .i64 (Int.tmod n n1)) h)
theorem F32.den (V : Value → List Value → PT) (n n1 : Int) : denF Try.prog [] [] V [] Try.f32 [.v (.int .i64 n), .v (.int .i64 n1)] = F32.T n n1 := by kernel_rfl
def F32.W (T32 : Int → Int → PT) (args : List Value) : PT := match args with
  | [.int .i64 n, .int .i64 n1] => T32 n n1
  | _ => fun _ _ => False
def F32.V : List Value → PT := F32.W F32.T
theorem F32.ok : FOk Try.prog 32 F32.V := by
  refine ⟨⟨_, Try.func32, rfl, rfl⟩, fun args => ?_⟩
  have hG : GOk Try.prog [] := GOk.nil
  have hV : VOk Try.prog noV := noV_ok
  unfold F32.V F32.W
  split
  · exact denF_okV hG hV Try.func32 (fun h Q hq => (F32.den _ _ _) ▸ hq)
  · exact fun h Q hq => hq.elim
@[reducible] def F23.G (T32 : Int → Int → PT) (n n1 : Int) (n2 n3 : Int) (n4 n5 : Int) (n6 n7 : Int) (n8 n9 : Int) (n10 n11 : Int) (n12 n13 : Int) (n14 n15 : Int) (n16 n17 : Int) (n18 n19 : Int) (n20 n21 : Int) (n22 n23 : Int) (n24 n25 n26 : Int) : PT := fun h Q =>
  T32 n8 3 h fun r h1 => ∃ n27 : Int, r = .int .i64 n27 ∧ T32 n9 16773121 h1 fun r1 h2 => ∃ n28 : Int, r1 = .int .i64 n28 ∧ T32 n10 9 h2 fun r2 h3 => ∃ n29 : Int, r2 = .int .i64 n29 ∧ T32 n5 16 h3 fun r3 h4 => ∃ n30 : Int, r3 = .int .i64 n30 ∧ T32 n7 16 h4 fun r4 h5 => ∃ n31 : Int, r4 = .int .i64 n31 ∧ T32 n12 16 h5 fun r5 h6 => ∃ n32 : Int, r5 = .int .i64 n32 ∧ Q (.agg ⟨[.int .i64 n, .int .i64 n1, .int .i64 n2, .int .i64 n3, .int .i64 n4, .int .i64 (IntKind.wrap .i64 (1 + n30)), .int .i64 n6, .int .i64 (iMax (iMax 2 (IntKind.wrap .i64 (1 + n30))) (IntKind.wrap .i64 (1 + n31))), .int .i64 (IntKind.wrap .i64 (3 + n27)), .int .i64 (IntKind.wrap .i64 (4096 + n28)), .int .i64 (IntKind.wrap .i64 (2 + n29)), .int .i64 n11, .int .i64 (IntKind.wrap .i64 (1 + n32)), .int .i64 n13, .int .i64 n14, .int .i64 n15, .int .i64 n16, .int .i64 n17, .int .i64 n18, .int .i64 n19, .int .i64 n20, .int .i64 n21, .int .i64 n22, .int .i64 n23, .int .i64 n24, .int .i64 n25, .int .i64 n26]⟩) h6
def F23.T (n n1 : Int) (n2 n3 : Int) (n4 n5 : Int) (n6 n7 : Int) (n8 n9 : Int) (n10 n11 : Int) (n12 n13 : Int) (n14 n15 : Int) (n16 n17 : Int) (n18 n19 : Int) (n20 n21 : Int) (n22 n23 : Int) (n24 n25 n26 : Int) : PT := F23.G F32.T n n1 n2 n3 n4 n5 n6 n7 n8 n9 n10 n11 n12 n13 n14 n15 n16 n17 n18 n19 n20 n21 n22 n23 n24 n25 n26
theorem F23.gen (V : Value → List Value → PT) (T32 : Int → Int → PT) (n n1 : Int) (n2 n3 : Int) (n4 n5 : Int) (n6 n7 : Int) (n8 n9 : Int) (n10 n11 : Int) (n12 n13 : Int) (n14 n15 : Int) (n16 n17 : Int) (n18 n19 : Int) (n20 n21 : Int) (n22 n23 : Int) (n24 n25 n26 : Int) : denF Try.prog [1, 2] [(32, F32.W T32)] V [(126, .order [0, 1, 2, 3, 4, 5, 6, 7, 8])] Try.f23 [.v (.agg ⟨[.int .i64 n, .int .i64 n1, .int .i64 n2, .int .i64 n3, .int .i64 n4, .int .i64 n5, .int .i64 n6, .int .i64 n7, .int .i64 n8, .int .i64 n9, .int .i64 n10, .int .i64 n11, .int .i64 n12, .int .i64 n13, .int .i64 n14, .int .i64 n15, .int .i64 n16, .int .i64 n17, .int .i64 n18, .int .i64 n19, .int .i64 n20, .int .i64 n21, .int .i64 n22, .int .i64 n23, .int .i64 n24, .int .i64 n25, .int .i64 n26]⟩)] = F23.G T32 n n1 n2 n3 n4 n5 n6 n7 n8 n9 n10 n11 n12 n13 n14 n15 n16 n17 n18 n19 n20 n21 n22 n23 n24 n25 n26 := by kernel_rfl
theorem F23.den (V : Value → List Value → PT) (n n1 : Int) (n2 n3 : Int) (n4 n5 : Int) (n6 n7 : Int) (n8 n9 : Int) (n10 n11 : Int) (n12 n13 : Int) (n14 n15 : Int) (n16 n17 : Int) (n18 n19 : Int) (n20 n21 : Int) (n22 n23 : Int) (n24 n25 n26 : Int) : denF Try.prog [1, 2] [(32, F32.V)] V [(126, .order [0, 1, 2, 3, 4, 5, 6, 7, 8])] Try.f23 [.v (.agg ⟨[.int .i64 n, .int .i64 n1, .int .i64 n2, .int .i64 n3, .int .i64 n4, .int .i64 n5, .int .i64 n6, .int .i64 n7, .int .i64 n8, .int .i64 n9, .int .i64 n10, .int .i64 n11, .int .i64 n12, .int .i64 n13, .int .i64 n14, .int .i64 n15, .int .i64 n16, .int .i64 n17, .int .i64 n18, .int .i64 n19, .int .i64 n20, .int .i64 n21, .int .i64 n22, .int .i64 n23, .int .i64 n24, .int .i64 n25, .int .i64 n26]⟩)] = F23.T n n1 n2 n3 n4 n5 n6 n7 n8 n9 n10 n11 n12 n13 n14 n15 n16 n17 n18 n19 n20 n21 n22 n23 n24 n25 n26 := F23.gen V F32.T n n1 n2 n3 n4 n5 n6 n7 n8 n9 n10 n11 n12 n13 n14 n15 n16 n17 n18 n19 n20 n21 n22 n23 n24 n25 n26
def F23.W (T23 : Int → Int → Int → Int → Int → Int → Int → Int → Int → Int → Int → Int → Int → Int → Int → Int → Int → Int → Int → Int → Int → Int → Int → Int → Int → Int → Int → PT) (args : List Value) : PT := match args with
  | [.agg ⟨[.int .i64 n, .int .i64 n1, .int .i64 n2, .int .i64 n3, .int .i64 n4, .int .i64 n5, .int .i64 n6, .int .i64 n7, .int .i64 n8, .int .i64 n9, .int .i64 n10, .int .i64 n11, .int .i64 n12, .int .i64 n13, .int .i64 n14, .int .i64 n15, .int .i64 n16, .int .i64 n17, .int .i64 n18, .int .i64 n19, .int .i64 n20, .int .i64 n21, .int .i64 n22, .int .i64 n23, .int .i64 n24, .int .i64 n25, .int .i64 n26]⟩] => T23 n n1 n2 n3 n4 n5 n6 n7 n8 n9 n10 n11 n12 n13 n14 n15 n16 n17 n18 n19 n20 n21 n22 n23 n24 n25 n26
  | _ => fun _ _ => False
def F23.V : List Value → PT := F23.W F23.T
theorem F23.ok : FOk Try.prog 23 F23.V := by
  refine ⟨⟨_, Try.func23, rfl, rfl⟩, fun args => ?_⟩
  have hG : GOk Try.prog [(32, F32.V)] := GOk.cons F32.ok (GOk.nil)
  have hV : VOk Try.prog noV := noV_ok
  unfold F23.V F23.W
  split
  · exact denF_okV hG hV Try.func23 (fun h Q hq => (F23.den _ _ _ _ _ _ _ _ _ _ _ _ _ _ _ _ _ _ _ _ _ _ _ _ _ _ _ _) ▸ hq)
  · exact fun h Q hq => hq.elim
@[reducible] def F24.G (T10 : Int → PT) (T11 : Option Addr → PT) (T13 : Option Addr → Int → Int → Int → Sl → Sl → Sl → PT) (T27 : Option Addr → Int → PT) (T32 : Int → Int → PT) (n n1 : Int) (n2 n3 : Int) (n4 n5 : Int) (n6 n7 : Int) (n8 n9 : Int) (n10 n11 : Int) (n12 n13 : Int) (n14 n15 : Int) (n16 n17 : Int) (n18 n19 : Int) (n20 n21 : Int) (n22 n23 : Int) (n24 n25 n26 : Int) (l : Sl) : PT := fun h Q =>
  T10 n8 h fun r h1 => ∃ p : Option Addr, r = .pointer p ∧ okPtr h1 p none ∧ par ((p : Option Addr) = none) (Q (.tuple ⟨[.pointer none, .slice none 0 0]⟩) h1) (((0 : Int) ≤ n8 ∧ n8 ≤ n8 ∧ 16 * n8 ≤ 281474976710656) ∧ ∀ b, h1 b = none → ∃ J : Hp → Prop, (∀ h2 : Hp, J h2 → T11 p h2 fun r1 h3 => ∃ p1 : Option Addr, r1 = .pointer p1 ∧ ∃ (I : Sl → Int → Hp → Prop) (m : Sl → Int → Hp → Nat), I ⟨none, 0, 0⟩ 0 h3 ∧ (∀ l1 : Sl, ∀ n27 : Int, ∀ h4 : Hp, I l1 n27 h4 → par (n27 < n8) (T27 p1 n27 h4 fun r2 h5 => ∃ l2 : Sl, r2 = .slice l2.a l2.n l2.c ∧ appendD l1 66 1 24 [.slice none 0 0] 1 [.slice l2.a l2.n l2.c] h5 fun l3 h6 => I l3 (IntKind.wrap .i64 (n27 + 1)) h6 ∧ m l3 (IntKind.wrap .i64 (n27 + 1)) h6 < m l1 n27 h4) (Q (.tuple ⟨[.pointer p1, .slice l1.a l1.n l1.c]⟩) h4))) ∧ (∃ (I1 : Int → Hp → Prop) (m1 : Int → Hp → Nat), I1 0 (h1.new b (.cells (Builtin.zeroCells (List.toArray [.string (ByteArray.mk #[])]) (n8 : Int).toNat) 9 (0, 0))) ∧ (∀ n28 : Int, ∀ h7 : Hp, I1 n28 h7 → par (n28 < (l.n : Int)) (par (n28 < 400) (∃ b1 o, (l.a : Option Addr) = some ⟨b1, o, none⟩ ∧ ((0 : Int) ≤ n28 ∧ n28 < (l.n : Int)) ∧ ∃ n29 : Int, h7.at b1 (o + n28.toNat * 7) = some (.int .i64 n29) ∧ ∃ n30 : Int, h7.at b1 ((o + n28.toNat * 7) + 1) = some (.int .u64 n30) ∧ ∃ n31 : Int, h7.at b1 ((o + n28.toNat * 7) + 2) = some (.int .i64 n31) ∧ ∃ n32 : Int, h7.at b1 ((o + n28.toNat * 7) + 3) = some (.int .i64 n32) ∧ ∃ n33 : Int, h7.at b1 ((o + n28.toNat * 7) + 4) = some (.int .i64 n33) ∧ ∃ s : ByteArray, h7.at b1 ((o + n28.toNat * 7) + 5) = some (.string s) ∧ ∃ s1 : ByteArray, h7.at b1 ((o + n28.toNat * 7) + 6) = some (.string s1) ∧ T32 n29 n8 h7 fun r3 h8 => ∃ n34 : Int, r3 = .int .i64 n34 ∧ T32 n31 2147483648 h8 fun r4 h9 => ∃ n35 : Int, r4 = .int .i64 n35 ∧ ∀ b2, h9 b2 = none → T13 p 0 0 0 ⟨none, 0, 0⟩ ⟨(some ⟨b2, 0, none⟩), 1, 1⟩ ⟨(some ⟨b, 0, none⟩), (n8 : Int).toNat, (n8 : Int).toNat⟩ (h9.new b2 (.cells ⟨[.int .i64 n34, .int .u64 n30, .int .i64 n35, .int .i64 n32, .int .i64 n33, .string s, .string s1]⟩ 49 (0, 0))) fun r5 h10 => ∃ l4 : Sl, ∃ n36 : Int, r5 = .tuple ⟨[.slice l4.a l4.n l4.c, .int .i64 n36]⟩ ∧ I1 (IntKind.wrap .i64 (n28 + 1)) h10 ∧ m1 (IntKind.wrap .i64 (n28 + 1)) h10 < m1 n28 h7) (J h7)) (J h7))))
def F24.T (n n1 : Int) (n2 n3 : Int) (n4 n5 : Int) (n6 n7 : Int) (n8 n9 : Int) (n10 n11 : Int) (n12 n13 : Int) (n14 n15 : Int) (n16 n17 : Int) (n18 n19 : Int) (n20 n21 : Int) (n22 n23 : Int) (n24 n25 n26 : Int) (l : Sl) : PT := F24.G F10.T F11.T F13.T F27.T F32.T n n1 n2 n3 n4 n5 n6 n7 n8 n9 n10 n11 n12 n13 n14 n15 n16 n17 n18 n19 n20 n21 n22 n23 n24 n25 n26 l
theorem F24.gen (V : Value → List Value → PT) (T10 : Int → PT) (T11 : Option Addr → PT) (T13 : Option Addr → Int → Int → Int → Sl → Sl → Sl → PT) (T27 : Option Addr → Int → PT) (T32 : Int → Int → PT) (n n1 : Int) (n2 n3 : Int) (n4 n5 : Int) (n6 n7 : Int) (n8 n9 : Int) (n10 n11 : Int) (n12 n13 : Int) (n14 n15 : Int) (n16 n17 : Int) (n18 n19 : Int) (n20 n21 : Int) (n22 n23 : Int) (n24 n25 n26 : Int) (l : Sl) : denF Try.prog [2, 9, 65] [(10, F10.W T10), (11, F11.W T11), (13, F13.W T13), (27, F27.W T27), (32, F32.W T32)] V [(31, .join [] []), (250, .loop [(8, .int .i64)] []), (2042, .loop [(11, .sl), (12, .int .i64)] [])] Try.f24 [.v (.agg ⟨[.int .i64 n, .int .i64 n1, .int .i64 n2, .int .i64 n3, .int .i64 n4, .int .i64 n5, .int .i64 n6, .int .i64 n7, .int .i64 n8, .int .i64 n9, .int .i64 n10, .int .i64 n11, .int .i64 n12, .int .i64 n13, .int .i64 n14, .int .i64 n15, .int .i64 n16, .int .i64 n17, .int .i64 n18, .int .i64 n19, .int .i64 n20, .int .i64 n21, .int .i64 n22, .int .i64 n23, .int .i64 n24, .int .i64 n25, .int .i64 n26]⟩), .v (.slice l.a l.n l.c)] = F24.G T10 T11 T13 T27 T32 n n1 n2 n3 n4 n5 n6 n7 n8 n9 n10 n11 n12 n13 n14 n15 n16 n17 n18 n19 n20 n21 n22 n23 n24 n25 n26 l := by kernel_rfl
theorem F24.den (V : Value → List Value → PT) (n n1 : Int) (n2 n3 : Int) (n4 n5 : Int) (n6 n7 : Int) (n8 n9 : Int) (n10 n11 : Int) (n12 n13 : Int) (n14 n15 : Int) (n16 n17 : Int) (n18 n19 : Int) (n20 n21 : Int) (n22 n23 : Int) (n24 n25 n26 : Int) (l : Sl) : denF Try.prog [2, 9, 65] [(10, F10.V), (11, F11.V), (13, F13.V), (27, F27.V), (32, F32.V)] V [(31, .join [] []), (250, .loop [(8, .int .i64)] []), (2042, .loop [(11, .sl), (12, .int .i64)] [])] Try.f24 [.v (.agg ⟨[.int .i64 n, .int .i64 n1, .int .i64 n2, .int .i64 n3, .int .i64 n4, .int .i64 n5, .int .i64 n6, .int .i64 n7, .int .i64 n8, .int .i64 n9, .int .i64 n10, .int .i64 n11, .int .i64 n12, .int .i64 n13, .int .i64 n14, .int .i64 n15, .int .i64 n16, .int .i64 n17, .int .i64 n18, .int .i64 n19, .int .i64 n20, .int .i64 n21, .int .i64 n22, .int .i64 n23, .int .i64 n24, .int .i64 n25, .int .i64 n26]⟩), .v (.slice l.a l.n l.c)] = F24.T n n1 n2 n3 n4 n5 n6 n7 n8 n9 n10 n11 n12 n13 n14 n15 n16 n17 n18 n19 n20 n21 n22 n23 n24 n25 n26 l := F24.gen V F10.T F11.T F13.T F27.T F32.T n n1 n2 n3 n4 n5 n6 n7 n8 n9 n10 n11 n12 n13 n14 n15 n16 n17 n18 n19 n20 n21 n22 n23 n24 n25 n26 l
def F24.W (T24 : Int → Int → Int → Int → Int → Int → Int → Int → Int → Int → Int → Int → Int → Int → Int → Int → Int → Int → Int → Int → Int → Int → Int → Int → Int → Int → Int → Sl → PT) (args : List Value) : PT := match args with
  | [.agg ⟨[.int .i64 n, .int .i64 n1, .int .i64 n2, .int .i64 n3, .int .i64 n4, .int .i64 n5, .int .i64 n6, .int .i64 n7, .int .i64 n8, .int .i64 n9, .int .i64 n10, .int .i64 n11, .int .i64 n12, .int .i64 n13, .int .i64 n14, .int .i64 n15, .int .i64 n16, .int .i64 n17, .int .i64 n18, .int .i64 n19, .int .i64 n20, .int .i64 n21, .int .i64 n22, .int .i64 n23, .int .i64 n24, .int .i64 n25, .int .i64 n26]⟩, .slice l_a l_n l_c] => T24 n n1 n2 n3 n4 n5 n6 n7 n8 n9 n10 n11 n12 n13 n14 n15 n16 n17 n18 n19 n20 n21 n22 n23 n24 n25 n26 ⟨l_a, l_n, l_c⟩
  | _ => fun _ _ => False
def F24.V : List Value → PT := F24.W F24.T
theorem F24.ok : FOk Try.prog 24 F24.V := by
  refine ⟨⟨_, Try.func24, rfl, rfl⟩, fun args => ?_⟩
  have hG : GOk Try.prog [(10, F10.V), (11, F11.V), (13, F13.V), (27, F27.V), (32, F32.V)] := GOk.cons F10.ok (GOk.cons F11.ok (GOk.cons F13.ok (GOk.cons F27.ok (GOk.cons F32.ok (GOk.nil)))))
  have hV : VOk Try.prog noV := noV_ok
  unfold F24.V F24.W
  split
  · exact denF_okV hG hV Try.func24 (fun h Q hq => (F24.den _ _ _ _ _ _ _ _ _ _ _ _ _ _ _ _ _ _ _ _ _ _ _ _ _ _ _ _ _) ▸ hq)
  · exact fun h Q hq => hq.elim
def F33.T (l : Sl) (n : Int) : PT := fun h Q =>
  ∃ (I : Int → Hp → Prop) (m : Int → Hp → Nat), I 0 h ∧ (∀ n1 : Int, ∀ h1 : Hp, I n1 h1 → par (n1 < (l.n : Int)) (∃ b o, (l.a : Option Addr) = some ⟨b, o, none⟩ ∧ ((0 : Int) ≤ n1 ∧ n1 < (l.n : Int)) ∧ ∃ n2 : Int, h1.at b (o + n1.toNat * 6) = some (.int .u64 n2) ∧ par (n2 = n) (Q (.bool true) h1) (I (IntKind.wrap .i64 (n1 + 1)) h1 ∧ m (IntKind.wrap .i64 (n1 + 1)) h1 < m n1 h1)) (Q (.bool false) h1))
theorem F33.den (V : Value → List Value → PT) (l : Sl) (n : Int) : denF Try.prog [] [] V [(26, .loop [(5, .int .i64)] [])] Try.f33 [.v (.slice l.a l.n l.c), .v (.int .u64 n)] = F33.T l n := by kernel_rfl
def F33.W (T33 : Sl → Int → PT) (args : List Value) : PT := match args with
  | [.slice l_a l_n l_c, .int .u64 n] => T33 ⟨l_a, l_n, l_c⟩ n
  | _ => fun _ _ => False
def F33.V : List Value → PT := F33.W F33.T
theorem F33.ok : FOk Try.prog 33 F33.V := by
  refine ⟨⟨_, Try.func33, rfl, rfl⟩, fun args => ?_⟩
  have hG : GOk Try.prog [] := GOk.nil
  have hV : VOk Try.prog noV := noV_ok
  unfold F33.V F33.W
  split
  · exact denF_okV hG hV Try.func33 (fun h Q hq => (F33.den _ _ _) ▸ hq)
  · exact fun h Q hq => hq.elim
end Go.Eng.Ytbjnlacacapjiaa
end
section

set_option maxRecDepth 100000
set_option linter.unusedVariables false
open Go.Proofs
namespace Go.Eng.Ytbjnlacacapjiaa
@[reducible] def F8.G (T21 : PT) (T22 : Sl → Sl → PT) (T23 : Int → Int → Int → Int → Int → Int → Int → Int → Int → Int → Int → Int → Int → Int → Int → Int → Int → Int → Int → Int → Int → Int → Int → Int → Int → Int → Int → PT) (T24 : Int → Int → Int → Int → Int → Int → Int → Int → Int → Int → Int → Int → Int → Int → Int → Int → Int → Int → Int → Int → Int → Int → Int → Int → Int → Int → Int → Sl → PT) (T27 : Option Addr → Int → PT) (T29 : Int → Int → Int → Int → Int → Int → Int → Int → Int → Int → Int → Int → Int → Int → Int → Int → Int → Int → Int → Int → Int → Int → Int → Int → Int → Int → Int → Option Addr → Sl → Int → PT) (T32 : Int → Int → PT) (T33 : Sl → Int → PT) (n : Int) (n1 : Int) (n2 : Int) (n3 : Int) (n4 : Int) (n5 : Int) (n6 : Int) (n7 : Int) (n8 : Int) (n9 : Int) (n10 : Int) (n11 : Int) (n12 : Int) (n13 : Int) (n14 : Int) (n15 : Int) (n16 : Int) (n17 : Int) (n18 : Int) (n19 : Int) (n20 : Int) (n21 : Int) (n22 : Int) (n23 : Int) (n24 : Int) (n25 : Int) (n26 : Int) (l : Sl) (s : ByteArray) (n27 : Int) : PT := fun h Q =>
  T21 h fun r h1 => ∃ b : Bool, r = .bool b ∧ parB b (∀ b1, h1 b1 = none → T22 l ⟨(some ⟨b1, 0, none⟩), 1, 1⟩ (h1.new b1 (.cells ⟨[.string s]⟩ 9 (0, 0))) fun r1 h2 => ∃ b2 : Bool, r1 = .bool b2 ∧ parB b2 (T23 n n1 n2 n3 n4 n5 n6 n7 n8 n9 n10 n11 n12 n13 n14 n15 n16 n17 n18 n19 n20 n21 n22 n23 n24 n25 n26 h2 fun r2 h3 => ∃ n28 : Int, ∃ n29 : Int, ∃ n30 : Int, ∃ n31 : Int, ∃ n32 : Int, ∃ n33 : Int, ∃ n34 : Int, ∃ n35 : Int, ∃ n36 : Int, ∃ n37 : Int, ∃ n38 : Int, ∃ n39 : Int, ∃ n40 : Int, ∃ n41 : Int, ∃ n42 : Int, ∃ n43 : Int, ∃ n44 : Int, ∃ n45 : Int, ∃ n46 : Int, ∃ n47 : Int, ∃ n48 : Int, ∃ n49 : Int, ∃ n50 : Int, ∃ n51 : Int, ∃ n52 : Int, ∃ n53 : Int, ∃ n54 : Int, r2 = .agg ⟨[.int .i64 n28, .int .i64 n29, .int .i64 n30, .int .i64 n31, .int .i64 n32, .int .i64 n33, .int .i64 n34, .int .i64 n35, .int .i64 n36, .int .i64 n37, .int .i64 n38, .int .i64 n39, .int .i64 n40, .int .i64 n41, .int .i64 n42, .int .i64 n43, .int .i64 n44, .int .i64 n45, .int .i64 n46, .int .i64 n47, .int .i64 n48, .int .i64 n49, .int .i64 n50, .int .i64 n51, .int .i64 n52, .int .i64 n53, .int .i64 n54]⟩ ∧ T24 n28 n29 n30 n31 n32 n33 n34 n35 n36 n37 n38 n39 n40 n41 n42 n43 n44 n45 n46 n47 n48 n49 n50 n51 n52 n53 n54 l h3 fun r3 h4 => ∃ p : Option Addr, ∃ l1 : Sl, r3 = .tuple ⟨[.pointer p, .slice l1.a l1.n l1.c]⟩ ∧ okPtr h4 p none ∧ par ((p : Option Addr) = none) (Q (.bool false) h4) (T32 n27 (IntKind.wrap .i64 (n36 - 2)) h4 fun r4 h5 => ∃ n55 : Int, r4 = .int .i64 n55 ∧ T27 p (IntKind.wrap .i64 (1 + n55)) h5 fun r5 h6 => ∃ l2 : Sl, r5 = .slice l2.a l2.n l2.c ∧ ((0 : Int) ≤ n36 ∧ n36 ≤ n36 ∧ 16 * n36 ≤ 281474976710656) ∧ ∀ b3, h6 b3 = none → ∃ b4 o, ((some ⟨b3, 0, none⟩) : Option Addr) = some ⟨b4, o, none⟩ ∧ ((0 : Int) ≤ (IntKind.wrap .i64 (1 + n55)) ∧ (IntKind.wrap .i64 (1 + n55)) < ((n36 : Int).toNat : Int)) ∧ (h6.new b3 (.cells (Builtin.zeroCells (List.toArray [.string (ByteArray.mk #[])]) (n36 : Int).toNat) 9 (0, 0))).canW b4 (o + ((IntKind.wrap .i64 (1 + n55))).toNat) 1 ∧ ∃ (I : Sl → Int → Hp → Prop) (m : Sl → Int → Hp → Nat), I ⟨none, 0, 0⟩ 0 ((h6.new b3 (.cells (Builtin.zeroCells (List.toArray [.string (ByteArray.mk #[])]) (n36 : Int).toNat) 9 (0, 0))).wr b4 (o + ((IntKind.wrap .i64 (1 + n55))).toNat) [.string s]) ∧ (∀ l3 : Sl, ∀ n56 : Int, ∀ h7 : Hp, I l3 n56 h7 → par (n56 < (l2.n : Int)) (T29 n28 n29 n30 n31 n32 n33 n34 n35 n36 n37 n38 n39 n40 n41 n42 n43 n44 n45 n46 n47 n48 n49 n50 n51 n52 n53 n54 p ⟨(some ⟨b3, 0, none⟩), (n36 : Int).toNat, (n36 : Int).toNat⟩ (IntKind.wrap .i64 (1 + n55)) h7 fun r6 h8 => ∃ n57 : Int, ∃ l4 : Sl, ∃ l5 : Sl, ∃ s1 : ByteArray, ∃ b5 : Bool, parB b5 (∃ b6 : Bool, parB b6 (r6 = .tuple ⟨[.agg ⟨[.int .i64 n57, .slice l4.a l4.n l4.c, .slice l5.a l5.n l5.c, .string s1, .bool true]⟩, .bool true]⟩ ∧ par ((l4.n : Int) = 1) (∃ b7 o1, (l4.a : Option Addr) = some ⟨b7, o1, none⟩ ∧ ((0 : Int) ≤ 0 ∧ 0 < (l4.n : Int)) ∧ ∃ n58 : Int, h8.at b7 (o1 + (0 : Int).toNat * 6) = some (.int .u64 n58) ∧ T33 l3 n58 h8 fun r7 h9 => ∃ b8 : Bool, r7 = .bool b8 ∧ parB b8 (Q (.bool false) h9) (∃ b9 o2, (l4.a : Option Addr) = some ⟨b9, o2, none⟩ ∧ ((0 : Int) ≤ 0 ∧ 0 < (l4.n : Int)) ∧ ∃ n59 : Int, h9.at b9 (o2 + (0 : Int).toNat * 6) = some (.int .u64 n59) ∧ ∃ n60 : Int, h9.at b9 ((o2 + (0 : Int).toNat * 6) + 1) = some (.int .i64 n60) ∧ ∃ n61 : Int, h9.at b9 ((o2 + (0 : Int).toNat * 6) + 2) = some (.int .i64 n61) ∧ ∃ n62 : Int, h9.at b9 ((o2 + (0 : Int).toNat * 6) + 3) = some (.int .i64 n62) ∧ ∃ s2 : ByteArray, h9.at b9 ((o2 + (0 : Int).toNat * 6) + 4) = some (.string s2) ∧ ∃ s3 : ByteArray, h9.at b9 ((o2 + (0 : Int).toNat * 6) + 5) = some (.string s3) ∧ appendD l3 47 6 64 [.int .u64 0, .int .i64 0, .int .i64 0, .int .i64 0, .string (ByteArray.mk #[]), .string (ByteArray.mk #[])] 1 [.int .u64 n59, .int .i64 n60, .int .i64 n61, .int .i64 n62, .string s2, .string s3] h9 fun l6 h10 => ∃ b10 o3, (l4.a : Option Addr) = some ⟨b10, o3, none⟩ ∧ ((0 : Int) ≤ 0 ∧ 0 < (l4.n : Int)) ∧ ∃ s4 : ByteArray, h10.at b10 ((o3 + (0 : Int).toNat * 6) + 5) = some (.string s4) ∧ ∃ b11 o4, ((some ⟨b3, 0, none⟩) : Option Addr) = some ⟨b11, o4, none⟩ ∧ ((0 : Int) ≤ (IntKind.wrap .i64 (1 + n55)) ∧ (IntKind.wrap .i64 (1 + n55)) < ((n36 : Int).toNat : Int)) ∧ h10.canW b11 (o4 + ((IntKind.wrap .i64 (1 + n55))).toNat) 1 ∧ I l6 (IntKind.wrap .i64 (n56 + 1)) (h10.wr b11 (o4 + ((IntKind.wrap .i64 (1 + n55))).toNat) [.string s4]) ∧ m l6 (IntKind.wrap .i64 (n56 + 1)) (h10.wr b11 (o4 + ((IntKind.wrap .i64 (1 + n55))).toNat) [.string s4]) < m l3 n56 h7)) (Q (.bool false) h8)) (r6 = .tuple ⟨[.agg ⟨[.int .i64 n57, .slice l4.a l4.n l4.c, .slice l5.a l5.n l5.c, .string s1, .bool true]⟩, .bool false]⟩ ∧ Q (.bool false) h8)) (∃ b12 : Bool, parB b12 (r6 = .tuple ⟨[.agg ⟨[.int .i64 n57, .slice l4.a l4.n l4.c, .slice l5.a l5.n l5.c, .string s1, .bool false]⟩, .bool true]⟩ ∧ par ((l4.n : Int) = 1) (∃ b13 o5, (l4.a : Option Addr) = some ⟨b13, o5, none⟩ ∧ ((0 : Int) ≤ 0 ∧ 0 < (l4.n : Int)) ∧ ∃ n63 : Int, h8.at b13 (o5 + (0 : Int).toNat * 6) = some (.int .u64 n63) ∧ T33 l3 n63 h8 fun r8 h11 => ∃ b14 : Bool, r8 = .bool b14 ∧ parB b14 (Q (.bool false) h11) (∃ b15 o6, (l4.a : Option Addr) = some ⟨b15, o6, none⟩ ∧ ((0 : Int) ≤ 0 ∧ 0 < (l4.n : Int)) ∧ ∃ n64 : Int, h11.at b15 (o6 + (0 : Int).toNat * 6) = some (.int .u64 n64) ∧ ∃ n65 : Int, h11.at b15 ((o6 + (0 : Int).toNat * 6) + 1) = some (.int .i64 n65) ∧ ∃ n66 : Int, h11.at b15 ((o6 + (0 : Int).toNat * 6) + 2) = some (.int .i64 n66) ∧ ∃ n67 : Int, h11.at b15 ((o6 + (0 : Int).toNat * 6) + 3) = some (.int .i64 n67) ∧ ∃ s5 : ByteArray, h11.at b15 ((o6 + (0 : Int).toNat * 6) + 4) = some (.string s5) ∧ ∃ s6 : ByteArray, h11.at b15 ((o6 + (0 : Int).toNat * 6) + 5) = some (.string s6) ∧ appendD l3 47 6 64 [.int .u64 0, .int .i64 0, .int .i64 0, .int .i64 0, .string (ByteArray.mk #[]), .string (ByteArray.mk #[])] 1 [.int .u64 n64, .int .i64 n65, .int .i64 n66, .int .i64 n67, .string s5, .string s6] h11 fun l7 h12 => ∃ b16 o7, (l4.a : Option Addr) = some ⟨b16, o7, none⟩ ∧ ((0 : Int) ≤ 0 ∧ 0 < (l4.n : Int)) ∧ ∃ s7 : ByteArray, h12.at b16 ((o7 + (0 : Int).toNat * 6) + 5) = some (.string s7) ∧ ∃ b17 o8, ((some ⟨b3, 0, none⟩) : Option Addr) = some ⟨b17, o8, none⟩ ∧ ((0 : Int) ≤ (IntKind.wrap .i64 (1 + n55)) ∧ (IntKind.wrap .i64 (1 + n55)) < ((n36 : Int).toNat : Int)) ∧ h12.canW b17 (o8 + ((IntKind.wrap .i64 (1 + n55))).toNat) 1 ∧ I l7 (IntKind.wrap .i64 (n56 + 1)) (h12.wr b17 (o8 + ((IntKind.wrap .i64 (1 + n55))).toNat) [.string s7]) ∧ m l7 (IntKind.wrap .i64 (n56 + 1)) (h12.wr b17 (o8 + ((IntKind.wrap .i64 (1 + n55))).toNat) [.string s7]) < m l3 n56 h7)) (Q (.bool false) h8)) (r6 = .tuple ⟨[.agg ⟨[.int .i64 n57, .slice l4.a l4.n l4.c, .slice l5.a l5.n l5.c, .string s1, .bool false]⟩, .bool false]⟩ ∧ Q (.bool false) h8))) (par ((l3.n : Int) = (l2.n : Int)) (Q (.bool true) h7) (Q (.bool false) h7))))) (Q (.bool true) h2)) (Q (.bool false) h1)
def F8.T (n n1 : Int) (n2 n3 : Int) (n4 n5 : Int) (n6 n7 : Int) (n8 n9 : Int) (n10 n11 : Int) (n12 n13 : Int) (n14 n15 : Int) (n16 n17 : Int) (n18 n19 : Int) (n20 n21 : Int) (n22 n23 : Int) (n24 n25 n26 : Int) (l : Sl) (s : ByteArray) (n27 : Int) : PT := F8.G F21.T F22.T F23.T F24.T F27.T F29.T F32.T F33.T n n1 n2 n3 n4 n5 n6 n7 n8 n9 n10 n11 n12 n13 n14 n15 n16 n17 n18 n19 n20 n21 n22 n23 n24 n25 n26 l s n27
theorem F8.gen (V : Value → List Value → PT) (T21 : PT) (T22 : Sl → Sl → PT) (T23 : Int → Int → Int → Int → Int → Int → Int → Int → Int → Int → Int → Int → Int → Int → Int → Int → Int → Int → Int → Int → Int → Int → Int → Int → Int → Int → Int → PT) (T24 : Int → Int → Int → Int → Int → Int → Int → Int → Int → Int → Int → Int → Int → Int → Int → Int → Int → Int → Int → Int → Int → Int → Int → Int → Int → Int → Int → Sl → PT) (T27 : Option Addr → Int → PT) (T29 : Int → Int → Int → Int → Int → Int → Int → Int → Int → Int → Int → Int → Int → Int → Int → Int → Int → Int → Int → Int → Int → Int → Int → Int → Int → Int → Int → Option Addr → Sl → Int → PT) (T32 : Int → Int → PT) (T33 : Sl → Int → PT) (n : Int) (n1 : Int) (n2 : Int) (n3 : Int) (n4 : Int) (n5 : Int) (n6 : Int) (n7 : Int) (n8 : Int) (n9 : Int) (n10 : Int) (n11 : Int) (n12 : Int) (n13 : Int) (n14 : Int) (n15 : Int) (n16 : Int) (n17 : Int) (n18 : Int) (n19 : Int) (n20 : Int) (n21 : Int) (n22 : Int) (n23 : Int) (n24 : Int) (n25 : Int) (n26 : Int) (l : Sl) (s : ByteArray) (n27 : Int) : denF Try.prog [4, 15, 86] [(21, F21.W T21), (22, F22.W T22), (23, F23.W T23), (24, F24.W T24), (27, F27.W T27), (29, F29.W T29), (32, F32.W T32), (33, F33.W T33)] V [(32762, .loop [(13, .sl), (14, .int .i64)] [])] Try.f8 [.v (.agg ⟨[.int .i64 n, .int .i64 n1, .int .i64 n2, .int .i64 n3, .int .i64 n4, .int .i64 n5, .int .i64 n6, .int .i64 n7, .int .i64 n8, .int .i64 n9, .int .i64 n10, .int .i64 n11, .int .i64 n12, .int .i64 n13, .int .i64 n14, .int .i64 n15, .int .i64 n16, .int .i64 n17, .int .i64 n18, .int .i64 n19, .int .i64 n20, .int .i64 n21, .int .i64 n22, .int .i64 n23, .int .i64 n24, .int .i64 n25, .int .i64 n26]⟩), .v (.slice l.a l.n l.c), .v (.string s), .v (.int .i64 n27)] = F8.G T21 T22 T23 T24 T27 T29 T32 T33 n n1 n2 n3 n4 n5 n6 n7 n8 n9 n10 n11 n12 n13 n14 n15 n16 n17 n18 n19 n20 n21 n22 n23 n24 n25 n26 l s n27 := by kernel_rfl
theorem F8.den (V : Value → List Value → PT) (n n1 : Int) (n2 n3 : Int) (n4 n5 : Int) (n6 n7 : Int) (n8 n9 : Int) (n10 n11 : Int) (n12 n13 : Int) (n14 n15 : Int) (n16 n17 : Int) (n18 n19 : Int) (n20 n21 : Int) (n22 n23 : Int) (n24 n25 n26 : Int) (l : Sl) (s : ByteArray) (n27 : Int) : denF Try.prog [4, 15, 86] [(21, F21.V), (22, F22.V), (23, F23.V), (24, F24.V), (27, F27.V), (29, F29.V), (32, F32.V), (33, F33.V)] V [(32762, .loop [(13, .sl), (14, .int .i64)] [])] Try.f8 [.v (.agg ⟨[.int .i64 n, .int .i64 n1, .int .i64 n2, .int .i64 n3, .int .i64 n4, .int .i64 n5, .int .i64 n6, .int .i64 n7, .int .i64 n8, .int .i64 n9, .int .i64 n10, .int .i64 n11, .int .i64 n12, .int .i64 n13, .int .i64 n14, .int .i64 n15, .int .i64 n16, .int .i64 n17, .int .i64 n18, .int .i64 n19, .int .i64 n20, .int .i64 n21, .int .i64 n22, .int .i64 n23, .int .i64 n24, .int .i64 n25, .int .i64 n26]⟩), .v (.slice l.a l.n l.c), .v (.string s), .v (.int .i64 n27)] = F8.T n n1 n2 n3 n4 n5 n6 n7 n8 n9 n10 n11 n12 n13 n14 n15 n16 n17 n18 n19 n20 n21 n22 n23 n24 n25 n26 l s n27 := F8.gen V F21.T F22.T F23.T F24.T F27.T F29.T F32.T F33.T n n1 n2 n3 n4 n5 n6 n7 n8 n9 n10 n11 n12 n13 n14 n15 n16 n17 n18 n19 n20 n21 n22 n23 n24 n25 n26 l s n27
def F8.W (T8 : Int → Int → Int → Int → Int → Int → Int → Int → Int → Int → Int → Int → Int → Int → Int → Int → Int → Int → Int → Int → Int → Int → Int → Int → Int → Int → Int → Sl → ByteArray → Int → PT) (args : List Value) : PT := match args with
  | [.agg ⟨[.int .i64 n, .int .i64 n1, .int .i64 n2, .int .i64 n3, .int .i64 n4, .int .i64 n5, .int .i64 n6, .int .i64 n7, .int .i64 n8, .int .i64 n9, .int .i64 n10, .int .i64 n11, .int .i64 n12, .int .i64 n13, .int .i64 n14, .int .i64 n15, .int .i64 n16, .int .i64 n17, .int .i64 n18, .int .i64 n19, .int .i64 n20, .int .i64 n21, .int .i64 n22, .int .i64 n23, .int .i64 n24, .int .i64 n25, .int .i64 n26]⟩, .slice l_a l_n l_c, .string s, .int .i64 n27] => T8 n n1 n2 n3 n4 n5 n6 n7 n8 n9 n10 n11 n12 n13 n14 n15 n16 n17 n18 n19 n20 n21 n22 n23 n24 n25 n26 ⟨l_a, l_n, l_c⟩ s n27
  | _ => fun _ _ => False
def F8.V : List Value → PT := F8.W F8.T
theorem F8.ok : FOk Try.prog 8 F8.V := by
  refine ⟨⟨_, Try.func8, rfl, rfl⟩, fun args => ?_⟩
  have hG : GOk Try.prog [(21, F21.V), (22, F22.V), (23, F23.V), (24, F24.V), (27, F27.V), (29, F29.V), (32, F32.V), (33, F33.V)] := GOk.cons F21.ok (GOk.cons F22.ok (GOk.cons F23.ok (GOk.cons F24.ok (GOk.cons F27.ok (GOk.cons F29.ok (GOk.cons F32.ok (GOk.cons F33.ok (GOk.nil))))))))
  have hV : VOk Try.prog noV := noV_ok
  unfold F8.V F8.W
  split
  · exact denF_okV hG hV Try.func8 (fun h Q hq => (F8.den _ _ _ _ _ _ _ _ _ _ _ _ _ _ _ _ _ _ _ _ _ _ _ _ _ _ _ _ _ _ _) ▸ hq)
  · exact fun h Q hq => hq.elim
end Go.Eng.Ytbjnlacacapjiaa
end
section

/-
  ROWS OF VERSIONS AND OF PICKING: arguments that are configurations, lists of placed tables, of strings, of numbers.
-/
set_option linter.unusedSimpArgs false
set_option linter.unusedVariables false
open Go.Proofs
namespace Go.Eng.Ytbjnlacacapjiaa
open Go.ChangeShapes Go.WideShapes Go.RowKit
/-- All that a world's memory holds. -/
def wh (W : World) : Hp := fun b => W.heap[b]?
theorem own_wh (W : World) : Own (fun _ => none) (wh W) W := ⟨fun _ _ h => h, fun _ _ h => (by cases h), fun _ => .inr rfl⟩
theorem below_of {W W' : World} {h' : Hp} (hw : Wr W W') (ho : Own (fun _ => none) h' W') (K : Keep (wh W) h') : Below W.heap.size W W' := by
  refine ⟨hw.os, hw.tape, hw.output, hw.size, fun k hk => ?_⟩
  have h1 : wh W k = some W.heap[k] := by unfold wh; exact Array.getElem?_eq_getElem hk
  have h2 := ho.hh k _ (K k _ h1)
  rw [h2, Array.getElem?_eq_getElem hk]
theorem cell_at {W : World} {b o : Nat} {v : Value} (h : W.cell? ⟨b, o, none⟩ = some v) : (wh W).at b o = some v := by
  unfold World.cell? at h
  unfold Hp.at wh
  cases hb : W.heap[b]? with
  | none => rw [hb] at h; cases h
  | some x =>
    rw [hb] at h
    cases x with
    | cells c t f => simpa using h
    | _ => cases h
theorem spot_none {W : World} {a : Addr} {v : Value} (h : W.cell? (a.add 0) = some v) : a = ⟨a.block, a.off, none⟩ := by
  obtain ⟨b, o, p⟩ := a
  cases p with
  | none => rfl
  | some p =>
    exfalso
    unfold World.cell? at h
    simp only [Addr.add, if_pos] at h
    cases hb : W.heap[b]? with
    | none => rw [hb] at h; cases h
    | some x =>
      rw [hb] at h
      cases x with
      | cells c t f => simp at h
      | _ => cases h
/-- Cells from an address on are a row. -/
theorem row_of_cells {W : World} {a : Addr} {n : Nat} {vs : List Value} (hl : vs.length = n) (h : ∀ i, (hi : i < n) → W.cell? (a.add i) = vs[i]?) : (wh W).row (some a) n vs := by
  refine ⟨hl, ?_⟩
  by_cases h0 : n = 0
  · exact .inl h0
  right
  have hz := h 0 (by omega)
  rw [List.getElem?_eq_getElem (by omega)] at hz
  have ha := spot_none hz
  refine ⟨a.block, a.off, by rw [← ha], fun j hj => ?_⟩
  have hj' := h j hj
  rw [List.getElem?_eq_getElem (by omega)] at hj' ⊢
  rw [ha, addr_add] at hj'
  exact cell_at hj'
theorem add_add' (a : Addr) (m n : Nat) : (a.add m).add n = a.add (m + n) := by
  unfold Addr.add
  by_cases h1 : m = 0
  · subst h1; simp
  · by_cases h2 : n = 0
    · subst h2; simp [h1]
    · simp [h1, h2, Nat.add_assoc]
theorem wf_i64 {n : Int} (h : (Lit.int .i64 n).wf = true) : iI n := by
  simp [Lit.wf, IntKind.min, IntKind.max, IntKind.signed, IntKind.bits] at h
  exact ⟨by omega, by omega⟩
theorem weights_mem_all {H : Type} {P : Program} {e : TypeId} : ∀ {E : List (DataW H)} {d : DataW H}, d ∈ E → ∀ n ∈ d.weights P e, n ∈ DataW.weightsAll P e E
  | x :: E, d, hd, n, hn => by
    simp only [DataW.weightsAll, List.mem_append]
    rcases List.mem_cons.1 hd with rfl | hd
    · exact .inl hn
    · exact .inr (weights_mem_all hd n hn)
def WB {H : Type} (P : Program) (t : TypeId) (d : DataW H) : Prop := ∀ n ∈ d.weights P t, n ≤ reachBytes
theorem reach_le {n : Nat} (h : n ≤ reachBytes) : n ≤ 140737488355328 := by have := reachBytes_lt; omega
section
variable {H : Type} {enc : TypeId × Value → H} {P : Program} {W : World} {base : Nat} {held : Bool}
theorem slice_rowsW {α : Type} {t e : TypeId} {fuel : Nat} {s : Sl} {y : DataW H × List MemPlace} (sz : Nat) (f : α → List Value) (ok : α → Prop) (hsz : 0 < sz) (ht : P.underlying t = some (.slice e)) (hc : P.cellsOf e = sz) (hf : ∀ x, (f x).length = sz)
    (each : ∀ (fuel : Nat) (cs : List Value) (z : DataW H × List MemPlace), cs.length = sz → DataW.trod enc P W base (fun _ => true) held fuel e cs = some z → WB P e z.1 → ∃ a, cs = f a ∧ ok a)
    (h : DataW.trod enc P W base (fun _ => true) held fuel t [.slice s.a s.n s.c] = some y) (hw : WB P t y.1) : ∃ l : List α, (wh W).row s.a (s.n * sz) (l.flatMap f) ∧ s.n ≤ s.c ∧ (s.a = none → s.n = 0) ∧ l.length = s.n ∧ (s.n * P.bytesOf e ≤ reachBytes) ∧ ∀ a ∈ l, ok a := by
  rcases DataW.trod_slice ht h with ⟨hcs, _⟩ | ⟨x, len, cap, elems, rest, n, _, hcs, hyy, hb, hl, hm, hlen, hel, _, _⟩
  · simp only [List.cons.injEq, Value.slice.injEq, and_true] at hcs
    obtain ⟨h1, h2, h3⟩ := hcs
    exact ⟨[], by rw [h1, h2]; exact ⟨by simp, .inl (by simp)⟩, by omega, fun _ => h2, by rw [h2]; rfl, by rw [h2]; omega, fun a ha => (by cases ha)⟩
  · simp only [List.cons.injEq, Value.slice.injEq, and_true] at hcs
    obtain ⟨h1, h2, h3⟩ := hcs
    have hwl : ∀ n ∈ (DataW.slice (elems.map (·.1)) (rest.map (·.1))).weights P t, n ≤ reachBytes := by rw [hyy] at hw; exact hw
    have hws : (DataW.slice (elems.map (·.1)) (rest.map (·.1))).weights P t = ((elems.map (·.1)).length + (rest.map (·.1)).length) * P.bytesOf e :: (DataW.weightsAll P e (elems.map (·.1)) ++ DataW.weightsAll P e (rest.map (·.1))) := by simp [DataW.weights, ht]
    have ea : ∀ i : Fin len, ∃ a : α, (∀ j, j < sz → W.cell? (x.add (i.1 * sz + j)) = (f a)[j]?) ∧ ok a := by
      rintro ⟨i, hi⟩
      have q := hel i hi
      rw [hc, List.getElem?_eq_getElem (by omega), Option.bind_eq_some_iff] at q
      obtain ⟨cs', hcs', hy⟩ := q
      obtain ⟨_, hcl, hcell⟩ := World.cells?_some hcs'
      obtain ⟨a, rfl, hok⟩ := each _ _ _ hcl hy (fun m hm => hwl m (by
        rw [hws]
        refine List.mem_cons_of_mem _ (List.mem_append_left _ (weights_mem_all (List.mem_map_of_mem (List.getElem_mem (l := elems) (n := i) (by omega))) m hm))))
      refine ⟨a, fun j hj => ?_, hok⟩
      rw [← hcell j hj, add_add']
    obtain ⟨g, hg⟩ := Classical.axiomOfChoice ea
    refine ⟨List.ofFn g, ?_, by omega, fun hn => (by rw [h1] at hn; cases hn), by rw [List.length_ofFn]; omega, ?_, fun a ha => ?_⟩
    · rw [h1, h2]
      have hll : ((List.ofFn g).flatMap f).length = len * sz := by rw [flat_length f sz hf, List.length_ofFn]
      refine row_of_cells hll fun k hk => ?_
      have hi : k / sz < len := Nat.div_lt_of_lt_mul (by rw [Nat.mul_comm]; exact hk)
      have hj : k % sz < sz := Nat.mod_lt _ hsz
      have hkk : k = k / sz * sz + k % sz := by rw [Nat.mul_comm]; exact (Nat.div_add_mod k sz).symm
      have q := (hg ⟨k / sz, hi⟩).1 (k % sz) hj
      have q2 := flat_get f sz hf (List.ofFn g) (k / sz) (k % sz) (by rw [List.length_ofFn]; exact hi) hj
      simp only at q
      rw [← hkk] at q q2
      rw [q, q2]
      simp
    · have := hwl _ (by rw [hws]; exact List.mem_cons_self)
      rw [List.length_map, List.length_map] at this
      exact Nat.le_trans (Nat.mul_le_mul_right _ (by omega)) this
    · obtain ⟨i, rfl⟩ := (List.mem_ofFn ..).1 ha
      exact (hg i).2
theorem some_at {xs : List (DataW H × List MemPlace)} {n i : Nat} (h : xs.length = n) (hi : i < n) : ∃ y, xs[i]? = some y := ⟨_, List.getElem?_eq_getElem (by omega)⟩
end
section
variable {H : Type} {enc : TypeId × Value → H} {W : World} {base : Nat} {held : Bool}
theorem c3 : Try.prog.cellsOf 3 = 1 := by kernel_rfl
theorem c9 : Try.prog.cellsOf 9 = 1 := by kernel_rfl
theorem c33 : Try.prog.cellsOf 33 = 1 := by kernel_rfl
theorem c47 : Try.prog.cellsOf 47 = 6 := by kernel_rfl
theorem c49 : Try.prog.cellsOf 49 = 7 := by kernel_rfl
theorem c58 : Try.prog.cellsOf 58 = 27 := by kernel_rfl
theorem b49 : Try.prog.bytesOf 49 = 72 := by kernel_rfl
theorem wf_u64 {n : Int} (h : (Lit.int .u64 n).wf = true) : okU n := by
  simp [Lit.wf, IntKind.min, IntKind.max, IntKind.signed, IntKind.bits] at h
  exact ⟨by omega, by omega⟩
theorem int_cell {fuel : Nat} {c : Value} {y : DataW H × List MemPlace} (h : DataW.trod enc Try.prog W base (fun _ => true) held fuel 3 [c] = some y) : ∃ n, c = .int .i64 n ∧ iI n := by
  obtain ⟨n, hn, _, hw⟩ := DataW.trod_int Try.underlying3 h
  exact ⟨n, by simpa using hn, wf_i64 hw⟩
theorem num_cell {fuel : Nat} {c : Value} {y : DataW H × List MemPlace} (h : DataW.trod enc Try.prog W base (fun _ => true) held fuel 33 [c] = some y) : ∃ n, c = .int .u64 n ∧ okU n := by
  obtain ⟨n, hn, _, hw⟩ := DataW.trod_int Try.underlying33 h
  exact ⟨n, by simpa using hn, wf_u64 hw⟩
theorem str_cell {fuel : Nat} {c : Value} {y : DataW H × List MemPlace} (h : DataW.trod enc Try.prog W base (fun _ => true) held fuel 9 [c] = some y) : ∃ s : ByteArray, c = .string s ∧ s.size ≤ 9223372036854775807 := by
  obtain ⟨s, hn, _, hw⟩ := DataW.trod_string Try.underlying9 h
  exact ⟨s, by simpa using hn, by have : maxLen = 9223372036854775807 := by decide
                                  omega⟩
def okP (p : Placed) : Prop := iI p.lv ∧ okU p.num ∧ iI p.weight ∧ iI p.bytes ∧ iI p.entries ∧ p.least.size ≤ 9223372036854775807 ∧ p.greatest.size ≤ 9223372036854775807
theorem placed_each (fuel : Nat) (cs : List Value) (z : DataW H × List MemPlace) (hl : cs.length = 7) (h : DataW.trod enc Try.prog W base (fun _ => true) held fuel 49 cs = some z) (hw : WB Try.prog 49 z.1) : ∃ p : Placed, cs = p.cells ∧ okP p := by
  obtain ⟨xs, n, _, rfl, _, hxs, hf⟩ := DataW.trod_struct Try.underlying49 h
  rcases cs with _ | ⟨a0, _ | ⟨a1, _ | ⟨a2, _ | ⟨a3, _ | ⟨a4, _ | ⟨a5, _ | ⟨a6, _ | ⟨a7, cs⟩⟩⟩⟩⟩⟩⟩⟩
  case cons.cons.cons.cons.cons.cons.cons.nil =>
    obtain ⟨y0, h0⟩ := some_at hxs (i := 0) (by decide)
    obtain ⟨y1, h1⟩ := some_at hxs (i := 1) (by decide)
    have f0 : DataW.trod enc Try.prog W base (fun _ => true) held n 3 (([a0, a1, a2, a3, a4, a5, a6].drop 0).take (Try.prog.cellsOf 3)) = xs[0]? := hf 0 _ rfl
    have f1 : DataW.trod enc Try.prog W base (fun _ => true) held n 47 (([a0, a1, a2, a3, a4, a5, a6].drop 1).take (Try.prog.cellsOf 47)) = xs[1]? := hf 1 _ rfl
    rw [c3, h0] at f0
    rw [c47, h1] at f1
    have f1 : DataW.trod enc Try.prog W base (fun _ => true) held n 47 [a1, a2, a3, a4, a5, a6] = some y1 := f1
    obtain ⟨ys, m, _, _, _, hys, hg⟩ := DataW.trod_struct Try.underlying47 f1
    obtain ⟨ye0, he0⟩ := some_at hys (i := 0) (by decide)
    have e0 : DataW.trod enc Try.prog W base (fun _ => true) held m 33 (([a1, a2, a3, a4, a5, a6].drop 0).take (Try.prog.cellsOf 33)) = ys[0]? := hg 0 _ rfl
    rw [c33, he0] at e0
    obtain ⟨ye1, he1⟩ := some_at hys (i := 1) (by decide)
    have e1 : DataW.trod enc Try.prog W base (fun _ => true) held m 3 (([a1, a2, a3, a4, a5, a6].drop 1).take (Try.prog.cellsOf 3)) = ys[1]? := hg 1 _ rfl
    rw [c3, he1] at e1
    obtain ⟨ye2, he2⟩ := some_at hys (i := 2) (by decide)
    have e2 : DataW.trod enc Try.prog W base (fun _ => true) held m 3 (([a1, a2, a3, a4, a5, a6].drop 2).take (Try.prog.cellsOf 3)) = ys[2]? := hg 2 _ rfl
    rw [c3, he2] at e2
    obtain ⟨ye3, he3⟩ := some_at hys (i := 3) (by decide)
    have e3 : DataW.trod enc Try.prog W base (fun _ => true) held m 3 (([a1, a2, a3, a4, a5, a6].drop 3).take (Try.prog.cellsOf 3)) = ys[3]? := hg 3 _ rfl
    rw [c3, he3] at e3
    obtain ⟨ye4, he4⟩ := some_at hys (i := 4) (by decide)
    have e4 : DataW.trod enc Try.prog W base (fun _ => true) held m 9 (([a1, a2, a3, a4, a5, a6].drop 4).take (Try.prog.cellsOf 9)) = ys[4]? := hg 4 _ rfl
    rw [c9, he4] at e4
    obtain ⟨ye5, he5⟩ := some_at hys (i := 5) (by decide)
    have e5 : DataW.trod enc Try.prog W base (fun _ => true) held m 9 (([a1, a2, a3, a4, a5, a6].drop 5).take (Try.prog.cellsOf 9)) = ys[5]? := hg 5 _ rfl
    rw [c9, he5] at e5
    obtain ⟨n0, rfl, g0⟩ := int_cell (c := a0) f0
    obtain ⟨n1, rfl, g1⟩ := num_cell (c := a1) e0
    obtain ⟨n2, rfl, g2⟩ := int_cell (c := a2) e1
    obtain ⟨n3, rfl, g3⟩ := int_cell (c := a3) e2
    obtain ⟨n4, rfl, g4⟩ := int_cell (c := a4) e3
    obtain ⟨s5, rfl, g5⟩ := str_cell (c := a5) e4
    obtain ⟨s6, rfl, g6⟩ := str_cell (c := a6) e5
    exact ⟨⟨n0, n1, n2, n3, n4, s5, s6⟩, rfl, g0, g1, g2, g3, g4, g5, g6⟩
  all_goals simp at hl
theorem open_placed {fuel : Nat} {a : Option Addr} {len cap : Nat} {y : DataW H × List MemPlace} (h : DataW.trod enc Try.prog W base (fun _ => true) held fuel 35 [.slice a len cap] = some y) (hw : WB Try.prog 35 y.1) : ∃ L : List Placed, (wh W).row a (len * 7) (inV L) ∧ len ≤ 140737488355328 ∧ L.length = len ∧ ∀ p ∈ L, okP p := by
  obtain ⟨L, r, _, _, hl, hb, k⟩ := slice_rowsW (s := ⟨a, len, cap⟩) 7 Placed.cells okP (by decide) Try.underlying35 c49 (fun _ => rfl) placed_each h hw
  rw [b49] at hb
  dsimp only at hb hl r
  exact ⟨L, r, by have := reach_le hb; omega, hl, k⟩
theorem list27 : ∀ {cs : List Value}, cs.length = 27 → ∃ a0 a1 a2 a3 a4 a5 a6 a7 a8 a9 a10 a11 a12 a13 a14 a15 a16 a17 a18 a19 a20 a21 a22 a23 a24 a25 a26, cs = [a0, a1, a2, a3, a4, a5, a6, a7, a8, a9, a10, a11, a12, a13, a14, a15, a16, a17, a18, a19, a20, a21, a22, a23, a24, a25, a26]
  | [a0, a1, a2, a3, a4, a5, a6, a7, a8, a9, a10, a11, a12, a13, a14, a15, a16, a17, a18, a19, a20, a21, a22, a23, a24, a25, a26], _ => ⟨_, _, _, _, _, _, _, _, _, _, _, _, _, _, _, _, _, _, _, _, _, _, _, _, _, _, _, rfl⟩
set_option maxHeartbeats 2000000 in
theorem open_config {fuel : Nat} {cs : List Value} {y : DataW H × List MemPlace} (hl : cs.length = 27) (h : DataW.trod enc Try.prog W base (fun _ => true) held fuel 58 cs = some y) : ∃ m0 m1 m2 m3 m4 m5 m6 m7 m8 m9 m10 m11 m12 m13 m14 m15 m16 m17 m18 m19 m20 m21 m22 m23 m24 m25 m26 : Int, cs = [.int .i64 m0, .int .i64 m1, .int .i64 m2, .int .i64 m3, .int .i64 m4, .int .i64 m5, .int .i64 m6, .int .i64 m7, .int .i64 m8, .int .i64 m9, .int .i64 m10, .int .i64 m11, .int .i64 m12, .int .i64 m13, .int .i64 m14, .int .i64 m15, .int .i64 m16, .int .i64 m17, .int .i64 m18, .int .i64 m19, .int .i64 m20, .int .i64 m21, .int .i64 m22, .int .i64 m23, .int .i64 m24, .int .i64 m25, .int .i64 m26] ∧ (∀ x ∈ [m0, m1, m2, m3, m4, m5, m6, m7, m8, m9, m10, m11, m12, m13, m14, m15, m16, m17, m18, m19, m20, m21, m22, m23, m24, m25, m26], iI x) := by
  obtain ⟨xs, n, _, rfl, _, hxs, hf⟩ := DataW.trod_struct Try.underlying58 h
  obtain ⟨a0, a1, a2, a3, a4, a5, a6, a7, a8, a9, a10, a11, a12, a13, a14, a15, a16, a17, a18, a19, a20, a21, a22, a23, a24, a25, a26, rfl⟩ := list27 hl
  obtain ⟨yf0, hf0⟩ := some_at hxs (i := 0) (by decide)
  have f0 : DataW.trod enc Try.prog W base (fun _ => true) held n 3 (([a0, a1, a2, a3, a4, a5, a6, a7, a8, a9, a10, a11, a12, a13, a14, a15, a16, a17, a18, a19, a20, a21, a22, a23, a24, a25, a26].drop 0).take (Try.prog.cellsOf 3)) = xs[0]? := hf 0 _ rfl
  rw [c3, hf0] at f0
  obtain ⟨yf1, hf1⟩ := some_at hxs (i := 1) (by decide)
  have f1 : DataW.trod enc Try.prog W base (fun _ => true) held n 3 (([a0, a1, a2, a3, a4, a5, a6, a7, a8, a9, a10, a11, a12, a13, a14, a15, a16, a17, a18, a19, a20, a21, a22, a23, a24, a25, a26].drop 1).take (Try.prog.cellsOf 3)) = xs[1]? := hf 1 _ rfl
  rw [c3, hf1] at f1
  obtain ⟨yf2, hf2⟩ := some_at hxs (i := 2) (by decide)
  have f2 : DataW.trod enc Try.prog W base (fun _ => true) held n 3 (([a0, a1, a2, a3, a4, a5, a6, a7, a8, a9, a10, a11, a12, a13, a14, a15, a16, a17, a18, a19, a20, a21, a22, a23, a24, a25, a26].drop 2).take (Try.prog.cellsOf 3)) = xs[2]? := hf 2 _ rfl
  rw [c3, hf2] at f2
  obtain ⟨yf3, hf3⟩ := some_at hxs (i := 3) (by decide)
  have f3 : DataW.trod enc Try.prog W base (fun _ => true) held n 3 (([a0, a1, a2, a3, a4, a5, a6, a7, a8, a9, a10, a11, a12, a13, a14, a15, a16, a17, a18, a19, a20, a21, a22, a23, a24, a25, a26].drop 3).take (Try.prog.cellsOf 3)) = xs[3]? := hf 3 _ rfl
  rw [c3, hf3] at f3
  obtain ⟨yf4, hf4⟩ := some_at hxs (i := 4) (by decide)
  have f4 : DataW.trod enc Try.prog W base (fun _ => true) held n 3 (([a0, a1, a2, a3, a4, a5, a6, a7, a8, a9, a10, a11, a12, a13, a14, a15, a16, a17, a18, a19, a20, a21, a22, a23, a24, a25, a26].drop 4).take (Try.prog.cellsOf 3)) = xs[4]? := hf 4 _ rfl
  rw [c3, hf4] at f4
  obtain ⟨yf5, hf5⟩ := some_at hxs (i := 5) (by decide)
  have f5 : DataW.trod enc Try.prog W base (fun _ => true) held n 3 (([a0, a1, a2, a3, a4, a5, a6, a7, a8, a9, a10, a11, a12, a13, a14, a15, a16, a17, a18, a19, a20, a21, a22, a23, a24, a25, a26].drop 5).take (Try.prog.cellsOf 3)) = xs[5]? := hf 5 _ rfl
  rw [c3, hf5] at f5
  obtain ⟨yf6, hf6⟩ := some_at hxs (i := 6) (by decide)
  have f6 : DataW.trod enc Try.prog W base (fun _ => true) held n 3 (([a0, a1, a2, a3, a4, a5, a6, a7, a8, a9, a10, a11, a12, a13, a14, a15, a16, a17, a18, a19, a20, a21, a22, a23, a24, a25, a26].drop 6).take (Try.prog.cellsOf 3)) = xs[6]? := hf 6 _ rfl
  rw [c3, hf6] at f6
  obtain ⟨yf7, hf7⟩ := some_at hxs (i := 7) (by decide)
  have f7 : DataW.trod enc Try.prog W base (fun _ => true) held n 3 (([a0, a1, a2, a3, a4, a5, a6, a7, a8, a9, a10, a11, a12, a13, a14, a15, a16, a17, a18, a19, a20, a21, a22, a23, a24, a25, a26].drop 7).take (Try.prog.cellsOf 3)) = xs[7]? := hf 7 _ rfl
  rw [c3, hf7] at f7
  obtain ⟨yf8, hf8⟩ := some_at hxs (i := 8) (by decide)
  have f8 : DataW.trod enc Try.prog W base (fun _ => true) held n 3 (([a0, a1, a2, a3, a4, a5, a6, a7, a8, a9, a10, a11, a12, a13, a14, a15, a16, a17, a18, a19, a20, a21, a22, a23, a24, a25, a26].drop 8).take (Try.prog.cellsOf 3)) = xs[8]? := hf 8 _ rfl
  rw [c3, hf8] at f8
  obtain ⟨yf9, hf9⟩ := some_at hxs (i := 9) (by decide)
  have f9 : DataW.trod enc Try.prog W base (fun _ => true) held n 3 (([a0, a1, a2, a3, a4, a5, a6, a7, a8, a9, a10, a11, a12, a13, a14, a15, a16, a17, a18, a19, a20, a21, a22, a23, a24, a25, a26].drop 9).take (Try.prog.cellsOf 3)) = xs[9]? := hf 9 _ rfl
  rw [c3, hf9] at f9
  obtain ⟨yf10, hf10⟩ := some_at hxs (i := 10) (by decide)
  have f10 : DataW.trod enc Try.prog W base (fun _ => true) held n 3 (([a0, a1, a2, a3, a4, a5, a6, a7, a8, a9, a10, a11, a12, a13, a14, a15, a16, a17, a18, a19, a20, a21, a22, a23, a24, a25, a26].drop 10).take (Try.prog.cellsOf 3)) = xs[10]? := hf 10 _ rfl
  rw [c3, hf10] at f10
  obtain ⟨yf11, hf11⟩ := some_at hxs (i := 11) (by decide)
  have f11 : DataW.trod enc Try.prog W base (fun _ => true) held n 3 (([a0, a1, a2, a3, a4, a5, a6, a7, a8, a9, a10, a11, a12, a13, a14, a15, a16, a17, a18, a19, a20, a21, a22, a23, a24, a25, a26].drop 11).take (Try.prog.cellsOf 3)) = xs[11]? := hf 11 _ rfl
  rw [c3, hf11] at f11
  obtain ⟨yf12, hf12⟩ := some_at hxs (i := 12) (by decide)
  have f12 : DataW.trod enc Try.prog W base (fun _ => true) held n 3 (([a0, a1, a2, a3, a4, a5, a6, a7, a8, a9, a10, a11, a12, a13, a14, a15, a16, a17, a18, a19, a20, a21, a22, a23, a24, a25, a26].drop 12).take (Try.prog.cellsOf 3)) = xs[12]? := hf 12 _ rfl
  rw [c3, hf12] at f12
  obtain ⟨yf13, hf13⟩ := some_at hxs (i := 13) (by decide)
  have f13 : DataW.trod enc Try.prog W base (fun _ => true) held n 3 (([a0, a1, a2, a3, a4, a5, a6, a7, a8, a9, a10, a11, a12, a13, a14, a15, a16, a17, a18, a19, a20, a21, a22, a23, a24, a25, a26].drop 13).take (Try.prog.cellsOf 3)) = xs[13]? := hf 13 _ rfl
  rw [c3, hf13] at f13
  obtain ⟨yf14, hf14⟩ := some_at hxs (i := 14) (by decide)
  have f14 : DataW.trod enc Try.prog W base (fun _ => true) held n 3 (([a0, a1, a2, a3, a4, a5, a6, a7, a8, a9, a10, a11, a12, a13, a14, a15, a16, a17, a18, a19, a20, a21, a22, a23, a24, a25, a26].drop 14).take (Try.prog.cellsOf 3)) = xs[14]? := hf 14 _ rfl
  rw [c3, hf14] at f14
  obtain ⟨yf15, hf15⟩ := some_at hxs (i := 15) (by decide)
  have f15 : DataW.trod enc Try.prog W base (fun _ => true) held n 3 (([a0, a1, a2, a3, a4, a5, a6, a7, a8, a9, a10, a11, a12, a13, a14, a15, a16, a17, a18, a19, a20, a21, a22, a23, a24, a25, a26].drop 15).take (Try.prog.cellsOf 3)) = xs[15]? := hf 15 _ rfl
  rw [c3, hf15] at f15
  obtain ⟨yf16, hf16⟩ := some_at hxs (i := 16) (by decide)
  have f16 : DataW.trod enc Try.prog W base (fun _ => true) held n 3 (([a0, a1, a2, a3, a4, a5, a6, a7, a8, a9, a10, a11, a12, a13, a14, a15, a16, a17, a18, a19, a20, a21, a22, a23, a24, a25, a26].drop 16).take (Try.prog.cellsOf 3)) = xs[16]? := hf 16 _ rfl
  rw [c3, hf16] at f16
  obtain ⟨yf17, hf17⟩ := some_at hxs (i := 17) (by decide)
  have f17 : DataW.trod enc Try.prog W base (fun _ => true) held n 3 (([a0, a1, a2, a3, a4, a5, a6, a7, a8, a9, a10, a11, a12, a13, a14, a15, a16, a17, a18, a19, a20, a21, a22, a23, a24, a25, a26].drop 17).take (Try.prog.cellsOf 3)) = xs[17]? := hf 17 _ rfl
  rw [c3, hf17] at f17
  obtain ⟨yf18, hf18⟩ := some_at hxs (i := 18) (by decide)
  have f18 : DataW.trod enc Try.prog W base (fun _ => true) held n 3 (([a0, a1, a2, a3, a4, a5, a6, a7, a8, a9, a10, a11, a12, a13, a14, a15, a16, a17, a18, a19, a20, a21, a22, a23, a24, a25, a26].drop 18).take (Try.prog.cellsOf 3)) = xs[18]? := hf 18 _ rfl
  rw [c3, hf18] at f18
  obtain ⟨yf19, hf19⟩ := some_at hxs (i := 19) (by decide)
  have f19 : DataW.trod enc Try.prog W base (fun _ => true) held n 3 (([a0, a1, a2, a3, a4, a5, a6, a7, a8, a9, a10, a11, a12, a13, a14, a15, a16, a17, a18, a19, a20, a21, a22, a23, a24, a25, a26].drop 19).take (Try.prog.cellsOf 3)) = xs[19]? := hf 19 _ rfl
  rw [c3, hf19] at f19
  obtain ⟨yf20, hf20⟩ := some_at hxs (i := 20) (by decide)
  have f20 : DataW.trod enc Try.prog W base (fun _ => true) held n 3 (([a0, a1, a2, a3, a4, a5, a6, a7, a8, a9, a10, a11, a12, a13, a14, a15, a16, a17, a18, a19, a20, a21, a22, a23, a24, a25, a26].drop 20).take (Try.prog.cellsOf 3)) = xs[20]? := hf 20 _ rfl
  rw [c3, hf20] at f20
  obtain ⟨yf21, hf21⟩ := some_at hxs (i := 21) (by decide)
  have f21 : DataW.trod enc Try.prog W base (fun _ => true) held n 3 (([a0, a1, a2, a3, a4, a5, a6, a7, a8, a9, a10, a11, a12, a13, a14, a15, a16, a17, a18, a19, a20, a21, a22, a23, a24, a25, a26].drop 21).take (Try.prog.cellsOf 3)) = xs[21]? := hf 21 _ rfl
  rw [c3, hf21] at f21
  obtain ⟨yf22, hf22⟩ := some_at hxs (i := 22) (by decide)
  have f22 : DataW.trod enc Try.prog W base (fun _ => true) held n 3 (([a0, a1, a2, a3, a4, a5, a6, a7, a8, a9, a10, a11, a12, a13, a14, a15, a16, a17, a18, a19, a20, a21, a22, a23, a24, a25, a26].drop 22).take (Try.prog.cellsOf 3)) = xs[22]? := hf 22 _ rfl
  rw [c3, hf22] at f22
  obtain ⟨yf23, hf23⟩ := some_at hxs (i := 23) (by decide)
  have f23 : DataW.trod enc Try.prog W base (fun _ => true) held n 3 (([a0, a1, a2, a3, a4, a5, a6, a7, a8, a9, a10, a11, a12, a13, a14, a15, a16, a17, a18, a19, a20, a21, a22, a23, a24, a25, a26].drop 23).take (Try.prog.cellsOf 3)) = xs[23]? := hf 23 _ rfl
  rw [c3, hf23] at f23
  obtain ⟨yf24, hf24⟩ := some_at hxs (i := 24) (by decide)
  have f24 : DataW.trod enc Try.prog W base (fun _ => true) held n 3 (([a0, a1, a2, a3, a4, a5, a6, a7, a8, a9, a10, a11, a12, a13, a14, a15, a16, a17, a18, a19, a20, a21, a22, a23, a24, a25, a26].drop 24).take (Try.prog.cellsOf 3)) = xs[24]? := hf 24 _ rfl
  rw [c3, hf24] at f24
  obtain ⟨yf25, hf25⟩ := some_at hxs (i := 25) (by decide)
  have f25 : DataW.trod enc Try.prog W base (fun _ => true) held n 3 (([a0, a1, a2, a3, a4, a5, a6, a7, a8, a9, a10, a11, a12, a13, a14, a15, a16, a17, a18, a19, a20, a21, a22, a23, a24, a25, a26].drop 25).take (Try.prog.cellsOf 3)) = xs[25]? := hf 25 _ rfl
  rw [c3, hf25] at f25
  obtain ⟨yf26, hf26⟩ := some_at hxs (i := 26) (by decide)
  have f26 : DataW.trod enc Try.prog W base (fun _ => true) held n 3 (([a0, a1, a2, a3, a4, a5, a6, a7, a8, a9, a10, a11, a12, a13, a14, a15, a16, a17, a18, a19, a20, a21, a22, a23, a24, a25, a26].drop 26).take (Try.prog.cellsOf 3)) = xs[26]? := hf 26 _ rfl
  rw [c3, hf26] at f26
  obtain ⟨k0, rfl, g0⟩ := int_cell (c := a0) f0
  obtain ⟨k1, rfl, g1⟩ := int_cell (c := a1) f1
  obtain ⟨k2, rfl, g2⟩ := int_cell (c := a2) f2
  obtain ⟨k3, rfl, g3⟩ := int_cell (c := a3) f3
  obtain ⟨k4, rfl, g4⟩ := int_cell (c := a4) f4
  obtain ⟨k5, rfl, g5⟩ := int_cell (c := a5) f5
  obtain ⟨k6, rfl, g6⟩ := int_cell (c := a6) f6
  obtain ⟨k7, rfl, g7⟩ := int_cell (c := a7) f7
  obtain ⟨k8, rfl, g8⟩ := int_cell (c := a8) f8
  obtain ⟨k9, rfl, g9⟩ := int_cell (c := a9) f9
  obtain ⟨k10, rfl, g10⟩ := int_cell (c := a10) f10
  obtain ⟨k11, rfl, g11⟩ := int_cell (c := a11) f11
  obtain ⟨k12, rfl, g12⟩ := int_cell (c := a12) f12
  obtain ⟨k13, rfl, g13⟩ := int_cell (c := a13) f13
  obtain ⟨k14, rfl, g14⟩ := int_cell (c := a14) f14
  obtain ⟨k15, rfl, g15⟩ := int_cell (c := a15) f15
  obtain ⟨k16, rfl, g16⟩ := int_cell (c := a16) f16
  obtain ⟨k17, rfl, g17⟩ := int_cell (c := a17) f17
  obtain ⟨k18, rfl, g18⟩ := int_cell (c := a18) f18
  obtain ⟨k19, rfl, g19⟩ := int_cell (c := a19) f19
  obtain ⟨k20, rfl, g20⟩ := int_cell (c := a20) f20
  obtain ⟨k21, rfl, g21⟩ := int_cell (c := a21) f21
  obtain ⟨k22, rfl, g22⟩ := int_cell (c := a22) f22
  obtain ⟨k23, rfl, g23⟩ := int_cell (c := a23) f23
  obtain ⟨k24, rfl, g24⟩ := int_cell (c := a24) f24
  obtain ⟨k25, rfl, g25⟩ := int_cell (c := a25) f25
  obtain ⟨k26, rfl, g26⟩ := int_cell (c := a26) f26
  refine ⟨k0, k1, k2, k3, k4, k5, k6, k7, k8, k9, k10, k11, k12, k13, k14, k15, k16, k17, k18, k19, k20, k21, k22, k23, k24, k25, k26, rfl, fun x hx => ?_⟩
  simp only [List.mem_cons, List.not_mem_nil, or_false] at hx
  rcases hx with rfl | rfl | rfl | rfl | rfl | rfl | rfl | rfl | rfl | rfl | rfl | rfl | rfl | rfl | rfl | rfl | rfl | rfl | rfl | rfl | rfl | rfl | rfl | rfl | rfl | rfl | rfl
  all_goals assumption
theorem wb_arg {ts : List TypeId} {ds : List (DataW H)} (h : (DataW.weightsEach Try.prog ts ds).all (· ≤ reachBytes) = true) {j : Nat} {t : TypeId} {d : DataW H} (ht : ts[j]? = some t) (hd : ds[j]? = some d) : WB Try.prog t d := fun n hn => by
  have := List.all_eq_true.1 h _ (DataW.weights_mem_each ht hd n hn)
  simpa using this
end
end Go.Eng.Ytbjnlacacapjiaa
end
section

/-
  PICKING, PLAINLY: the order in which levels are asked.
-/
set_option linter.unusedSimpArgs false
set_option linter.unusedVariables false
namespace Go.Eng
/-- Level i is asked ahead of level j. -/
def bef (st : Bool) (sc : Nat → Int) (i j : Nat) : Prop := if st = true ∧ (i = 0 ∨ j = 0) ∧ i ≠ j then i < j else (sc j < sc i ∨ (sc i = sc j ∧ i < j))
def want (st : Bool) (sc : Nat → Int) (i : Nat) : Prop := 1000 ≤ sc i ∨ (i = 0 ∧ st = true)
theorem bef_asym {st : Bool} {sc : Nat → Int} {i j : Nat} (h : bef st sc i j) (k : bef st sc j i) : False := by
  unfold bef at h k
  by_cases c : st = true ∧ (i = 0 ∨ j = 0) ∧ i ≠ j
  · rw [if_pos c] at h
    rw [if_pos ⟨c.1, c.2.1.symm, fun e => c.2.2 e.symm⟩] at k
    omega
  · rw [if_neg c] at h
    rw [if_neg (fun d => c ⟨d.1, d.2.1.symm, fun e => d.2.2 e.symm⟩)] at k
    omega
/-- The levels of a version that are asked, in their order. -/
structure IsOrder (n : Nat) (st : Bool) (sc : Nat → Int) (o : List Nat) : Prop where
  nd : o.Nodup
  mem : ∀ i, i ∈ o ↔ i < n ∧ want st sc i
  pw : o.Pairwise (bef st sc)
theorem pw_unique {R : Nat → Nat → Prop} (asy : ∀ i j, R i j → R j i → False) : ∀ {l m : List Nat}, l.Nodup → m.Nodup → (∀ i, i ∈ l ↔ i ∈ m) → l.Pairwise R → m.Pairwise R → l = m
  | [], [], _, _, _, _, _ => rfl
  | [], b :: m, _, _, h, _, _ => by have := (h b).2 List.mem_cons_self; cases this
  | a :: l, [], _, _, h, _, _ => by have := (h a).1 List.mem_cons_self; cases this
  | a :: l, b :: m, nl, nm, h, pl, pm => by
    obtain ⟨n1, n2⟩ := List.nodup_cons.1 nl
    obtain ⟨n3, n4⟩ := List.nodup_cons.1 nm
    obtain ⟨p1, p2⟩ := List.pairwise_cons.1 pl
    obtain ⟨p3, p4⟩ := List.pairwise_cons.1 pm
    have hab : a = b := by
      rcases List.mem_cons.1 ((h a).1 List.mem_cons_self) with e | e
      · exact e
      · rcases List.mem_cons.1 ((h b).2 List.mem_cons_self) with e' | e'
        · exact e'.symm
        · exact (asy _ _ (p1 b e') (p3 a e)).elim
    subst hab
    rw [pw_unique asy n2 n4 (fun i => ?_) p2 p4]
    constructor
    · intro hi
      rcases List.mem_cons.1 ((h i).1 (List.mem_cons_of_mem _ hi)) with e | e
      · subst e; exact absurd hi n1
      · exact e
    · intro hi
      rcases List.mem_cons.1 ((h i).2 (List.mem_cons_of_mem _ hi)) with e | e
      · subst e; exact absurd hi n3
      · exact e
theorem IsOrder.one {n : Nat} {st : Bool} {sc : Nat → Int} {o p : List Nat} (h : IsOrder n st sc o) (k : IsOrder n st sc p) : o = p :=
  pw_unique (fun _ _ => bef_asym) h.nd k.nd (fun i => by rw [h.mem, k.mem]) h.pw k.pw
/-- On the way by the document: the levels told so far, the scores that are left. -/
structure Sel (n : Nat) (st : Bool) (sc z : Nat → Int) (o : List Nat) : Prop where
  nd : o.Nodup
  mem : ∀ i ∈ o, i < n ∧ want st sc i
  pw : o.Pairwise (bef st sc)
  z : ∀ i, i < n → z i = if i ∈ o then 0 else sc i
  s0 : st = true → 0 < n → 0 ∈ o
  lo : ∀ i ∈ o, ∀ j, j < n → j ∉ o → want st sc j → bef st sc i j
end Go.Eng
end
section

/-
  SPECS OF PICKING, 1: what a version tells; scores.
-/
set_option linter.unusedSimpArgs false
set_option linter.unusedVariables false
set_option maxRecDepth 100000
namespace Go.Eng.Ytbjnlacacapjiaa
def tabsI (xs : List (Sl × List Tab)) (n : Int) : List Tab := if n < 0 then [] else match xs[n.toNat]? with | some x => x.2 | none => []
theorem tabsI_nat (xs : List (Sl × List Tab)) {i : Nat} {x : Sl × List Tab} (hx : xs[i]? = some x) : tabsI xs (i : Int) = x.2 := by
  unfold tabsI
  rw [if_neg (by omega), Int.toNat_natCast, hx]
theorem tabsI_out (xs : List (Sl × List Tab)) {n : Int} (hn : n < 0 ∨ (xs.length : Int) ≤ n) : tabsI xs n = [] := by
  unfold tabsI
  split
  · rfl
  · rw [List.getElem?_eq_none (by omega)]
def overM (from_ to : ByteArray) (l : List Tab) : List Tab := l.filter fun t => !blB t.greatest from_ && !blB to t.least
def weightW (l : List Tab) : Int := l.foldl (fun n t => IntKind.wrap .i64 (n + t.weight)) 0
def nV3 (l : List Int) : List Value := l.map fun n => .int .i64 n
theorem nV3_len (l : List Int) : (nV3 l).length = l.length := List.length_map _
theorem tb_new {h : Hp} {r : Sl} {ts : List Tab} (B : TB h r ts) : r.n = ts.length := by have := B.len; rw [tabV_len] at this; omega
section
variable {g h h' : Hp} {vb : Nat} {ls : Sl} {xs : List (Sl × List Tab)} {Q : Value → Hp → Prop} {n n1 n2 n3 n4 n5 n6 n7 n8 n9 n10 n11 n12 n13 n14 n15 n16 n17 n18 n19 n20 n21 n22 n23 n24 n25 n26 : Int}
theorem tables_s (V : Ver g h vb ls xs) (hs : ∀ x ∈ xs, x.2.length ≤ 60000) {n : Int} (hQ : ∀ h' r, Keep h h' → TB h' r (tabsI xs n) → NewN h r → Q (.slice r.a r.n r.c) h') : F27.T (some ⟨vb, 0, none⟩) n h Q := by
  unfold F27.T F27.G
  have hl := V.L.len
  refine has_spec V.v (fun c0 c1 => ⟨true, rfl, fun _ => ?_, fun h0 => (by cases h0)⟩) (fun hc => ⟨false, rfl, fun h0 => (by cases h0), fun _ => ?_⟩)
  · obtain ⟨i, rfl⟩ := Int.eq_ofNat_of_zero_le c0
    have hi : i < xs.length := by omega
    have hx : xs[i]? = some xs[i] := List.getElem?_eq_getElem hi
    generalize xs[i] = x at hx
    rw [tabsI_nat xs hx] at hQ
    have hm := List.mem_of_getElem? hx
    have hxs := hs x hm
    obtain ⟨b, ha, hat⟩ := V.L.rd hx
    have T := V.L.t x hm
    refine ⟨vb, 0, rfl, ls, at_of V.v 0, b, 0, ha, ⟨c0, c1⟩, x.1, by rw [Nat.zero_add, Int.toNat_natCast]; exact hat, tabV x.2, Buf.row T, tab_one _, ?_⟩
    refine append_buf (Buf.nil h 6 47) rfl (by rw [tabV_len, T.n]) (by have := T.n; dsimp only; omega) fun r h2 B2 _ U2 => ?_
    obtain ⟨K2, N2⟩ := NewN.upd (Keep.refl h) (NewN.nil h) U2
    exact hQ h2 r K2 (by unfold TB; simpa using B2) N2
  · rw [tabsI_out xs (by omega)] at hQ
    exact hQ h ⟨none, 0, 0⟩ (Keep.refl h) (Buf.nil _ _ _) (NewN.nil _)
theorem weight_s (V : Ver g h vb ls xs) (hs : ∀ x ∈ xs, x.2.length ≤ 60000) {n : Int} (hl : (tabsI xs n).length ≤ 60000) (hQ : ∀ h', Keep h h' → Q (.int .i64 (weightW (tabsI xs n))) h') : F46.T (some ⟨vb, 0, none⟩) n h Q := by
  unfold F46.T F46.G
  refine tables_s V hs fun h1 l K1 B1 _ => ⟨l, rfl, ?_⟩
  have hn := tb_new B1
  refine ⟨fun w i h2 => h2 = h1 ∧ ∃ P R, tabsI xs n = P ++ R ∧ i = (P.length : Int) ∧ w = weightW P, fun _ i _ => (tabsI xs n).length - i.toNat, ⟨rfl, [], _, rfl, rfl, rfl⟩, ?_⟩
  rintro w i h2 ⟨rfl, P, R, e, rfl, rfl⟩
  have e2 := congrArg List.length e
  rw [List.length_append] at e2
  refine ⟨fun hlt => ?_, fun hge => ?_⟩
  · rcases R with _ | ⟨t, R⟩
    · exact absurd hlt (by simp at e2; omega)
    rw [List.length_cons] at e2
    have hr := B1.row
    rw [e] at hr
    refine tab_rd hr rfl fun b o => ?_
    rw [next_i (n := 70000) (by omega) (by omega)]
    refine ⟨⟨rfl, P ++ [t], R, by rw [e]; simp, by simp, ?_⟩, by dsimp only; omega⟩
    unfold weightW
    rw [List.foldl_append]; rfl
  · have hR : R = [] := List.eq_nil_of_length_eq_zero (by omega)
    subst hR
    rw [List.append_nil] at e
    rw [e] at hQ
    exact hQ h2 K1
theorem over_s (V : Ver g h vb ls xs) (hs : ∀ x ∈ xs, x.2.length ≤ 60000) {n : Int} {s s1 : ByteArray} (hl : (tabsI xs n).length ≤ 60000) (hQ : ∀ h' r, Keep h h' → TB h' r (overM s s1 (tabsI xs n)) → NewN h r → Q (.slice r.a r.n r.c) h') : F47.T (some ⟨vb, 0, none⟩) n s s1 h Q := by
  unfold F47.T F47.G
  refine tables_s V hs fun h1 l K1 B1 _ => ⟨l, rfl, ?_⟩
  have hn := tb_new B1
  refine ⟨fun l1 i h2 => ∃ P R, tabsI xs n = P ++ R ∧ i = (P.length : Int) ∧ Keep h1 h2 ∧ TB h2 l1 (overM s s1 P) ∧ NewN h1 l1, fun _ i _ => (tabsI xs n).length - i.toNat, ⟨[], _, rfl, rfl, Keep.refl _, Buf.nil _ _ _, NewN.nil _⟩, ?_⟩
  rintro l1 i h2 ⟨P, R, e, rfl, K2, B2, N2⟩
  have e2 := congrArg List.length e
  rw [List.length_append] at e2
  refine ⟨fun hlt => ?_, fun hge => ?_⟩
  · rcases R with _ | ⟨t, R⟩
    · exact absurd hlt (by simp at e2; omega)
    rw [List.length_cons] at e2
    have hr := (B1.keep K2).row
    rw [e] at hr
    have hn1 := tb_new B2
    have hfl : (overM s s1 P).length ≤ P.length := List.length_filter_le _ _
    refine tab_rd hr rfl fun b o => ?_
    rw [next_i (n := 70000) (by omega) (by omega)]
    have skip : (blB t.greatest s = true ∨ blB s1 t.least = true) → (∃ P_1 R_1, tabsI xs n = P_1 ++ R_1 ∧ ((P.length + 1 : Nat) : Int) = (P_1.length : Int) ∧ Keep h1 h2 ∧ TB h2 l1 (overM s s1 P_1) ∧ NewN h1 l1) := fun hc => by
      refine ⟨P ++ [t], R, by rw [e]; simp, by simp, K2, ?_, N2⟩
      have : overM s s1 (P ++ [t]) = overM s s1 P := by
        unfold overM
        rw [List.filter_append]
        have : ([t] : List Tab).filter (fun t => !blB t.greatest s && !blB s1 t.least) = [] := by
          rcases hc with hc | hc <;> simp [hc]
        rw [this, List.append_nil]
      rw [this]; exact B2
    refine ⟨fun hlt1 => ⟨skip (.inl (blB_t.2 ((sLt_bl _ _).1 hlt1))), by dsimp only; omega⟩, fun hge1 => ⟨fun hle => ?_, fun hgt => ⟨skip (.inr ?_), by dsimp only; omega⟩⟩⟩
    · refine append_buf (us := t.cells) B2 rfl rfl (by omega) fun l3 h3 B3 _ U3 => ?_
      obtain ⟨K3, N3⟩ := NewN.upd K2 N2 U3
      refine ⟨⟨P ++ [t], R, by rw [e]; simp, by simp, K3, ?_, N3⟩, by dsimp only; omega⟩
      have : overM s s1 (P ++ [t]) = overM s s1 P ++ [t] := by
        unfold overM
        rw [List.filter_append]
        have h1 : blB t.greatest s = false := by
          cases hb : blB t.greatest s with
          | false => rfl
          | true => exact absurd ((sLt_bl _ _).2 (blB_t.1 hb)) hge1
        have h2 : blB s1 t.least = false := by
          cases hb : blB s1 t.least with
          | false => rfl
          | true => exact absurd (blB_t.1 hb) (sle.1 hle)
        congr 1
        simp [h1, h2]
      rw [this]
      unfold TB
      rw [tabV_app]
      have : tabV [t] = t.cells := by unfold tabV; simp
      rw [this]
      exact B3
    · cases hb : blB s1 t.least with
      | true => rfl
      | false => exact absurd (sle.2 fun hbl => by rw [blB_t.2 hbl] at hb; cases hb) hgt
  · have hR : R = [] := List.eq_nil_of_length_eq_zero (by omega)
    subst hR
    rw [List.append_nil] at e
    rw [e] at hQ
    exact hQ h2 l1 (K1.trans K2) B2 (N2.mono K1.dom)
theorem last_s (V : Ver g h vb ls xs) (h1 : 1 ≤ xs.length) (h5 : xs.length ≤ 5) (hn : n8 = (xs.length : Int)) (hQ : Q (.int .i64 ((xs.length : Int) - 1)) h) : F58.T n n1 n2 n3 n4 n5 n6 n7 n8 n9 n10 n11 n12 n13 n14 n15 n16 n17 n18 n19 n20 n21 n22 n23 n24 n25 n26 (some ⟨vb, 0, none⟩) h Q := by
  unfold F58.T F58.G
  refine levels_spec V ⟨_, rfl, ?_⟩
  have : iMin n8 (xs.length : Int) = (xs.length : Int) := by unfold iMin; rw [hn]; split <;> rfl
  rw [this, wrap_i64 (by omega) (by omega)]
  exact hQ
theorem share_s {a b : Int} (ha : 0 ≤ a ∧ a ≤ 9000000000000000) (hb : b ≠ 0) (hQ : Q (.int .i64 (Int.tdiv (1000 * a) b)) h) : F59.T a b h Q := by
  refine ⟨fun h0 => absurd h0 hb, fun _ => ⟨hb, ?_⟩⟩
  rw [wrap_i64 (n := 1000 * a) (by omega) (by omega)]
  have h1 : (Int.tdiv (1000 * a) b).natAbs ≤ (1000 * a).natAbs := by
    rw [Int.natAbs_tdiv]; exact Nat.div_le_self _ _
  rw [wrap_i64 (by omega) (by omega)]
  exact hQ
/-- A configuration as it may be. -/
structure CfOk (c5 c7 c8 c9 c10 c12 : Int) : Prop where
  trig : 1 ≤ c5 ∧ c5 ≤ 16
  stop : 2 ≤ c7 ∧ c5 ≤ c7 ∧ c7 ≤ 16
  lv : 3 ≤ c8 ∧ c8 ≤ 5
  base : 4096 ≤ c9 ∧ c9 ≤ 16777216
  mult : 2 ≤ c10 ∧ c10 ≤ 10
  fan : 1 ≤ c12 ∧ c12 ≤ 16
def limit (base mult : Int) : Nat → Int
  | 0 => base
  | i + 1 => limit base mult i * mult
theorem limit_bd {base mult : Int} (hb : 4096 ≤ base ∧ base ≤ 16777216) (hm : 2 ≤ mult ∧ mult ≤ 10) : ∀ i, i ≤ 4 → 4096 ≤ limit base mult i ∧ limit base mult i ≤ 16777216 * 10 ^ i
  | 0, _ => by unfold limit; omega
  | i + 1, hi => by
    obtain ⟨h1, h2⟩ := limit_bd hb hm i (by omega)
    unfold limit
    constructor
    · have := Int.mul_le_mul h1 hm.1 (by omega) (by omega); omega
    · have := Int.mul_le_mul h2 hm.2 (by omega) (by
        have : (0 : Int) ≤ 16777216 * 10 ^ i := by
          have : (0 : Int) ≤ 10 ^ i := Int.pow_nonneg (by decide)
          omega
        exact this)
      rw [Int.pow_succ]
      have e : 16777216 * (10 ^ i * 10) = 16777216 * 10 ^ i * (10 : Int) := by rw [Int.mul_assoc]
      rw [e]; exact this
/-- A level's score. -/
def scoreM (trig base mult : Int) (xs : List (Sl × List Tab)) (i : Nat) : Int :=
  if i = 0 then Int.tdiv (1000 * ((tabsI xs 0).length : Int)) trig else Int.tdiv (1000 * weightW (tabsI xs (i : Int))) (limit base mult (i - 1))
/-- A version over which one picks. -/
structure PkOk (xs : List (Sl × List Tab)) : Prop where
  len : 3 ≤ xs.length ∧ xs.length ≤ 5
  sz : ∀ x ∈ xs, x.2.length ≤ 60000
  w : ∀ i, 0 ≤ weightW (tabsI xs i) ∧ weightW (tabsI xs i) ≤ 9000000000000000
theorem PkOk.tl {xs : List (Sl × List Tab)} (P : PkOk xs) (n : Int) : (tabsI xs n).length ≤ 60000 := by
  unfold tabsI
  split
  · simp
  · split
    · next x hx => exact P.sz x (List.mem_of_getElem? hx)
    · simp
theorem scores_s (V : Ver g h vb ls xs) (P : PkOk xs) (O : CfOk n5 n7 n8 n9 n10 n12) (h8 : n8 = (xs.length : Int)) (hQ : ∀ h' r, Keep h h' → Buf h' r 1 3 (nV3 ((List.range (xs.length - 1)).map (scoreM n5 n9 n10 xs))) → NewN h r → Q (.slice r.a r.n r.c) h') : F26.T n n1 n2 n3 n4 n5 n6 n7 n8 n9 n10 n11 n12 n13 n14 n15 n16 n17 n18 n19 n20 n21 n22 n23 n24 n25 n26 (some ⟨vb, 0, none⟩) h Q := by
  have hx := P.len
  unfold F26.T F26.G
  refine last_s V (by omega) (by omega) h8 ⟨_, rfl, ?_⟩
  have hmx : iMax ((xs.length : Int) - 1) 0 = (xs.length : Int) - 1 := by unfold iMax; rw [if_neg (by omega)]
  rw [hmx]
  refine ⟨fun l lim i h2 => ∃ k : Nat, i = (k : Int) ∧ k ≤ xs.length - 1 ∧ lim = limit n9 n10 (k - 1) ∧ Keep h h2 ∧ Buf h2 l 1 3 (nV3 ((List.range k).map (scoreM n5 n9 n10 xs))) ∧ NewN h l, fun _ _ i _ => xs.length - i.toNat, ⟨0, rfl, Nat.zero_le _, rfl, Keep.refl _, Buf.nil _ _ _, NewN.nil _⟩, ?_⟩
  rintro l lim i h2 ⟨k, rfl, hk, rfl, K2, B2, N2⟩
  have hln : l.n = k := by have := B2.len; rw [nV3_len, List.length_map, List.length_range] at this; omega
  have V2 := V.keep K2
  have snoc : nV3 ((List.range (k + 1)).map (scoreM n5 n9 n10 xs)) = nV3 ((List.range k).map (scoreM n5 n9 n10 xs)) ++ [.int .i64 (scoreM n5 n9 n10 xs k)] := by
    rw [List.range_succ, List.map_append]; unfold nV3; rw [List.map_append]; rfl
  refine ⟨fun hlt => ⟨fun h0 => ?_, fun h0 => ?_⟩, fun hge => ?_⟩
  · have hk0 : k = 0 := by omega
    subst hk0
    refine tables_s V2 P.sz fun h3 l1 K3 B3 _ => ⟨l1, rfl, ?_⟩
    have h0l := P.tl 0
    have hl1 := tb_new B3
    rw [hl1]
    refine share_s ⟨by omega, by omega⟩ (by have := O.trig; omega) ⟨_, rfl, ?_⟩
    refine append_buf (us := [.int .i64 (Int.tdiv (1000 * ((tabsI xs 0).length : Int)) n5)]) (B2.keep K3) rfl rfl (by omega) fun l2 h5 B5 _ U5 => ?_
    obtain ⟨K5, N5⟩ := NewN.upd (K2.trans K3) N2 U5
    rw [next_i (n := 100) (by omega) (by omega)]
    refine ⟨⟨1, rfl, by omega, rfl, K5, ?_, N5⟩, by dsimp only; omega⟩
    rw [snoc]; exact B5
  · have hk0 : k ≠ 0 := by omega
    have hL := limit_bd O.base O.mult (k - 1) (by omega)
    have hL2 := limit_bd O.base O.mult k (by omega)
    have hp : (10 : Int) ^ k ≤ 10000 := by
      have : k = 1 ∨ k = 2 ∨ k = 3 ∨ k = 4 := by omega
      rcases this with rfl | rfl | rfl | rfl <;> decide
    have hlk : limit n9 n10 (k - 1) * n10 = limit n9 n10 k := by
      obtain ⟨j, rfl⟩ : ∃ j, k = j + 1 := ⟨k - 1, by omega⟩
      rfl
    refine weight_s V2 P.sz (P.tl _) fun h3 K3 => ⟨_, rfl, ?_⟩
    refine share_s (P.w _) (by omega) ⟨_, rfl, ?_⟩
    refine append_buf (us := [.int .i64 (Int.tdiv (1000 * weightW (tabsI xs (k : Int))) (limit n9 n10 (k - 1)))]) (B2.keep K3) rfl rfl (by omega) fun l2 h5 B5 _ U5 => ?_
    obtain ⟨K5, N5⟩ := NewN.upd (K2.trans K3) N2 U5
    rw [next_i (n := 100) (by omega) (by omega), hlk, wrap_i64 (by omega) (by omega)]
    refine ⟨⟨k + 1, rfl, by omega, by rw [Nat.add_sub_cancel], K5, ?_, N5⟩, by dsimp only; omega⟩
    rw [snoc]
    have : scoreM n5 n9 n10 xs k = Int.tdiv (1000 * weightW (tabsI xs (k : Int))) (limit n9 n10 (k - 1)) := by unfold scoreM; rw [if_neg hk0]
    rw [this]; exact B5
  · have hk2 : k = xs.length - 1 := by omega
    subst hk2
    exact hQ h2 l K2 B2 N2
theorem stopped_s (V : Ver g h vb ls xs) (P : PkOk xs) (hQ : ∀ h', Keep h h' → Q (.bool (decide (n7 ≤ ((tabsI xs 0).length : Int)))) h') : F54.T n n1 n2 n3 n4 n5 n6 n7 n8 n9 n10 n11 n12 n13 n14 n15 n16 n17 n18 n19 n20 n21 n22 n23 n24 n25 n26 (some ⟨vb, 0, none⟩) h Q := by
  unfold F54.T F54.G
  refine tables_s V P.sz fun h1 l K1 B1 _ => ⟨l, rfl, ?_⟩
  rw [tb_new B1]
  refine ⟨fun hc => ?_, fun hc => ?_⟩
  · have := hQ h1 K1; rw [decide_eq_true hc] at this; exact this
  · have := hQ h1 K1; rw [decide_eq_false hc] at this; exact this
theorem cmp_s {a b : Int} (hQ : ∀ c : Int, (c < 0 ↔ a < b) → Q (.int .i64 c) h) : F57.T a b h Q := by
  unfold F57.T F57.G
  have hn : ∀ (x : Int) (K : Value → Hp → Prop), K (.bool false) h → F79.T x h K := fun x K hK => by
    unfold F79.T
    first
      | exact ⟨fun hne => absurd rfl hne, fun _ => hK⟩
      | exact ⟨fun _ => hK, fun hne => absurd rfl hne⟩
      | exact hK
  refine hn _ _ ⟨false, rfl, fun e => (by cases e), fun _ => hn _ _ ⟨false, rfl, fun e => (by cases e), fun _ => ⟨fun hlt => hQ _ ⟨fun _ => hlt, fun _ => by decide⟩, fun hge => ⟨fun hgt => hQ _ ⟨fun h => absurd h (by decide), fun h => by omega⟩, fun hle => hQ _ ⟨fun h => absurd h (by decide), fun h => by omega⟩⟩⟩⟩⟩
/-- A configuration's cells. -/
theorem cfg_rd {t b : Nat} (hb : h b = some (.cells ⟨[.int .i64 n, .int .i64 n1, .int .i64 n2, .int .i64 n3, .int .i64 n4, .int .i64 n5, .int .i64 n6, .int .i64 n7, .int .i64 n8, .int .i64 n9, .int .i64 n10, .int .i64 n11, .int .i64 n12, .int .i64 n13, .int .i64 n14, .int .i64 n15, .int .i64 n16, .int .i64 n17, .int .i64 n18, .int .i64 n19, .int .i64 n20, .int .i64 n21, .int .i64 n22, .int .i64 n23, .int .i64 n24, .int .i64 n25, .int .i64 n26]⟩ t (0, 0))) {K : Int → Int → Int → Int → Int → Int → Int → Int → Int → Int → Int → Int → Int → Int → Int → Int → Int → Int → Int → Int → Int → Int → Int → Int → Int → Int → Int → Prop} (hK : K n n1 n2 n3 n4 n5 n6 n7 n8 n9 n10 n11 n12 n13 n14 n15 n16 n17 n18 n19 n20 n21 n22 n23 n24 n25 n26) : ∃ m0 : Int, h.at b 0 = some (.int .i64 m0) ∧ ∃ m1 : Int, h.at b 1 = some (.int .i64 m1) ∧ ∃ m2 : Int, h.at b 2 = some (.int .i64 m2) ∧ ∃ m3 : Int, h.at b 3 = some (.int .i64 m3) ∧ ∃ m4 : Int, h.at b 4 = some (.int .i64 m4) ∧ ∃ m5 : Int, h.at b 5 = some (.int .i64 m5) ∧ ∃ m6 : Int, h.at b 6 = some (.int .i64 m6) ∧ ∃ m7 : Int, h.at b 7 = some (.int .i64 m7) ∧ ∃ m8 : Int, h.at b 8 = some (.int .i64 m8) ∧ ∃ m9 : Int, h.at b 9 = some (.int .i64 m9) ∧ ∃ m10 : Int, h.at b 10 = some (.int .i64 m10) ∧ ∃ m11 : Int, h.at b 11 = some (.int .i64 m11) ∧ ∃ m12 : Int, h.at b 12 = some (.int .i64 m12) ∧ ∃ m13 : Int, h.at b 13 = some (.int .i64 m13) ∧ ∃ m14 : Int, h.at b 14 = some (.int .i64 m14) ∧ ∃ m15 : Int, h.at b 15 = some (.int .i64 m15) ∧ ∃ m16 : Int, h.at b 16 = some (.int .i64 m16) ∧ ∃ m17 : Int, h.at b 17 = some (.int .i64 m17) ∧ ∃ m18 : Int, h.at b 18 = some (.int .i64 m18) ∧ ∃ m19 : Int, h.at b 19 = some (.int .i64 m19) ∧ ∃ m20 : Int, h.at b 20 = some (.int .i64 m20) ∧ ∃ m21 : Int, h.at b 21 = some (.int .i64 m21) ∧ ∃ m22 : Int, h.at b 22 = some (.int .i64 m22) ∧ ∃ m23 : Int, h.at b 23 = some (.int .i64 m23) ∧ ∃ m24 : Int, h.at b 24 = some (.int .i64 m24) ∧ ∃ m25 : Int, h.at b 25 = some (.int .i64 m25) ∧ ∃ m26 : Int, h.at b 26 = some (.int .i64 m26) ∧ K m0 m1 m2 m3 m4 m5 m6 m7 m8 m9 m10 m11 m12 m13 m14 m15 m16 m17 m18 m19 m20 m21 m22 m23 m24 m25 m26 :=
  ⟨n, at_of hb 0, n1, at_of hb 1, n2, at_of hb 2, n3, at_of hb 3, n4, at_of hb 4, n5, at_of hb 5, n6, at_of hb 6, n7, at_of hb 7, n8, at_of hb 8, n9, at_of hb 9, n10, at_of hb 10, n11, at_of hb 11, n12, at_of hb 12, n13, at_of hb 13, n14, at_of hb 14, n15, at_of hb 15, n16, at_of hb 16, n17, at_of hb 17, n18, at_of hb 18, n19, at_of hb 19, n20, at_of hb 20, n21, at_of hb 21, n22, at_of hb 22, n23, at_of hb 23, n24, at_of hb 24, n25, at_of hb 25, n26, at_of hb 26, hK⟩
end
end Go.Eng.Ytbjnlacacapjiaa
end
section

/-
  SPECS OF PICKING, 2: the order of levels.
-/
set_option linter.unusedSimpArgs false
set_option linter.unusedVariables false
set_option maxRecDepth 100000
namespace Go.Eng.Ytbjnlacacapjiaa
def iV (w : List Nat) : List Value := w.map fun i : Nat => Value.int .i64 (i : Int)
theorem iV_len (w : List Nat) : (iV w).length = w.length := List.length_map _
/-- What the comparison tells. -/
def lessC (st : Bool) (sc : Nat → Int) (i j : Nat) : Prop := if st = true ∧ (i = 0 ∨ j = 0) ∧ i ≠ j then i < j else sc j < sc i
theorem lessC_bef {st : Bool} {sc : Nat → Int} {i j : Nat} (h : lessC st sc i j) : bef st sc i j := by
  unfold lessC at h
  unfold bef
  split
  · next c => rw [if_pos c] at h; exact h
  · next c => rw [if_neg c] at h; exact .inl h
theorem not_less_bef {st : Bool} {sc : Nat → Int} {i j : Nat} (hij : j < i) (h : ¬ lessC st sc i j) : bef st sc j i := by
  unfold lessC at h
  unfold bef
  by_cases c : st = true ∧ (i = 0 ∨ j = 0) ∧ i ≠ j
  · rw [if_pos c] at h
    rw [if_pos ⟨c.1, c.2.1.symm, fun e => c.2.2 e.symm⟩]
    exact hij
  · rw [if_neg c] at h
    rw [if_neg (fun d => c ⟨d.1, d.2.1.symm, fun e => d.2.2 e.symm⟩)]
    omega
theorem bef_trans {st : Bool} {sc : Nat → Int} {i j k : Nat} (h : bef st sc i j) (g : bef st sc j k) : bef st sc i k := by
  unfold bef at h g ⊢
  cases st with
  | false => simp at h g ⊢; omega
  | true =>
    simp only [true_and] at h g ⊢
    by_cases h0 : i = 0 <;> by_cases h1 : j = 0 <;> by_cases h2 : k = 0
    all_goals simp only [h0, h1, h2, true_or, or_true, or_self, ne_eq, not_true_eq_false, not_false_eq_true, and_true, and_false, true_and, false_and, if_true, if_false] at h g ⊢
    all_goals first | omega | (simp_all; done) | skip
    all_goals (repeat' split at h) <;> (repeat' split at g) <;> (repeat' split) <;> omega
section
variable {g h h' H0 : Hp} {vb b b1 b2 : Nat} {ls l sl : Sl} {xs : List (Sl × List Tab)} {Q : Value → Hp → Prop} {n n1 n2 n3 n4 n5 n6 n7 n8 n9 n10 n11 n12 n13 n14 n15 n16 n17 n18 n19 n20 n21 n22 n23 n24 n25 n26 : Int}
/-- What the comparison looks at. -/
structure Env (g h : Hp) (vb b b1 b2 : Nat) (ls sl : Sl) (xs : List (Sl × List Tab)) (sc : List Int) (n n1 n2 n3 n4 n5 n6 n7 n8 n9 n10 n11 n12 n13 n14 n15 n16 n17 n18 n19 n20 n21 n22 n23 n24 n25 n26 : Int) : Prop where
  V : Ver g h vb ls xs
  c : h b = some (.cells ⟨[.int .i64 n, .int .i64 n1, .int .i64 n2, .int .i64 n3, .int .i64 n4, .int .i64 n5, .int .i64 n6, .int .i64 n7, .int .i64 n8, .int .i64 n9, .int .i64 n10, .int .i64 n11, .int .i64 n12, .int .i64 n13, .int .i64 n14, .int .i64 n15, .int .i64 n16, .int .i64 n17, .int .i64 n18, .int .i64 n19, .int .i64 n20, .int .i64 n21, .int .i64 n22, .int .i64 n23, .int .i64 n24, .int .i64 n25, .int .i64 n26]⟩ 58 (0, 0))
  p : h b1 = some (.cells ⟨[.pointer (some ⟨vb, 0, none⟩)]⟩ 31 (0, 0))
  s : h b2 = some (.cells ⟨[.slice sl.a sl.n sl.c]⟩ 64 (0, 0))
  r : Buf h sl 1 3 (nV3 sc)
theorem Env.keep {sc : List Int} (E : Env g h vb b b1 b2 ls sl xs sc n n1 n2 n3 n4 n5 n6 n7 n8 n9 n10 n11 n12 n13 n14 n15 n16 n17 n18 n19 n20 n21 n22 n23 n24 n25 n26) (K : Keep h h') : Env g h' vb b b1 b2 ls sl xs sc n n1 n2 n3 n4 n5 n6 n7 n8 n9 n10 n11 n12 n13 n14 n15 n16 n17 n18 n19 n20 n21 n22 n23 n24 n25 n26 := ⟨E.V.keep K, K _ _ E.c, K _ _ E.p, K _ _ E.s, E.r.keep K⟩
theorem sc_rd {sc : List Int} (B : Buf h sl 1 3 (nV3 sc)) {i : Nat} (hi : i < sc.length) : ∃ b, sl.a = some ⟨b, 0, none⟩ ∧ ((0 : Int) ≤ (i : Int) ∧ (i : Int) < (sl.n : Int)) ∧ h.at b (0 + ((i : Int)).toNat) = some (.int .i64 (sc[i]?.getD 0)) := by
  have hl := B.len
  rw [nV3_len] at hl
  obtain ⟨b, ha, hat, _⟩ := buf_set B (k := i) (by rw [nV3_len]; exact hi)
  refine ⟨b, ha, ⟨by omega, by omega⟩, ?_⟩
  rw [Int.toNat_natCast, Nat.zero_add, hat]
  unfold nV3
  rw [List.getElem?_map, List.getElem?_eq_getElem hi]
  rfl
theorem cmp56_s {sc : List Int} (P : PkOk xs) (E : Env g h vb b b1 b2 ls sl xs sc n n1 n2 n3 n4 n5 n6 n7 n8 n9 n10 n11 n12 n13 n14 n15 n16 n17 n18 n19 n20 n21 n22 n23 n24 n25 n26) {i j : Nat} (hi : i < sc.length) (hj : j < sc.length) (hQ : ∀ h' (c : Int), Keep h h' → (c < 0 ↔ lessC (decide (n7 ≤ ((tabsI xs 0).length : Int))) (fun k => sc[k]?.getD 0) i j) → Q (.int .i64 c) h') : F56.T (i : Int) (j : Int) b 0 b1 0 b2 0 h Q := by
  have key : ∀ h1, Keep h h1 → ¬ (decide (n7 ≤ ((tabsI xs 0).length : Int)) = true ∧ (i = 0 ∨ j = 0) ∧ i ≠ j) → ∃ l : Sl, h1.at b2 0 = some (.slice l.a l.n l.c) ∧ ∃ b3 o3, (l.a : Option Addr) = some ⟨b3, o3, none⟩ ∧ ((0 : Int) ≤ (j : Int) ∧ (j : Int) < (l.n : Int)) ∧ ∃ n2 : Int, h1.at b3 (o3 + (j : Int).toNat) = some (.int .i64 n2) ∧ ∃ l1 : Sl, h1.at b2 0 = some (.slice l1.a l1.n l1.c) ∧ ∃ b4 o4, (l1.a : Option Addr) = some ⟨b4, o4, none⟩ ∧ ((0 : Int) ≤ (i : Int) ∧ (i : Int) < (l1.n : Int)) ∧ ∃ n3 : Int, h1.at b4 (o4 + (i : Int).toNat) = some (.int .i64 n3) ∧ F57.T n2 n3 h1 fun r h2 => ∃ n4 : Int, r = .int .i64 n4 ∧ Q (.int .i64 n4) h2 := by
    intro h1 K1 hc
    have E1 := E.keep K1
    obtain ⟨b3, ha3, hr3, hat3⟩ := sc_rd E1.r hj
    obtain ⟨b4, ha4, hr4, hat4⟩ := sc_rd E1.r hi
    refine ⟨sl, at_of E1.s 0, b3, 0, ha3, hr3, _, hat3, sl, at_of E1.s 0, b4, 0, ha4, hr4, _, hat4, cmp_s fun c hcc => ⟨c, rfl, hQ h1 c K1 ?_⟩⟩
    unfold lessC
    rw [if_neg hc]
    exact hcc
  have special : ∀ (J : Hp → Prop), (∀ h1, Keep h h1 → ¬ (decide (n7 ≤ ((tabsI xs 0).length : Int)) = true ∧ (i = 0 ∨ j = 0) ∧ i ≠ j) → J h1) → (i = 0 ∨ j = 0) → (i : Int) ≠ (j : Int) → F54.T n n1 n2 n3 n4 n5 n6 n7 n8 n9 n10 n11 n12 n13 n14 n15 n16 n17 n18 n19 n20 n21 n22 n23 n24 n25 n26 (some ⟨vb, 0, none⟩) h fun r1 h3 => ∃ b5 : Bool, r1 = .bool b5 ∧ parB b5 (F57.T (i : Int) (j : Int) h3 fun r2 h4 => ∃ n32 : Int, r2 = .int .i64 n32 ∧ Q (.int .i64 n32) h4) (J h3) := by
    intro J hJ h0 hne
    refine stopped_s E.V P fun h1 K1 => ⟨_, rfl, fun hs => ?_, fun hs => hJ h1 K1 fun c => (by rw [c.1] at hs; cases hs)⟩
    refine cmp_s fun c hcc => ⟨c, rfl, hQ h1 c K1 ?_⟩
    unfold lessC
    rw [if_pos ⟨hs, h0, fun e => hne (by rw [e])⟩, hcc]
    omega
  unfold F56.T F56.G
  refine ⟨fun h1 => Keep h h1 ∧ ¬ (decide (n7 ≤ ((tabsI xs 0).length : Int)) = true ∧ (i = 0 ∨ j = 0) ∧ i ≠ j), fun h1 hJ => key h1 hJ.1 hJ.2, fun h0 => ⟨fun he => ⟨Keep.refl _, fun c => c.2.2 (by omega)⟩, fun he => ?_⟩, fun h0 => ⟨fun h1 => ⟨fun he => ⟨Keep.refl _, fun c => c.2.2 (by omega)⟩, fun he => ?_⟩, fun h1 => ⟨Keep.refl _, fun c => by omega⟩⟩⟩
  · exact cfg_rd E.c ⟨some ⟨vb, 0, none⟩, at_of E.p 0, special _ (fun h1 a c => ⟨a, c⟩) (.inl (by omega)) he⟩
  · exact cfg_rd E.c ⟨some ⟨vb, 0, none⟩, at_of E.p 0, special _ (fun h1 a c => ⟨a, c⟩) (.inr (by omega)) he⟩
theorem ib_rd {w : List Nat} {P R : List Nat} {a : Nat} (B : Buf h l 1 3 (iV w)) (e : w = P ++ a :: R) : ∃ b, l.a = some ⟨b, 0, none⟩ ∧ ((0 : Int) ≤ (P.length : Int) ∧ (P.length : Int) < (l.n : Int)) ∧ h.at b (0 + ((P.length : Int)).toNat) = some (.int .i64 (a : Int)) ∧ h.canW b (0 + ((P.length : Int)).toNat) 1 ∧ ∀ c : Nat, Upd h (h.wr b (0 + ((P.length : Int)).toNat) [.int .i64 (c : Int)]) l l ∧ Buf (h.wr b (0 + ((P.length : Int)).toNat) [.int .i64 (c : Int)]) l 1 3 (iV (P ++ c :: R)) := by
  subst e
  have hl := B.len
  rw [iV_len, List.length_append, List.length_cons] at hl
  obtain ⟨b, ha, hat, hc, hw⟩ := buf_set B (k := P.length) (by rw [iV_len, List.length_append, List.length_cons]; omega)
  rw [Int.toNat_natCast, Nat.zero_add]
  refine ⟨b, ha, ⟨by omega, by omega⟩, ?_, hc, fun c => ?_⟩
  · rw [hat]
    unfold iV
    rw [List.getElem?_map, List.getElem?_append_right (Nat.le_refl _), Nat.sub_self]
    rfl
  · obtain ⟨U, B'⟩ := hw (.int .i64 (c : Int))
    refine ⟨U, ?_⟩
    have : (iV (P ++ a :: R)).set P.length (.int .i64 (c : Int)) = iV (P ++ c :: R) := by
      unfold iV
      rw [List.map_append, List.map_append, List.set_append_right _ _ (by rw [List.length_map]; exact Nat.le_refl _), List.length_map, Nat.sub_self]
      rfl
    rw [← this]; exact B'
theorem pw_ins {R : Nat → Nat → Prop} (tr : ∀ {i j k}, R i j → R j k → R i k) {P S : List Nat} {x : Nat} (h : (P ++ S).Pairwise R) (h1 : P = [] ∨ ∃ P' y, P = P' ++ [y] ∧ R y x) (h2 : ∀ s ∈ S, R x s) : (P ++ x :: S).Pairwise R := by
  obtain ⟨p1, p2, p3⟩ := List.pairwise_append.1 h
  refine List.pairwise_append.2 ⟨p1, List.pairwise_cons.2 ⟨h2, p2⟩, fun a ha c hc => ?_⟩
  rcases List.mem_cons.1 hc with rfl | hc
  · rcases h1 with rfl | ⟨P', y, rfl, hy⟩
    · cases ha
    · rcases List.mem_append.1 ha with ha | ha
      · have := (List.pairwise_append.1 p1).2.2 a ha y (by simp)
        exact tr this hy
      · rw [List.mem_singleton.1 ha]; exact hy
  · exact p3 a ha c hc
theorem ins_s {sc : List Int} {w : List Nat} (Pk : PkOk xs) (E : Env g H0 vb b b1 b2 ls sl xs sc n n1 n2 n3 n4 n5 n6 n7 n8 n9 n10 n11 n12 n13 n14 n15 n16 n17 n18 n19 n20 n21 n22 n23 n24 n25 n26) (K : Keep H0 h) (N : NewN H0 l) (B : Buf h l 1 3 (iV w)) (hw : w.length ≤ 20) (hlt : ∀ a ∈ w, a < sc.length) (rise : w.Pairwise (· < ·))
    (hQ : ∀ h' w', Keep H0 h' → Buf h' l 1 3 (iV w') → w'.Perm w → w'.Pairwise (bef (decide (n7 ≤ ((tabsI xs 0).length : Int))) (fun k => sc[k]?.getD 0)) → Q (.tuple ⟨[]⟩) h') : F86.T l 0 (w.length : Int) b 0 b1 0 b2 0 h Q := by
  generalize hst : decide (n7 ≤ ((tabsI xs 0).length : Int)) = st at hQ
  unfold F86.T F86.G
  rw [show IntKind.wrap .i64 ((0 : Int) + 1) = 1 from rfl]
  rcases w with _ | ⟨m0, M0⟩
  · refine ⟨fun n g => n = 1 ∧ g = h, fun _ _ => 0, ⟨rfl, rfl⟩, ?_⟩
    rintro n g' ⟨rfl, rfl⟩
    exact ⟨fun hlt => absurd hlt (by simp), fun _ => hQ g' [] K B (List.Perm.refl _) List.Pairwise.nil⟩
  simp only [List.length_cons] at hw
  refine ⟨fun n h1 => ∃ D R, Keep H0 h1 ∧ Buf h1 l 1 3 (iV (D ++ R)) ∧ (D ++ R).Perm (m0 :: M0) ∧ D.Pairwise (bef st (fun k => sc[k]?.getD 0)) ∧ R.Pairwise (· < ·) ∧ (∀ d ∈ D, ∀ r ∈ R, d < r) ∧ n = (D.length : Int) ∧ D.length + R.length = M0.length + 1, fun n _ => ((M0.length + 1 : Nat) - n).toNat, ⟨[m0], M0, K, B, List.Perm.refl _, List.pairwise_singleton _ _, (List.pairwise_cons.1 rise).2, fun d hd r hr => by rw [List.mem_singleton.1 hd]; exact (List.pairwise_cons.1 rise).1 r hr, rfl, by simp; omega⟩, ?_⟩
  rintro n h1 ⟨D, R, K1, B1, hp, hs, hR, hDR, rfl, hlen⟩
  refine ⟨fun hlt1 => ?_, fun hge => ?_⟩
  · rcases R with _ | ⟨x, R⟩
    · simp at hlt1 hlen; omega
    simp only [List.length_cons] at hlen
    rw [wr64 (x := (D.length : Int) + 1) (by omega) (by omega)]
    have hxm : x ∈ m0 :: M0 := hp.subset (by simp)
    obtain ⟨r1, r2⟩ := List.pairwise_cons.1 hR
    have out : ∀ {h2 : Hp} {P S' : List Nat}, Keep H0 h2 → Buf h2 l 1 3 (iV (P ++ x :: (S' ++ R))) → P ++ S' = D → (P ++ x :: S').Pairwise (bef st (fun k => sc[k]?.getD 0)) → (∃ D_1 R, Keep H0 h2 ∧ Buf h2 l 1 3 (iV (D_1 ++ R)) ∧ (D_1 ++ R).Perm (m0 :: M0) ∧ D_1.Pairwise (bef st (fun k => sc[k]?.getD 0)) ∧ R.Pairwise (· < ·) ∧ (∀ d ∈ D_1, ∀ r ∈ R, d < r) ∧ ((D.length : Int) + 1) = (D_1.length : Int) ∧ D_1.length + R.length = M0.length + 1) := by
      intro h2 P S' K2 B2 hD hpw
      refine ⟨P ++ x :: S', R, K2, by simpa using B2, ?_, hpw, r2, fun d hd r hr => ?_, by rw [← hD]; simp; omega, by rw [← hD] at hlen; simp at hlen ⊢; omega⟩
      · refine List.Perm.trans ?_ hp
        rw [← hD]
        have e1 : (P ++ x :: S' ++ R) = P ++ ([x] ++ S' ++ R) := by simp
        have e2 : (P ++ S' ++ x :: R) = P ++ (S' ++ [x] ++ R) := by simp
        rw [e1, e2]
        exact ((List.perm_append_comm (l₁ := [x]) (l₂ := S')).append_right R).append_left P
      · rcases List.mem_append.1 hd with hd | hd
        · exact hDR d (by rw [← hD]; simp [hd]) r (List.mem_cons_of_mem _ hr)
        · rcases List.mem_cons.1 hd with rfl | hd
          · exact r1 r hr
          · exact hDR d (by rw [← hD]; simp [hd]) r (List.mem_cons_of_mem _ hr)
    refine ⟨fun n3 h2 => ∃ P S', Keep H0 h2 ∧ Buf h2 l 1 3 (iV (P ++ x :: (S' ++ R))) ∧ P ++ S' = D ∧ (∀ s ∈ S', bef st (fun k => sc[k]?.getD 0) x s) ∧ n3 = (P.length : Int), fun n3 _ => n3.toNat, ⟨D, [], K1, B1, by simp, fun s hs => (by cases hs), rfl⟩, ?_⟩
    rintro n3 h2 ⟨P, S', K2, B2, hD, hb, rfl⟩
    have hDl : P.length + S'.length = D.length := by rw [← hD]; simp
    refine ⟨fun hlt2 => ?_, fun hge2 => ?_⟩
    · have hP : P ≠ [] := fun e => by subst e; simp at hlt2
      obtain ⟨P', y, rfl⟩ := snoc_of hP
      have hyD : y ∈ D := by rw [← hD]; simp
      have hym : y ∈ m0 :: M0 := hp.subset (by simp [hyD])
      have hyx : y < x := hDR y hyD x (by simp)
      simp only [List.length_append, List.length_singleton] at hDl hlt2
      have hi1 : (((P' ++ [y]).length : Nat) : Int) = (P'.length : Int) + 1 := by simp
      have hw1 : IntKind.wrap .i64 ((((P' ++ [y]).length : Nat) : Int) - 1) = (P'.length : Int) := by rw [hi1, wr64 (by omega) (by omega)]; omega
      rw [hw1]
      obtain ⟨ba, a1, a2, a3, a4, a5⟩ := ib_rd B2 (P := P' ++ [y]) (a := x) (R := S' ++ R) rfl
      obtain ⟨bb, c1, c2, c3, c4, c5⟩ := ib_rd B2 (P := P') (a := y) (R := x :: (S' ++ R)) (by simp)
      have hbb : bb = ba := by rw [a1] at c1; simp only [Option.some.injEq, Addr.mk.injEq, and_true] at c1; exact c1.symm
      subst hbb
      refine ⟨_, 0, a1, a2, _, a3, _, 0, c1, c2, _, c3, ?_⟩
      refine cmp56_s Pk (E.keep K2) (hlt x hxm) (hlt y hym) fun h3 c K3 hc => ⟨c, rfl, fun hneg => ?_, fun hpos => ?_⟩
      · rw [hst] at hc
        have hl := hc.1 hneg
        have B3 := B2.keep K3
        have K03 := K2.trans K3
        obtain ⟨bd, d1, d2, d3, d4, d5⟩ := ib_rd B3 (P := P') (a := y) (R := x :: (S' ++ R)) (by simp)
        have hbd : bd = bb := by rw [a1] at d1; simp only [Option.some.injEq, Addr.mk.injEq, and_true] at d1; exact d1.symm
        subst hbd
        obtain ⟨be, e1, e2, e3, e4, e5⟩ := ib_rd B3 (P := P' ++ [y]) (a := x) (R := S' ++ R) rfl
        have hbe : be = bd := by rw [a1] at e1; simp only [Option.some.injEq, Addr.mk.injEq, and_true] at e1; exact e1.symm
        subst hbe
        obtain ⟨U4, B4⟩ := e5 y
        obtain ⟨K04, _⟩ := NewN.upd K03 N U4
        obtain ⟨bf, f1, f2, f3, f4, f5⟩ := ib_rd B4 (P := P') (a := y) (R := y :: (S' ++ R)) (by simp)
        have hbf : bf = be := by rw [a1] at f1; simp only [Option.some.injEq, Addr.mk.injEq, and_true] at f1; exact f1.symm
        subst hbf
        obtain ⟨U5, B5⟩ := f5 x
        obtain ⟨K05, _⟩ := NewN.upd K04 N U5
        refine ⟨_, 0, d1, d2, _, d3, _, 0, e1, e2, _, e3, _, 0, e1, e2, e4, _, 0, f1, f2, f4, ?_⟩
        refine ⟨⟨P', y :: S', K05, by simpa using B5, by rw [← hD]; simp, fun s hs => ?_, rfl⟩, by rw [hi1]; dsimp only; omega⟩
        rcases List.mem_cons.1 hs with rfl | hs
        · exact lessC_bef hl
        · exact hb s hs
      · rw [hst] at hc
        have hnl : ¬ lessC st (fun k => sc[k]?.getD 0) x y := fun h => hpos (hc.2 h)
        refine ⟨out (K2.trans K3) (B2.keep K3) hD (pw_ins (R := bef st (fun k => sc[k]?.getD 0)) bef_trans (by rw [hD]; exact hs) (.inr ⟨P', y, rfl, not_less_bef hyx hnl⟩) hb), by dsimp only; omega⟩
    · have hP : P = [] := List.eq_nil_of_length_eq_zero (by omega)
      subst hP
      exact ⟨out K2 B2 hD (pw_ins (R := bef st (fun k => sc[k]?.getD 0)) bef_trans (by rw [hD]; exact hs) (.inl rfl) hb), by dsimp only; omega⟩
  · have hR0 : R = [] := by
      have : R.length = 0 := by simp only [List.length_cons] at hge; omega
      exact List.eq_nil_of_length_eq_zero this
    subst hR0
    rw [List.append_nil] at hp B1
    exact hQ h1 D K1 B1 hp hs
theorem order_s (V : Ver g h vb ls xs) (P : PkOk xs) (O : CfOk n5 n7 n8 n9 n10 n12) (h8 : n8 = (xs.length : Int)) (hQ : ∀ h' r o, Keep h h' → Buf h' r 1 3 (iV o) → NewN h r → IsOrder (xs.length - 1) (decide (n7 ≤ ((tabsI xs 0).length : Int))) (scoreM n5 n9 n10 xs) o → Q (.slice r.a r.n r.c) h') : F25.T n n1 n2 n3 n4 n5 n6 n7 n8 n9 n10 n11 n12 n13 n14 n15 n16 n17 n18 n19 n20 n21 n22 n23 n24 n25 n26 (some ⟨vb, 0, none⟩) h Q := by
  have hx := P.len
  unfold F25.T F25.G
  intro b hb b1 hb1
  have K0 := Keep.new hb (.cells ⟨[.int .i64 n, .int .i64 n1, .int .i64 n2, .int .i64 n3, .int .i64 n4, .int .i64 n5, .int .i64 n6, .int .i64 n7, .int .i64 n8, .int .i64 n9, .int .i64 n10, .int .i64 n11, .int .i64 n12, .int .i64 n13, .int .i64 n14, .int .i64 n15, .int .i64 n16, .int .i64 n17, .int .i64 n18, .int .i64 n19, .int .i64 n20, .int .i64 n21, .int .i64 n22, .int .i64 n23, .int .i64 n24, .int .i64 n25, .int .i64 n26]⟩ 58 (0, 0))
  have x0 := new_at h b (.cells ⟨[.int .i64 n, .int .i64 n1, .int .i64 n2, .int .i64 n3, .int .i64 n4, .int .i64 n5, .int .i64 n6, .int .i64 n7, .int .i64 n8, .int .i64 n9, .int .i64 n10, .int .i64 n11, .int .i64 n12, .int .i64 n13, .int .i64 n14, .int .i64 n15, .int .i64 n16, .int .i64 n17, .int .i64 n18, .int .i64 n19, .int .i64 n20, .int .i64 n21, .int .i64 n22, .int .i64 n23, .int .i64 n24, .int .i64 n25, .int .i64 n26]⟩ 58 (0, 0))
  generalize h.new b (.cells ⟨[.int .i64 n, .int .i64 n1, .int .i64 n2, .int .i64 n3, .int .i64 n4, .int .i64 n5, .int .i64 n6, .int .i64 n7, .int .i64 n8, .int .i64 n9, .int .i64 n10, .int .i64 n11, .int .i64 n12, .int .i64 n13, .int .i64 n14, .int .i64 n15, .int .i64 n16, .int .i64 n17, .int .i64 n18, .int .i64 n19, .int .i64 n20, .int .i64 n21, .int .i64 n22, .int .i64 n23, .int .i64 n24, .int .i64 n25, .int .i64 n26]⟩ 58 (0, 0)) = k0 at K0 x0 hb1 ⊢
  have K1 := Keep.new hb1 (.cells ⟨[.pointer (some ⟨vb, 0, none⟩)]⟩ 31 (0, 0))
  have x1 := new_at k0 b1 (.cells ⟨[.pointer (some ⟨vb, 0, none⟩)]⟩ 31 (0, 0))
  generalize k0.new b1 (.cells ⟨[.pointer (some ⟨vb, 0, none⟩)]⟩ 31 (0, 0)) = k1 at K1 x1 ⊢
  have y0 := K1 _ _ x0
  have K01 := K0.trans K1
  refine cfg_rd y0 ⟨some ⟨vb, 0, none⟩, at_of x1 0, ?_⟩
  refine scores_s (V.keep K01) P O h8 fun h1 l K2 B2 N2 => ⟨l, rfl, fun b2 hb2 => ?_⟩
  rw [new_wr]
  have x3 := new_at h1 b2 (.cells ⟨[.slice none 0 0]⟩ 64 (0, 0))
  refine ⟨canW_new x3 (by simp), l, ?_⟩
  have e3 : (setL (⟨[.slice none 0 0]⟩ : Array Value).toList 0 [.slice l.a l.n l.c]).toArray = ⟨[.slice l.a l.n l.c]⟩ := rfl
  rw [e3]
  have K3 := Keep.new hb2 (.cells ⟨[.slice l.a l.n l.c]⟩ 64 (0, 0))
  have x4 := new_at h1 b2 (.cells ⟨[.slice l.a l.n l.c]⟩ 64 (0, 0))
  generalize h1.new b2 (.cells ⟨[.slice l.a l.n l.c]⟩ 64 (0, 0)) = H0 at K3 x4 ⊢
  clear x3 e3
  refine ⟨at_of x4 0, ?_⟩
  have K03 := K01.trans (K2.trans K3)
  have E : Env g H0 vb b b1 b2 ls l xs ((List.range (xs.length - 1)).map (scoreM n5 n9 n10 xs)) n n1 n2 n3 n4 n5 n6 n7 n8 n9 n10 n11 n12 n13 n14 n15 n16 n17 n18 n19 n20 n21 n22 n23 n24 n25 n26 := ⟨V.keep K03, (K2.trans K3) _ _ y0, (K2.trans K3) _ _ x1, x4, B2.keep K3⟩
  have hscl : ((List.range (xs.length - 1)).map (scoreM n5 n9 n10 xs)).length = xs.length - 1 := by simp
  have hln : l.n = xs.length - 1 := by have := B2.len; rw [nV3_len, hscl] at this; omega
  have hsc : ∀ i, i < xs.length - 1 → ((List.range (xs.length - 1)).map (scoreM n5 n9 n10 xs))[i]?.getD 0 = scoreM n5 n9 n10 xs i := fun i hi => by
    rw [List.getElem?_map, List.getElem?_range hi]; rfl
  generalize hst : decide (n7 ≤ ((tabsI xs 0).length : Int)) = st at hQ
  refine ⟨fun l2 n h2 => ∃ (k : Nat) (w : List Nat), n = (k : Int) ∧ k ≤ xs.length - 1 ∧ Keep H0 h2 ∧ NewN H0 l2 ∧ Buf h2 l2 1 3 (iV w) ∧ w.Pairwise (· < ·) ∧ ∀ i, i ∈ w ↔ i < k ∧ want st (scoreM n5 n9 n10 xs) i, fun _ n _ => xs.length - n.toNat, ⟨0, [], rfl, Nat.zero_le _, Keep.refl _, NewN.nil _, Buf.nil _ _ _, List.Pairwise.nil, fun i => ⟨fun hi => (by cases hi), fun hi => (by omega)⟩⟩, ?_⟩
  rintro l2 n h2 ⟨k, w, rfl, hk, Kh, Nh, Bh, hpw, hmem⟩
  have hwl : w.length ≤ k := by
    have : w.Nodup := hpw.imp fun h => Nat.ne_of_lt h
    have h2 := List.Nodup.length_le_of_subset this (l₂ := List.range k) (fun i hi => List.mem_range.2 ((hmem i).1 hi).1)
    rwa [List.length_range] at h2
  have hl2 : l2.n = w.length := by have := Bh.len; rw [iV_len] at this; omega
  refine ⟨fun hlt => ?_, fun hge => ?_⟩
  · have hk1 : k < xs.length - 1 := by omega
    obtain ⟨b3, a1, a2, a3⟩ := sc_rd (E.keep Kh).r (i := k) (by rw [hscl]; exact hk1)
    rw [hsc k hk1] at a3
    rw [next_i (n := 100) (by omega) (by omega)]
    have add : want st (scoreM n5 n9 n10 xs) k → ∀ {h3 : Hp} {l3 : Sl}, Keep H0 h3 → NewN H0 l3 → Buf h3 l3 1 3 (iV w ++ [.int .i64 (k : Int)]) → (∃ (k_1 : Nat) (w : List Nat), ((k + 1 : Nat) : Int) = (k_1 : Int) ∧ k_1 ≤ xs.length - 1 ∧ Keep H0 h3 ∧ NewN H0 l3 ∧ Buf h3 l3 1 3 (iV w) ∧ w.Pairwise (· < ·) ∧ ∀ i, i ∈ w ↔ i < k_1 ∧ want st (scoreM n5 n9 n10 xs) i) := fun hw {h3} {l3} K3 N3 B3 => by
      refine ⟨k + 1, w ++ [k], rfl, by omega, K3, N3, by unfold iV at B3 ⊢; rw [List.map_append]; exact B3, ?_, fun i => ?_⟩
      · refine List.pairwise_append.2 ⟨hpw, List.pairwise_singleton _ _, fun x hx y hy => ?_⟩
        rw [List.mem_singleton.1 hy]; exact ((hmem x).1 hx).1
      · rw [List.mem_append, List.mem_singleton, hmem]
        constructor
        · rintro (⟨h, h'⟩ | rfl)
          · exact ⟨by omega, h'⟩
          · exact ⟨by omega, hw⟩
        · rintro ⟨h, h'⟩
          by_cases hik : i = k
          · exact .inr hik
          · exact .inl ⟨by omega, h'⟩
    have skip : ¬ want st (scoreM n5 n9 n10 xs) k → ∀ {h3 : Hp}, Keep h2 h3 → (∃ (k_1 : Nat) (w : List Nat), ((k + 1 : Nat) : Int) = (k_1 : Int) ∧ k_1 ≤ xs.length - 1 ∧ Keep H0 h3 ∧ NewN H0 l2 ∧ Buf h3 l2 1 3 (iV w) ∧ w.Pairwise (· < ·) ∧ ∀ i, i ∈ w ↔ i < k_1 ∧ want st (scoreM n5 n9 n10 xs) i) := fun hw {h3} K3 => by
      refine ⟨k + 1, w, rfl, by omega, Kh.trans K3, Nh, Bh.keep K3, hpw, fun i => ?_⟩
      rw [hmem]
      constructor
      · rintro ⟨h, h'⟩; exact ⟨by omega, h'⟩
      · rintro ⟨h, h'⟩
        have hik : i ≠ k := by rintro rfl; exact hw h'
        exact ⟨by omega, h'⟩
    refine ⟨b3, 0, a1, a2, _, a3, fun hw => ?_, fun hw => ⟨fun h0 => ?_, fun h0 => ⟨skip (fun hh => hh.elim hw fun hh => h0 (by omega)) (Keep.refl _), by dsimp only; omega⟩⟩⟩
    · refine append_buf (us := [.int .i64 (k : Int)]) Bh rfl rfl (by omega) fun l3 h3 B3 _ U3 => ?_
      obtain ⟨K4, N4⟩ := NewN.upd Kh Nh U3
      exact ⟨add (.inl hw) K4 N4 B3, by dsimp only; omega⟩
    · refine cfg_rd (E.keep Kh).c ⟨some ⟨vb, 0, none⟩, at_of (E.keep Kh).p 0, ?_⟩
      refine stopped_s (E.keep Kh).V P fun h3 K4 => ⟨_, rfl, fun hs => ?_, fun hs => ?_⟩
      · rw [hst] at hs
        refine append_buf (us := [.int .i64 (k : Int)]) (Bh.keep K4) rfl rfl (by omega) fun l3 h5 B5 _ U5 => ?_
        obtain ⟨K5, N5⟩ := NewN.upd (Kh.trans K4) Nh U5
        exact ⟨add (.inr ⟨by omega, hs⟩) K5 N5 B5, by dsimp only; omega⟩
      · rw [hst] at hs
        exact ⟨skip (fun hh => hh.elim hw fun hh => by rw [hh.2] at hs; cases hs) K4, by dsimp only; omega⟩
  · have hk2 : k = xs.length - 1 := by omega
    subst hk2
    unfold F55.T F78.T F55.G F78.G
    rw [hl2]
    refine ⟨fun a c h3 => a = 0 ∧ c = 20 ∧ h3 = h2, fun _ _ _ => 0, ⟨rfl, rfl, rfl⟩, ?_⟩
    rintro a c h3 ⟨rfl, rfl, rfl⟩
    refine ⟨fun hle => absurd hle (by omega), fun _ => ?_⟩
    refine ins_s P E Kh Nh Bh (by omega) (fun i hi => by rw [hscl]; exact ((hmem i).1 hi).1) hpw fun h4 w' K4 B4 hperm hpw' => ?_
    refine ⟨fun a h5 => a = 20 ∧ h5 = h4, fun _ _ => 0, ⟨rfl, rfl⟩, ?_⟩
    rintro a h5 ⟨rfl, rfl⟩
    refine ⟨fun hlt => absurd hlt (by omega), fun _ => ?_⟩
    rw [hst] at hpw'
    show Q (.slice l2.a w.length l2.c) h5
    rw [← hl2]
    refine hQ h5 l2 w' (K03.trans K4) B4 (Nh.mono K03.dom) ⟨?_, fun i => ?_, ?_⟩
    · exact (hperm.nodup_iff).2 (hpw.imp fun h => Nat.ne_of_lt h)
    · rw [hperm.mem_iff, hmem]
    · refine hpw'.imp_of_mem fun {x y} hx hy hb => ?_
      have hx' := ((hmem x).1 (hperm.mem_iff.1 hx)).1
      have hy' := ((hmem y).1 (hperm.mem_iff.1 hy)).1
      unfold bef at hb ⊢
      dsimp only at hb
      rw [hsc x hx', hsc y hy'] at hb
      exact hb
end
end Go.Eng.Ytbjnlacacapjiaa
end
