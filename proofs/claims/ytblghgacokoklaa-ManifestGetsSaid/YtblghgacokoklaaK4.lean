/-
  TEXTS OF MINE, JOINED: M1 M4 S23 M5 S24 M6 M7.
-/
import Derived.Test.YtblghgacokoklaaK2
import Derived.Test.YtblghgacokoklaaK1
import Derived.Test.YtblghgacokoklaaProg
import Derived.Test.YtblghgacokoklaaK3
section
set_option maxRecDepth 100000
set_option linter.unusedVariables false
open Go.Proofs
namespace Go.Eng.Ytblghgacokoklaa
def F95.T (p : Option Addr) (s : ByteArray) : PT := fun h Q =>
  F66.T p (IntKind.wrap .i64 (1 + (s.size : Int))) h fun r h1 => ∃ b : Bool, r = .bool b ∧ parB b (Q (.tuple ⟨[]⟩) h1) (Q (.tuple ⟨[]⟩) h1)
theorem F95.gen (V : Value → List Value → PT) (T66 : Option Addr → Int → PT) (p : Option Addr) (s : ByteArray) : denF Try.prog [] [(66, F66.W T66)] V [] Try.f95 [.v (.pointer p), .v (.string s)] = fun h Q =>
  T66 p (IntKind.wrap .i64 (1 + (s.size : Int))) h fun r h1 => ∃ b : Bool, r = .bool b ∧ parB b (Q (.tuple ⟨[]⟩) h1) (Q (.tuple ⟨[]⟩) h1) := by kernel_rfl
theorem F95.den (V : Value → List Value → PT) (p : Option Addr) (s : ByteArray) : denF Try.prog [] [(66, F66.V)] V [] Try.f95 [.v (.pointer p), .v (.string s)] = F95.T p s := F95.gen V F66.T p s
def F95.W (T95 : Option Addr → ByteArray → PT) (args : List Value) : PT := match args with
  | [.pointer p, .string s] => T95 p s
  | _ => fun _ _ => False
def F95.V : List Value → PT := F95.W F95.T
theorem F95.ok : FOk Try.prog 95 F95.V := by
  refine ⟨⟨_, Try.func95, rfl, rfl⟩, fun args => ?_⟩
  have hG : GOk Try.prog [(66, F66.V)] := GOk.cons F66.ok (GOk.nil)
  have hV : VOk Try.prog noV := noV_ok
  unfold F95.V F95.W
  split
  · exact denF_okV hG hV Try.func95 (fun h Q hq => (F95.den _ _ _) ▸ hq)
  · exact fun h Q hq => hq.elim
def F79.T (p : Option Addr) (n : Int) (n1 : Int) (n2 : Int) (l : Sl) (l1 : Sl) (l2 : Sl) : PT := fun h Q =>
  F66.T p (IntKind.wrap .i64 (1 + (l.n : Int))) h fun r h1 => ∃ b : Bool, r = .bool b ∧ parB b (∃ J : Hp → Prop, (∀ h2 : Hp, J h2 → ∃ (I : Int → Hp → Prop) (m : Int → Hp → Nat), I 0 h2 ∧ (∀ n3 : Int, ∀ h3 : Hp, I n3 h3 → par (n3 < (l2.n : Int)) (F28.T p h3 fun r1 h4 => ∃ b1 : Bool, r1 = .bool b1 ∧ parB b1 (∃ b2 o, (l2.a : Option Addr) = some ⟨b2, o, none⟩ ∧ ((0 : Int) ≤ n3 ∧ n3 < (l2.n : Int)) ∧ ∃ s : ByteArray, h4.at b2 (o + n3.toNat) = some (.string s) ∧ F95.T p s h4 fun r2 h5 => I (IntKind.wrap .i64 (n3 + 1)) h5 ∧ m (IntKind.wrap .i64 (n3 + 1)) h5 < m n3 h3) (Q (.tuple ⟨[]⟩) h4)) (Q (.tuple ⟨[]⟩) h3))) ∧ (∃ (I1 : Int → Hp → Prop) (m1 : Int → Hp → Nat), I1 0 h1 ∧ (∀ n4 : Int, ∀ h6 : Hp, I1 n4 h6 → par (n4 < (l1.n : Int)) (F28.T p h6 fun r3 h7 => ∃ b3 : Bool, r3 = .bool b3 ∧ parB b3 (∃ b4 o1, (l1.a : Option Addr) = some ⟨b4, o1, none⟩ ∧ ((0 : Int) ≤ n4 ∧ n4 < (l1.n : Int)) ∧ ∃ s1 : ByteArray, h7.at b4 (((o1 + n4.toNat * 7) + 1) + 4) = some (.string s1) ∧ F95.T p s1 h7 fun r4 h8 => ∃ b5 o2, (l1.a : Option Addr) = some ⟨b5, o2, none⟩ ∧ ((0 : Int) ≤ n4 ∧ n4 < (l1.n : Int)) ∧ ∃ s2 : ByteArray, h8.at b5 (((o2 + n4.toNat * 7) + 1) + 5) = some (.string s2) ∧ F66.T p (s2.size : Int) h8 fun r5 h9 => ∃ b6 : Bool, r5 = .bool b6 ∧ parB b6 (I1 (IntKind.wrap .i64 (n4 + 1)) h9 ∧ m1 (IntKind.wrap .i64 (n4 + 1)) h9 < m1 n4 h6) (I1 (IntKind.wrap .i64 (n4 + 1)) h9 ∧ m1 (IntKind.wrap .i64 (n4 + 1)) h9 < m1 n4 h6)) (J h7)) (J h6)))) (∃ J1 : Hp → Prop, (∀ h10 : Hp, J1 h10 → ∃ (I2 : Int → Hp → Prop) (m2 : Int → Hp → Nat), I2 0 h10 ∧ (∀ n5 : Int, ∀ h11 : Hp, I2 n5 h11 → par (n5 < (l2.n : Int)) (F28.T p h11 fun r6 h12 => ∃ b7 : Bool, r6 = .bool b7 ∧ parB b7 (∃ b8 o3, (l2.a : Option Addr) = some ⟨b8, o3, none⟩ ∧ ((0 : Int) ≤ n5 ∧ n5 < (l2.n : Int)) ∧ ∃ s3 : ByteArray, h12.at b8 (o3 + n5.toNat) = some (.string s3) ∧ F95.T p s3 h12 fun r7 h13 => I2 (IntKind.wrap .i64 (n5 + 1)) h13 ∧ m2 (IntKind.wrap .i64 (n5 + 1)) h13 < m2 n5 h11) (Q (.tuple ⟨[]⟩) h12)) (Q (.tuple ⟨[]⟩) h11))) ∧ (∃ (I3 : Int → Hp → Prop) (m3 : Int → Hp → Nat), I3 0 h1 ∧ (∀ n6 : Int, ∀ h14 : Hp, I3 n6 h14 → par (n6 < (l1.n : Int)) (F28.T p h14 fun r8 h15 => ∃ b9 : Bool, r8 = .bool b9 ∧ parB b9 (∃ b10 o4, (l1.a : Option Addr) = some ⟨b10, o4, none⟩ ∧ ((0 : Int) ≤ n6 ∧ n6 < (l1.n : Int)) ∧ ∃ s4 : ByteArray, h15.at b10 (((o4 + n6.toNat * 7) + 1) + 4) = some (.string s4) ∧ F95.T p s4 h15 fun r9 h16 => ∃ b11 o5, (l1.a : Option Addr) = some ⟨b11, o5, none⟩ ∧ ((0 : Int) ≤ n6 ∧ n6 < (l1.n : Int)) ∧ ∃ s5 : ByteArray, h16.at b11 (((o5 + n6.toNat * 7) + 1) + 5) = some (.string s5) ∧ F66.T p (s5.size : Int) h16 fun r10 h17 => ∃ b12 : Bool, r10 = .bool b12 ∧ parB b12 (I3 (IntKind.wrap .i64 (n6 + 1)) h17 ∧ m3 (IntKind.wrap .i64 (n6 + 1)) h17 < m3 n6 h14) (I3 (IntKind.wrap .i64 (n6 + 1)) h17 ∧ m3 (IntKind.wrap .i64 (n6 + 1)) h17 < m3 n6 h14)) (J1 h15)) (J1 h14))))
theorem F79.gen (V : Value → List Value → PT) (T28 : Option Addr → PT) (T66 : Option Addr → Int → PT) (T95 : Option Addr → ByteArray → PT) (p : Option Addr) (n : Int) (n1 : Int) (n2 : Int) (l : Sl) (l1 : Sl) (l2 : Sl) : denF Try.prog [3] [(28, F28.W T28), (66, F66.W T66), (95, F95.W T95)] V [(7, .join [] []), (58, .loop [(4, .int .i64)] []), (62, .loop [(5, .int .i64)] [])] Try.f79 [.v (.pointer p), .v (.agg ⟨[.int .u64 n, .int .u64 n1, .int .u64 n2, .slice l.a l.n l.c, .slice l1.a l1.n l1.c, .slice l2.a l2.n l2.c]⟩)] = fun h Q =>
  T66 p (IntKind.wrap .i64 (1 + (l.n : Int))) h fun r h1 => ∃ b : Bool, r = .bool b ∧ parB b (∃ J : Hp → Prop, (∀ h2 : Hp, J h2 → ∃ (I : Int → Hp → Prop) (m : Int → Hp → Nat), I 0 h2 ∧ (∀ n3 : Int, ∀ h3 : Hp, I n3 h3 → par (n3 < (l2.n : Int)) (T28 p h3 fun r1 h4 => ∃ b1 : Bool, r1 = .bool b1 ∧ parB b1 (∃ b2 o, (l2.a : Option Addr) = some ⟨b2, o, none⟩ ∧ ((0 : Int) ≤ n3 ∧ n3 < (l2.n : Int)) ∧ ∃ s : ByteArray, h4.at b2 (o + n3.toNat) = some (.string s) ∧ T95 p s h4 fun r2 h5 => I (IntKind.wrap .i64 (n3 + 1)) h5 ∧ m (IntKind.wrap .i64 (n3 + 1)) h5 < m n3 h3) (Q (.tuple ⟨[]⟩) h4)) (Q (.tuple ⟨[]⟩) h3))) ∧ (∃ (I1 : Int → Hp → Prop) (m1 : Int → Hp → Nat), I1 0 h1 ∧ (∀ n4 : Int, ∀ h6 : Hp, I1 n4 h6 → par (n4 < (l1.n : Int)) (T28 p h6 fun r3 h7 => ∃ b3 : Bool, r3 = .bool b3 ∧ parB b3 (∃ b4 o1, (l1.a : Option Addr) = some ⟨b4, o1, none⟩ ∧ ((0 : Int) ≤ n4 ∧ n4 < (l1.n : Int)) ∧ ∃ s1 : ByteArray, h7.at b4 (((o1 + n4.toNat * 7) + 1) + 4) = some (.string s1) ∧ T95 p s1 h7 fun r4 h8 => ∃ b5 o2, (l1.a : Option Addr) = some ⟨b5, o2, none⟩ ∧ ((0 : Int) ≤ n4 ∧ n4 < (l1.n : Int)) ∧ ∃ s2 : ByteArray, h8.at b5 (((o2 + n4.toNat * 7) + 1) + 5) = some (.string s2) ∧ T66 p (s2.size : Int) h8 fun r5 h9 => ∃ b6 : Bool, r5 = .bool b6 ∧ parB b6 (I1 (IntKind.wrap .i64 (n4 + 1)) h9 ∧ m1 (IntKind.wrap .i64 (n4 + 1)) h9 < m1 n4 h6) (I1 (IntKind.wrap .i64 (n4 + 1)) h9 ∧ m1 (IntKind.wrap .i64 (n4 + 1)) h9 < m1 n4 h6)) (J h7)) (J h6)))) (∃ J1 : Hp → Prop, (∀ h10 : Hp, J1 h10 → ∃ (I2 : Int → Hp → Prop) (m2 : Int → Hp → Nat), I2 0 h10 ∧ (∀ n5 : Int, ∀ h11 : Hp, I2 n5 h11 → par (n5 < (l2.n : Int)) (T28 p h11 fun r6 h12 => ∃ b7 : Bool, r6 = .bool b7 ∧ parB b7 (∃ b8 o3, (l2.a : Option Addr) = some ⟨b8, o3, none⟩ ∧ ((0 : Int) ≤ n5 ∧ n5 < (l2.n : Int)) ∧ ∃ s3 : ByteArray, h12.at b8 (o3 + n5.toNat) = some (.string s3) ∧ T95 p s3 h12 fun r7 h13 => I2 (IntKind.wrap .i64 (n5 + 1)) h13 ∧ m2 (IntKind.wrap .i64 (n5 + 1)) h13 < m2 n5 h11) (Q (.tuple ⟨[]⟩) h12)) (Q (.tuple ⟨[]⟩) h11))) ∧ (∃ (I3 : Int → Hp → Prop) (m3 : Int → Hp → Nat), I3 0 h1 ∧ (∀ n6 : Int, ∀ h14 : Hp, I3 n6 h14 → par (n6 < (l1.n : Int)) (T28 p h14 fun r8 h15 => ∃ b9 : Bool, r8 = .bool b9 ∧ parB b9 (∃ b10 o4, (l1.a : Option Addr) = some ⟨b10, o4, none⟩ ∧ ((0 : Int) ≤ n6 ∧ n6 < (l1.n : Int)) ∧ ∃ s4 : ByteArray, h15.at b10 (((o4 + n6.toNat * 7) + 1) + 4) = some (.string s4) ∧ T95 p s4 h15 fun r9 h16 => ∃ b11 o5, (l1.a : Option Addr) = some ⟨b11, o5, none⟩ ∧ ((0 : Int) ≤ n6 ∧ n6 < (l1.n : Int)) ∧ ∃ s5 : ByteArray, h16.at b11 (((o5 + n6.toNat * 7) + 1) + 5) = some (.string s5) ∧ T66 p (s5.size : Int) h16 fun r10 h17 => ∃ b12 : Bool, r10 = .bool b12 ∧ parB b12 (I3 (IntKind.wrap .i64 (n6 + 1)) h17 ∧ m3 (IntKind.wrap .i64 (n6 + 1)) h17 < m3 n6 h14) (I3 (IntKind.wrap .i64 (n6 + 1)) h17 ∧ m3 (IntKind.wrap .i64 (n6 + 1)) h17 < m3 n6 h14)) (J1 h15)) (J1 h14)))) := by kernel_rfl
theorem F79.den (V : Value → List Value → PT) (p : Option Addr) (n : Int) (n1 : Int) (n2 : Int) (l : Sl) (l1 : Sl) (l2 : Sl) : denF Try.prog [3] [(28, F28.V), (66, F66.V), (95, F95.V)] V [(7, .join [] []), (58, .loop [(4, .int .i64)] []), (62, .loop [(5, .int .i64)] [])] Try.f79 [.v (.pointer p), .v (.agg ⟨[.int .u64 n, .int .u64 n1, .int .u64 n2, .slice l.a l.n l.c, .slice l1.a l1.n l1.c, .slice l2.a l2.n l2.c]⟩)] = F79.T p n n1 n2 l l1 l2 := F79.gen V F28.T F66.T F95.T p n n1 n2 l l1 l2
def F79.W (T79 : Option Addr → Int → Int → Int → Sl → Sl → Sl → PT) (args : List Value) : PT := match args with
  | [.pointer p, .agg ⟨[.int .u64 n, .int .u64 n1, .int .u64 n2, .slice l_a l_n l_c, .slice l1_a l1_n l1_c, .slice l2_a l2_n l2_c]⟩] => T79 p n n1 n2 ⟨l_a, l_n, l_c⟩ ⟨l1_a, l1_n, l1_c⟩ ⟨l2_a, l2_n, l2_c⟩
  | _ => fun _ _ => False
def F79.V : List Value → PT := F79.W F79.T
theorem F79.ok : FOk Try.prog 79 F79.V := by
  refine ⟨⟨_, Try.func79, rfl, rfl⟩, fun args => ?_⟩
  have hG : GOk Try.prog [(28, F28.V), (66, F66.V), (95, F95.V)] := GOk.cons F28.ok (GOk.cons F66.ok (GOk.cons F95.ok (GOk.nil)))
  have hV : VOk Try.prog noV := noV_ok
  unfold F79.V F79.W
  split
  · exact denF_okV hG hV Try.func79 (fun h Q hq => (F79.den _ _ _ _ _ _ _ _) ▸ hq)
  · exact fun h Q hq => hq.elim
def F48.T (p : Option Addr) (l : Sl) : PT := fun h Q =>
  ∃ (I : Int → Hp → Prop) (m : Int → Hp → Nat), I 0 h ∧ (∀ n : Int, ∀ h1 : Hp, I n h1 → par (n < (l.n : Int)) (F28.T p h1 fun r h2 => ∃ b : Bool, r = .bool b ∧ parB b (∃ b1 o, (l.a : Option Addr) = some ⟨b1, o, none⟩ ∧ ((0 : Int) ≤ n ∧ n < (l.n : Int)) ∧ ∃ n1 : Int, h2.at b1 (o + n.toNat * 6) = some (.int .u64 n1) ∧ ∃ n2 : Int, h2.at b1 ((o + n.toNat * 6) + 1) = some (.int .u64 n2) ∧ ∃ n3 : Int, h2.at b1 ((o + n.toNat * 6) + 2) = some (.int .u64 n3) ∧ ∃ l1 : Sl, h2.at b1 ((o + n.toNat * 6) + 3) = some (.slice l1.a l1.n l1.c) ∧ ∃ l2 : Sl, h2.at b1 ((o + n.toNat * 6) + 4) = some (.slice l2.a l2.n l2.c) ∧ ∃ l3 : Sl, h2.at b1 ((o + n.toNat * 6) + 5) = some (.slice l3.a l3.n l3.c) ∧ F79.T p n1 n2 n3 l1 l2 l3 h2 fun r1 h3 => I (IntKind.wrap .i64 (n + 1)) h3 ∧ m (IntKind.wrap .i64 (n + 1)) h3 < m n h1) (Q (.tuple ⟨[]⟩) h2)) (Q (.tuple ⟨[]⟩) h1))
theorem F48.gen (V : Value → List Value → PT) (T28 : Option Addr → PT) (T79 : Option Addr → Int → Int → Int → Sl → Sl → Sl → PT) (p : Option Addr) (l : Sl) : denF Try.prog [] [(28, F28.W T28), (79, F79.W T79)] V [(6, .loop [(4, .int .i64)] [])] Try.f48 [.v (.pointer p), .v (.slice l.a l.n l.c)] = fun h Q =>
  ∃ (I : Int → Hp → Prop) (m : Int → Hp → Nat), I 0 h ∧ (∀ n : Int, ∀ h1 : Hp, I n h1 → par (n < (l.n : Int)) (T28 p h1 fun r h2 => ∃ b : Bool, r = .bool b ∧ parB b (∃ b1 o, (l.a : Option Addr) = some ⟨b1, o, none⟩ ∧ ((0 : Int) ≤ n ∧ n < (l.n : Int)) ∧ ∃ n1 : Int, h2.at b1 (o + n.toNat * 6) = some (.int .u64 n1) ∧ ∃ n2 : Int, h2.at b1 ((o + n.toNat * 6) + 1) = some (.int .u64 n2) ∧ ∃ n3 : Int, h2.at b1 ((o + n.toNat * 6) + 2) = some (.int .u64 n3) ∧ ∃ l1 : Sl, h2.at b1 ((o + n.toNat * 6) + 3) = some (.slice l1.a l1.n l1.c) ∧ ∃ l2 : Sl, h2.at b1 ((o + n.toNat * 6) + 4) = some (.slice l2.a l2.n l2.c) ∧ ∃ l3 : Sl, h2.at b1 ((o + n.toNat * 6) + 5) = some (.slice l3.a l3.n l3.c) ∧ T79 p n1 n2 n3 l1 l2 l3 h2 fun r1 h3 => I (IntKind.wrap .i64 (n + 1)) h3 ∧ m (IntKind.wrap .i64 (n + 1)) h3 < m n h1) (Q (.tuple ⟨[]⟩) h2)) (Q (.tuple ⟨[]⟩) h1)) := by kernel_rfl
theorem F48.den (V : Value → List Value → PT) (p : Option Addr) (l : Sl) : denF Try.prog [] [(28, F28.V), (79, F79.V)] V [(6, .loop [(4, .int .i64)] [])] Try.f48 [.v (.pointer p), .v (.slice l.a l.n l.c)] = F48.T p l := F48.gen V F28.T F79.T p l
def F48.W (T48 : Option Addr → Sl → PT) (args : List Value) : PT := match args with
  | [.pointer p, .slice l_a l_n l_c] => T48 p ⟨l_a, l_n, l_c⟩
  | _ => fun _ _ => False
def F48.V : List Value → PT := F48.W F48.T
theorem F48.ok : FOk Try.prog 48 F48.V := by
  refine ⟨⟨_, Try.func48, rfl, rfl⟩, fun args => ?_⟩
  have hG : GOk Try.prog [(28, F28.V), (79, F79.V)] := GOk.cons F28.ok (GOk.cons F79.ok (GOk.nil))
  have hV : VOk Try.prog noV := noV_ok
  unfold F48.V F48.W
  split
  · exact denF_okV hG hV Try.func48 (fun h Q hq => (F48.den _ _ _) ▸ hq)
  · exact fun h Q hq => hq.elim
def F16.T (l : Sl) : PT := fun h Q =>
  F26.T 10000 h fun r h1 => ∃ p : Option Addr, r = .pointer p ∧ F48.T p l h1 fun r1 h2 => F28.T p h2 fun r2 h3 => ∃ b : Bool, r2 = .bool b ∧ parB b (Q (.bool true) h3) (Q (.bool false) h3)
theorem F16.gen (V : Value → List Value → PT) (T26 : Int → PT) (T28 : Option Addr → PT) (T48 : Option Addr → Sl → PT) (l : Sl) : denF Try.prog [] [(26, F26.W T26), (28, F28.W T28), (48, F48.W T48)] V [] Try.f16 [.v (.slice l.a l.n l.c)] = fun h Q =>
  T26 10000 h fun r h1 => ∃ p : Option Addr, r = .pointer p ∧ T48 p l h1 fun r1 h2 => T28 p h2 fun r2 h3 => ∃ b : Bool, r2 = .bool b ∧ parB b (Q (.bool true) h3) (Q (.bool false) h3) := by kernel_rfl
theorem F16.den (V : Value → List Value → PT) (l : Sl) : denF Try.prog [] [(26, F26.V), (28, F28.V), (48, F48.V)] V [] Try.f16 [.v (.slice l.a l.n l.c)] = F16.T l := F16.gen V F26.T F28.T F48.T l
def F16.W (T16 : Sl → PT) (args : List Value) : PT := match args with
  | [.slice l_a l_n l_c] => T16 ⟨l_a, l_n, l_c⟩
  | _ => fun _ _ => False
def F16.V : List Value → PT := F16.W F16.T
theorem F16.ok : FOk Try.prog 16 F16.V := by
  refine ⟨⟨_, Try.func16, rfl, rfl⟩, fun args => ?_⟩
  have hG : GOk Try.prog [(26, F26.V), (28, F28.V), (48, F48.V)] := GOk.cons F26.ok (GOk.cons F28.ok (GOk.cons F48.ok (GOk.nil)))
  have hV : VOk Try.prog noV := noV_ok
  unfold F16.V F16.W
  split
  · exact denF_okV hG hV Try.func16 (fun h Q hq => (F16.den _ _) ▸ hq)
  · exact fun h Q hq => hq.elim
def F19.T (n : Int) (n1 : Int) : PT := fun h Q =>
  par (n < 0) (n1 ≠ 0 ∧ Q (.int .i64 (Int.tmod (IntKind.wrap .i64 (0 - (IntKind.wrap .i64 (n + 1)))) n1)) h) (n1 ≠ 0 ∧ Q (.int .i64 (Int.tmod n n1)) h)
theorem F19.den (V : Value → List Value → PT) (n : Int) (n1 : Int) : denF Try.prog [] [] V [] Try.f19 [.v (.int .i64 n), .v (.int .i64 n1)] = F19.T n n1 := by kernel_rfl
def F19.W (T19 : Int → Int → PT) (args : List Value) : PT := match args with
  | [.int .i64 n, .int .i64 n1] => T19 n n1
  | _ => fun _ _ => False
def F19.V : List Value → PT := F19.W F19.T
theorem F19.ok : FOk Try.prog 19 F19.V := by
  refine ⟨⟨_, Try.func19, rfl, rfl⟩, fun args => ?_⟩
  have hG : GOk Try.prog [] := GOk.nil
  have hV : VOk Try.prog noV := noV_ok
  unfold F19.V F19.W
  split
  · exact denF_okV hG hV Try.func19 (fun h Q hq => (F19.den _ _ _) ▸ hq)
  · exact fun h Q hq => hq.elim
def F49.T (l : Sl) : PT := fun h Q =>
  ∃ (I : Sl → Int → Hp → Prop) (m : Sl → Int → Hp → Nat), I ⟨none, 0, 0⟩ 0 h ∧ (∀ l1 : Sl, ∀ n : Int, ∀ h1 : Hp, I l1 n h1 → par (n < (l.n : Int)) (∃ b o, (l.a : Option Addr) = some ⟨b, o, none⟩ ∧ ((0 : Int) ≤ n ∧ n < (l.n : Int)) ∧ ∃ n1 : Int, h1.at b (o + n.toNat * 6) = some (.int .u64 n1) ∧ ∃ n2 : Int, h1.at b ((o + n.toNat * 6) + 1) = some (.int .u64 n2) ∧ ∃ n3 : Int, h1.at b ((o + n.toNat * 6) + 2) = some (.int .u64 n3) ∧ ∃ l2 : Sl, h1.at b ((o + n.toNat * 6) + 3) = some (.slice l2.a l2.n l2.c) ∧ ∃ l3 : Sl, h1.at b ((o + n.toNat * 6) + 4) = some (.slice l3.a l3.n l3.c) ∧ ∃ l4 : Sl, h1.at b ((o + n.toNat * 6) + 5) = some (.slice l4.a l4.n l4.c) ∧ ∃ vs, h1.row l2.a (l2.n * 2) vs ∧ (∀ v ∈ vs, Value.oneCell' v = true) ∧ appendD ⟨none, 0, 0⟩ 89 2 16 [.int .i64 0, .int .u64 0] l2.n vs h1 fun l5 h2 => ∃ vs1, h2.row l3.a (l3.n * 7) vs1 ∧ (∀ v ∈ vs1, Value.oneCell' v = true) ∧ appendD ⟨none, 0, 0⟩ 87 7 72 [.int .i64 0, .int .u64 0, .int .i64 0, .int .i64 0, .int .i64 0, .string (ByteArray.mk #[]), .string (ByteArray.mk #[])] l3.n vs1 h2 fun l6 h3 => ∃ vs2, h3.row l4.a (l4.n * 1) vs2 ∧ (∀ v ∈ vs2, Value.oneCell' v = true) ∧ appendD ⟨none, 0, 0⟩ 9 1 16 [.string (ByteArray.mk #[])] l4.n vs2 h3 fun l7 h4 => appendD l1 60 6 96 [.int .u64 0, .int .u64 0, .int .u64 0, .slice none 0 0, .slice none 0 0, .slice none 0 0] 1 [.int .u64 n1, .int .u64 n2, .int .u64 n3, .slice l5.a l5.n l5.c, .slice l6.a l6.n l6.c, .slice l7.a l7.n l7.c] h4 fun l8 h5 => I l8 (IntKind.wrap .i64 (n + 1)) h5 ∧ m l8 (IntKind.wrap .i64 (n + 1)) h5 < m l1 n h1) (Q (.slice l1.a l1.n l1.c) h1))
theorem F49.den (V : Value → List Value → PT) (l : Sl) : denF Try.prog [5, 30] [] V [(58, .loop [(3, .sl), (4, .int .i64)] [])] Try.f49 [.v (.slice l.a l.n l.c)] = F49.T l := by kernel_rfl
def F49.W (T49 : Sl → PT) (args : List Value) : PT := match args with
  | [.slice l_a l_n l_c] => T49 ⟨l_a, l_n, l_c⟩
  | _ => fun _ _ => False
def F49.V : List Value → PT := F49.W F49.T
theorem F49.ok : FOk Try.prog 49 F49.V := by
  refine ⟨⟨_, Try.func49, rfl, rfl⟩, fun args => ?_⟩
  have hG : GOk Try.prog [] := GOk.nil
  have hV : VOk Try.prog noV := noV_ok
  unfold F49.V F49.W
  split
  · exact denF_okV hG hV Try.func49 (fun h Q hq => (F49.den _ _) ▸ hq)
  · exact fun h Q hq => hq.elim
def F12.T (l : Sl) (l1 : Sl) : PT := fun h Q =>
  par ((l.n : Int) = (l1.n : Int)) (∃ (I : Int → Hp → Prop) (m : Int → Hp → Nat), I 0 h ∧ (∀ n : Int, ∀ h1 : Hp, I n h1 → par (n < (l.n : Int)) (∃ b o, (l.a : Option Addr) = some ⟨b, o, none⟩ ∧ ((0 : Int) ≤ n ∧ n < (l.n : Int)) ∧ ∃ n1 : Int, h1.at b (o + n.toNat * 6) = some (.int .u64 n1) ∧ ∃ n2 : Int, h1.at b ((o + n.toNat * 6) + 1) = some (.int .u64 n2) ∧ ∃ n3 : Int, h1.at b ((o + n.toNat * 6) + 2) = some (.int .u64 n3) ∧ ∃ l2 : Sl, h1.at b ((o + n.toNat * 6) + 3) = some (.slice l2.a l2.n l2.c) ∧ ∃ l3 : Sl, h1.at b ((o + n.toNat * 6) + 4) = some (.slice l3.a l3.n l3.c) ∧ ∃ l4 : Sl, h1.at b ((o + n.toNat * 6) + 5) = some (.slice l4.a l4.n l4.c) ∧ ∃ b1 o1, (l1.a : Option Addr) = some ⟨b1, o1, none⟩ ∧ ((0 : Int) ≤ n ∧ n < (l1.n : Int)) ∧ ∃ n4 : Int, h1.at b1 (o1 + n.toNat * 6) = some (.int .u64 n4) ∧ ∃ n5 : Int, h1.at b1 ((o1 + n.toNat * 6) + 1) = some (.int .u64 n5) ∧ ∃ n6 : Int, h1.at b1 ((o1 + n.toNat * 6) + 2) = some (.int .u64 n6) ∧ ∃ l5 : Sl, h1.at b1 ((o1 + n.toNat * 6) + 3) = some (.slice l5.a l5.n l5.c) ∧ ∃ l6 : Sl, h1.at b1 ((o1 + n.toNat * 6) + 4) = some (.slice l6.a l6.n l6.c) ∧ ∃ l7 : Sl, h1.at b1 ((o1 + n.toNat * 6) + 5) = some (.slice l7.a l7.n l7.c) ∧ F23.T n1 n2 n3 l2 l3 l4 n4 n5 n6 l5 l6 l7 h1 fun r h2 => ∃ b2 : Bool, r = .bool b2 ∧ parB b2 (I (IntKind.wrap .i64 (n + 1)) h2 ∧ m (IntKind.wrap .i64 (n + 1)) h2 < m n h1) (Q (.bool false) h2)) (Q (.bool true) h1))) (Q (.bool false) h)
theorem F12.gen (V : Value → List Value → PT) (T23 : Int → Int → Int → Sl → Sl → Sl → Int → Int → Int → Sl → Sl → Sl → PT) (l : Sl) (l1 : Sl) : denF Try.prog [] [(23, F23.W T23)] V [(58, .loop [(5, .int .i64)] []), (1864, .order [0, 1, 2, 3, 4, 5, 6, 7, 8, 9])] Try.f12 [.v (.slice l.a l.n l.c), .v (.slice l1.a l1.n l1.c)] = fun h Q =>
  par ((l.n : Int) = (l1.n : Int)) (∃ (I : Int → Hp → Prop) (m : Int → Hp → Nat), I 0 h ∧ (∀ n : Int, ∀ h1 : Hp, I n h1 → par (n < (l.n : Int)) (∃ b o, (l.a : Option Addr) = some ⟨b, o, none⟩ ∧ ((0 : Int) ≤ n ∧ n < (l.n : Int)) ∧ ∃ n1 : Int, h1.at b (o + n.toNat * 6) = some (.int .u64 n1) ∧ ∃ n2 : Int, h1.at b ((o + n.toNat * 6) + 1) = some (.int .u64 n2) ∧ ∃ n3 : Int, h1.at b ((o + n.toNat * 6) + 2) = some (.int .u64 n3) ∧ ∃ l2 : Sl, h1.at b ((o + n.toNat * 6) + 3) = some (.slice l2.a l2.n l2.c) ∧ ∃ l3 : Sl, h1.at b ((o + n.toNat * 6) + 4) = some (.slice l3.a l3.n l3.c) ∧ ∃ l4 : Sl, h1.at b ((o + n.toNat * 6) + 5) = some (.slice l4.a l4.n l4.c) ∧ ∃ b1 o1, (l1.a : Option Addr) = some ⟨b1, o1, none⟩ ∧ ((0 : Int) ≤ n ∧ n < (l1.n : Int)) ∧ ∃ n4 : Int, h1.at b1 (o1 + n.toNat * 6) = some (.int .u64 n4) ∧ ∃ n5 : Int, h1.at b1 ((o1 + n.toNat * 6) + 1) = some (.int .u64 n5) ∧ ∃ n6 : Int, h1.at b1 ((o1 + n.toNat * 6) + 2) = some (.int .u64 n6) ∧ ∃ l5 : Sl, h1.at b1 ((o1 + n.toNat * 6) + 3) = some (.slice l5.a l5.n l5.c) ∧ ∃ l6 : Sl, h1.at b1 ((o1 + n.toNat * 6) + 4) = some (.slice l6.a l6.n l6.c) ∧ ∃ l7 : Sl, h1.at b1 ((o1 + n.toNat * 6) + 5) = some (.slice l7.a l7.n l7.c) ∧ T23 n1 n2 n3 l2 l3 l4 n4 n5 n6 l5 l6 l7 h1 fun r h2 => ∃ b2 : Bool, r = .bool b2 ∧ parB b2 (I (IntKind.wrap .i64 (n + 1)) h2 ∧ m (IntKind.wrap .i64 (n + 1)) h2 < m n h1) (Q (.bool false) h2)) (Q (.bool true) h1))) (Q (.bool false) h) := by kernel_rfl
theorem F12.den (V : Value → List Value → PT) (l : Sl) (l1 : Sl) : denF Try.prog [] [(23, F23.V)] V [(58, .loop [(5, .int .i64)] []), (1864, .order [0, 1, 2, 3, 4, 5, 6, 7, 8, 9])] Try.f12 [.v (.slice l.a l.n l.c), .v (.slice l1.a l1.n l1.c)] = F12.T l l1 := F12.gen V F23.T l l1
def F12.W (T12 : Sl → Sl → PT) (args : List Value) : PT := match args with
  | [.slice l_a l_n l_c, .slice l1_a l1_n l1_c] => T12 ⟨l_a, l_n, l_c⟩ ⟨l1_a, l1_n, l1_c⟩
  | _ => fun _ _ => False
def F12.V : List Value → PT := F12.W F12.T
theorem F12.ok : FOk Try.prog 12 F12.V := by
  refine ⟨⟨_, Try.func12, rfl, rfl⟩, fun args => ?_⟩
  have hG : GOk Try.prog [(23, F23.V)] := GOk.cons F23.ok (GOk.nil)
  have hV : VOk Try.prog noV := noV_ok
  unfold F12.V F12.W
  split
  · exact denF_okV hG hV Try.func12 (fun h Q hq => (F12.den _ _ _) ▸ hq)
  · exact fun h Q hq => hq.elim
end Go.Eng.Ytblghgacokoklaa
end
section
set_option maxRecDepth 100000
set_option linter.unusedVariables false
open Go.Proofs
namespace Go.Eng.Ytblghgacokoklaa
def F68.T (n : Int) : PT := fun h Q =>
  (2 : Int) ≠ 0 ∧ par ((Int.tmod n 2) = 0) (Q (.int .i64 (-7701)) h) (Q (.int .i64 (-7702)) h)
theorem F68.den (V : Value → List Value → PT) (n : Int) : denF Try.prog [] [] V [] Try.f68 [.v (.int .i64 n)] = F68.T n := by kernel_rfl
def F68.W (T68 : Int → PT) (args : List Value) : PT := match args with
  | [.int .i64 n] => T68 n
  | _ => fun _ _ => False
def F68.V : List Value → PT := F68.W F68.T
theorem F68.ok : FOk Try.prog 68 F68.V := by
  refine ⟨⟨_, Try.func68, rfl, rfl⟩, fun args => ?_⟩
  have hG : GOk Try.prog [] := GOk.nil
  have hV : VOk Try.prog noV := noV_ok
  unfold F68.V F68.W
  split
  · exact denF_okV hG hV Try.func68 (fun h Q hq => (F68.den _ _) ▸ hq)
  · exact fun h Q hq => hq.elim
def F67.T (p : Option Addr) (l : Sl) (n : Int) : PT := fun h Q =>
  ∀ b, h b = none → ∃ vs, (h.new b (.cells ⟨[]⟩ 5 (0, 0))).row l.a (l.n * 1) vs ∧ (∀ v ∈ vs, Value.oneCell' v = true) ∧ appendD ⟨(some ⟨b, 0, none⟩), 0, 0⟩ 5 1 1 [.int .u8 0] l.n vs (h.new b (.cells ⟨[]⟩ 5 (0, 0))) fun l1 h1 => ∃ (I : Sl → Int → Hp → Prop) (m : Sl → Int → Hp → Nat), I l1 0 h1 ∧ (∀ l2 : Sl, ∀ n1 : Int, ∀ h2 : Hp, I l2 n1 h2 → par (n1 < n) (F68.T n1 h2 fun r h3 => ∃ n2 : Int, r = .int .i64 n2 ∧ appendD l2 5 1 1 [.int .u8 0] 1 [.int .u8 (IntKind.wrap .u8 n2)] h3 fun l3 h4 => I l3 (IntKind.wrap .i64 (n1 + 1)) h4 ∧ m l3 (IntKind.wrap .i64 (n1 + 1)) h4 < m l2 n1 h2) (∃ b1 o, (p : Option Addr) = some ⟨b1, o, none⟩ ∧ ∃ l4 : Sl, h2.at b1 o = some (.slice l4.a l4.n l4.c) ∧ appendD l4 25 1 24 [.slice none 0 0] 1 [.slice l2.a l2.n l2.c] h2 fun l5 h5 => ∃ b2 o1, (p : Option Addr) = some ⟨b2, o1, none⟩ ∧ h5.canW b2 o1 1 ∧ ∃ b3 o2, (p : Option Addr) = some ⟨b3, o2, none⟩ ∧ ∃ l6 : Sl, (h5.wr b2 o1 [.slice l5.a l5.n l5.c]).at b3 (o2 + 1) = some (.slice l6.a l6.n l6.c) ∧ appendD l6 3 1 8 [.int .i64 0] 1 [.int .i64 (l.n : Int)] (h5.wr b2 o1 [.slice l5.a l5.n l5.c]) fun l7 h6 => ∃ b4 o3, (p : Option Addr) = some ⟨b4, o3, none⟩ ∧ h6.canW b4 (o3 + 1) 1 ∧ Sl.okCut l2 0 (l.n : Int) (l2.n : Int) ∧ Q (.slice (Sl.cut l2 1 0 (l.n : Int) (l2.n : Int)).a (Sl.cut l2 1 0 (l.n : Int) (l2.n : Int)).n (Sl.cut l2 1 0 (l.n : Int) (l2.n : Int)).c) (h6.wr b4 (o3 + 1) [.slice l7.a l7.n l7.c])))
theorem F67.gen (V : Value → List Value → PT) (T68 : Int → PT) (p : Option Addr) (l : Sl) (n : Int) : denF Try.prog [22, 30, 41] [(68, F68.W T68)] V [(122, .loop [(7, .sl), (8, .int .i64)] [])] Try.f67 [.v (.pointer p), .v (.slice l.a l.n l.c), .v (.int .i64 n)] = fun h Q =>
  ∀ b, h b = none → ∃ vs, (h.new b (.cells ⟨[]⟩ 5 (0, 0))).row l.a (l.n * 1) vs ∧ (∀ v ∈ vs, Value.oneCell' v = true) ∧ appendD ⟨(some ⟨b, 0, none⟩), 0, 0⟩ 5 1 1 [.int .u8 0] l.n vs (h.new b (.cells ⟨[]⟩ 5 (0, 0))) fun l1 h1 => ∃ (I : Sl → Int → Hp → Prop) (m : Sl → Int → Hp → Nat), I l1 0 h1 ∧ (∀ l2 : Sl, ∀ n1 : Int, ∀ h2 : Hp, I l2 n1 h2 → par (n1 < n) (T68 n1 h2 fun r h3 => ∃ n2 : Int, r = .int .i64 n2 ∧ appendD l2 5 1 1 [.int .u8 0] 1 [.int .u8 (IntKind.wrap .u8 n2)] h3 fun l3 h4 => I l3 (IntKind.wrap .i64 (n1 + 1)) h4 ∧ m l3 (IntKind.wrap .i64 (n1 + 1)) h4 < m l2 n1 h2) (∃ b1 o, (p : Option Addr) = some ⟨b1, o, none⟩ ∧ ∃ l4 : Sl, h2.at b1 o = some (.slice l4.a l4.n l4.c) ∧ appendD l4 25 1 24 [.slice none 0 0] 1 [.slice l2.a l2.n l2.c] h2 fun l5 h5 => ∃ b2 o1, (p : Option Addr) = some ⟨b2, o1, none⟩ ∧ h5.canW b2 o1 1 ∧ ∃ b3 o2, (p : Option Addr) = some ⟨b3, o2, none⟩ ∧ ∃ l6 : Sl, (h5.wr b2 o1 [.slice l5.a l5.n l5.c]).at b3 (o2 + 1) = some (.slice l6.a l6.n l6.c) ∧ appendD l6 3 1 8 [.int .i64 0] 1 [.int .i64 (l.n : Int)] (h5.wr b2 o1 [.slice l5.a l5.n l5.c]) fun l7 h6 => ∃ b4 o3, (p : Option Addr) = some ⟨b4, o3, none⟩ ∧ h6.canW b4 (o3 + 1) 1 ∧ Sl.okCut l2 0 (l.n : Int) (l2.n : Int) ∧ Q (.slice (Sl.cut l2 1 0 (l.n : Int) (l2.n : Int)).a (Sl.cut l2 1 0 (l.n : Int) (l2.n : Int)).n (Sl.cut l2 1 0 (l.n : Int) (l2.n : Int)).c) (h6.wr b4 (o3 + 1) [.slice l7.a l7.n l7.c]))) := by kernel_rfl
theorem F67.den (V : Value → List Value → PT) (p : Option Addr) (l : Sl) (n : Int) : denF Try.prog [22, 30, 41] [(68, F68.V)] V [(122, .loop [(7, .sl), (8, .int .i64)] [])] Try.f67 [.v (.pointer p), .v (.slice l.a l.n l.c), .v (.int .i64 n)] = F67.T p l n := F67.gen V F68.T p l n
def F67.W (T67 : Option Addr → Sl → Int → PT) (args : List Value) : PT := match args with
  | [.pointer p, .slice l_a l_n l_c, .int .i64 n] => T67 p ⟨l_a, l_n, l_c⟩ n
  | _ => fun _ _ => False
def F67.V : List Value → PT := F67.W F67.T
theorem F67.ok : FOk Try.prog 67 F67.V := by
  refine ⟨⟨_, Try.func67, rfl, rfl⟩, fun args => ?_⟩
  have hG : GOk Try.prog [(68, F68.V)] := GOk.cons F68.ok (GOk.nil)
  have hV : VOk Try.prog noV := noV_ok
  unfold F67.V F67.W
  split
  · exact denF_okV hG hV Try.func67 (fun h Q hq => (F67.den _ _ _ _) ▸ hq)
  · exact fun h Q hq => hq.elim
def F29.T (p : Option Addr) (l : Sl) (n : Int) : PT := fun h Q =>
  ∀ b, h b = none → ∃ (I : Sl → Int → Hp → Prop) (m : Sl → Int → Hp → Nat), I ⟨(some ⟨b, 0, none⟩), 0, 0⟩ 0 (h.new b (.cells ⟨[]⟩ 25 (0, 0))) ∧ (∀ l1 : Sl, ∀ n1 : Int, ∀ h1 : Hp, I l1 n1 h1 → par (n1 < (l.n : Int)) (∃ b1 o, (l.a : Option Addr) = some ⟨b1, o, none⟩ ∧ ((0 : Int) ≤ n1 ∧ n1 < (l.n : Int)) ∧ ∃ l2 : Sl, h1.at b1 (o + n1.toNat) = some (.slice l2.a l2.n l2.c) ∧ F67.T p l2 4 h1 fun r h2 => ∃ l3 : Sl, r = .slice l3.a l3.n l3.c ∧ appendD l1 25 1 24 [.slice none 0 0] 1 [.slice l3.a l3.n l3.c] h2 fun l4 h3 => I l4 (IntKind.wrap .i64 (n1 + 1)) h3 ∧ m l4 (IntKind.wrap .i64 (n1 + 1)) h3 < m l1 n1 h1) (∃ (I1 : Sl → Int → Hp → Prop) (m1 : Sl → Int → Hp → Nat), I1 l1 0 h1 ∧ (∀ l5 : Sl, ∀ n2 : Int, ∀ h4 : Hp, I1 l5 n2 h4 → par (n2 < n) (F68.T n2 h4 fun r1 h5 => ∃ n3 : Int, r1 = .int .i64 n3 ∧ ∀ b2, h5 b2 = none → appendD l5 25 1 24 [.slice none 0 0] 1 [.slice (some ⟨b2, 0, none⟩) 1 1] (h5.new b2 (.cells ⟨[.int .u8 (IntKind.wrap .u8 n3)]⟩ 5 (0, 0))) fun l6 h6 => I1 l6 (IntKind.wrap .i64 (n2 + 1)) h6 ∧ m1 l6 (IntKind.wrap .i64 (n2 + 1)) h6 < m1 l5 n2 h4) (∃ b3 o1, (p : Option Addr) = some ⟨b3, o1, none⟩ ∧ ∃ l7 : Sl, h4.at b3 (o1 + 20) = some (.slice l7.a l7.n l7.c) ∧ appendD l7 23 1 24 [.slice none 0 0] 1 [.slice l5.a l5.n l5.c] h4 fun l8 h7 => ∃ b4 o2, (p : Option Addr) = some ⟨b4, o2, none⟩ ∧ h7.canW b4 (o2 + 20) 1 ∧ ∃ b5 o3, (p : Option Addr) = some ⟨b5, o3, none⟩ ∧ ∃ l9 : Sl, (h7.wr b4 (o2 + 20) [.slice l8.a l8.n l8.c]).at b5 (o3 + 21) = some (.slice l9.a l9.n l9.c) ∧ appendD l9 3 1 8 [.int .i64 0] 1 [.int .i64 (l.n : Int)] (h7.wr b4 (o2 + 20) [.slice l8.a l8.n l8.c]) fun l10 h8 => ∃ b6 o4, (p : Option Addr) = some ⟨b6, o4, none⟩ ∧ h8.canW b6 (o4 + 21) 1 ∧ Sl.okCut l5 0 (l.n : Int) (l5.n : Int) ∧ Q (.slice (Sl.cut l5 1 0 (l.n : Int) (l5.n : Int)).a (Sl.cut l5 1 0 (l.n : Int) (l5.n : Int)).n (Sl.cut l5 1 0 (l.n : Int) (l5.n : Int)).c) (h8.wr b6 (o4 + 21) [.slice l10.a l10.n l10.c])))))
theorem F29.gen (V : Value → List Value → PT) (T67 : Option Addr → Sl → Int → PT) (T68 : Int → PT) (p : Option Addr) (l : Sl) (n : Int) : denF Try.prog [24, 36, 44, 55] [(67, F67.W T67), (68, F68.W T68)] V [(58, .loop [(7, .sl), (8, .int .i64)] []), (122, .loop [(7, .sl), (9, .int .i64)] [])] Try.f29 [.v (.pointer p), .v (.slice l.a l.n l.c), .v (.int .i64 n)] = fun h Q =>
  ∀ b, h b = none → ∃ (I : Sl → Int → Hp → Prop) (m : Sl → Int → Hp → Nat), I ⟨(some ⟨b, 0, none⟩), 0, 0⟩ 0 (h.new b (.cells ⟨[]⟩ 25 (0, 0))) ∧ (∀ l1 : Sl, ∀ n1 : Int, ∀ h1 : Hp, I l1 n1 h1 → par (n1 < (l.n : Int)) (∃ b1 o, (l.a : Option Addr) = some ⟨b1, o, none⟩ ∧ ((0 : Int) ≤ n1 ∧ n1 < (l.n : Int)) ∧ ∃ l2 : Sl, h1.at b1 (o + n1.toNat) = some (.slice l2.a l2.n l2.c) ∧ T67 p l2 4 h1 fun r h2 => ∃ l3 : Sl, r = .slice l3.a l3.n l3.c ∧ appendD l1 25 1 24 [.slice none 0 0] 1 [.slice l3.a l3.n l3.c] h2 fun l4 h3 => I l4 (IntKind.wrap .i64 (n1 + 1)) h3 ∧ m l4 (IntKind.wrap .i64 (n1 + 1)) h3 < m l1 n1 h1) (∃ (I1 : Sl → Int → Hp → Prop) (m1 : Sl → Int → Hp → Nat), I1 l1 0 h1 ∧ (∀ l5 : Sl, ∀ n2 : Int, ∀ h4 : Hp, I1 l5 n2 h4 → par (n2 < n) (T68 n2 h4 fun r1 h5 => ∃ n3 : Int, r1 = .int .i64 n3 ∧ ∀ b2, h5 b2 = none → appendD l5 25 1 24 [.slice none 0 0] 1 [.slice (some ⟨b2, 0, none⟩) 1 1] (h5.new b2 (.cells ⟨[.int .u8 (IntKind.wrap .u8 n3)]⟩ 5 (0, 0))) fun l6 h6 => I1 l6 (IntKind.wrap .i64 (n2 + 1)) h6 ∧ m1 l6 (IntKind.wrap .i64 (n2 + 1)) h6 < m1 l5 n2 h4) (∃ b3 o1, (p : Option Addr) = some ⟨b3, o1, none⟩ ∧ ∃ l7 : Sl, h4.at b3 (o1 + 20) = some (.slice l7.a l7.n l7.c) ∧ appendD l7 23 1 24 [.slice none 0 0] 1 [.slice l5.a l5.n l5.c] h4 fun l8 h7 => ∃ b4 o2, (p : Option Addr) = some ⟨b4, o2, none⟩ ∧ h7.canW b4 (o2 + 20) 1 ∧ ∃ b5 o3, (p : Option Addr) = some ⟨b5, o3, none⟩ ∧ ∃ l9 : Sl, (h7.wr b4 (o2 + 20) [.slice l8.a l8.n l8.c]).at b5 (o3 + 21) = some (.slice l9.a l9.n l9.c) ∧ appendD l9 3 1 8 [.int .i64 0] 1 [.int .i64 (l.n : Int)] (h7.wr b4 (o2 + 20) [.slice l8.a l8.n l8.c]) fun l10 h8 => ∃ b6 o4, (p : Option Addr) = some ⟨b6, o4, none⟩ ∧ h8.canW b6 (o4 + 21) 1 ∧ Sl.okCut l5 0 (l.n : Int) (l5.n : Int) ∧ Q (.slice (Sl.cut l5 1 0 (l.n : Int) (l5.n : Int)).a (Sl.cut l5 1 0 (l.n : Int) (l5.n : Int)).n (Sl.cut l5 1 0 (l.n : Int) (l5.n : Int)).c) (h8.wr b6 (o4 + 21) [.slice l10.a l10.n l10.c]))))) := by kernel_rfl
theorem F29.den (V : Value → List Value → PT) (p : Option Addr) (l : Sl) (n : Int) : denF Try.prog [24, 36, 44, 55] [(67, F67.V), (68, F68.V)] V [(58, .loop [(7, .sl), (8, .int .i64)] []), (122, .loop [(7, .sl), (9, .int .i64)] [])] Try.f29 [.v (.pointer p), .v (.slice l.a l.n l.c), .v (.int .i64 n)] = F29.T p l n := F29.gen V F67.T F68.T p l n
def F29.W (T29 : Option Addr → Sl → Int → PT) (args : List Value) : PT := match args with
  | [.pointer p, .slice l_a l_n l_c, .int .i64 n] => T29 p ⟨l_a, l_n, l_c⟩ n
  | _ => fun _ _ => False
def F29.V : List Value → PT := F29.W F29.T
theorem F29.ok : FOk Try.prog 29 F29.V := by
  refine ⟨⟨_, Try.func29, rfl, rfl⟩, fun args => ?_⟩
  have hG : GOk Try.prog [(67, F67.V), (68, F68.V)] := GOk.cons F67.ok (GOk.cons F68.ok (GOk.nil))
  have hV : VOk Try.prog noV := noV_ok
  unfold F29.V F29.W
  split
  · exact denF_okV hG hV Try.func29 (fun h Q hq => (F29.den _ _ _ _) ▸ hq)
  · exact fun h Q hq => hq.elim
def F9.T (p : Option Addr) (l : Sl) : PT := fun h Q =>
  F29.T p l 40 h fun r h1 => ∃ l1 : Sl, r = .slice l1.a l1.n l1.c ∧ Q (.slice l1.a l1.n l1.c) h1
theorem F9.gen (V : Value → List Value → PT) (T29 : Option Addr → Sl → Int → PT) (p : Option Addr) (l : Sl) : denF Try.prog [] [(29, F29.W T29)] V [] Try.f9 [.v (.pointer p), .v (.slice l.a l.n l.c)] = fun h Q =>
  T29 p l 40 h fun r h1 => ∃ l1 : Sl, r = .slice l1.a l1.n l1.c ∧ Q (.slice l1.a l1.n l1.c) h1 := by kernel_rfl
theorem F9.den (V : Value → List Value → PT) (p : Option Addr) (l : Sl) : denF Try.prog [] [(29, F29.V)] V [] Try.f9 [.v (.pointer p), .v (.slice l.a l.n l.c)] = F9.T p l := F9.gen V F29.T p l
def F9.W (T9 : Option Addr → Sl → PT) (args : List Value) : PT := match args with
  | [.pointer p, .slice l_a l_n l_c] => T9 p ⟨l_a, l_n, l_c⟩
  | _ => fun _ _ => False
def F9.V : List Value → PT := F9.W F9.T
theorem F9.ok : FOk Try.prog 9 F9.V := by
  refine ⟨⟨_, Try.func9, rfl, rfl⟩, fun args => ?_⟩
  have hG : GOk Try.prog [(29, F29.V)] := GOk.cons F29.ok (GOk.nil)
  have hV : VOk Try.prog noV := noV_ok
  unfold F9.V F9.W
  split
  · exact denF_okV hG hV Try.func9 (fun h Q hq => (F9.den _ _ _) ▸ hq)
  · exact fun h Q hq => hq.elim
def F90.T (l : Sl) : PT := fun h Q =>
  ∃ (I : Int → Int → Hp → Prop) (m : Int → Int → Hp → Nat), I 0 0 h ∧ (∀ n : Int, ∀ n1 : Int, ∀ h1 : Hp, I n n1 h1 → par (n1 < (l.n : Int)) (∃ b o, (l.a : Option Addr) = some ⟨b, o, none⟩ ∧ ((0 : Int) ≤ n1 ∧ n1 < (l.n : Int)) ∧ ∃ n2 : Int, h1.at b (o + n1.toNat) = some (.int .u8 n2) ∧ ∃ J : Hp → Prop, (∀ h2 : Hp, J h2 → (128 : Int) ≠ 0 ∧ (0 : Int) ≤ (IntKind.wrap .u64 (IntKind.wrap .i64 (7 * n1))) ∧ par (n2 < 128) (Q (.tuple ⟨[.int .u64 (bitsI .or .u64 n (shlI .u64 (IntKind.wrap .u64 (Int.tmod n2 128)) (IntKind.wrap .u64 (IntKind.wrap .i64 (7 * n1))))), .int .i64 (IntKind.wrap .i64 (n1 + 1)), .int .i64 0]⟩) h2) (I (bitsI .or .u64 n (shlI .u64 (IntKind.wrap .u64 (Int.tmod n2 128)) (IntKind.wrap .u64 (IntKind.wrap .i64 (7 * n1))))) (IntKind.wrap .i64 (n1 + 1)) h2 ∧ m (bitsI .or .u64 n (shlI .u64 (IntKind.wrap .u64 (Int.tmod n2 128)) (IntKind.wrap .u64 (IntKind.wrap .i64 (7 * n1))))) (IntKind.wrap .i64 (n1 + 1)) h2 < m n n1 h1)) ∧ (par ((0 : Int) < n1) (par (n2 = 0) (Q (.tuple ⟨[.int .u64 0, .int .i64 0, .int .i64 21]⟩) h1) (par (n1 = 9) (par (n2 = 1) (J h1) (Q (.tuple ⟨[.int .u64 0, .int .i64 0, .int .i64 21]⟩) h1)) (J h1))) (par (n1 = 9) (par (n2 = 1) (J h1) (Q (.tuple ⟨[.int .u64 0, .int .i64 0, .int .i64 21]⟩) h1)) (J h1)))) (Q (.tuple ⟨[.int .u64 0, .int .i64 0, .int .i64 20]⟩) h1))
theorem F90.den (V : Value → List Value → PT) (l : Sl) : denF Try.prog [] [] V [(58, .loop [(5, .int .u64), (6, .int .i64)] []), (1865, .join [] [])] Try.f90 [.v (.slice l.a l.n l.c)] = F90.T l := by kernel_rfl
def F90.W (T90 : Sl → PT) (args : List Value) : PT := match args with
  | [.slice l_a l_n l_c] => T90 ⟨l_a, l_n, l_c⟩
  | _ => fun _ _ => False
def F90.V : List Value → PT := F90.W F90.T
theorem F90.ok : FOk Try.prog 90 F90.V := by
  refine ⟨⟨_, Try.func90, rfl, rfl⟩, fun args => ?_⟩
  have hG : GOk Try.prog [] := GOk.nil
  have hV : VOk Try.prog noV := noV_ok
  unfold F90.V F90.W
  split
  · exact denF_okV hG hV Try.func90 (fun h Q hq => (F90.den _ _) ▸ hq)
  · exact fun h Q hq => hq.elim
def F69.T (p : Option Addr) : PT := fun h Q =>
  ∃ b o, (p : Option Addr) = some ⟨b, o, none⟩ ∧ ∃ l : Sl, h.at b o = some (.slice l.a l.n l.c) ∧ F90.T l h fun r h1 => ∃ n : Int, ∃ n1 : Int, ∃ n2 : Int, r = .tuple ⟨[.int .u64 n, .int .i64 n1, .int .i64 n2]⟩ ∧ ∃ b1 o1, (p : Option Addr) = some ⟨b1, o1, none⟩ ∧ ∃ b2 : Bool, h1.at b1 (o1 + 1) = some (.bool b2) ∧ parB b2 (∃ b3 o2, (p : Option Addr) = some ⟨b3, o2, none⟩ ∧ h1.canW b3 (o2 + 1) 1 ∧ Q (.int .u64 0) (h1.wr b3 (o2 + 1) [.bool true])) (par (n2 = 0) (∃ b4 o3, (p : Option Addr) = some ⟨b4, o3, none⟩ ∧ ∃ l1 : Sl, h1.at b4 o3 = some (.slice l1.a l1.n l1.c) ∧ Sl.okCut l1 n1 (l1.n : Int) (l1.c : Int) ∧ ∃ b5 o4, (p : Option Addr) = some ⟨b5, o4, none⟩ ∧ h1.canW b5 o4 1 ∧ Q (.int .u64 n) (h1.wr b5 o4 [.slice (Sl.cut l1 1 n1 (l1.n : Int) (l1.c : Int)).a (Sl.cut l1 1 n1 (l1.n : Int) (l1.c : Int)).n (Sl.cut l1 1 n1 (l1.n : Int) (l1.c : Int)).c])) (∃ b6 o5, (p : Option Addr) = some ⟨b6, o5, none⟩ ∧ h1.canW b6 (o5 + 1) 1 ∧ Q (.int .u64 0) (h1.wr b6 (o5 + 1) [.bool true])))
theorem F69.gen (V : Value → List Value → PT) (T90 : Sl → PT) (p : Option Addr) : denF Try.prog [] [(90, F90.W T90)] V [] Try.f69 [.v (.pointer p)] = fun h Q =>
  ∃ b o, (p : Option Addr) = some ⟨b, o, none⟩ ∧ ∃ l : Sl, h.at b o = some (.slice l.a l.n l.c) ∧ T90 l h fun r h1 => ∃ n : Int, ∃ n1 : Int, ∃ n2 : Int, r = .tuple ⟨[.int .u64 n, .int .i64 n1, .int .i64 n2]⟩ ∧ ∃ b1 o1, (p : Option Addr) = some ⟨b1, o1, none⟩ ∧ ∃ b2 : Bool, h1.at b1 (o1 + 1) = some (.bool b2) ∧ parB b2 (∃ b3 o2, (p : Option Addr) = some ⟨b3, o2, none⟩ ∧ h1.canW b3 (o2 + 1) 1 ∧ Q (.int .u64 0) (h1.wr b3 (o2 + 1) [.bool true])) (par (n2 = 0) (∃ b4 o3, (p : Option Addr) = some ⟨b4, o3, none⟩ ∧ ∃ l1 : Sl, h1.at b4 o3 = some (.slice l1.a l1.n l1.c) ∧ Sl.okCut l1 n1 (l1.n : Int) (l1.c : Int) ∧ ∃ b5 o4, (p : Option Addr) = some ⟨b5, o4, none⟩ ∧ h1.canW b5 o4 1 ∧ Q (.int .u64 n) (h1.wr b5 o4 [.slice (Sl.cut l1 1 n1 (l1.n : Int) (l1.c : Int)).a (Sl.cut l1 1 n1 (l1.n : Int) (l1.c : Int)).n (Sl.cut l1 1 n1 (l1.n : Int) (l1.c : Int)).c])) (∃ b6 o5, (p : Option Addr) = some ⟨b6, o5, none⟩ ∧ h1.canW b6 (o5 + 1) 1 ∧ Q (.int .u64 0) (h1.wr b6 (o5 + 1) [.bool true]))) := by kernel_rfl
theorem F69.den (V : Value → List Value → PT) (p : Option Addr) : denF Try.prog [] [(90, F90.V)] V [] Try.f69 [.v (.pointer p)] = F69.T p := F69.gen V F90.T p
def F69.W (T69 : Option Addr → PT) (args : List Value) : PT := match args with
  | [.pointer p] => T69 p
  | _ => fun _ _ => False
def F69.V : List Value → PT := F69.W F69.T
theorem F69.ok : FOk Try.prog 69 F69.V := by
  refine ⟨⟨_, Try.func69, rfl, rfl⟩, fun args => ?_⟩
  have hG : GOk Try.prog [(90, F90.V)] := GOk.cons F90.ok (GOk.nil)
  have hV : VOk Try.prog noV := noV_ok
  unfold F69.V F69.W
  split
  · exact denF_okV hG hV Try.func69 (fun h Q hq => (F69.den _ _) ▸ hq)
  · exact fun h Q hq => hq.elim
def F70.T (p : Option Addr) (n : Int) : PT := fun h Q =>
  F69.T p h fun r h1 => ∃ n1 : Int, r = .int .u64 n1 ∧ par (n < n1) (∃ b o, (p : Option Addr) = some ⟨b, o, none⟩ ∧ h1.canW b (o + 1) 1 ∧ Q (.int .i64 0) (h1.wr b (o + 1) [.bool true])) (Q (.int .i64 (IntKind.wrap .i64 n1)) h1)
theorem F70.gen (V : Value → List Value → PT) (T69 : Option Addr → PT) (p : Option Addr) (n : Int) : denF Try.prog [] [(69, F69.W T69)] V [] Try.f70 [.v (.pointer p), .v (.int .u64 n)] = fun h Q =>
  T69 p h fun r h1 => ∃ n1 : Int, r = .int .u64 n1 ∧ par (n < n1) (∃ b o, (p : Option Addr) = some ⟨b, o, none⟩ ∧ h1.canW b (o + 1) 1 ∧ Q (.int .i64 0) (h1.wr b (o + 1) [.bool true])) (Q (.int .i64 (IntKind.wrap .i64 n1)) h1) := by kernel_rfl
theorem F70.den (V : Value → List Value → PT) (p : Option Addr) (n : Int) : denF Try.prog [] [(69, F69.V)] V [] Try.f70 [.v (.pointer p), .v (.int .u64 n)] = F70.T p n := F70.gen V F69.T p n
def F70.W (T70 : Option Addr → Int → PT) (args : List Value) : PT := match args with
  | [.pointer p, .int .u64 n] => T70 p n
  | _ => fun _ _ => False
def F70.V : List Value → PT := F70.W F70.T
theorem F70.ok : FOk Try.prog 70 F70.V := by
  refine ⟨⟨_, Try.func70, rfl, rfl⟩, fun args => ?_⟩
  have hG : GOk Try.prog [(69, F69.V)] := GOk.cons F69.ok (GOk.nil)
  have hV : VOk Try.prog noV := noV_ok
  unfold F70.V F70.W
  split
  · exact denF_okV hG hV Try.func70 (fun h Q hq => (F70.den _ _ _) ▸ hq)
  · exact fun h Q hq => hq.elim
def F91.T (l : Sl) (n : Int) : PT := fun h Q =>
  F90.T l h fun r h1 => ∃ n1 : Int, ∃ n2 : Int, ∃ n3 : Int, r = .tuple ⟨[.int .u64 n1, .int .i64 n2, .int .i64 n3]⟩ ∧ par (n3 = 0) (par (n < 0) (Q (.tuple ⟨[.string (ByteArray.mk #[]), .int .i64 0, .int .i64 22]⟩) h1) (par ((IntKind.wrap .u64 n) < n1) (Q (.tuple ⟨[.string (ByteArray.mk #[]), .int .i64 0, .int .i64 22]⟩) h1) (par ((IntKind.wrap .u64 (IntKind.wrap .i64 ((l.n : Int) - n2))) < n1) (Q (.tuple ⟨[.string (ByteArray.mk #[]), .int .i64 0, .int .i64 20]⟩) h1) (Sl.okCut l n2 (IntKind.wrap .i64 (n2 + (IntKind.wrap .i64 n1))) (l.c : Int) ∧ ∃ s : ByteArray, h1.row ((Sl.cut l 1 n2 (IntKind.wrap .i64 (n2 + (IntKind.wrap .i64 n1))) (l.c : Int)).a) ((Sl.cut l 1 n2 (IntKind.wrap .i64 (n2 + (IntKind.wrap .i64 n1))) (l.c : Int)).n) (bytesV s) ∧ Q (.tuple ⟨[.string s, .int .i64 (IntKind.wrap .i64 (n2 + (IntKind.wrap .i64 n1))), .int .i64 0]⟩) h1)))) (Q (.tuple ⟨[.string (ByteArray.mk #[]), .int .i64 0, .int .i64 n3]⟩) h1)
theorem F91.gen (V : Value → List Value → PT) (T90 : Sl → PT) (l : Sl) (n : Int) : denF Try.prog [] [(90, F90.W T90)] V [] Try.f91 [.v (.slice l.a l.n l.c), .v (.int .i64 n)] = fun h Q =>
  T90 l h fun r h1 => ∃ n1 : Int, ∃ n2 : Int, ∃ n3 : Int, r = .tuple ⟨[.int .u64 n1, .int .i64 n2, .int .i64 n3]⟩ ∧ par (n3 = 0) (par (n < 0) (Q (.tuple ⟨[.string (ByteArray.mk #[]), .int .i64 0, .int .i64 22]⟩) h1) (par ((IntKind.wrap .u64 n) < n1) (Q (.tuple ⟨[.string (ByteArray.mk #[]), .int .i64 0, .int .i64 22]⟩) h1) (par ((IntKind.wrap .u64 (IntKind.wrap .i64 ((l.n : Int) - n2))) < n1) (Q (.tuple ⟨[.string (ByteArray.mk #[]), .int .i64 0, .int .i64 20]⟩) h1) (Sl.okCut l n2 (IntKind.wrap .i64 (n2 + (IntKind.wrap .i64 n1))) (l.c : Int) ∧ ∃ s : ByteArray, h1.row ((Sl.cut l 1 n2 (IntKind.wrap .i64 (n2 + (IntKind.wrap .i64 n1))) (l.c : Int)).a) ((Sl.cut l 1 n2 (IntKind.wrap .i64 (n2 + (IntKind.wrap .i64 n1))) (l.c : Int)).n) (bytesV s) ∧ Q (.tuple ⟨[.string s, .int .i64 (IntKind.wrap .i64 (n2 + (IntKind.wrap .i64 n1))), .int .i64 0]⟩) h1)))) (Q (.tuple ⟨[.string (ByteArray.mk #[]), .int .i64 0, .int .i64 n3]⟩) h1) := by kernel_rfl
theorem F91.den (V : Value → List Value → PT) (l : Sl) (n : Int) : denF Try.prog [] [(90, F90.V)] V [] Try.f91 [.v (.slice l.a l.n l.c), .v (.int .i64 n)] = F91.T l n := F91.gen V F90.T l n
def F91.W (T91 : Sl → Int → PT) (args : List Value) : PT := match args with
  | [.slice l_a l_n l_c, .int .i64 n] => T91 ⟨l_a, l_n, l_c⟩ n
  | _ => fun _ _ => False
def F91.V : List Value → PT := F91.W F91.T
theorem F91.ok : FOk Try.prog 91 F91.V := by
  refine ⟨⟨_, Try.func91, rfl, rfl⟩, fun args => ?_⟩
  have hG : GOk Try.prog [(90, F90.V)] := GOk.cons F90.ok (GOk.nil)
  have hV : VOk Try.prog noV := noV_ok
  unfold F91.V F91.W
  split
  · exact denF_okV hG hV Try.func91 (fun h Q hq => (F91.den _ _ _) ▸ hq)
  · exact fun h Q hq => hq.elim
def F71.T (p : Option Addr) : PT := fun h Q =>
  ∃ b o, (p : Option Addr) = some ⟨b, o, none⟩ ∧ ∃ l : Sl, h.at b o = some (.slice l.a l.n l.c) ∧ F91.T l 64 h fun r h1 => ∃ s : ByteArray, ∃ n : Int, ∃ n1 : Int, r = .tuple ⟨[.string s, .int .i64 n, .int .i64 n1]⟩ ∧ ∃ b1 o1, (p : Option Addr) = some ⟨b1, o1, none⟩ ∧ ∃ b2 : Bool, h1.at b1 (o1 + 1) = some (.bool b2) ∧ parB b2 (∃ b3 o2, (p : Option Addr) = some ⟨b3, o2, none⟩ ∧ h1.canW b3 (o2 + 1) 1 ∧ Q (.string (ByteArray.mk #[])) (h1.wr b3 (o2 + 1) [.bool true])) (par (n1 = 0) (∃ b4 o3, (p : Option Addr) = some ⟨b4, o3, none⟩ ∧ ∃ l1 : Sl, h1.at b4 o3 = some (.slice l1.a l1.n l1.c) ∧ Sl.okCut l1 n (l1.n : Int) (l1.c : Int) ∧ ∃ b5 o4, (p : Option Addr) = some ⟨b5, o4, none⟩ ∧ h1.canW b5 o4 1 ∧ Q (.string s) (h1.wr b5 o4 [.slice (Sl.cut l1 1 n (l1.n : Int) (l1.c : Int)).a (Sl.cut l1 1 n (l1.n : Int) (l1.c : Int)).n (Sl.cut l1 1 n (l1.n : Int) (l1.c : Int)).c])) (∃ b6 o5, (p : Option Addr) = some ⟨b6, o5, none⟩ ∧ h1.canW b6 (o5 + 1) 1 ∧ Q (.string (ByteArray.mk #[])) (h1.wr b6 (o5 + 1) [.bool true])))
theorem F71.gen (V : Value → List Value → PT) (T91 : Sl → Int → PT) (p : Option Addr) : denF Try.prog [] [(91, F91.W T91)] V [] Try.f71 [.v (.pointer p)] = fun h Q =>
  ∃ b o, (p : Option Addr) = some ⟨b, o, none⟩ ∧ ∃ l : Sl, h.at b o = some (.slice l.a l.n l.c) ∧ T91 l 64 h fun r h1 => ∃ s : ByteArray, ∃ n : Int, ∃ n1 : Int, r = .tuple ⟨[.string s, .int .i64 n, .int .i64 n1]⟩ ∧ ∃ b1 o1, (p : Option Addr) = some ⟨b1, o1, none⟩ ∧ ∃ b2 : Bool, h1.at b1 (o1 + 1) = some (.bool b2) ∧ parB b2 (∃ b3 o2, (p : Option Addr) = some ⟨b3, o2, none⟩ ∧ h1.canW b3 (o2 + 1) 1 ∧ Q (.string (ByteArray.mk #[])) (h1.wr b3 (o2 + 1) [.bool true])) (par (n1 = 0) (∃ b4 o3, (p : Option Addr) = some ⟨b4, o3, none⟩ ∧ ∃ l1 : Sl, h1.at b4 o3 = some (.slice l1.a l1.n l1.c) ∧ Sl.okCut l1 n (l1.n : Int) (l1.c : Int) ∧ ∃ b5 o4, (p : Option Addr) = some ⟨b5, o4, none⟩ ∧ h1.canW b5 o4 1 ∧ Q (.string s) (h1.wr b5 o4 [.slice (Sl.cut l1 1 n (l1.n : Int) (l1.c : Int)).a (Sl.cut l1 1 n (l1.n : Int) (l1.c : Int)).n (Sl.cut l1 1 n (l1.n : Int) (l1.c : Int)).c])) (∃ b6 o5, (p : Option Addr) = some ⟨b6, o5, none⟩ ∧ h1.canW b6 (o5 + 1) 1 ∧ Q (.string (ByteArray.mk #[])) (h1.wr b6 (o5 + 1) [.bool true]))) := by kernel_rfl
theorem F71.den (V : Value → List Value → PT) (p : Option Addr) : denF Try.prog [] [(91, F91.V)] V [] Try.f71 [.v (.pointer p)] = F71.T p := F71.gen V F91.T p
def F71.W (T71 : Option Addr → PT) (args : List Value) : PT := match args with
  | [.pointer p] => T71 p
  | _ => fun _ _ => False
def F71.V : List Value → PT := F71.W F71.T
theorem F71.ok : FOk Try.prog 71 F71.V := by
  refine ⟨⟨_, Try.func71, rfl, rfl⟩, fun args => ?_⟩
  have hG : GOk Try.prog [(91, F91.V)] := GOk.cons F91.ok (GOk.nil)
  have hV : VOk Try.prog noV := noV_ok
  unfold F71.V F71.W
  split
  · exact denF_okV hG hV Try.func71 (fun h Q hq => (F71.den _ _) ▸ hq)
  · exact fun h Q hq => hq.elim
def F13.T (l : Sl) (l1 : Sl) : PT := fun h Q =>
  par ((l.n : Int) = (l1.n : Int)) (∃ (I : Int → Hp → Prop) (m : Int → Hp → Nat), I 0 h ∧ (∀ n : Int, ∀ h1 : Hp, I n h1 → par (n < (l.n : Int)) (∃ b o, (l.a : Option Addr) = some ⟨b, o, none⟩ ∧ ((0 : Int) ≤ n ∧ n < (l.n : Int)) ∧ ∃ l2 : Sl, h1.at b (o + n.toNat) = some (.slice l2.a l2.n l2.c) ∧ ∃ b1 o1, (l1.a : Option Addr) = some ⟨b1, o1, none⟩ ∧ ((0 : Int) ≤ n ∧ n < (l1.n : Int)) ∧ ∃ l3 : Sl, h1.at b1 (o1 + n.toNat) = some (.slice l3.a l3.n l3.c) ∧ F20.T l2 l3 h1 fun r h2 => ∃ b2 : Bool, r = .bool b2 ∧ parB b2 (I (IntKind.wrap .i64 (n + 1)) h2 ∧ m (IntKind.wrap .i64 (n + 1)) h2 < m n h1) (Q (.bool false) h2)) (Q (.bool true) h1))) (Q (.bool false) h)
theorem F13.gen (V : Value → List Value → PT) (T20 : Sl → Sl → PT) (l : Sl) (l1 : Sl) : denF Try.prog [] [(20, F20.W T20)] V [(58, .loop [(5, .int .i64)] []), (1864, .order [0, 1, 2, 3, 4, 5, 6, 7, 8, 9])] Try.f13 [.v (.slice l.a l.n l.c), .v (.slice l1.a l1.n l1.c)] = fun h Q =>
  par ((l.n : Int) = (l1.n : Int)) (∃ (I : Int → Hp → Prop) (m : Int → Hp → Nat), I 0 h ∧ (∀ n : Int, ∀ h1 : Hp, I n h1 → par (n < (l.n : Int)) (∃ b o, (l.a : Option Addr) = some ⟨b, o, none⟩ ∧ ((0 : Int) ≤ n ∧ n < (l.n : Int)) ∧ ∃ l2 : Sl, h1.at b (o + n.toNat) = some (.slice l2.a l2.n l2.c) ∧ ∃ b1 o1, (l1.a : Option Addr) = some ⟨b1, o1, none⟩ ∧ ((0 : Int) ≤ n ∧ n < (l1.n : Int)) ∧ ∃ l3 : Sl, h1.at b1 (o1 + n.toNat) = some (.slice l3.a l3.n l3.c) ∧ T20 l2 l3 h1 fun r h2 => ∃ b2 : Bool, r = .bool b2 ∧ parB b2 (I (IntKind.wrap .i64 (n + 1)) h2 ∧ m (IntKind.wrap .i64 (n + 1)) h2 < m n h1) (Q (.bool false) h2)) (Q (.bool true) h1))) (Q (.bool false) h) := by kernel_rfl
theorem F13.den (V : Value → List Value → PT) (l : Sl) (l1 : Sl) : denF Try.prog [] [(20, F20.V)] V [(58, .loop [(5, .int .i64)] []), (1864, .order [0, 1, 2, 3, 4, 5, 6, 7, 8, 9])] Try.f13 [.v (.slice l.a l.n l.c), .v (.slice l1.a l1.n l1.c)] = F13.T l l1 := F13.gen V F20.T l l1
def F13.W (T13 : Sl → Sl → PT) (args : List Value) : PT := match args with
  | [.slice l_a l_n l_c, .slice l1_a l1_n l1_c] => T13 ⟨l_a, l_n, l_c⟩ ⟨l1_a, l1_n, l1_c⟩
  | _ => fun _ _ => False
def F13.V : List Value → PT := F13.W F13.T
theorem F13.ok : FOk Try.prog 13 F13.V := by
  refine ⟨⟨_, Try.func13, rfl, rfl⟩, fun args => ?_⟩
  have hG : GOk Try.prog [(20, F20.V)] := GOk.cons F20.ok (GOk.nil)
  have hV : VOk Try.prog noV := noV_ok
  unfold F13.V F13.W
  split
  · exact denF_okV hG hV Try.func13 (fun h Q hq => (F13.den _ _ _) ▸ hq)
  · exact fun h Q hq => hq.elim
end Go.Eng.Ytblghgacokoklaa
end
section
/-
  SPECS, 23: the document's reader.
-/
set_option linter.unusedSimpArgs false
set_option linter.unusedVariables false
namespace Go.Eng.Ytblghgacokoklaa
theorem tmod128 (c : Int) (h0 : 0 ≤ c) (h1 : c < 256) : Int.tmod c 128 = bitsI .and .u8 c 127 := by
  obtain ⟨m, rfl⟩ : ∃ m : Nat, c = (m : Int) := ⟨c.toNat, by omega⟩
  rw [and127 m (by omega), Int.tmod_eq_emod_of_nonneg h0]
  omega
theorem uint2_spec {h : Hp} {l : Sl} {bs : List Int} {Q : Value → Hp → Prop} (hr : h.row l.a l.n (bv bs)) (hok : ∀ c ∈ bs, 0 ≤ c ∧ c < 256)
    (hQ : Q (.tuple ⟨[.int .u64 (uR 0 0 bs).1, .int .i64 ((uR 0 0 bs).2.1 : Int), .int .i64 (uR 0 0 bs).2.2]⟩) h) : F90.T l h Q := by
  have hln : l.n = bs.length := by have := hr.1; rw [bv_length] at this; exact this.symm
  refine ⟨fun n n1 h1 => h1 = h ∧ ∃ i : Nat, n1 = (i : Int) ∧ i ≤ bs.length ∧ i ≤ 9 ∧ uR i n (bs.drop i) = uR 0 0 bs, fun _ n1 _ => bs.length - n1.toNat, ⟨rfl, 0, rfl, Nat.zero_le _, by decide, rfl⟩, ?_⟩
  rintro n n1 h1 ⟨rfl, i, rfl, hi, hi9, hu⟩
  refine ⟨fun hlt => ?_, fun hge => ?_⟩
  · have hi1 : i < bs.length := by omega
    have hb := hok _ (List.getElem_mem hi1)
    obtain ⟨b, o, ha, hat⟩ := row_get hr (i := i) (by omega)
    have hv : (bv bs)[i]? = some (Value.int .u8 bs[i]) := by simp [bv, hi1]
    have hw : IntKind.wrap .u64 (IntKind.wrap .i64 (7 * (i : Int))) = 7 * (i : Int) := by rw [wrap_i64 (by omega) (by omega), wrap_u64 (by omega) (by omega)]
    have hw1 : IntKind.wrap .i64 ((i : Int) + 1) = ((i + 1 : Nat) : Int) := by rw [wrap_i64 (by omega) (by omega)]; omega
    rw [List.drop_eq_getElem_cons hi1, uR] at hu
    have bad : ((bs[i] = 0 ∧ 0 < i) ∨ (i = 9 ∧ bs[i] ≠ 1)) → Q (.tuple ⟨[.int .u64 0, .int .i64 0, .int .i64 21]⟩) h1 := fun hb => by
      rw [if_pos hb] at hu; rw [← hu] at hQ; exact hQ
    refine ⟨b, o, ha, ⟨by omega, hlt⟩, bs[i], by rw [Int.toNat_natCast, hat i (by omega), hv], fun h2 => h2 = h1 ∧ ¬ ((bs[i] = 0 ∧ 0 < i) ∨ (i = 9 ∧ bs[i] ≠ 1)), ?_, ?_⟩
    · rintro h2 ⟨rfl, hn⟩
      rw [if_neg hn] at hu
      rw [hw, hw1, tmod128 _ hb.1 hb.2]
      refine ⟨by decide, by omega, fun hc => ?_, fun hc => ⟨⟨rfl, i + 1, rfl, hi1, ?_, ?_⟩, ?_⟩⟩
      · rw [if_pos hc] at hu; rw [← hu] at hQ; exact hQ
      · by_cases h9 : i = 9
        · exact absurd (.inr ⟨h9, fun h1 => hc (by rw [h1]; decide)⟩) hn
        · omega
      · rw [if_neg hc] at hu; exact hu
      · show bs.length - ((i + 1 : Nat) : Int).toNat < bs.length - (i : Int).toNat
        omega
    · refine ⟨fun hi0 => ⟨fun h0 => bad (.inl ⟨h0, by omega⟩), fun h0 => ⟨fun h9 => ⟨fun h1 => ⟨rfl, by omega⟩, fun h1 => bad (.inr ⟨by omega, h1⟩)⟩, fun h9 => ⟨rfl, by omega⟩⟩⟩, fun hi0 => ⟨fun h9 => ⟨fun h1 => ⟨rfl, by omega⟩, fun h1 => bad (.inr ⟨by omega, h1⟩)⟩, fun h9 => ⟨rfl, by omega⟩⟩⟩
  · have hi2 : bs.length ≤ i := by omega
    rw [List.drop_of_length_le hi2, uR] at hu
    rw [← hu] at hQ
    exact hQ
theorem text2_spec {h : Hp} {l : Sl} {bs : List Int} {Q : Value → Hp → Prop} (hr : h.row l.a l.n (bv bs)) (hc : l.n ≤ l.c) (hok : ∀ c ∈ bs, 0 ≤ c ∧ c < 256) (hs : bs.length ≤ 1000000000000)
    (hQ : Q (.tuple ⟨[.string (tR bs).1, .int .i64 ((tR bs).2.1 : Int), .int .i64 (tR bs).2.2]⟩) h) : F91.T l 64 h Q := by
  have hln : l.n = bs.length := by have := hr.1; rw [bv_length] at this; exact this.symm
  have h2 := uR_ok bs 0 0
  refine uint2_spec hr hok ⟨_, _, _, rfl, fun h0 => ⟨fun hb => absurd hb (by decide), fun _ => ⟨fun h3 => ?_, fun h3 => ⟨fun h4 => ?_, fun h4 => ?_⟩⟩⟩, fun h0 => ?_⟩
  · have h3' : 64 < (uR 0 0 bs).1 := by
      rw [wrap_u64 (by decide) (by decide)] at h3; exact h3
    unfold tR at hQ
    rw [if_pos h0, if_pos h3'] at hQ
    exact hQ
  · have h1 := uR_take bs 0 0 h0
    have h3' : ¬ 64 < (uR 0 0 bs).1 := by
      rw [wrap_u64 (by decide) (by decide)] at h3; exact h3
    have h4' : ((bs.length - (uR 0 0 bs).2.1 : Nat) : Int) < (uR 0 0 bs).1 := by
      rw [wrap_i64 (by omega) (by omega), wrap_u64 (by omega) (by omega)] at h4
      omega
    unfold tR at hQ
    rw [if_pos h0, if_neg h3', if_pos h4'] at hQ
    exact hQ
  · have h1 := uR_take bs 0 0 h0
    have h3' : ¬ 64 < (uR 0 0 bs).1 := by
      rw [wrap_u64 (by decide) (by decide)] at h3; exact h3
    have h4' : ¬ ((bs.length - (uR 0 0 bs).2.1 : Nat) : Int) < (uR 0 0 bs).1 := by
      rw [wrap_i64 (by omega) (by omega), wrap_u64 (by omega) (by omega)] at h4
      omega
    have hn := h2.1
    have w1 : IntKind.wrap .i64 (uR 0 0 bs).1 = (uR 0 0 bs).1 := wrap_i64 (by omega) (by omega)
    have w2 : IntKind.wrap .i64 (((uR 0 0 bs).2.1 : Int) + (uR 0 0 bs).1) = (((uR 0 0 bs).2.1 + (uR 0 0 bs).1.toNat : Nat) : Int) := by rw [wrap_i64 (by omega) (by omega)]; omega
    rw [w1, w2]
    unfold tR at hQ
    rw [if_pos h0, if_neg h3', if_neg h4'] at hQ
    refine ⟨⟨by omega, by omega, by omega, by omega⟩, _, ?_, hQ⟩
    have hm := cut_mid hr (i := (uR 0 0 bs).2.1) (j := (uR 0 0 bs).2.1 + (uR 0 0 bs).1.toNat) (m := l.c) (by omega) (by omega) hc
    rw [toB_V (fun c hc => hok c (List.mem_of_mem_drop (List.mem_of_mem_take hc)))]
    have e : bv ((bs.drop (uR 0 0 bs).2.1).take (uR 0 0 bs).1.toNat) = ((bv bs).drop (uR 0 0 bs).2.1).take ((uR 0 0 bs).2.1 + (uR 0 0 bs).1.toNat - (uR 0 0 bs).2.1) := by
      rw [Nat.add_sub_cancel_left]
      unfold bv
      rw [List.map_take, List.map_drop]
    rw [e]
    exact hm
  · unfold tR at hQ
    rw [if_neg h0] at hQ
    exact hQ
/-- The document's reader, in memory. -/
structure RdN (h0 h : Hp) (b : Nat) (s : RS) : Prop where
  cell : ∃ l : Sl, h b = some (.cells ⟨[.slice l.a l.n l.c, .bool s.bad]⟩ 119 (0, 0)) ∧ h0.row l.a l.n (bv s.b) ∧ l.n ≤ l.c
  new : h0 b = none
  keep : Keep h0 h
  ok : ∀ c ∈ s.b, 0 ≤ c ∧ c < 256
  small : s.b.length ≤ 1000000000000
theorem RdN.wr {h0 h : Hp} {b : Nat} {s s' : RS} (R : RdN h0 h b s) {l : Sl} {h' : Hp} (U : Upd h h' (rb b) (rb b)) (hc : h' b = some (.cells ⟨[.slice l.a l.n l.c, .bool s'.bad]⟩ 119 (0, 0))) (hr : h0.row l.a l.n (bv s'.b)) (hl : l.n ≤ l.c) (hs : ∀ c ∈ s'.b, c ∈ s.b) (hle : s'.b.length ≤ s.b.length) : RdN h0 h' b s' :=
  ⟨⟨l, hc, hr, hl⟩, R.new, (keep_grow R.keep (.inr (rb_new R.new)) U).1, fun c hc => R.ok c (hs c hc), Nat.le_trans hle R.small⟩
theorem RdN.buf {h0 h : Hp} {b : Nat} {s : RS} (R : RdN h0 h b s) : ∃ vs, Buf h (rb b) 2 119 vs := by
  obtain ⟨l, hb, _, _⟩ := R.cell
  exact ⟨[.slice l.a l.n l.c, .bool s.bad], rfl, Nat.le_refl _, .inr ⟨b, _, (0, 0), rfl, hb, Nat.le_refl _, fun j _ => by simp, rfl⟩⟩
theorem RdN.off {h0 h : Hp} {b : Nat} {s : RS} (R : RdN h0 h b s) {l : Sl} {sz t : Nat} {vs : List Value} (B : Buf h l sz t vs) (ht : t ≠ 119) : Off l (rb b) := by
  obtain ⟨us, B2⟩ := R.buf
  exact buf_off B B2 ht
theorem RdN.grow {h0 h h' : Hp} {b : Nat} {s : RS} (R : RdN h0 h b s) {l l' : Sl} {sz t : Nat} {vs : List Value} (B : Buf h l sz t vs) (ht : t ≠ 119) (N : l.a = none ∨ New h0 l) (U : Upd h h' l l') : RdN h0 h' b s := by
  obtain ⟨us, B2⟩ := R.buf
  obtain ⟨r, hb, hr, hl⟩ := R.cell
  have ho := buf_off B2 B (Ne.symm ht)
  exact ⟨⟨r, U.keep b _ (fun o => ho b 0 o rfl) hb, hr, hl⟩, R.new, (keep_grow R.keep N U).1, R.ok, R.small⟩
theorem RdN.bad_at {h0 h : Hp} {b : Nat} {s : RS} (R : RdN h0 h b s) : h.at b 1 = some (.bool s.bad) := by
  obtain ⟨l, hb, _, _⟩ := R.cell
  unfold Hp.at; rw [hb]; rfl
theorem RdN.b_at {h0 h : Hp} {b : Nat} {s : RS} (R : RdN h0 h b s) : ∃ l : Sl, h.at b 0 = some (.slice l.a l.n l.c) ∧ l.n = s.b.length := by
  obtain ⟨l, hb, hr, _⟩ := R.cell
  refine ⟨l, by unfold Hp.at; rw [hb]; rfl, ?_⟩
  have := hr.1
  rw [bv_length] at this
  exact this.symm
theorem RdN.setBad {h0 h : Hp} {b : Nat} {s : RS} (R : RdN h0 h b s) : h.canW b (0 + 1) 1 ∧ Upd h (h.wr b (0 + 1) [.bool true]) (rb b) (rb b) ∧ RdN h0 (h.wr b (0 + 1) [.bool true]) b ⟨s.b, true⟩ := by
  obtain ⟨l, hb, hr, hl⟩ := R.cell
  exact ⟨⟨_, _, _, hb, Nat.le_of_ble_eq_true rfl, fun j _ _ => by simp⟩, upd_wr hb, R.wr (l := l) (upd_wr hb) (wr_at hb) hr hl (fun c hc => hc) (Nat.le_refl _)⟩
theorem RdN.setB {h0 h : Hp} {b : Nat} {s : RS} (R : RdN h0 h b s) (hbad : s.bad = false) {k : Nat} (hk : k ≤ s.b.length) : ∃ l : Sl, h.at b 0 = some (.slice l.a l.n l.c) ∧ Sl.okCut l (k : Int) (l.n : Int) (l.c : Int) ∧ h.canW b 0 1 ∧
    Upd h (h.wr b 0 [.slice (Sl.cut l 1 (k : Int) (l.n : Int) (l.c : Int)).a (Sl.cut l 1 (k : Int) (l.n : Int) (l.c : Int)).n (Sl.cut l 1 (k : Int) (l.n : Int) (l.c : Int)).c]) (rb b) (rb b) ∧ RdN h0 (h.wr b 0 [.slice (Sl.cut l 1 (k : Int) (l.n : Int) (l.c : Int)).a (Sl.cut l 1 (k : Int) (l.n : Int) (l.c : Int)).n (Sl.cut l 1 (k : Int) (l.n : Int) (l.c : Int)).c]) b ⟨s.b.drop k, false⟩ := by
  obtain ⟨l, hb, hr, hl⟩ := R.cell
  have hln : l.n = s.b.length := by have := hr.1; rw [bv_length] at this; exact this.symm
  have hw := wr_at (o := 0) (vs := [.slice (Sl.cut l 1 (k : Int) (l.n : Int) (l.c : Int)).a (Sl.cut l 1 (k : Int) (l.n : Int) (l.c : Int)).n (Sl.cut l 1 (k : Int) (l.n : Int) (l.c : Int)).c]) hb
  rw [hbad] at hw
  refine ⟨l, by unfold Hp.at; rw [hb]; rfl, ⟨by omega, by omega, by omega, by omega⟩, ⟨_, _, _, hb, Nat.le_of_ble_eq_true rfl, fun j _ _ => by simp⟩, upd_wr hb, R.wr (l := Sl.cut l 1 (k : Int) (l.n : Int) (l.c : Int)) (upd_wr hb) hw ?_ ?_ (fun c hc => List.mem_of_mem_drop hc) (by simp)⟩
  · have := cut_mid hr (i := k) (j := l.n) (m := l.c) (by omega) (Nat.le_refl _) hl
    have e : bv (s.b.drop k) = ((bv s.b).drop k).take (l.n - k) := by
      rw [List.take_of_length_le (by rw [List.length_drop, bv_length]; omega)]
      unfold bv
      rw [List.map_drop]
    show h0.row _ _ (bv (s.b.drop k))
    rw [e]; exact this
  · simp [Sl.cut]; omega
theorem uint_n {h0 h : Hp} {b : Nat} {s : RS} {Q : Value → Hp → Prop} (R : RdN h0 h b s)
    (hQ : ∀ h', Upd h h' (rb b) (rb b) → RdN h0 h' b (nU s).2 → Q (.int .u64 (nU s).1) h') : F69.T (some ⟨b, 0, none⟩) h Q := by
  obtain ⟨l, hb, hr, hl⟩ := R.cell
  have a0 : h.at b 0 = some (.slice l.a l.n l.c) := by unfold Hp.at; rw [hb]; rfl
  refine ⟨b, 0, rfl, l, a0, uint2_spec (R.keep.row hr) R.ok ⟨_, _, _, rfl, b, 0, rfl, s.bad, R.bad_at, fun hbad => ?_, fun hbad => ⟨fun h0' => ?_, fun h0' => ?_⟩⟩⟩
  · obtain ⟨w1, w2, w3⟩ := R.setBad
    have e : nU s = (0, ⟨s.b, true⟩) := by unfold nU; rw [if_pos hbad]
    rw [e] at hQ
    exact ⟨b, 0, rfl, w1, hQ _ w2 w3⟩
  · have e : nU s = ((uR 0 0 s.b).1, ⟨s.b.drop (uR 0 0 s.b).2.1, false⟩) := by unfold nU; rw [if_neg (by rw [hbad]; decide), if_pos h0']
    rw [e] at hQ
    obtain ⟨l1, q1, q2, q3, q4, q5⟩ := R.setB hbad (rU_take s h0').2
    exact ⟨b, 0, rfl, l1, q1, q2, b, 0, rfl, q3, hQ _ q4 q5⟩
  · obtain ⟨w1, w2, w3⟩ := R.setBad
    have e : nU s = (0, ⟨s.b, true⟩) := by unfold nU; rw [if_neg (by rw [hbad]; decide), if_neg h0']
    rw [e] at hQ
    exact ⟨b, 0, rfl, w1, hQ _ w2 w3⟩
theorem below_n {h0 h : Hp} {b : Nat} {s : RS} {m : Int} {Q : Value → Hp → Prop} (R : RdN h0 h b s) (hm0 : 0 ≤ m) (hm : m < 9223372036854775808)
    (hQ : ∀ h', Upd h h' (rb b) (rb b) → RdN h0 h' b (nW m s).2 → Q (.int .i64 (nW m s).1) h') : F70.T (some ⟨b, 0, none⟩) m h Q := by
  refine uint_n R fun h1 U1 R1 => ⟨_, rfl, fun hlt => ?_, fun hge => ?_⟩
  · have hw : nW m s = (0, ⟨(nU s).2.b, true⟩) := by unfold nW; rw [if_pos hlt]
    rw [hw] at hQ
    obtain ⟨w1, w2, w3⟩ := R1.setBad
    exact ⟨b, 0, rfl, w1, hQ _ (U1.trans w2) w3⟩
  · have hw : nW m s = nU s := by unfold nW; rw [if_neg hge]
    rw [hw] at hQ
    have h0' : 0 ≤ (nU s).1 := by
      unfold nU
      split
      · exact Int.le_refl 0
      · split
        · exact (uR_ok s.b 0 0).1
        · exact Int.le_refl 0
    rw [wrap_i64 (by omega) (by omega)]
    exact hQ h1 U1 R1
theorem text_n {h0 h : Hp} {b : Nat} {s : RS} {Q : Value → Hp → Prop} (R : RdN h0 h b s)
    (hQ : ∀ h', Upd h h' (rb b) (rb b) → RdN h0 h' b (nT s).2 → Q (.string (nT s).1) h') : F71.T (some ⟨b, 0, none⟩) h Q := by
  obtain ⟨l, hb, hr, hl⟩ := R.cell
  have a0 : h.at b 0 = some (.slice l.a l.n l.c) := by unfold Hp.at; rw [hb]; rfl
  refine ⟨b, 0, rfl, l, a0, text2_spec (R.keep.row hr) hl R.ok R.small ⟨_, _, _, rfl, b, 0, rfl, s.bad, R.bad_at, fun hbad => ?_, fun hbad => ⟨fun h0' => ?_, fun h0' => ?_⟩⟩⟩
  · obtain ⟨w1, w2, w3⟩ := R.setBad
    have e : nT s = (⟨#[]⟩, ⟨s.b, true⟩) := by unfold nT; rw [if_pos hbad]
    rw [e] at hQ
    exact ⟨b, 0, rfl, w1, hQ _ w2 w3⟩
  · have e : nT s = ((tR s.b).1, ⟨s.b.drop (tR s.b).2.1, false⟩) := by unfold nT; rw [if_neg (by rw [hbad]; decide), if_pos h0']
    rw [e] at hQ
    obtain ⟨l1, q1, q2, q3, q4, q5⟩ := R.setB hbad (tR_take s.b h0').2
    exact ⟨b, 0, rfl, l1, q1, q2, b, 0, rfl, q3, hQ _ q4 q5⟩
  · obtain ⟨w1, w2, w3⟩ := R.setBad
    have e : nT s = (⟨#[]⟩, ⟨s.b, true⟩) := by unfold nT; rw [if_neg (by rw [hbad]; decide), if_neg h0']
    rw [e] at hQ
    exact ⟨b, 0, rfl, w1, hQ _ w2 w3⟩
end Go.Eng.Ytblghgacokoklaa
end
section
set_option maxRecDepth 100000
set_option linter.unusedVariables false
open Go.Proofs
namespace Go.Eng.Ytblghgacokoklaa
def F30.T (l : Sl) : PT := fun h Q =>
  par ((l.n : Int) = 0) (Q (.tuple ⟨[.bool false, .agg ⟨[.int .u64 0, .int .u64 0, .int .u64 0, .slice none 0 0, .slice none 0 0, .slice none 0 0]⟩, .bool false]⟩) h) (∃ b o, (l.a : Option Addr) = some ⟨b, o, none⟩ ∧ ((0 : Int) ≤ 0 ∧ 0 < (l.n : Int)) ∧ ∃ n : Int, h.at b (o + (0 : Int).toNat) = some (.int .u8 n) ∧ par ((1 : Int) < n) (Q (.tuple ⟨[.bool false, .agg ⟨[.int .u64 0, .int .u64 0, .int .u64 0, .slice none 0 0, .slice none 0 0, .slice none 0 0]⟩, .bool false]⟩) h) (Sl.okCut l 1 (l.n : Int) (l.c : Int) ∧ ∀ b1, h b1 = none → F69.T (some ⟨b1, 0, none⟩) (h.new b1 (.cells ⟨[.slice (Sl.cut l 1 1 (l.n : Int) (l.c : Int)).a (Sl.cut l 1 1 (l.n : Int) (l.c : Int)).n (Sl.cut l 1 1 (l.n : Int) (l.c : Int)).c, .bool false]⟩ 119 (0, 0))) fun r h1 => ∃ n1 : Int, r = .int .u64 n1 ∧ F69.T (some ⟨b1, 0, none⟩) h1 fun r1 h2 => ∃ n2 : Int, r1 = .int .u64 n2 ∧ F69.T (some ⟨b1, 0, none⟩) h2 fun r2 h3 => ∃ n3 : Int, r2 = .int .u64 n3 ∧ F70.T (some ⟨b1, 0, none⟩) 256 h3 fun r3 h4 => ∃ n4 : Int, r3 = .int .i64 n4 ∧ ∃ J : Int → Int → Int → Sl → Sl → Sl → Hp → Prop, (∀ n5 : Int, ∀ n6 : Int, ∀ n7 : Int, ∀ l1 : Sl, ∀ l2 : Sl, ∀ l3 : Sl, ∀ h5 : Hp, J n5 n6 n7 l1 l2 l3 h5 → F70.T (some ⟨b1, 0, none⟩) 256 h5 fun r4 h6 => ∃ n8 : Int, r4 = .int .i64 n8 ∧ ∃ J1 : Int → Int → Int → Sl → Sl → Sl → Hp → Prop, (∀ n9 : Int, ∀ n10 : Int, ∀ n11 : Int, ∀ l4 : Sl, ∀ l5 : Sl, ∀ l6 : Sl, ∀ h7 : Hp, J1 n9 n10 n11 l4 l5 l6 h7 → F70.T (some ⟨b1, 0, none⟩) 5 h7 fun r5 h8 => ∃ n12 : Int, r5 = .int .i64 n12 ∧ ∃ (I : Int → Int → Int → Int → Sl → Sl → Sl → Hp → Prop) (m : Int → Int → Int → Int → Sl → Sl → Sl → Hp → Nat), I 0 n9 n10 n11 l4 l5 l6 h8 ∧ (∀ n13 : Int, ∀ n14 : Int, ∀ n15 : Int, ∀ n16 : Int, ∀ l7 : Sl, ∀ l8 : Sl, ∀ l9 : Sl, ∀ h9 : Hp, I n13 n14 n15 n16 l7 l8 l9 h9 → par (n13 < n12) (∃ b2 : Bool, h9.at b1 1 = some (.bool b2) ∧ parB b2 (∃ b3 : Bool, h9.at b1 1 = some (.bool b3) ∧ parB b3 (Q (.tuple ⟨[.bool false, .agg ⟨[.int .u64 0, .int .u64 0, .int .u64 0, .slice none 0 0, .slice none 0 0, .slice none 0 0]⟩, .bool false]⟩) h9) (∃ l10 : Sl, h9.at b1 0 = some (.slice l10.a l10.n l10.c) ∧ par ((l10.n : Int) = 0) (∃ b4 o1, (l.a : Option Addr) = some ⟨b4, o1, none⟩ ∧ ((0 : Int) ≤ 0 ∧ 0 < (l.n : Int)) ∧ ∃ n17 : Int, h9.at b4 (o1 + (0 : Int).toNat) = some (.int .u8 n17) ∧ par (n17 = 1) (Q (.tuple ⟨[.bool true, .agg ⟨[.int .u64 n14, .int .u64 n15, .int .u64 n16, .slice l7.a l7.n l7.c, .slice l8.a l8.n l8.c, .slice l9.a l9.n l9.c]⟩, .bool true]⟩) h9) (Q (.tuple ⟨[.bool false, .agg ⟨[.int .u64 n14, .int .u64 n15, .int .u64 n16, .slice l7.a l7.n l7.c, .slice l8.a l8.n l8.c, .slice l9.a l9.n l9.c]⟩, .bool true]⟩) h9)) (Q (.tuple ⟨[.bool false, .agg ⟨[.int .u64 0, .int .u64 0, .int .u64 0, .slice none 0 0, .slice none 0 0, .slice none 0 0]⟩, .bool false]⟩) h9))) (F71.T (some ⟨b1, 0, none⟩) h9 fun r6 h10 => ∃ s : ByteArray, r6 = .string s ∧ appendD l9 9 1 16 [.string (ByteArray.mk #[])] 1 [.string s] h10 fun l11 h11 => I (IntKind.wrap .i64 (n13 + 1)) n14 n15 n16 l7 l8 l11 h11 ∧ m (IntKind.wrap .i64 (n13 + 1)) n14 n15 n16 l7 l8 l11 h11 < m n13 n14 n15 n16 l7 l8 l9 h9)) (∃ b5 : Bool, h9.at b1 1 = some (.bool b5) ∧ parB b5 (Q (.tuple ⟨[.bool false, .agg ⟨[.int .u64 0, .int .u64 0, .int .u64 0, .slice none 0 0, .slice none 0 0, .slice none 0 0]⟩, .bool false]⟩) h9) (∃ l12 : Sl, h9.at b1 0 = some (.slice l12.a l12.n l12.c) ∧ par ((l12.n : Int) = 0) (∃ b6 o2, (l.a : Option Addr) = some ⟨b6, o2, none⟩ ∧ ((0 : Int) ≤ 0 ∧ 0 < (l.n : Int)) ∧ ∃ n18 : Int, h9.at b6 (o2 + (0 : Int).toNat) = some (.int .u8 n18) ∧ par (n18 = 1) (Q (.tuple ⟨[.bool true, .agg ⟨[.int .u64 n14, .int .u64 n15, .int .u64 n16, .slice l7.a l7.n l7.c, .slice l8.a l8.n l8.c, .slice l9.a l9.n l9.c]⟩, .bool true]⟩) h9) (Q (.tuple ⟨[.bool false, .agg ⟨[.int .u64 n14, .int .u64 n15, .int .u64 n16, .slice l7.a l7.n l7.c, .slice l8.a l8.n l8.c, .slice l9.a l9.n l9.c]⟩, .bool true]⟩) h9)) (Q (.tuple ⟨[.bool false, .agg ⟨[.int .u64 0, .int .u64 0, .int .u64 0, .slice none 0 0, .slice none 0 0, .slice none 0 0]⟩, .bool false]⟩) h9))))) ∧ (∃ (I1 : Int → Int → Int → Int → Sl → Sl → Sl → Hp → Prop) (m1 : Int → Int → Int → Int → Sl → Sl → Sl → Hp → Nat), I1 0 n5 n6 n7 l1 l2 l3 h6 ∧ (∀ n19 : Int, ∀ n20 : Int, ∀ n21 : Int, ∀ n22 : Int, ∀ l13 : Sl, ∀ l14 : Sl, ∀ l15 : Sl, ∀ h12 : Hp, I1 n19 n20 n21 n22 l13 l14 l15 h12 → par (n19 < n8) (∃ b7 : Bool, h12.at b1 1 = some (.bool b7) ∧ parB b7 (J1 n20 n21 n22 l13 l14 l15 h12) (F70.T (some ⟨b1, 0, none⟩) 4 h12 fun r7 h13 => ∃ n23 : Int, r7 = .int .i64 n23 ∧ F69.T (some ⟨b1, 0, none⟩) h13 fun r8 h14 => ∃ n24 : Int, r8 = .int .u64 n24 ∧ F70.T (some ⟨b1, 0, none⟩) 9223372036854775807 h14 fun r9 h15 => ∃ n25 : Int, r9 = .int .i64 n25 ∧ F70.T (some ⟨b1, 0, none⟩) 9223372036854775807 h15 fun r10 h16 => ∃ n26 : Int, r10 = .int .i64 n26 ∧ F70.T (some ⟨b1, 0, none⟩) 9223372036854775807 h16 fun r11 h17 => ∃ n27 : Int, r11 = .int .i64 n27 ∧ F71.T (some ⟨b1, 0, none⟩) h17 fun r12 h18 => ∃ s1 : ByteArray, r12 = .string s1 ∧ F71.T (some ⟨b1, 0, none⟩) h18 fun r13 h19 => ∃ s2 : ByteArray, r13 = .string s2 ∧ appendD l14 87 7 72 [.int .i64 0, .int .u64 0, .int .i64 0, .int .i64 0, .int .i64 0, .string (ByteArray.mk #[]), .string (ByteArray.mk #[])] 1 [.int .i64 n23, .int .u64 n24, .int .i64 n25, .int .i64 n26, .int .i64 n27, .string s1, .string s2] h19 fun l16 h20 => I1 (IntKind.wrap .i64 (n19 + 1)) n20 n21 n22 l13 l16 l15 h20 ∧ m1 (IntKind.wrap .i64 (n19 + 1)) n20 n21 n22 l13 l16 l15 h20 < m1 n19 n20 n21 n22 l13 l14 l15 h12)) (J1 n20 n21 n22 l13 l14 l15 h12)))) ∧ (∃ (I2 : Int → Int → Int → Int → Sl → Sl → Sl → Hp → Prop) (m2 : Int → Int → Int → Int → Sl → Sl → Sl → Hp → Nat), I2 0 n1 n2 n3 ⟨none, 0, 0⟩ ⟨none, 0, 0⟩ ⟨none, 0, 0⟩ h4 ∧ (∀ n28 : Int, ∀ n29 : Int, ∀ n30 : Int, ∀ n31 : Int, ∀ l17 : Sl, ∀ l18 : Sl, ∀ l19 : Sl, ∀ h21 : Hp, I2 n28 n29 n30 n31 l17 l18 l19 h21 → par (n28 < n4) (∃ b8 : Bool, h21.at b1 1 = some (.bool b8) ∧ parB b8 (J n29 n30 n31 l17 l18 l19 h21) (F70.T (some ⟨b1, 0, none⟩) 4 h21 fun r14 h22 => ∃ n32 : Int, r14 = .int .i64 n32 ∧ F69.T (some ⟨b1, 0, none⟩) h22 fun r15 h23 => ∃ n33 : Int, r15 = .int .u64 n33 ∧ appendD l17 89 2 16 [.int .i64 0, .int .u64 0] 1 [.int .i64 n32, .int .u64 n33] h23 fun l20 h24 => I2 (IntKind.wrap .i64 (n28 + 1)) n29 n30 n31 l20 l18 l19 h24 ∧ m2 (IntKind.wrap .i64 (n28 + 1)) n29 n30 n31 l20 l18 l19 h24 < m2 n28 n29 n30 n31 l17 l18 l19 h21)) (J n29 n30 n31 l17 l18 l19 h21)))))
theorem F30.gen (V : Value → List Value → PT) (T69 : Option Addr → PT) (T70 : Option Addr → Int → PT) (T71 : Option Addr → PT) (l : Sl) : denF Try.prog [3, 6, 10, 54, 101, 122] [(69, F69.W T69), (70, F70.W T70), (71, F71.W T71)] V [(63, .join [] [(6, [.int .u64, .int .u64, .int .u64, .sl, .sl, .sl])]), (255, .join [] [(6, [.int .u64, .int .u64, .int .u64, .sl, .sl, .sl])]), (506, .loop [(8, .int .i64)] [(6, [.int .u64, .int .u64, .int .u64, .sl, .sl, .sl])]), (2042, .loop [(9, .int .i64)] [(6, [.int .u64, .int .u64, .int .u64, .sl, .sl, .sl])]), (8100, .order [0, 1, 2, 4, 3, 5, 6, 7, 8, 9, 10]), (8186, .loop [(11, .int .i64)] [(6, [.int .u64, .int .u64, .int .u64, .sl, .sl, .sl])]), (8190, .order [0, 1, 2, 3, 4, 5, 6, 7]), (130980, .order [0, 1, 2, 3, 4, 5, 6, 7])] Try.f30 [.v (.slice l.a l.n l.c)] = fun h Q =>
  par ((l.n : Int) = 0) (Q (.tuple ⟨[.bool false, .agg ⟨[.int .u64 0, .int .u64 0, .int .u64 0, .slice none 0 0, .slice none 0 0, .slice none 0 0]⟩, .bool false]⟩) h) (∃ b o, (l.a : Option Addr) = some ⟨b, o, none⟩ ∧ ((0 : Int) ≤ 0 ∧ 0 < (l.n : Int)) ∧ ∃ n : Int, h.at b (o + (0 : Int).toNat) = some (.int .u8 n) ∧ par ((1 : Int) < n) (Q (.tuple ⟨[.bool false, .agg ⟨[.int .u64 0, .int .u64 0, .int .u64 0, .slice none 0 0, .slice none 0 0, .slice none 0 0]⟩, .bool false]⟩) h) (Sl.okCut l 1 (l.n : Int) (l.c : Int) ∧ ∀ b1, h b1 = none → T69 (some ⟨b1, 0, none⟩) (h.new b1 (.cells ⟨[.slice (Sl.cut l 1 1 (l.n : Int) (l.c : Int)).a (Sl.cut l 1 1 (l.n : Int) (l.c : Int)).n (Sl.cut l 1 1 (l.n : Int) (l.c : Int)).c, .bool false]⟩ 119 (0, 0))) fun r h1 => ∃ n1 : Int, r = .int .u64 n1 ∧ T69 (some ⟨b1, 0, none⟩) h1 fun r1 h2 => ∃ n2 : Int, r1 = .int .u64 n2 ∧ T69 (some ⟨b1, 0, none⟩) h2 fun r2 h3 => ∃ n3 : Int, r2 = .int .u64 n3 ∧ T70 (some ⟨b1, 0, none⟩) 256 h3 fun r3 h4 => ∃ n4 : Int, r3 = .int .i64 n4 ∧ ∃ J : Int → Int → Int → Sl → Sl → Sl → Hp → Prop, (∀ n5 : Int, ∀ n6 : Int, ∀ n7 : Int, ∀ l1 : Sl, ∀ l2 : Sl, ∀ l3 : Sl, ∀ h5 : Hp, J n5 n6 n7 l1 l2 l3 h5 → T70 (some ⟨b1, 0, none⟩) 256 h5 fun r4 h6 => ∃ n8 : Int, r4 = .int .i64 n8 ∧ ∃ J1 : Int → Int → Int → Sl → Sl → Sl → Hp → Prop, (∀ n9 : Int, ∀ n10 : Int, ∀ n11 : Int, ∀ l4 : Sl, ∀ l5 : Sl, ∀ l6 : Sl, ∀ h7 : Hp, J1 n9 n10 n11 l4 l5 l6 h7 → T70 (some ⟨b1, 0, none⟩) 5 h7 fun r5 h8 => ∃ n12 : Int, r5 = .int .i64 n12 ∧ ∃ (I : Int → Int → Int → Int → Sl → Sl → Sl → Hp → Prop) (m : Int → Int → Int → Int → Sl → Sl → Sl → Hp → Nat), I 0 n9 n10 n11 l4 l5 l6 h8 ∧ (∀ n13 : Int, ∀ n14 : Int, ∀ n15 : Int, ∀ n16 : Int, ∀ l7 : Sl, ∀ l8 : Sl, ∀ l9 : Sl, ∀ h9 : Hp, I n13 n14 n15 n16 l7 l8 l9 h9 → par (n13 < n12) (∃ b2 : Bool, h9.at b1 1 = some (.bool b2) ∧ parB b2 (∃ b3 : Bool, h9.at b1 1 = some (.bool b3) ∧ parB b3 (Q (.tuple ⟨[.bool false, .agg ⟨[.int .u64 0, .int .u64 0, .int .u64 0, .slice none 0 0, .slice none 0 0, .slice none 0 0]⟩, .bool false]⟩) h9) (∃ l10 : Sl, h9.at b1 0 = some (.slice l10.a l10.n l10.c) ∧ par ((l10.n : Int) = 0) (∃ b4 o1, (l.a : Option Addr) = some ⟨b4, o1, none⟩ ∧ ((0 : Int) ≤ 0 ∧ 0 < (l.n : Int)) ∧ ∃ n17 : Int, h9.at b4 (o1 + (0 : Int).toNat) = some (.int .u8 n17) ∧ par (n17 = 1) (Q (.tuple ⟨[.bool true, .agg ⟨[.int .u64 n14, .int .u64 n15, .int .u64 n16, .slice l7.a l7.n l7.c, .slice l8.a l8.n l8.c, .slice l9.a l9.n l9.c]⟩, .bool true]⟩) h9) (Q (.tuple ⟨[.bool false, .agg ⟨[.int .u64 n14, .int .u64 n15, .int .u64 n16, .slice l7.a l7.n l7.c, .slice l8.a l8.n l8.c, .slice l9.a l9.n l9.c]⟩, .bool true]⟩) h9)) (Q (.tuple ⟨[.bool false, .agg ⟨[.int .u64 0, .int .u64 0, .int .u64 0, .slice none 0 0, .slice none 0 0, .slice none 0 0]⟩, .bool false]⟩) h9))) (T71 (some ⟨b1, 0, none⟩) h9 fun r6 h10 => ∃ s : ByteArray, r6 = .string s ∧ appendD l9 9 1 16 [.string (ByteArray.mk #[])] 1 [.string s] h10 fun l11 h11 => I (IntKind.wrap .i64 (n13 + 1)) n14 n15 n16 l7 l8 l11 h11 ∧ m (IntKind.wrap .i64 (n13 + 1)) n14 n15 n16 l7 l8 l11 h11 < m n13 n14 n15 n16 l7 l8 l9 h9)) (∃ b5 : Bool, h9.at b1 1 = some (.bool b5) ∧ parB b5 (Q (.tuple ⟨[.bool false, .agg ⟨[.int .u64 0, .int .u64 0, .int .u64 0, .slice none 0 0, .slice none 0 0, .slice none 0 0]⟩, .bool false]⟩) h9) (∃ l12 : Sl, h9.at b1 0 = some (.slice l12.a l12.n l12.c) ∧ par ((l12.n : Int) = 0) (∃ b6 o2, (l.a : Option Addr) = some ⟨b6, o2, none⟩ ∧ ((0 : Int) ≤ 0 ∧ 0 < (l.n : Int)) ∧ ∃ n18 : Int, h9.at b6 (o2 + (0 : Int).toNat) = some (.int .u8 n18) ∧ par (n18 = 1) (Q (.tuple ⟨[.bool true, .agg ⟨[.int .u64 n14, .int .u64 n15, .int .u64 n16, .slice l7.a l7.n l7.c, .slice l8.a l8.n l8.c, .slice l9.a l9.n l9.c]⟩, .bool true]⟩) h9) (Q (.tuple ⟨[.bool false, .agg ⟨[.int .u64 n14, .int .u64 n15, .int .u64 n16, .slice l7.a l7.n l7.c, .slice l8.a l8.n l8.c, .slice l9.a l9.n l9.c]⟩, .bool true]⟩) h9)) (Q (.tuple ⟨[.bool false, .agg ⟨[.int .u64 0, .int .u64 0, .int .u64 0, .slice none 0 0, .slice none 0 0, .slice none 0 0]⟩, .bool false]⟩) h9))))) ∧ (∃ (I1 : Int → Int → Int → Int → Sl → Sl → Sl → Hp → Prop) (m1 : Int → Int → Int → Int → Sl → Sl → Sl → Hp → Nat), I1 0 n5 n6 n7 l1 l2 l3 h6 ∧ (∀ n19 : Int, ∀ n20 : Int, ∀ n21 : Int, ∀ n22 : Int, ∀ l13 : Sl, ∀ l14 : Sl, ∀ l15 : Sl, ∀ h12 : Hp, I1 n19 n20 n21 n22 l13 l14 l15 h12 → par (n19 < n8) (∃ b7 : Bool, h12.at b1 1 = some (.bool b7) ∧ parB b7 (J1 n20 n21 n22 l13 l14 l15 h12) (T70 (some ⟨b1, 0, none⟩) 4 h12 fun r7 h13 => ∃ n23 : Int, r7 = .int .i64 n23 ∧ T69 (some ⟨b1, 0, none⟩) h13 fun r8 h14 => ∃ n24 : Int, r8 = .int .u64 n24 ∧ T70 (some ⟨b1, 0, none⟩) 9223372036854775807 h14 fun r9 h15 => ∃ n25 : Int, r9 = .int .i64 n25 ∧ T70 (some ⟨b1, 0, none⟩) 9223372036854775807 h15 fun r10 h16 => ∃ n26 : Int, r10 = .int .i64 n26 ∧ T70 (some ⟨b1, 0, none⟩) 9223372036854775807 h16 fun r11 h17 => ∃ n27 : Int, r11 = .int .i64 n27 ∧ T71 (some ⟨b1, 0, none⟩) h17 fun r12 h18 => ∃ s1 : ByteArray, r12 = .string s1 ∧ T71 (some ⟨b1, 0, none⟩) h18 fun r13 h19 => ∃ s2 : ByteArray, r13 = .string s2 ∧ appendD l14 87 7 72 [.int .i64 0, .int .u64 0, .int .i64 0, .int .i64 0, .int .i64 0, .string (ByteArray.mk #[]), .string (ByteArray.mk #[])] 1 [.int .i64 n23, .int .u64 n24, .int .i64 n25, .int .i64 n26, .int .i64 n27, .string s1, .string s2] h19 fun l16 h20 => I1 (IntKind.wrap .i64 (n19 + 1)) n20 n21 n22 l13 l16 l15 h20 ∧ m1 (IntKind.wrap .i64 (n19 + 1)) n20 n21 n22 l13 l16 l15 h20 < m1 n19 n20 n21 n22 l13 l14 l15 h12)) (J1 n20 n21 n22 l13 l14 l15 h12)))) ∧ (∃ (I2 : Int → Int → Int → Int → Sl → Sl → Sl → Hp → Prop) (m2 : Int → Int → Int → Int → Sl → Sl → Sl → Hp → Nat), I2 0 n1 n2 n3 ⟨none, 0, 0⟩ ⟨none, 0, 0⟩ ⟨none, 0, 0⟩ h4 ∧ (∀ n28 : Int, ∀ n29 : Int, ∀ n30 : Int, ∀ n31 : Int, ∀ l17 : Sl, ∀ l18 : Sl, ∀ l19 : Sl, ∀ h21 : Hp, I2 n28 n29 n30 n31 l17 l18 l19 h21 → par (n28 < n4) (∃ b8 : Bool, h21.at b1 1 = some (.bool b8) ∧ parB b8 (J n29 n30 n31 l17 l18 l19 h21) (T70 (some ⟨b1, 0, none⟩) 4 h21 fun r14 h22 => ∃ n32 : Int, r14 = .int .i64 n32 ∧ T69 (some ⟨b1, 0, none⟩) h22 fun r15 h23 => ∃ n33 : Int, r15 = .int .u64 n33 ∧ appendD l17 89 2 16 [.int .i64 0, .int .u64 0] 1 [.int .i64 n32, .int .u64 n33] h23 fun l20 h24 => I2 (IntKind.wrap .i64 (n28 + 1)) n29 n30 n31 l20 l18 l19 h24 ∧ m2 (IntKind.wrap .i64 (n28 + 1)) n29 n30 n31 l20 l18 l19 h24 < m2 n28 n29 n30 n31 l17 l18 l19 h21)) (J n29 n30 n31 l17 l18 l19 h21))))) := by kernel_rfl
theorem F30.den (V : Value → List Value → PT) (l : Sl) : denF Try.prog [3, 6, 10, 54, 101, 122] [(69, F69.V), (70, F70.V), (71, F71.V)] V [(63, .join [] [(6, [.int .u64, .int .u64, .int .u64, .sl, .sl, .sl])]), (255, .join [] [(6, [.int .u64, .int .u64, .int .u64, .sl, .sl, .sl])]), (506, .loop [(8, .int .i64)] [(6, [.int .u64, .int .u64, .int .u64, .sl, .sl, .sl])]), (2042, .loop [(9, .int .i64)] [(6, [.int .u64, .int .u64, .int .u64, .sl, .sl, .sl])]), (8100, .order [0, 1, 2, 4, 3, 5, 6, 7, 8, 9, 10]), (8186, .loop [(11, .int .i64)] [(6, [.int .u64, .int .u64, .int .u64, .sl, .sl, .sl])]), (8190, .order [0, 1, 2, 3, 4, 5, 6, 7]), (130980, .order [0, 1, 2, 3, 4, 5, 6, 7])] Try.f30 [.v (.slice l.a l.n l.c)] = F30.T l := F30.gen V F69.T F70.T F71.T l
def F30.W (T30 : Sl → PT) (args : List Value) : PT := match args with
  | [.slice l_a l_n l_c] => T30 ⟨l_a, l_n, l_c⟩
  | _ => fun _ _ => False
def F30.V : List Value → PT := F30.W F30.T
theorem F30.ok : FOk Try.prog 30 F30.V := by
  refine ⟨⟨_, Try.func30, rfl, rfl⟩, fun args => ?_⟩
  have hG : GOk Try.prog [(69, F69.V), (70, F70.V), (71, F71.V)] := GOk.cons F69.ok (GOk.cons F70.ok (GOk.cons F71.ok (GOk.nil)))
  have hV : VOk Try.prog noV := noV_ok
  unfold F30.V F30.W
  split
  · exact denF_okV hG hV Try.func30 (fun h Q hq => (F30.den _ _) ▸ hq)
  · exact fun h Q hq => hq.elim
end Go.Eng.Ytblghgacokoklaa
end
section
/-
  SPECS, 24: the document's reading of a record.
-/
set_option linter.unusedSimpArgs false
set_option linter.unusedVariables false
set_option maxRecDepth 100000
namespace Go.Eng.Ytblghgacokoklaa
theorem nU_ok (s : RS) : okU (nU s).1 := by
  have z : okU 0 := ⟨by decide, by decide⟩
  unfold nU
  split
  · exact z
  · split
    · exact uR_ok _ _ _
    · exact z
theorem nW_ok (m : Int) (s : RS) (hm : 0 ≤ m) : 0 ≤ (nW m s).1 ∧ (nW m s).1 ≤ m := by
  unfold nW
  split
  · exact ⟨Int.le_refl 0, hm⟩
  · have := (nU_ok s).1
    omega
structure StN (h0 h : Hp) (b : Nat) (s : RS) (l1 l2 l3 : Sl) (o : List Place) (i : List Placed) (p : List ByteArray) : Prop where
  rd : RdN h0 h b s
  out : Buf h l1 2 89 (outV o)
  inn : Buf h l2 7 87 (inV i)
  ptr : Buf h l3 1 9 (ptrV p)
  n1 : l1.a = none ∨ New h0 l1
  n2 : l2.a = none ∨ New h0 l2
  n3 : l3.a = none ∨ New h0 l3
  vo : ∀ x ∈ o, x.val
  vi : ∀ x ∈ i, x.val
theorem StN.step {h0 h h' : Hp} {b : Nat} {s s' : RS} {l1 l2 l3 : Sl} {o : List Place} {i : List Placed} {p : List ByteArray} (S : StN h0 h b s l1 l2 l3 o i p) (U : Upd h h' (rb b) (rb b)) (R : RdN h0 h' b s') : StN h0 h' b s' l1 l2 l3 o i p :=
  ⟨R, S.out.upd U (S.rd.off S.out (by decide)), S.inn.upd U (S.rd.off S.inn (by decide)), S.ptr.upd U (S.rd.off S.ptr (by decide)), S.n1, S.n2, S.n3, S.vo, S.vi⟩
theorem StN.addO {h0 h h' : Hp} {b : Nat} {s : RS} {l1 l1' l2 l3 : Sl} {o : List Place} {i : List Placed} {p : List ByteArray} (S : StN h0 h b s l1 l2 l3 o i p) (U : Upd h h' l1 l1') {x : Place} (B : Buf h' l1' 2 89 (outV o ++ x.cells)) (hx : x.val) : StN h0 h' b s l1' l2 l3 (o ++ [x]) i p :=
  ⟨S.rd.grow S.out (by decide) S.n1 U, by simpa [outV] using B, S.inn.upd U (buf_off S.inn S.out (by decide)), S.ptr.upd U (buf_off S.ptr S.out (by decide)), (keep_grow S.rd.keep S.n1 U).2, S.n2, S.n3,
    fun y hy => by rcases List.mem_append.1 hy with h | h; exact S.vo y h; rw [List.mem_singleton] at h; rw [h]; exact hx, S.vi⟩
theorem StN.addI {h0 h h' : Hp} {b : Nat} {s : RS} {l1 l2 l2' l3 : Sl} {o : List Place} {i : List Placed} {p : List ByteArray} (S : StN h0 h b s l1 l2 l3 o i p) (U : Upd h h' l2 l2') {x : Placed} (B : Buf h' l2' 7 87 (inV i ++ x.cells)) (hx : x.val) : StN h0 h' b s l1 l2' l3 o (i ++ [x]) p :=
  ⟨S.rd.grow S.inn (by decide) S.n2 U, S.out.upd U (buf_off S.out S.inn (by decide)), by simpa [inV] using B, S.ptr.upd U (buf_off S.ptr S.inn (by decide)), S.n1, (keep_grow S.rd.keep S.n2 U).2, S.n3,
    S.vo, fun y hy => by rcases List.mem_append.1 hy with h | h; exact S.vi y h; rw [List.mem_singleton] at h; rw [h]; exact hx⟩
theorem StN.addP {h0 h h' : Hp} {b : Nat} {s : RS} {l1 l2 l3 l3' : Sl} {o : List Place} {i : List Placed} {p : List ByteArray} (S : StN h0 h b s l1 l2 l3 o i p) (U : Upd h h' l3 l3') {x : ByteArray} (B : Buf h' l3' 1 9 (ptrV p ++ [.string x])) : StN h0 h' b s l1 l2 l3' o i (p ++ [x]) :=
  ⟨S.rd.grow S.ptr (by decide) S.n3 U, S.out.upd U (buf_off S.out S.ptr (by decide)), S.inn.upd U (buf_off S.inn S.ptr (by decide)), by simpa [ptrV] using B, S.n1, S.n2, (keep_grow S.rd.keep S.n3 U).2, S.vo, S.vi⟩
theorem fd_out {h0 h : Hp} {b1 : Nat} {s : RS} {k1 k2 k3 : Sl} {n a c d : Int} {Rx : Int → Int → Int → Sl → Sl → Sl → Hp → Prop} (S : StN h0 h b1 s k1 k2 k3 [] [] []) (hn0 : 0 ≤ n) (hn : n ≤ 256)
    (hR : ∀ l1' h', StN h0 h' b1 (outN n.toNat [] s).2 l1' k2 k3 (outN n.toNat [] s).1 [] [] → Rx a c d l1' k2 k3 h') :
    ∃ (I : Int → Int → Int → Int → Sl → Sl → Sl → Hp → Prop) (m : Int → Int → Int → Int → Sl → Sl → Sl → Hp → Nat), I 0 a c d k1 k2 k3 h ∧ (∀ n5 : Int, ∀ n6 : Int, ∀ n7 : Int, ∀ n8 : Int, ∀ l1 : Sl, ∀ l2 : Sl, ∀ l3 : Sl, ∀ h5 : Hp, I n5 n6 n7 n8 l1 l2 l3 h5 → par (n5 < n) (∃ b2 : Bool, h5.at b1 1 = some (.bool b2) ∧ parB b2 (Rx n6 n7 n8 l1 l2 l3 h5) (F70.T (some ⟨b1, 0, none⟩) 4 h5 fun r4 h6 => ∃ n9 : Int, r4 = .int .i64 n9 ∧ F69.T (some ⟨b1, 0, none⟩) h6 fun r5 h7 => ∃ n10 : Int, r5 = .int .u64 n10 ∧ appendD l1 89 2 16 [.int .i64 0, .int .u64 0] 1 [.int .i64 n9, .int .u64 n10] h7 fun l4 h8 => I (IntKind.wrap .i64 (n5 + 1)) n6 n7 n8 l4 l2 l3 h8 ∧ m (IntKind.wrap .i64 (n5 + 1)) n6 n7 n8 l4 l2 l3 h8 < m n5 n6 n7 n8 l1 l2 l3 h5)) (Rx n6 n7 n8 l1 l2 l3 h5)) := by
  refine ⟨fun n5 x y z q1 q2 q3 h5 => x = a ∧ y = c ∧ z = d ∧ q2 = k2 ∧ q3 = k3 ∧ ∃ (i : Nat) (o : List Place) (s' : RS), n5 = (i : Int) ∧ i ≤ n.toNat ∧ o.length = i ∧ outN (n.toNat - i) o s' = outN n.toNat [] s ∧ StN h0 h5 b1 s' q1 k2 k3 o [] [], fun n5 _ _ _ _ _ _ _ => n.toNat - n5.toNat, ⟨rfl, rfl, rfl, rfl, rfl, 0, [], s, rfl, Nat.zero_le _, rfl, rfl, S⟩, ?_⟩
  rintro n5 x y z q1 q2 q3 h5 ⟨rfl, rfl, rfl, rfl, rfl, i, o, s', rfl, hi, ho, hE, S'⟩
  refine ⟨fun hlt => ⟨s'.bad, S'.rd.bad_at, fun hb => ?_, fun hb => ?_⟩, fun hge => ?_⟩
  · obtain ⟨f, hf⟩ : ∃ f, n.toNat - i = f + 1 := ⟨n.toNat - i - 1, by omega⟩
    rw [hf, outN, if_pos hb] at hE
    refine hR _ _ ?_
    rw [← hE]
    exact S'
  · obtain ⟨f, hf⟩ : ∃ f, n.toNat - i = f + 1 := ⟨n.toNat - i - 1, by omega⟩
    rw [hf, outN, if_neg (by rw [hb]; decide)] at hE
    have w3 : IntKind.wrap .i64 ((i : Int) + 1) = ((i + 1 : Nat) : Int) := by rw [wrap_i64 (by omega) (by omega)]; omega
    refine below_n S'.rd (by decide) (by decide) fun h6 U6 R6 => ⟨_, rfl, ?_⟩
    have S6 := S'.step U6 R6
    refine uint_n S6.rd fun h7 U7 R7 => ⟨_, rfl, ?_⟩
    have S7 := S6.step U7 R7
    have m7 := out_n S7.out
    refine append_buf S7.out rfl rfl (by omega) fun l4 h8 B8 hn8 U8 => ?_
    have v1 := nW_ok 4 s' (by decide)
    rw [w3]
    refine ⟨⟨rfl, rfl, rfl, rfl, rfl, i + 1, o ++ [⟨(nW 4 s').1, (nU (nW 4 s').2).1⟩], (nU (nW 4 s').2).2, rfl, by omega, by rw [List.length_append, ho]; rfl, ?_, ?_⟩, by dsimp only; omega⟩
    · rw [show n.toNat - (i + 1) = f by omega]; exact hE
    · refine S7.addO U8 (x := ⟨(nW 4 s').1, (nU (nW 4 s').2).1⟩) (by simp only [Place.cells]; exact B8) ?_
      simp only [Place.val]
      exact ⟨by omega, nU_ok _⟩
  · have h0' : n.toNat - i = 0 := by omega
    rw [h0', outN] at hE
    refine hR _ _ ?_
    rw [← hE]
    exact S'
theorem fd_inn {h0 h : Hp} {b1 : Nat} {s : RS} {k1 k2 k3 : Sl} {n a c d : Int} {o : List Place} {Rx : Int → Int → Int → Sl → Sl → Sl → Hp → Prop} (S : StN h0 h b1 s k1 k2 k3 o [] []) (hn0 : 0 ≤ n) (hn : n ≤ 256)
    (hR : ∀ l2' h', StN h0 h' b1 (inN n.toNat [] s).2 k1 l2' k3 o (inN n.toNat [] s).1 [] → Rx a c d k1 l2' k3 h') :
    ∃ (I40 : Int → Int → Int → Int → Sl → Sl → Sl → Hp → Prop) (m40 : Int → Int → Int → Int → Sl → Sl → Sl → Hp → Nat), I40 0 a c d k1 k2 k3 h ∧ (∀ n41 : Int, ∀ n42 : Int, ∀ n43 : Int, ∀ n44 : Int, ∀ l40 : Sl, ∀ l41 : Sl, ∀ l42 : Sl, ∀ h41 : Hp, I40 n41 n42 n43 n44 l40 l41 l42 h41 → par (n41 < n) (∃ b40 : Bool, h41.at b1 1 = some (.bool b40) ∧ parB b40 (Rx n42 n43 n44 l40 l41 l42 h41) (F70.T (some ⟨b1, 0, none⟩) 4 h41 fun r41 h42 => ∃ n45 : Int, r41 = .int .i64 n45 ∧ F69.T (some ⟨b1, 0, none⟩) h42 fun r42 h43 => ∃ n46 : Int, r42 = .int .u64 n46 ∧ F70.T (some ⟨b1, 0, none⟩) 9223372036854775807 h43 fun r43 h44 => ∃ n47 : Int, r43 = .int .i64 n47 ∧ F70.T (some ⟨b1, 0, none⟩) 9223372036854775807 h44 fun r44 h45 => ∃ n48 : Int, r44 = .int .i64 n48 ∧ F70.T (some ⟨b1, 0, none⟩) 9223372036854775807 h45 fun r45 h46 => ∃ n49 : Int, r45 = .int .i64 n49 ∧ F71.T (some ⟨b1, 0, none⟩) h46 fun r46 h47 => ∃ s40 : ByteArray, r46 = .string s40 ∧ F71.T (some ⟨b1, 0, none⟩) h47 fun r47 h48 => ∃ s41 : ByteArray, r47 = .string s41 ∧ appendD l41 87 7 72 [.int .i64 0, .int .u64 0, .int .i64 0, .int .i64 0, .int .i64 0, .string (ByteArray.mk #[]), .string (ByteArray.mk #[])] 1 [.int .i64 n45, .int .u64 n46, .int .i64 n47, .int .i64 n48, .int .i64 n49, .string s40, .string s41] h48 fun l43 h49 => I40 (IntKind.wrap .i64 (n41 + 1)) n42 n43 n44 l40 l43 l42 h49 ∧ m40 (IntKind.wrap .i64 (n41 + 1)) n42 n43 n44 l40 l43 l42 h49 < m40 n41 n42 n43 n44 l40 l41 l42 h41)) (Rx n42 n43 n44 l40 l41 l42 h41)) := by
  refine ⟨fun n5 x y z q1 q2 q3 h5 => x = a ∧ y = c ∧ z = d ∧ q1 = k1 ∧ q3 = k3 ∧ ∃ (i : Nat) (w : List Placed) (s' : RS), n5 = (i : Int) ∧ i ≤ n.toNat ∧ w.length = i ∧ inN (n.toNat - i) w s' = inN n.toNat [] s ∧ StN h0 h5 b1 s' k1 q2 k3 o w [], fun n5 _ _ _ _ _ _ _ => n.toNat - n5.toNat, ⟨rfl, rfl, rfl, rfl, rfl, 0, [], s, rfl, Nat.zero_le _, rfl, rfl, S⟩, ?_⟩
  rintro n5 x y z q1 q2 q3 h5 ⟨rfl, rfl, rfl, rfl, rfl, i, w, s', rfl, hi, ho, hE, S'⟩
  refine ⟨fun hlt => ⟨s'.bad, S'.rd.bad_at, fun hb => ?_, fun hb => ?_⟩, fun hge => ?_⟩
  · obtain ⟨f, hf⟩ : ∃ f, n.toNat - i = f + 1 := ⟨n.toNat - i - 1, by omega⟩
    rw [hf, inN, if_pos hb] at hE
    refine hR _ _ ?_
    rw [← hE]
    exact S'
  · obtain ⟨f, hf⟩ : ∃ f, n.toNat - i = f + 1 := ⟨n.toNat - i - 1, by omega⟩
    rw [hf, inN, if_neg (by rw [hb]; decide)] at hE
    have hx : plN s' = (⟨(nW 4 s').1, (nU (nW 4 s').2).1, (nW 9223372036854775807 (nU (nW 4 s').2).2).1, (nW 9223372036854775807 (nW 9223372036854775807 (nU (nW 4 s').2).2).2).1, (nW 9223372036854775807 (nW 9223372036854775807 (nW 9223372036854775807 (nU (nW 4 s').2).2).2).2).1, (nT (nW 9223372036854775807 (nW 9223372036854775807 (nW 9223372036854775807 (nU (nW 4 s').2).2).2).2).2).1, (nT (nT (nW 9223372036854775807 (nW 9223372036854775807 (nW 9223372036854775807 (nU (nW 4 s').2).2).2).2).2).2).1⟩, (nT (nT (nW 9223372036854775807 (nW 9223372036854775807 (nW 9223372036854775807 (nU (nW 4 s').2).2).2).2).2).2).2) := rfl
    rw [hx] at hE
    simp only at hE
    have w3 : IntKind.wrap .i64 ((i : Int) + 1) = ((i + 1 : Nat) : Int) := by rw [wrap_i64 (by omega) (by omega)]; omega
    refine below_n S'.rd (by decide) (by decide) fun h6 U6 R6 => ⟨_, rfl, ?_⟩
    have S6 := S'.step U6 R6
    refine uint_n S6.rd fun h7 U7 R7 => ⟨_, rfl, ?_⟩
    have S7 := S6.step U7 R7
    refine below_n S7.rd (by decide) (by decide) fun h8 U8 R8 => ⟨_, rfl, ?_⟩
    have S8 := S7.step U8 R8
    refine below_n S8.rd (by decide) (by decide) fun h9 U9 R9 => ⟨_, rfl, ?_⟩
    have S9 := S8.step U9 R9
    refine below_n S9.rd (by decide) (by decide) fun h10 U10 R10 => ⟨_, rfl, ?_⟩
    have S10 := S9.step U10 R10
    refine text_n S10.rd fun h11 U11 R11 => ⟨_, rfl, ?_⟩
    have S11 := S10.step U11 R11
    refine text_n S11.rd fun h12 U12 R12 => ⟨_, rfl, ?_⟩
    have S12 := S11.step U12 R12
    have m7 := in_n S12.inn
    refine append_buf S12.inn rfl rfl (by omega) fun l4 h13 B8 hn8 U8' => ?_
    have v1 := nW_ok 4 s' (by decide)
    have v2 := nW_ok 9223372036854775807 (nU (nW 4 s').2).2 (by decide)
    have v3 := nW_ok 9223372036854775807 (nW 9223372036854775807 (nU (nW 4 s').2).2).2 (by decide)
    have v4 := nW_ok 9223372036854775807 (nW 9223372036854775807 (nW 9223372036854775807 (nU (nW 4 s').2).2).2).2 (by decide)
    rw [w3]
    refine ⟨⟨rfl, rfl, rfl, rfl, rfl, i + 1, w ++ [⟨(nW 4 s').1, (nU (nW 4 s').2).1, (nW 9223372036854775807 (nU (nW 4 s').2).2).1, (nW 9223372036854775807 (nW 9223372036854775807 (nU (nW 4 s').2).2).2).1, (nW 9223372036854775807 (nW 9223372036854775807 (nW 9223372036854775807 (nU (nW 4 s').2).2).2).2).1, (nT (nW 9223372036854775807 (nW 9223372036854775807 (nW 9223372036854775807 (nU (nW 4 s').2).2).2).2).2).1, (nT (nT (nW 9223372036854775807 (nW 9223372036854775807 (nW 9223372036854775807 (nU (nW 4 s').2).2).2).2).2).2).1⟩], (nT (nT (nW 9223372036854775807 (nW 9223372036854775807 (nW 9223372036854775807 (nU (nW 4 s').2).2).2).2).2).2).2, rfl, by omega, by rw [List.length_append, ho]; rfl, ?_, ?_⟩, by dsimp only; omega⟩
    · rw [show n.toNat - (i + 1) = f by omega]; exact hE
    · refine S12.addI U8' (x := ⟨(nW 4 s').1, (nU (nW 4 s').2).1, (nW 9223372036854775807 (nU (nW 4 s').2).2).1, (nW 9223372036854775807 (nW 9223372036854775807 (nU (nW 4 s').2).2).2).1, (nW 9223372036854775807 (nW 9223372036854775807 (nW 9223372036854775807 (nU (nW 4 s').2).2).2).2).1, (nT (nW 9223372036854775807 (nW 9223372036854775807 (nW 9223372036854775807 (nU (nW 4 s').2).2).2).2).2).1, (nT (nT (nW 9223372036854775807 (nW 9223372036854775807 (nW 9223372036854775807 (nU (nW 4 s').2).2).2).2).2).2).1⟩) (by simp only [Placed.cells]; exact B8) ?_
      simp only [Placed.val]
      exact ⟨by omega, nU_ok _, by omega, by omega, by omega⟩
  · have h0' : n.toNat - i = 0 := by omega
    rw [h0', inN] at hE
    refine hR _ _ ?_
    rw [← hE]
    exact S'
theorem fd_ptr {h0 h : Hp} {b1 : Nat} {s : RS} {k1 k2 k3 : Sl} {n a c d : Int} {o : List Place} {w : List Placed} {Rx : Int → Int → Int → Sl → Sl → Sl → Hp → Prop} (S : StN h0 h b1 s k1 k2 k3 o w []) (hn0 : 0 ≤ n) (hn : n ≤ 256)
    (hR : ∀ l3' h', StN h0 h' b1 (ptN n.toNat [] s).2 k1 k2 l3' o w (ptN n.toNat [] s).1 → Rx a c d k1 k2 l3' h') :
    ∃ (I40 : Int → Int → Int → Int → Sl → Sl → Sl → Hp → Prop) (m40 : Int → Int → Int → Int → Sl → Sl → Sl → Hp → Nat), I40 0 a c d k1 k2 k3 h ∧ (∀ n52 : Int, ∀ n53 : Int, ∀ n54 : Int, ∀ n55 : Int, ∀ l40 : Sl, ∀ l41 : Sl, ∀ l42 : Sl, ∀ h46 : Hp, I40 n52 n53 n54 n55 l40 l41 l42 h46 → par (n52 < n) (∃ b40 : Bool, h46.at b1 1 = some (.bool b40) ∧ parB b40 (Rx n53 n54 n55 l40 l41 l42 h46) (F71.T (some ⟨b1, 0, none⟩) h46 fun r41 h47 => ∃ s40 : ByteArray, r41 = .string s40 ∧ appendD l42 9 1 16 [.string (ByteArray.mk #[])] 1 [.string s40] h47 fun l43 h48 => I40 (IntKind.wrap .i64 (n52 + 1)) n53 n54 n55 l40 l41 l43 h48 ∧ m40 (IntKind.wrap .i64 (n52 + 1)) n53 n54 n55 l40 l41 l43 h48 < m40 n52 n53 n54 n55 l40 l41 l42 h46)) (Rx n53 n54 n55 l40 l41 l42 h46)) := by
  refine ⟨fun n5 x y z q1 q2 q3 h5 => x = a ∧ y = c ∧ z = d ∧ q1 = k1 ∧ q2 = k2 ∧ ∃ (i : Nat) (p : List ByteArray) (s' : RS), n5 = (i : Int) ∧ i ≤ n.toNat ∧ p.length = i ∧ ptN (n.toNat - i) p s' = ptN n.toNat [] s ∧ StN h0 h5 b1 s' k1 k2 q3 o w p, fun n5 _ _ _ _ _ _ _ => n.toNat - n5.toNat, ⟨rfl, rfl, rfl, rfl, rfl, 0, [], s, rfl, Nat.zero_le _, rfl, rfl, S⟩, ?_⟩
  rintro n5 x y z q1 q2 q3 h5 ⟨rfl, rfl, rfl, rfl, rfl, i, p, s', rfl, hi, ho, hE, S'⟩
  refine ⟨fun hlt => ⟨s'.bad, S'.rd.bad_at, fun hb => ?_, fun hb => ?_⟩, fun hge => ?_⟩
  · obtain ⟨f, hf⟩ : ∃ f, n.toNat - i = f + 1 := ⟨n.toNat - i - 1, by omega⟩
    rw [hf, ptN, if_pos hb] at hE
    refine hR _ _ ?_
    rw [← hE]
    exact S'
  · obtain ⟨f, hf⟩ : ∃ f, n.toNat - i = f + 1 := ⟨n.toNat - i - 1, by omega⟩
    rw [hf, ptN, if_neg (by rw [hb]; decide)] at hE
    have w3 : IntKind.wrap .i64 ((i : Int) + 1) = ((i + 1 : Nat) : Int) := by rw [wrap_i64 (by omega) (by omega)]; omega
    refine text_n S'.rd fun h6 U6 R6 => ⟨_, rfl, ?_⟩
    have S6 := S'.step U6 R6
    have m7 := pt_n S6.ptr
    refine append_buf S6.ptr rfl rfl (by omega) fun l4 h8 B8 hn8 U8 => ?_
    rw [w3]
    refine ⟨⟨rfl, rfl, rfl, rfl, rfl, i + 1, p ++ [(nT s').1], (nT s').2, rfl, by omega, by rw [List.length_append, ho]; rfl, ?_, S6.addP U8 B8⟩, by dsimp only; omega⟩
    rw [show n.toNat - (i + 1) = f by omega]; exact hE
  · have h0' : n.toNat - i = 0 := by omega
    rw [h0', ptN] at hE
    refine hR _ _ ?_
    rw [← hE]
    exact S'
@[reducible] def noneD : Value := .tuple ⟨[.bool false, .agg ⟨[.int .u64 0, .int .u64 0, .int .u64 0, .slice none 0 0, .slice none 0 0, .slice none 0 0]⟩, .bool false]⟩
theorem record_spec {h : Hp} {l : Sl} {bs : List Int} {Q : Value → Hp → Prop} (hr : h.row l.a l.n (bv bs)) (hc : l.n ≤ l.c) (hok : ∀ c ∈ bs, 0 ≤ c ∧ c < 256) (hs : bs.length ≤ 1000000000)
    (hN : ∀ h', Keep h h' → fd bs = none → Q noneD h')
    (hS : ∀ h' e last l1 l2 l3, fd bs = some (e, last) → Keep h h' → EdB h h' e l1 l2 l3 → e.valid →
      Q (.tuple ⟨[.bool last, .agg ⟨[.int .u64 e.log, .int .u64 e.next, .int .u64 e.seq, .slice l1.a l1.n l1.c, .slice l2.a l2.n l2.c, .slice l3.a l3.n l3.c]⟩, .bool true]⟩) h') : F30.T l h Q := by
  have hln : l.n = bs.length := by have := hr.1; rw [bv_length] at this; exact this.symm
  unfold F30.T
  rcases bs with _ | ⟨c, rest⟩
  · simp only [List.length_nil] at hln
    exact ⟨fun _ => hN h (Keep.refl h) rfl, fun h0 => absurd (by omega) h0⟩
  simp only [List.length_cons] at hln hs
  obtain ⟨b, o, ha, hat⟩ := row_get hr (i := 0) (by omega)
  have a0 : h.at b (o + (0 : Int).toNat) = some (.int .u8 c) := hat 0 (by omega)
  refine ⟨fun h0 => absurd h0 (by omega), fun _ => ⟨b, o, ha, ⟨by decide, by omega⟩, c, a0, fun hc1 => hN h (Keep.refl h) (by rw [fd_cons, if_pos hc1]), fun hc1 => ⟨⟨by decide, by omega, by omega, by omega⟩, fun b1 hb1 => ?_⟩⟩⟩
  have hb2 : (h.new b1 (.cells ⟨[.slice (Sl.cut l 1 1 (l.n : Int) (l.c : Int)).a (Sl.cut l 1 1 (l.n : Int) (l.c : Int)).n (Sl.cut l 1 1 (l.n : Int) (l.c : Int)).c, .bool false]⟩ 119 (0, 0))) b1 = some (.cells ⟨[.slice (Sl.cut l 1 1 (l.n : Int) (l.c : Int)).a (Sl.cut l 1 1 (l.n : Int) (l.c : Int)).n (Sl.cut l 1 1 (l.n : Int) (l.c : Int)).c, .bool false]⟩ 119 (0, 0)) := by unfold Hp.new; rw [if_pos rfl]
  have hrow := cut_mid hr (i := 1) (j := l.n) (m := l.c) (by omega) (Nat.le_refl _) hc
  have hrow' : h.row (Sl.cut l 1 1 (l.n : Int) (l.c : Int)).a (Sl.cut l 1 1 (l.n : Int) (l.c : Int)).n (bv rest) := by
    rw [List.take_of_length_le (by rw [List.length_drop, bv_length, List.length_cons]; omega)] at hrow
    exact hrow
  have S0 : StN h (h.new b1 (.cells ⟨[.slice (Sl.cut l 1 1 (l.n : Int) (l.c : Int)).a (Sl.cut l 1 1 (l.n : Int) (l.c : Int)).n (Sl.cut l 1 1 (l.n : Int) (l.c : Int)).c, .bool false]⟩ 119 (0, 0))) b1 ⟨rest, false⟩ ⟨none, 0, 0⟩ ⟨none, 0, 0⟩ ⟨none, 0, 0⟩ [] [] [] :=
    ⟨⟨⟨_, hb2, hrow', by simp [Sl.cut]; omega⟩, hb1, Keep.new hb1 _, fun x hx => hok x (List.mem_cons_of_mem _ hx), by show rest.length ≤ _; omega⟩, Buf.nil _ 2 89, Buf.nil _ 7 87, Buf.nil _ 1 9, .inl rfl, .inl rfl, .inl rfl, fun x hx => (by cases hx), fun x hx => (by cases hx)⟩
  refine uint_n S0.rd fun h1 U1 R1 => ⟨_, rfl, ?_⟩
  have S1 := S0.step U1 R1
  refine uint_n S1.rd fun h2 U2 R2 => ⟨_, rfl, ?_⟩
  have S2 := S1.step U2 R2
  refine uint_n S2.rd fun h3 U3 R3 => ⟨_, rfl, ?_⟩
  have S3 := S2.step U3 R3
  refine below_n S3.rd (by decide) (by decide) fun h4 U4 R4 => ⟨_, rfl, ?_⟩
  have S4 := S3.step U4 R4
  have n4 := nW_ok 256 (nU (nU (nU ⟨rest, false⟩).2).2).2 (by decide)
  refine ⟨fun x y z q1 q2 q3 h5 => x = (nU ⟨rest, false⟩).1 ∧ y = (nU (nU ⟨rest, false⟩).2).1 ∧ z = (nU (nU (nU ⟨rest, false⟩).2).2).1 ∧ q2 = ⟨none, 0, 0⟩ ∧ q3 = ⟨none, 0, 0⟩ ∧ StN h h5 b1 (outN (nW 256 (nU (nU (nU ⟨rest, false⟩).2).2).2).1.toNat [] (nW 256 (nU (nU (nU ⟨rest, false⟩).2).2).2).2).2 q1 q2 q3 (outN (nW 256 (nU (nU (nU ⟨rest, false⟩).2).2).2).1.toNat [] (nW 256 (nU (nU (nU ⟨rest, false⟩).2).2).2).2).1 [] [], ?_, fd_out S4 n4.1 n4.2 fun l1 h5 S5 => ⟨rfl, rfl, rfl, rfl, rfl, S5⟩⟩
  rintro x y z l1 q2 q3 h5 ⟨rfl, rfl, rfl, rfl, rfl, S5⟩
  refine below_n S5.rd (by decide) (by decide) fun h6 U6 R6 => ⟨_, rfl, ?_⟩
  have S6 := S5.step U6 R6
  have n6 := nW_ok 256 (outN (nW 256 (nU (nU (nU ⟨rest, false⟩).2).2).2).1.toNat [] (nW 256 (nU (nU (nU ⟨rest, false⟩).2).2).2).2).2 (by decide)
  refine ⟨fun x y z q1 q2 q3 h7 => x = (nU ⟨rest, false⟩).1 ∧ y = (nU (nU ⟨rest, false⟩).2).1 ∧ z = (nU (nU (nU ⟨rest, false⟩).2).2).1 ∧ q1 = l1 ∧ q3 = ⟨none, 0, 0⟩ ∧ StN h h7 b1 (inN (nW 256 (outN (nW 256 (nU (nU (nU ⟨rest, false⟩).2).2).2).1.toNat [] (nW 256 (nU (nU (nU ⟨rest, false⟩).2).2).2).2).2).1.toNat [] (nW 256 (outN (nW 256 (nU (nU (nU ⟨rest, false⟩).2).2).2).1.toNat [] (nW 256 (nU (nU (nU ⟨rest, false⟩).2).2).2).2).2).2).2 q1 q2 q3 (outN (nW 256 (nU (nU (nU ⟨rest, false⟩).2).2).2).1.toNat [] (nW 256 (nU (nU (nU ⟨rest, false⟩).2).2).2).2).1 (inN (nW 256 (outN (nW 256 (nU (nU (nU ⟨rest, false⟩).2).2).2).1.toNat [] (nW 256 (nU (nU (nU ⟨rest, false⟩).2).2).2).2).2).1.toNat [] (nW 256 (outN (nW 256 (nU (nU (nU ⟨rest, false⟩).2).2).2).1.toNat [] (nW 256 (nU (nU (nU ⟨rest, false⟩).2).2).2).2).2).2).1 [], ?_, fd_inn S6 n6.1 n6.2 fun l2 h7 S7 => ⟨rfl, rfl, rfl, rfl, rfl, S7⟩⟩
  rintro x y z q1 l2 q3 h7 ⟨rfl, rfl, rfl, rfl, rfl, S7⟩
  refine below_n S7.rd (by decide) (by decide) fun h8 U8 R8 => ⟨_, rfl, ?_⟩
  have S8 := S7.step U8 R8
  have n8 := nW_ok 5 (inN (nW 256 (outN (nW 256 (nU (nU (nU ⟨rest, false⟩).2).2).2).1.toNat [] (nW 256 (nU (nU (nU ⟨rest, false⟩).2).2).2).2).2).1.toNat [] (nW 256 (outN (nW 256 (nU (nU (nU ⟨rest, false⟩).2).2).2).1.toNat [] (nW 256 (nU (nU (nU ⟨rest, false⟩).2).2).2).2).2).2).2 (by decide)
  refine fd_ptr S8 n8.1 (by omega) fun l3 h9 S9 => ?_
  have K9 := S9.rd.keep
  refine ⟨_, S9.rd.bad_at, fun hb => hN h9 K9 ?_, fun hb => ?_⟩
  · rw [fd_cons, if_neg hc1]
    unfold fO fI fP
    simp only
    rw [if_pos hb]
  obtain ⟨q, hq, hqn⟩ := S9.rd.b_at
  refine ⟨q, hq, fun h0 => ?_, fun h0 => hN h9 K9 ?_⟩
  · have hfd : ∀ last : Bool, decide (c = 1) = last → fd (c :: rest) = some (⟨(nU ⟨rest, false⟩).1, (nU (nU ⟨rest, false⟩).2).1, (nU (nU (nU ⟨rest, false⟩).2).2).1, _, _, _⟩, last) := fun last hl => by
      rw [fd_cons, if_neg hc1]
      unfold fO fI fP
      simp only
      rw [if_neg (by rw [hb]; decide), if_pos (by omega), hl]
    refine ⟨b, o, ha, ⟨by decide, by omega⟩, c, K9.at a0, fun h1 => ?_, fun h1 => ?_⟩
    · exact hS h9 _ true _ l2 l3 (hfd true (decide_eq_true h1)) K9 ⟨S9.out, S9.inn, S9.ptr, S9.n1, S9.n2, S9.n3⟩ ⟨nU_ok _, nU_ok _, nU_ok _, S9.vo, S9.vi⟩
    · exact hS h9 _ false _ l2 l3 (hfd false (decide_eq_false h1)) K9 ⟨S9.out, S9.inn, S9.ptr, S9.n1, S9.n2, S9.n3⟩ ⟨nU_ok _, nU_ok _, nU_ok _, S9.vo, S9.vi⟩
  · rw [fd_cons, if_neg hc1]
    unfold fO fI fP
    simp only
    rw [if_neg (by rw [hb]; decide), if_neg (by omega)]
end Go.Eng.Ytblghgacokoklaa
end
section
set_option maxRecDepth 100000
set_option linter.unusedVariables false
open Go.Proofs
namespace Go.Eng.Ytblghgacokoklaa
def F77.T (n : Int) : PT := fun h Q =>
  (2 : Int) ≠ 0 ∧ par ((Int.tmod n 2) = 0) (Q (.string (ByteArray.mk #[60, 111, 110, 101, 62])) h) (Q (.string (ByteArray.mk #[60, 116, 119, 111, 62])) h)
theorem F77.den (V : Value → List Value → PT) (n : Int) : denF Try.prog [] [] V [] Try.f77 [.v (.int .i64 n)] = F77.T n := by kernel_rfl
def F77.W (T77 : Int → PT) (args : List Value) : PT := match args with
  | [.int .i64 n] => T77 n
  | _ => fun _ _ => False
def F77.V : List Value → PT := F77.W F77.T
theorem F77.ok : FOk Try.prog 77 F77.V := by
  refine ⟨⟨_, Try.func77, rfl, rfl⟩, fun args => ?_⟩
  have hG : GOk Try.prog [] := GOk.nil
  have hV : VOk Try.prog noV := noV_ok
  unfold F77.V F77.W
  split
  · exact denF_okV hG hV Try.func77 (fun h Q hq => (F77.den _ _) ▸ hq)
  · exact fun h Q hq => hq.elim
def F33.T (p : Option Addr) : PT := fun h Q =>
  ∃ (I : Int → Hp → Prop) (m : Int → Hp → Nat), I 0 h ∧ (∀ n : Int, ∀ h1 : Hp, I n h1 → ∃ b o, (p : Option Addr) = some ⟨b, o, none⟩ ∧ ∃ l : Sl, h1.at b o = some (.slice l.a l.n l.c) ∧ par (n < (l.n : Int)) (∃ b1 o1, (p : Option Addr) = some ⟨b1, o1, none⟩ ∧ ∃ l1 : Sl, h1.at b1 (o1 + 1) = some (.slice l1.a l1.n l1.c) ∧ ∃ b2 o2, (l1.a : Option Addr) = some ⟨b2, o2, none⟩ ∧ ((0 : Int) ≤ n ∧ n < (l1.n : Int)) ∧ ∃ n1 : Int, h1.at b2 (o2 + n.toNat) = some (.int .i64 n1) ∧ ∃ (I1 : Int → Hp → Prop) (m1 : Int → Hp → Nat), I1 n1 h1 ∧ (∀ n2 : Int, ∀ h2 : Hp, I1 n2 h2 → ∃ b3 o3, (p : Option Addr) = some ⟨b3, o3, none⟩ ∧ ∃ l2 : Sl, h2.at b3 o3 = some (.slice l2.a l2.n l2.c) ∧ ∃ b4 o4, (l2.a : Option Addr) = some ⟨b4, o4, none⟩ ∧ ((0 : Int) ≤ n ∧ n < (l2.n : Int)) ∧ ∃ l3 : Sl, h2.at b4 (o4 + n.toNat) = some (.slice l3.a l3.n l3.c) ∧ par (n2 < (l3.n : Int)) (∃ b5 o5, (p : Option Addr) = some ⟨b5, o5, none⟩ ∧ ∃ l4 : Sl, h2.at b5 o5 = some (.slice l4.a l4.n l4.c) ∧ ∃ b6 o6, (l4.a : Option Addr) = some ⟨b6, o6, none⟩ ∧ ((0 : Int) ≤ n ∧ n < (l4.n : Int)) ∧ ∃ l5 : Sl, h2.at b6 (o6 + n.toNat) = some (.slice l5.a l5.n l5.c) ∧ ∃ b7 o7, (l5.a : Option Addr) = some ⟨b7, o7, none⟩ ∧ ((0 : Int) ≤ n2 ∧ n2 < (l5.n : Int)) ∧ ∃ n3 : Int, h2.at b7 (o7 + n2.toNat) = some (.int .u8 n3) ∧ F68.T (IntKind.wrap .i64 (n2 - n1)) h2 fun r h3 => ∃ n4 : Int, r = .int .i64 n4 ∧ par (n3 = (IntKind.wrap .u8 n4)) (I1 (IntKind.wrap .i64 (n2 + 1)) h3 ∧ m1 (IntKind.wrap .i64 (n2 + 1)) h3 < m1 n2 h2) (Q (.bool false) h3)) (I (IntKind.wrap .i64 (n + 1)) h2 ∧ m (IntKind.wrap .i64 (n + 1)) h2 < m n h1))) (Q (.bool true) h1))
theorem F33.gen (V : Value → List Value → PT) (T68 : Int → PT) (p : Option Addr) : denF Try.prog [] [(68, F68.W T68)] V [(26, .loop [(3, .int .i64)] []), (3366, .loop [(5, .int .i64)] [])] Try.f33 [.v (.pointer p)] = fun h Q =>
  ∃ (I : Int → Hp → Prop) (m : Int → Hp → Nat), I 0 h ∧ (∀ n : Int, ∀ h1 : Hp, I n h1 → ∃ b o, (p : Option Addr) = some ⟨b, o, none⟩ ∧ ∃ l : Sl, h1.at b o = some (.slice l.a l.n l.c) ∧ par (n < (l.n : Int)) (∃ b1 o1, (p : Option Addr) = some ⟨b1, o1, none⟩ ∧ ∃ l1 : Sl, h1.at b1 (o1 + 1) = some (.slice l1.a l1.n l1.c) ∧ ∃ b2 o2, (l1.a : Option Addr) = some ⟨b2, o2, none⟩ ∧ ((0 : Int) ≤ n ∧ n < (l1.n : Int)) ∧ ∃ n1 : Int, h1.at b2 (o2 + n.toNat) = some (.int .i64 n1) ∧ ∃ (I1 : Int → Hp → Prop) (m1 : Int → Hp → Nat), I1 n1 h1 ∧ (∀ n2 : Int, ∀ h2 : Hp, I1 n2 h2 → ∃ b3 o3, (p : Option Addr) = some ⟨b3, o3, none⟩ ∧ ∃ l2 : Sl, h2.at b3 o3 = some (.slice l2.a l2.n l2.c) ∧ ∃ b4 o4, (l2.a : Option Addr) = some ⟨b4, o4, none⟩ ∧ ((0 : Int) ≤ n ∧ n < (l2.n : Int)) ∧ ∃ l3 : Sl, h2.at b4 (o4 + n.toNat) = some (.slice l3.a l3.n l3.c) ∧ par (n2 < (l3.n : Int)) (∃ b5 o5, (p : Option Addr) = some ⟨b5, o5, none⟩ ∧ ∃ l4 : Sl, h2.at b5 o5 = some (.slice l4.a l4.n l4.c) ∧ ∃ b6 o6, (l4.a : Option Addr) = some ⟨b6, o6, none⟩ ∧ ((0 : Int) ≤ n ∧ n < (l4.n : Int)) ∧ ∃ l5 : Sl, h2.at b6 (o6 + n.toNat) = some (.slice l5.a l5.n l5.c) ∧ ∃ b7 o7, (l5.a : Option Addr) = some ⟨b7, o7, none⟩ ∧ ((0 : Int) ≤ n2 ∧ n2 < (l5.n : Int)) ∧ ∃ n3 : Int, h2.at b7 (o7 + n2.toNat) = some (.int .u8 n3) ∧ T68 (IntKind.wrap .i64 (n2 - n1)) h2 fun r h3 => ∃ n4 : Int, r = .int .i64 n4 ∧ par (n3 = (IntKind.wrap .u8 n4)) (I1 (IntKind.wrap .i64 (n2 + 1)) h3 ∧ m1 (IntKind.wrap .i64 (n2 + 1)) h3 < m1 n2 h2) (Q (.bool false) h3)) (I (IntKind.wrap .i64 (n + 1)) h2 ∧ m (IntKind.wrap .i64 (n + 1)) h2 < m n h1))) (Q (.bool true) h1)) := by kernel_rfl
theorem F33.den (V : Value → List Value → PT) (p : Option Addr) : denF Try.prog [] [(68, F68.V)] V [(26, .loop [(3, .int .i64)] []), (3366, .loop [(5, .int .i64)] [])] Try.f33 [.v (.pointer p)] = F33.T p := F33.gen V F68.T p
def F33.W (T33 : Option Addr → PT) (args : List Value) : PT := match args with
  | [.pointer p] => T33 p
  | _ => fun _ _ => False
def F33.V : List Value → PT := F33.W F33.T
theorem F33.ok : FOk Try.prog 33 F33.V := by
  refine ⟨⟨_, Try.func33, rfl, rfl⟩, fun args => ?_⟩
  have hG : GOk Try.prog [(68, F68.V)] := GOk.cons F68.ok (GOk.nil)
  have hV : VOk Try.prog noV := noV_ok
  unfold F33.V F33.W
  split
  · exact denF_okV hG hV Try.func33 (fun h Q hq => (F33.den _ _) ▸ hq)
  · exact fun h Q hq => hq.elim
def F34.T (p : Option Addr) : PT := fun h Q =>
  ∃ (I : Int → Hp → Prop) (m : Int → Hp → Nat), I 0 h ∧ (∀ n : Int, ∀ h1 : Hp, I n h1 → ∃ b o, (p : Option Addr) = some ⟨b, o, none⟩ ∧ ∃ l : Sl, h1.at b (o + 2) = some (.slice l.a l.n l.c) ∧ par (n < (l.n : Int)) (∃ b1 o1, (p : Option Addr) = some ⟨b1, o1, none⟩ ∧ ∃ l1 : Sl, h1.at b1 (o1 + 3) = some (.slice l1.a l1.n l1.c) ∧ ∃ b2 o2, (l1.a : Option Addr) = some ⟨b2, o2, none⟩ ∧ ((0 : Int) ≤ n ∧ n < (l1.n : Int)) ∧ ∃ n1 : Int, h1.at b2 (o2 + n.toNat) = some (.int .i64 n1) ∧ ∃ (I1 : Int → Hp → Prop) (m1 : Int → Hp → Nat), I1 n1 h1 ∧ (∀ n2 : Int, ∀ h2 : Hp, I1 n2 h2 → ∃ b3 o3, (p : Option Addr) = some ⟨b3, o3, none⟩ ∧ ∃ l2 : Sl, h2.at b3 (o3 + 2) = some (.slice l2.a l2.n l2.c) ∧ ∃ b4 o4, (l2.a : Option Addr) = some ⟨b4, o4, none⟩ ∧ ((0 : Int) ≤ n ∧ n < (l2.n : Int)) ∧ ∃ l3 : Sl, h2.at b4 (o4 + n.toNat) = some (.slice l3.a l3.n l3.c) ∧ par (n2 < (l3.n : Int)) (∃ b5 o5, (p : Option Addr) = some ⟨b5, o5, none⟩ ∧ ∃ l4 : Sl, h2.at b5 (o5 + 2) = some (.slice l4.a l4.n l4.c) ∧ ∃ b6 o6, (l4.a : Option Addr) = some ⟨b6, o6, none⟩ ∧ ((0 : Int) ≤ n ∧ n < (l4.n : Int)) ∧ ∃ l5 : Sl, h2.at b6 (o6 + n.toNat) = some (.slice l5.a l5.n l5.c) ∧ ∃ b7 o7, (l5.a : Option Addr) = some ⟨b7, o7, none⟩ ∧ ((0 : Int) ≤ n2 ∧ n2 < (l5.n : Int)) ∧ ∃ n3 : Int, h2.at b7 (o7 + n2.toNat) = some (.int .i64 n3) ∧ F68.T (IntKind.wrap .i64 (n2 - n1)) h2 fun r h3 => ∃ n4 : Int, r = .int .i64 n4 ∧ par (n3 = n4) (I1 (IntKind.wrap .i64 (n2 + 1)) h3 ∧ m1 (IntKind.wrap .i64 (n2 + 1)) h3 < m1 n2 h2) (Q (.bool false) h3)) (I (IntKind.wrap .i64 (n + 1)) h2 ∧ m (IntKind.wrap .i64 (n + 1)) h2 < m n h1))) (Q (.bool true) h1))
theorem F34.gen (V : Value → List Value → PT) (T68 : Int → PT) (p : Option Addr) : denF Try.prog [] [(68, F68.W T68)] V [(26, .loop [(3, .int .i64)] []), (3366, .loop [(5, .int .i64)] [])] Try.f34 [.v (.pointer p)] = fun h Q =>
  ∃ (I : Int → Hp → Prop) (m : Int → Hp → Nat), I 0 h ∧ (∀ n : Int, ∀ h1 : Hp, I n h1 → ∃ b o, (p : Option Addr) = some ⟨b, o, none⟩ ∧ ∃ l : Sl, h1.at b (o + 2) = some (.slice l.a l.n l.c) ∧ par (n < (l.n : Int)) (∃ b1 o1, (p : Option Addr) = some ⟨b1, o1, none⟩ ∧ ∃ l1 : Sl, h1.at b1 (o1 + 3) = some (.slice l1.a l1.n l1.c) ∧ ∃ b2 o2, (l1.a : Option Addr) = some ⟨b2, o2, none⟩ ∧ ((0 : Int) ≤ n ∧ n < (l1.n : Int)) ∧ ∃ n1 : Int, h1.at b2 (o2 + n.toNat) = some (.int .i64 n1) ∧ ∃ (I1 : Int → Hp → Prop) (m1 : Int → Hp → Nat), I1 n1 h1 ∧ (∀ n2 : Int, ∀ h2 : Hp, I1 n2 h2 → ∃ b3 o3, (p : Option Addr) = some ⟨b3, o3, none⟩ ∧ ∃ l2 : Sl, h2.at b3 (o3 + 2) = some (.slice l2.a l2.n l2.c) ∧ ∃ b4 o4, (l2.a : Option Addr) = some ⟨b4, o4, none⟩ ∧ ((0 : Int) ≤ n ∧ n < (l2.n : Int)) ∧ ∃ l3 : Sl, h2.at b4 (o4 + n.toNat) = some (.slice l3.a l3.n l3.c) ∧ par (n2 < (l3.n : Int)) (∃ b5 o5, (p : Option Addr) = some ⟨b5, o5, none⟩ ∧ ∃ l4 : Sl, h2.at b5 (o5 + 2) = some (.slice l4.a l4.n l4.c) ∧ ∃ b6 o6, (l4.a : Option Addr) = some ⟨b6, o6, none⟩ ∧ ((0 : Int) ≤ n ∧ n < (l4.n : Int)) ∧ ∃ l5 : Sl, h2.at b6 (o6 + n.toNat) = some (.slice l5.a l5.n l5.c) ∧ ∃ b7 o7, (l5.a : Option Addr) = some ⟨b7, o7, none⟩ ∧ ((0 : Int) ≤ n2 ∧ n2 < (l5.n : Int)) ∧ ∃ n3 : Int, h2.at b7 (o7 + n2.toNat) = some (.int .i64 n3) ∧ T68 (IntKind.wrap .i64 (n2 - n1)) h2 fun r h3 => ∃ n4 : Int, r = .int .i64 n4 ∧ par (n3 = n4) (I1 (IntKind.wrap .i64 (n2 + 1)) h3 ∧ m1 (IntKind.wrap .i64 (n2 + 1)) h3 < m1 n2 h2) (Q (.bool false) h3)) (I (IntKind.wrap .i64 (n + 1)) h2 ∧ m (IntKind.wrap .i64 (n + 1)) h2 < m n h1))) (Q (.bool true) h1)) := by kernel_rfl
theorem F34.den (V : Value → List Value → PT) (p : Option Addr) : denF Try.prog [] [(68, F68.V)] V [(26, .loop [(3, .int .i64)] []), (3366, .loop [(5, .int .i64)] [])] Try.f34 [.v (.pointer p)] = F34.T p := F34.gen V F68.T p
def F34.W (T34 : Option Addr → PT) (args : List Value) : PT := match args with
  | [.pointer p] => T34 p
  | _ => fun _ _ => False
def F34.V : List Value → PT := F34.W F34.T
theorem F34.ok : FOk Try.prog 34 F34.V := by
  refine ⟨⟨_, Try.func34, rfl, rfl⟩, fun args => ?_⟩
  have hG : GOk Try.prog [(68, F68.V)] := GOk.cons F68.ok (GOk.nil)
  have hV : VOk Try.prog noV := noV_ok
  unfold F34.V F34.W
  split
  · exact denF_okV hG hV Try.func34 (fun h Q hq => (F34.den _ _) ▸ hq)
  · exact fun h Q hq => hq.elim
def F35.T (p : Option Addr) : PT := fun h Q =>
  ∃ (I : Int → Hp → Prop) (m : Int → Hp → Nat), I 0 h ∧ (∀ n : Int, ∀ h1 : Hp, I n h1 → ∃ b o, (p : Option Addr) = some ⟨b, o, none⟩ ∧ ∃ l : Sl, h1.at b (o + 4) = some (.slice l.a l.n l.c) ∧ par (n < (l.n : Int)) (∃ b1 o1, (p : Option Addr) = some ⟨b1, o1, none⟩ ∧ ∃ l1 : Sl, h1.at b1 (o1 + 5) = some (.slice l1.a l1.n l1.c) ∧ ∃ b2 o2, (l1.a : Option Addr) = some ⟨b2, o2, none⟩ ∧ ((0 : Int) ≤ n ∧ n < (l1.n : Int)) ∧ ∃ n1 : Int, h1.at b2 (o2 + n.toNat) = some (.int .i64 n1) ∧ ∃ (I1 : Int → Hp → Prop) (m1 : Int → Hp → Nat), I1 n1 h1 ∧ (∀ n2 : Int, ∀ h2 : Hp, I1 n2 h2 → ∃ b3 o3, (p : Option Addr) = some ⟨b3, o3, none⟩ ∧ ∃ l2 : Sl, h2.at b3 (o3 + 4) = some (.slice l2.a l2.n l2.c) ∧ ∃ b4 o4, (l2.a : Option Addr) = some ⟨b4, o4, none⟩ ∧ ((0 : Int) ≤ n ∧ n < (l2.n : Int)) ∧ ∃ l3 : Sl, h2.at b4 (o4 + n.toNat) = some (.slice l3.a l3.n l3.c) ∧ par (n2 < (l3.n : Int)) (∃ b5 o5, (p : Option Addr) = some ⟨b5, o5, none⟩ ∧ ∃ l4 : Sl, h2.at b5 (o5 + 4) = some (.slice l4.a l4.n l4.c) ∧ ∃ b6 o6, (l4.a : Option Addr) = some ⟨b6, o6, none⟩ ∧ ((0 : Int) ≤ n ∧ n < (l4.n : Int)) ∧ ∃ l5 : Sl, h2.at b6 (o6 + n.toNat) = some (.slice l5.a l5.n l5.c) ∧ ∃ b7 o7, (l5.a : Option Addr) = some ⟨b7, o7, none⟩ ∧ ((0 : Int) ≤ n2 ∧ n2 < (l5.n : Int)) ∧ ∃ n3 : Int, h2.at b7 (o7 + n2.toNat) = some (.int .u64 n3) ∧ F68.T (IntKind.wrap .i64 (n2 - n1)) h2 fun r h3 => ∃ n4 : Int, r = .int .i64 n4 ∧ par (n3 = (IntKind.wrap .u64 n4)) (I1 (IntKind.wrap .i64 (n2 + 1)) h3 ∧ m1 (IntKind.wrap .i64 (n2 + 1)) h3 < m1 n2 h2) (Q (.bool false) h3)) (I (IntKind.wrap .i64 (n + 1)) h2 ∧ m (IntKind.wrap .i64 (n + 1)) h2 < m n h1))) (Q (.bool true) h1))
theorem F35.gen (V : Value → List Value → PT) (T68 : Int → PT) (p : Option Addr) : denF Try.prog [] [(68, F68.W T68)] V [(26, .loop [(3, .int .i64)] []), (3366, .loop [(5, .int .i64)] [])] Try.f35 [.v (.pointer p)] = fun h Q =>
  ∃ (I : Int → Hp → Prop) (m : Int → Hp → Nat), I 0 h ∧ (∀ n : Int, ∀ h1 : Hp, I n h1 → ∃ b o, (p : Option Addr) = some ⟨b, o, none⟩ ∧ ∃ l : Sl, h1.at b (o + 4) = some (.slice l.a l.n l.c) ∧ par (n < (l.n : Int)) (∃ b1 o1, (p : Option Addr) = some ⟨b1, o1, none⟩ ∧ ∃ l1 : Sl, h1.at b1 (o1 + 5) = some (.slice l1.a l1.n l1.c) ∧ ∃ b2 o2, (l1.a : Option Addr) = some ⟨b2, o2, none⟩ ∧ ((0 : Int) ≤ n ∧ n < (l1.n : Int)) ∧ ∃ n1 : Int, h1.at b2 (o2 + n.toNat) = some (.int .i64 n1) ∧ ∃ (I1 : Int → Hp → Prop) (m1 : Int → Hp → Nat), I1 n1 h1 ∧ (∀ n2 : Int, ∀ h2 : Hp, I1 n2 h2 → ∃ b3 o3, (p : Option Addr) = some ⟨b3, o3, none⟩ ∧ ∃ l2 : Sl, h2.at b3 (o3 + 4) = some (.slice l2.a l2.n l2.c) ∧ ∃ b4 o4, (l2.a : Option Addr) = some ⟨b4, o4, none⟩ ∧ ((0 : Int) ≤ n ∧ n < (l2.n : Int)) ∧ ∃ l3 : Sl, h2.at b4 (o4 + n.toNat) = some (.slice l3.a l3.n l3.c) ∧ par (n2 < (l3.n : Int)) (∃ b5 o5, (p : Option Addr) = some ⟨b5, o5, none⟩ ∧ ∃ l4 : Sl, h2.at b5 (o5 + 4) = some (.slice l4.a l4.n l4.c) ∧ ∃ b6 o6, (l4.a : Option Addr) = some ⟨b6, o6, none⟩ ∧ ((0 : Int) ≤ n ∧ n < (l4.n : Int)) ∧ ∃ l5 : Sl, h2.at b6 (o6 + n.toNat) = some (.slice l5.a l5.n l5.c) ∧ ∃ b7 o7, (l5.a : Option Addr) = some ⟨b7, o7, none⟩ ∧ ((0 : Int) ≤ n2 ∧ n2 < (l5.n : Int)) ∧ ∃ n3 : Int, h2.at b7 (o7 + n2.toNat) = some (.int .u64 n3) ∧ T68 (IntKind.wrap .i64 (n2 - n1)) h2 fun r h3 => ∃ n4 : Int, r = .int .i64 n4 ∧ par (n3 = (IntKind.wrap .u64 n4)) (I1 (IntKind.wrap .i64 (n2 + 1)) h3 ∧ m1 (IntKind.wrap .i64 (n2 + 1)) h3 < m1 n2 h2) (Q (.bool false) h3)) (I (IntKind.wrap .i64 (n + 1)) h2 ∧ m (IntKind.wrap .i64 (n + 1)) h2 < m n h1))) (Q (.bool true) h1)) := by kernel_rfl
theorem F35.den (V : Value → List Value → PT) (p : Option Addr) : denF Try.prog [] [(68, F68.V)] V [(26, .loop [(3, .int .i64)] []), (3366, .loop [(5, .int .i64)] [])] Try.f35 [.v (.pointer p)] = F35.T p := F35.gen V F68.T p
def F35.W (T35 : Option Addr → PT) (args : List Value) : PT := match args with
  | [.pointer p] => T35 p
  | _ => fun _ _ => False
def F35.V : List Value → PT := F35.W F35.T
theorem F35.ok : FOk Try.prog 35 F35.V := by
  refine ⟨⟨_, Try.func35, rfl, rfl⟩, fun args => ?_⟩
  have hG : GOk Try.prog [(68, F68.V)] := GOk.cons F68.ok (GOk.nil)
  have hV : VOk Try.prog noV := noV_ok
  unfold F35.V F35.W
  split
  · exact denF_okV hG hV Try.func35 (fun h Q hq => (F35.den _ _) ▸ hq)
  · exact fun h Q hq => hq.elim
def F36.T (p : Option Addr) : PT := fun h Q =>
  ∃ (I : Int → Hp → Prop) (m : Int → Hp → Nat), I 0 h ∧ (∀ n : Int, ∀ h1 : Hp, I n h1 → ∃ b o, (p : Option Addr) = some ⟨b, o, none⟩ ∧ ∃ l : Sl, h1.at b (o + 6) = some (.slice l.a l.n l.c) ∧ par (n < (l.n : Int)) (∃ b1 o1, (p : Option Addr) = some ⟨b1, o1, none⟩ ∧ ∃ l1 : Sl, h1.at b1 (o1 + 7) = some (.slice l1.a l1.n l1.c) ∧ ∃ b2 o2, (l1.a : Option Addr) = some ⟨b2, o2, none⟩ ∧ ((0 : Int) ≤ n ∧ n < (l1.n : Int)) ∧ ∃ n1 : Int, h1.at b2 (o2 + n.toNat) = some (.int .i64 n1) ∧ ∃ (I1 : Int → Hp → Prop) (m1 : Int → Hp → Nat), I1 n1 h1 ∧ (∀ n2 : Int, ∀ h2 : Hp, I1 n2 h2 → ∃ b3 o3, (p : Option Addr) = some ⟨b3, o3, none⟩ ∧ ∃ l2 : Sl, h2.at b3 (o3 + 6) = some (.slice l2.a l2.n l2.c) ∧ ∃ b4 o4, (l2.a : Option Addr) = some ⟨b4, o4, none⟩ ∧ ((0 : Int) ≤ n ∧ n < (l2.n : Int)) ∧ ∃ l3 : Sl, h2.at b4 (o4 + n.toNat) = some (.slice l3.a l3.n l3.c) ∧ par (n2 < (l3.n : Int)) (∃ b5 o5, (p : Option Addr) = some ⟨b5, o5, none⟩ ∧ ∃ l4 : Sl, h2.at b5 (o5 + 6) = some (.slice l4.a l4.n l4.c) ∧ ∃ b6 o6, (l4.a : Option Addr) = some ⟨b6, o6, none⟩ ∧ ((0 : Int) ≤ n ∧ n < (l4.n : Int)) ∧ ∃ l5 : Sl, h2.at b6 (o6 + n.toNat) = some (.slice l5.a l5.n l5.c) ∧ ∃ b7 o7, (l5.a : Option Addr) = some ⟨b7, o7, none⟩ ∧ ((0 : Int) ≤ n2 ∧ n2 < (l5.n : Int)) ∧ ∃ s : ByteArray, h2.at b7 (o7 + n2.toNat) = some (.string s) ∧ F77.T (IntKind.wrap .i64 (n2 - n1)) h2 fun r h3 => ∃ s1 : ByteArray, r = .string s1 ∧ par (s = s1) (I1 (IntKind.wrap .i64 (n2 + 1)) h3 ∧ m1 (IntKind.wrap .i64 (n2 + 1)) h3 < m1 n2 h2) (Q (.bool false) h3)) (I (IntKind.wrap .i64 (n + 1)) h2 ∧ m (IntKind.wrap .i64 (n + 1)) h2 < m n h1))) (Q (.bool true) h1))
theorem F36.gen (V : Value → List Value → PT) (T77 : Int → PT) (p : Option Addr) : denF Try.prog [] [(77, F77.W T77)] V [(26, .loop [(3, .int .i64)] []), (3366, .loop [(5, .int .i64)] [])] Try.f36 [.v (.pointer p)] = fun h Q =>
  ∃ (I : Int → Hp → Prop) (m : Int → Hp → Nat), I 0 h ∧ (∀ n : Int, ∀ h1 : Hp, I n h1 → ∃ b o, (p : Option Addr) = some ⟨b, o, none⟩ ∧ ∃ l : Sl, h1.at b (o + 6) = some (.slice l.a l.n l.c) ∧ par (n < (l.n : Int)) (∃ b1 o1, (p : Option Addr) = some ⟨b1, o1, none⟩ ∧ ∃ l1 : Sl, h1.at b1 (o1 + 7) = some (.slice l1.a l1.n l1.c) ∧ ∃ b2 o2, (l1.a : Option Addr) = some ⟨b2, o2, none⟩ ∧ ((0 : Int) ≤ n ∧ n < (l1.n : Int)) ∧ ∃ n1 : Int, h1.at b2 (o2 + n.toNat) = some (.int .i64 n1) ∧ ∃ (I1 : Int → Hp → Prop) (m1 : Int → Hp → Nat), I1 n1 h1 ∧ (∀ n2 : Int, ∀ h2 : Hp, I1 n2 h2 → ∃ b3 o3, (p : Option Addr) = some ⟨b3, o3, none⟩ ∧ ∃ l2 : Sl, h2.at b3 (o3 + 6) = some (.slice l2.a l2.n l2.c) ∧ ∃ b4 o4, (l2.a : Option Addr) = some ⟨b4, o4, none⟩ ∧ ((0 : Int) ≤ n ∧ n < (l2.n : Int)) ∧ ∃ l3 : Sl, h2.at b4 (o4 + n.toNat) = some (.slice l3.a l3.n l3.c) ∧ par (n2 < (l3.n : Int)) (∃ b5 o5, (p : Option Addr) = some ⟨b5, o5, none⟩ ∧ ∃ l4 : Sl, h2.at b5 (o5 + 6) = some (.slice l4.a l4.n l4.c) ∧ ∃ b6 o6, (l4.a : Option Addr) = some ⟨b6, o6, none⟩ ∧ ((0 : Int) ≤ n ∧ n < (l4.n : Int)) ∧ ∃ l5 : Sl, h2.at b6 (o6 + n.toNat) = some (.slice l5.a l5.n l5.c) ∧ ∃ b7 o7, (l5.a : Option Addr) = some ⟨b7, o7, none⟩ ∧ ((0 : Int) ≤ n2 ∧ n2 < (l5.n : Int)) ∧ ∃ s : ByteArray, h2.at b7 (o7 + n2.toNat) = some (.string s) ∧ T77 (IntKind.wrap .i64 (n2 - n1)) h2 fun r h3 => ∃ s1 : ByteArray, r = .string s1 ∧ par (s = s1) (I1 (IntKind.wrap .i64 (n2 + 1)) h3 ∧ m1 (IntKind.wrap .i64 (n2 + 1)) h3 < m1 n2 h2) (Q (.bool false) h3)) (I (IntKind.wrap .i64 (n + 1)) h2 ∧ m (IntKind.wrap .i64 (n + 1)) h2 < m n h1))) (Q (.bool true) h1)) := by kernel_rfl
theorem F36.den (V : Value → List Value → PT) (p : Option Addr) : denF Try.prog [] [(77, F77.V)] V [(26, .loop [(3, .int .i64)] []), (3366, .loop [(5, .int .i64)] [])] Try.f36 [.v (.pointer p)] = F36.T p := F36.gen V F77.T p
def F36.W (T36 : Option Addr → PT) (args : List Value) : PT := match args with
  | [.pointer p] => T36 p
  | _ => fun _ _ => False
def F36.V : List Value → PT := F36.W F36.T
theorem F36.ok : FOk Try.prog 36 F36.V := by
  refine ⟨⟨_, Try.func36, rfl, rfl⟩, fun args => ?_⟩
  have hG : GOk Try.prog [(77, F77.V)] := GOk.cons F77.ok (GOk.nil)
  have hV : VOk Try.prog noV := noV_ok
  unfold F36.V F36.W
  split
  · exact denF_okV hG hV Try.func36 (fun h Q hq => (F36.den _ _) ▸ hq)
  · exact fun h Q hq => hq.elim
def F37.T (p : Option Addr) : PT := fun h Q =>
  ∃ (I : Int → Hp → Prop) (m : Int → Hp → Nat), I 0 h ∧ (∀ n : Int, ∀ h1 : Hp, I n h1 → ∃ b o, (p : Option Addr) = some ⟨b, o, none⟩ ∧ ∃ l : Sl, h1.at b (o + 8) = some (.slice l.a l.n l.c) ∧ par (n < (l.n : Int)) (∃ b1 o1, (p : Option Addr) = some ⟨b1, o1, none⟩ ∧ ∃ l1 : Sl, h1.at b1 (o1 + 9) = some (.slice l1.a l1.n l1.c) ∧ ∃ b2 o2, (l1.a : Option Addr) = some ⟨b2, o2, none⟩ ∧ ((0 : Int) ≤ n ∧ n < (l1.n : Int)) ∧ ∃ n1 : Int, h1.at b2 (o2 + n.toNat) = some (.int .i64 n1) ∧ ∃ (I1 : Int → Hp → Prop) (m1 : Int → Hp → Nat), I1 n1 h1 ∧ (∀ n2 : Int, ∀ h2 : Hp, I1 n2 h2 → ∃ b3 o3, (p : Option Addr) = some ⟨b3, o3, none⟩ ∧ ∃ l2 : Sl, h2.at b3 (o3 + 8) = some (.slice l2.a l2.n l2.c) ∧ ∃ b4 o4, (l2.a : Option Addr) = some ⟨b4, o4, none⟩ ∧ ((0 : Int) ≤ n ∧ n < (l2.n : Int)) ∧ ∃ l3 : Sl, h2.at b4 (o4 + n.toNat) = some (.slice l3.a l3.n l3.c) ∧ par (n2 < (l3.n : Int)) (∃ b5 o5, (p : Option Addr) = some ⟨b5, o5, none⟩ ∧ ∃ l4 : Sl, h2.at b5 (o5 + 8) = some (.slice l4.a l4.n l4.c) ∧ ∃ b6 o6, (l4.a : Option Addr) = some ⟨b6, o6, none⟩ ∧ ((0 : Int) ≤ n ∧ n < (l4.n : Int)) ∧ ∃ l5 : Sl, h2.at b6 (o6 + n.toNat) = some (.slice l5.a l5.n l5.c) ∧ ∃ b7 o7, (l5.a : Option Addr) = some ⟨b7, o7, none⟩ ∧ ((0 : Int) ≤ n2 ∧ n2 < (l5.n : Int)) ∧ ∃ s : ByteArray, h2.at b7 (o7 + n2.toNat * 4) = some (.string s) ∧ ∃ n3 : Int, h2.at b7 ((o7 + n2.toNat * 4) + 1) = some (.int .u64 n3) ∧ ∃ b8 : Bool, parB b8 (h2.at b7 ((o7 + n2.toNat * 4) + 2) = some (.bool true) ∧ ∃ s1 : ByteArray, h2.at b7 ((o7 + n2.toNat * 4) + 3) = some (.string s1) ∧ F77.T (IntKind.wrap .i64 (n2 - n1)) h2 fun r h3 => ∃ s2 : ByteArray, r = .string s2 ∧ par (([.string s, .int .u64 n3, .bool true, .string s1] : List Value) = [.string s2, .int .u64 0, .bool false, .string (ByteArray.mk #[])]) (I1 (IntKind.wrap .i64 (n2 + 1)) h3 ∧ m1 (IntKind.wrap .i64 (n2 + 1)) h3 < m1 n2 h2) (Q (.bool false) h3)) (h2.at b7 ((o7 + n2.toNat * 4) + 2) = some (.bool false) ∧ ∃ s3 : ByteArray, h2.at b7 ((o7 + n2.toNat * 4) + 3) = some (.string s3) ∧ F77.T (IntKind.wrap .i64 (n2 - n1)) h2 fun r1 h4 => ∃ s4 : ByteArray, r1 = .string s4 ∧ par (([.string s, .int .u64 n3, .bool false, .string s3] : List Value) = [.string s4, .int .u64 0, .bool false, .string (ByteArray.mk #[])]) (I1 (IntKind.wrap .i64 (n2 + 1)) h4 ∧ m1 (IntKind.wrap .i64 (n2 + 1)) h4 < m1 n2 h2) (Q (.bool false) h4))) (I (IntKind.wrap .i64 (n + 1)) h2 ∧ m (IntKind.wrap .i64 (n + 1)) h2 < m n h1))) (Q (.bool true) h1))
theorem F37.gen (V : Value → List Value → PT) (T77 : Int → PT) (p : Option Addr) : denF Try.prog [6] [(77, F77.W T77)] V [(26, .loop [(3, .int .i64)] []), (3366, .loop [(5, .int .i64)] []), (215442, .order [0, 1, 2, 3, 4, 5, 6])] Try.f37 [.v (.pointer p)] = fun h Q =>
  ∃ (I : Int → Hp → Prop) (m : Int → Hp → Nat), I 0 h ∧ (∀ n : Int, ∀ h1 : Hp, I n h1 → ∃ b o, (p : Option Addr) = some ⟨b, o, none⟩ ∧ ∃ l : Sl, h1.at b (o + 8) = some (.slice l.a l.n l.c) ∧ par (n < (l.n : Int)) (∃ b1 o1, (p : Option Addr) = some ⟨b1, o1, none⟩ ∧ ∃ l1 : Sl, h1.at b1 (o1 + 9) = some (.slice l1.a l1.n l1.c) ∧ ∃ b2 o2, (l1.a : Option Addr) = some ⟨b2, o2, none⟩ ∧ ((0 : Int) ≤ n ∧ n < (l1.n : Int)) ∧ ∃ n1 : Int, h1.at b2 (o2 + n.toNat) = some (.int .i64 n1) ∧ ∃ (I1 : Int → Hp → Prop) (m1 : Int → Hp → Nat), I1 n1 h1 ∧ (∀ n2 : Int, ∀ h2 : Hp, I1 n2 h2 → ∃ b3 o3, (p : Option Addr) = some ⟨b3, o3, none⟩ ∧ ∃ l2 : Sl, h2.at b3 (o3 + 8) = some (.slice l2.a l2.n l2.c) ∧ ∃ b4 o4, (l2.a : Option Addr) = some ⟨b4, o4, none⟩ ∧ ((0 : Int) ≤ n ∧ n < (l2.n : Int)) ∧ ∃ l3 : Sl, h2.at b4 (o4 + n.toNat) = some (.slice l3.a l3.n l3.c) ∧ par (n2 < (l3.n : Int)) (∃ b5 o5, (p : Option Addr) = some ⟨b5, o5, none⟩ ∧ ∃ l4 : Sl, h2.at b5 (o5 + 8) = some (.slice l4.a l4.n l4.c) ∧ ∃ b6 o6, (l4.a : Option Addr) = some ⟨b6, o6, none⟩ ∧ ((0 : Int) ≤ n ∧ n < (l4.n : Int)) ∧ ∃ l5 : Sl, h2.at b6 (o6 + n.toNat) = some (.slice l5.a l5.n l5.c) ∧ ∃ b7 o7, (l5.a : Option Addr) = some ⟨b7, o7, none⟩ ∧ ((0 : Int) ≤ n2 ∧ n2 < (l5.n : Int)) ∧ ∃ s : ByteArray, h2.at b7 (o7 + n2.toNat * 4) = some (.string s) ∧ ∃ n3 : Int, h2.at b7 ((o7 + n2.toNat * 4) + 1) = some (.int .u64 n3) ∧ ∃ b8 : Bool, parB b8 (h2.at b7 ((o7 + n2.toNat * 4) + 2) = some (.bool true) ∧ ∃ s1 : ByteArray, h2.at b7 ((o7 + n2.toNat * 4) + 3) = some (.string s1) ∧ T77 (IntKind.wrap .i64 (n2 - n1)) h2 fun r h3 => ∃ s2 : ByteArray, r = .string s2 ∧ par (([.string s, .int .u64 n3, .bool true, .string s1] : List Value) = [.string s2, .int .u64 0, .bool false, .string (ByteArray.mk #[])]) (I1 (IntKind.wrap .i64 (n2 + 1)) h3 ∧ m1 (IntKind.wrap .i64 (n2 + 1)) h3 < m1 n2 h2) (Q (.bool false) h3)) (h2.at b7 ((o7 + n2.toNat * 4) + 2) = some (.bool false) ∧ ∃ s3 : ByteArray, h2.at b7 ((o7 + n2.toNat * 4) + 3) = some (.string s3) ∧ T77 (IntKind.wrap .i64 (n2 - n1)) h2 fun r1 h4 => ∃ s4 : ByteArray, r1 = .string s4 ∧ par (([.string s, .int .u64 n3, .bool false, .string s3] : List Value) = [.string s4, .int .u64 0, .bool false, .string (ByteArray.mk #[])]) (I1 (IntKind.wrap .i64 (n2 + 1)) h4 ∧ m1 (IntKind.wrap .i64 (n2 + 1)) h4 < m1 n2 h2) (Q (.bool false) h4))) (I (IntKind.wrap .i64 (n + 1)) h2 ∧ m (IntKind.wrap .i64 (n + 1)) h2 < m n h1))) (Q (.bool true) h1)) := by kernel_rfl
theorem F37.den (V : Value → List Value → PT) (p : Option Addr) : denF Try.prog [6] [(77, F77.V)] V [(26, .loop [(3, .int .i64)] []), (3366, .loop [(5, .int .i64)] []), (215442, .order [0, 1, 2, 3, 4, 5, 6])] Try.f37 [.v (.pointer p)] = F37.T p := F37.gen V F77.T p
def F37.W (T37 : Option Addr → PT) (args : List Value) : PT := match args with
  | [.pointer p] => T37 p
  | _ => fun _ _ => False
def F37.V : List Value → PT := F37.W F37.T
theorem F37.ok : FOk Try.prog 37 F37.V := by
  refine ⟨⟨_, Try.func37, rfl, rfl⟩, fun args => ?_⟩
  have hG : GOk Try.prog [(77, F77.V)] := GOk.cons F77.ok (GOk.nil)
  have hV : VOk Try.prog noV := noV_ok
  unfold F37.V F37.W
  split
  · exact denF_okV hG hV Try.func37 (fun h Q hq => (F37.den _ _) ▸ hq)
  · exact fun h Q hq => hq.elim
def F38.T (p : Option Addr) : PT := fun h Q =>
  ∃ (I : Int → Hp → Prop) (m : Int → Hp → Nat), I 0 h ∧ (∀ n : Int, ∀ h1 : Hp, I n h1 → ∃ b o, (p : Option Addr) = some ⟨b, o, none⟩ ∧ ∃ l : Sl, h1.at b (o + 10) = some (.slice l.a l.n l.c) ∧ par (n < (l.n : Int)) (∃ b1 o1, (p : Option Addr) = some ⟨b1, o1, none⟩ ∧ ∃ l1 : Sl, h1.at b1 (o1 + 11) = some (.slice l1.a l1.n l1.c) ∧ ∃ b2 o2, (l1.a : Option Addr) = some ⟨b2, o2, none⟩ ∧ ((0 : Int) ≤ n ∧ n < (l1.n : Int)) ∧ ∃ n1 : Int, h1.at b2 (o2 + n.toNat) = some (.int .i64 n1) ∧ ∃ (I1 : Int → Hp → Prop) (m1 : Int → Hp → Nat), I1 n1 h1 ∧ (∀ n2 : Int, ∀ h2 : Hp, I1 n2 h2 → ∃ b3 o3, (p : Option Addr) = some ⟨b3, o3, none⟩ ∧ ∃ l2 : Sl, h2.at b3 (o3 + 10) = some (.slice l2.a l2.n l2.c) ∧ ∃ b4 o4, (l2.a : Option Addr) = some ⟨b4, o4, none⟩ ∧ ((0 : Int) ≤ n ∧ n < (l2.n : Int)) ∧ ∃ l3 : Sl, h2.at b4 (o4 + n.toNat) = some (.slice l3.a l3.n l3.c) ∧ par (n2 < (l3.n : Int)) (∃ b5 o5, (p : Option Addr) = some ⟨b5, o5, none⟩ ∧ ∃ l4 : Sl, h2.at b5 (o5 + 10) = some (.slice l4.a l4.n l4.c) ∧ ∃ b6 o6, (l4.a : Option Addr) = some ⟨b6, o6, none⟩ ∧ ((0 : Int) ≤ n ∧ n < (l4.n : Int)) ∧ ∃ l5 : Sl, h2.at b6 (o6 + n.toNat) = some (.slice l5.a l5.n l5.c) ∧ ∃ b7 o7, (l5.a : Option Addr) = some ⟨b7, o7, none⟩ ∧ ((0 : Int) ≤ n2 ∧ n2 < (l5.n : Int)) ∧ ∃ s : ByteArray, h2.at b7 (o7 + n2.toNat * 2) = some (.string s) ∧ ∃ s1 : ByteArray, h2.at b7 ((o7 + n2.toNat * 2) + 1) = some (.string s1) ∧ F77.T (IntKind.wrap .i64 (n2 - n1)) h2 fun r h3 => ∃ s2 : ByteArray, r = .string s2 ∧ par (([.string s, .string s1] : List Value) = [.string s2, .string (ByteArray.mk #[])]) (I1 (IntKind.wrap .i64 (n2 + 1)) h3 ∧ m1 (IntKind.wrap .i64 (n2 + 1)) h3 < m1 n2 h2) (Q (.bool false) h3)) (I (IntKind.wrap .i64 (n + 1)) h2 ∧ m (IntKind.wrap .i64 (n + 1)) h2 < m n h1))) (Q (.bool true) h1))
theorem F38.gen (V : Value → List Value → PT) (T77 : Int → PT) (p : Option Addr) : denF Try.prog [6] [(77, F77.W T77)] V [(26, .loop [(3, .int .i64)] []), (3366, .loop [(5, .int .i64)] []), (215442, .order [0, 1, 2, 3, 4, 5, 6])] Try.f38 [.v (.pointer p)] = fun h Q =>
  ∃ (I : Int → Hp → Prop) (m : Int → Hp → Nat), I 0 h ∧ (∀ n : Int, ∀ h1 : Hp, I n h1 → ∃ b o, (p : Option Addr) = some ⟨b, o, none⟩ ∧ ∃ l : Sl, h1.at b (o + 10) = some (.slice l.a l.n l.c) ∧ par (n < (l.n : Int)) (∃ b1 o1, (p : Option Addr) = some ⟨b1, o1, none⟩ ∧ ∃ l1 : Sl, h1.at b1 (o1 + 11) = some (.slice l1.a l1.n l1.c) ∧ ∃ b2 o2, (l1.a : Option Addr) = some ⟨b2, o2, none⟩ ∧ ((0 : Int) ≤ n ∧ n < (l1.n : Int)) ∧ ∃ n1 : Int, h1.at b2 (o2 + n.toNat) = some (.int .i64 n1) ∧ ∃ (I1 : Int → Hp → Prop) (m1 : Int → Hp → Nat), I1 n1 h1 ∧ (∀ n2 : Int, ∀ h2 : Hp, I1 n2 h2 → ∃ b3 o3, (p : Option Addr) = some ⟨b3, o3, none⟩ ∧ ∃ l2 : Sl, h2.at b3 (o3 + 10) = some (.slice l2.a l2.n l2.c) ∧ ∃ b4 o4, (l2.a : Option Addr) = some ⟨b4, o4, none⟩ ∧ ((0 : Int) ≤ n ∧ n < (l2.n : Int)) ∧ ∃ l3 : Sl, h2.at b4 (o4 + n.toNat) = some (.slice l3.a l3.n l3.c) ∧ par (n2 < (l3.n : Int)) (∃ b5 o5, (p : Option Addr) = some ⟨b5, o5, none⟩ ∧ ∃ l4 : Sl, h2.at b5 (o5 + 10) = some (.slice l4.a l4.n l4.c) ∧ ∃ b6 o6, (l4.a : Option Addr) = some ⟨b6, o6, none⟩ ∧ ((0 : Int) ≤ n ∧ n < (l4.n : Int)) ∧ ∃ l5 : Sl, h2.at b6 (o6 + n.toNat) = some (.slice l5.a l5.n l5.c) ∧ ∃ b7 o7, (l5.a : Option Addr) = some ⟨b7, o7, none⟩ ∧ ((0 : Int) ≤ n2 ∧ n2 < (l5.n : Int)) ∧ ∃ s : ByteArray, h2.at b7 (o7 + n2.toNat * 2) = some (.string s) ∧ ∃ s1 : ByteArray, h2.at b7 ((o7 + n2.toNat * 2) + 1) = some (.string s1) ∧ T77 (IntKind.wrap .i64 (n2 - n1)) h2 fun r h3 => ∃ s2 : ByteArray, r = .string s2 ∧ par (([.string s, .string s1] : List Value) = [.string s2, .string (ByteArray.mk #[])]) (I1 (IntKind.wrap .i64 (n2 + 1)) h3 ∧ m1 (IntKind.wrap .i64 (n2 + 1)) h3 < m1 n2 h2) (Q (.bool false) h3)) (I (IntKind.wrap .i64 (n + 1)) h2 ∧ m (IntKind.wrap .i64 (n + 1)) h2 < m n h1))) (Q (.bool true) h1)) := by kernel_rfl
theorem F38.den (V : Value → List Value → PT) (p : Option Addr) : denF Try.prog [6] [(77, F77.V)] V [(26, .loop [(3, .int .i64)] []), (3366, .loop [(5, .int .i64)] []), (215442, .order [0, 1, 2, 3, 4, 5, 6])] Try.f38 [.v (.pointer p)] = F38.T p := F38.gen V F77.T p
def F38.W (T38 : Option Addr → PT) (args : List Value) : PT := match args with
  | [.pointer p] => T38 p
  | _ => fun _ _ => False
def F38.V : List Value → PT := F38.W F38.T
theorem F38.ok : FOk Try.prog 38 F38.V := by
  refine ⟨⟨_, Try.func38, rfl, rfl⟩, fun args => ?_⟩
  have hG : GOk Try.prog [(77, F77.V)] := GOk.cons F77.ok (GOk.nil)
  have hV : VOk Try.prog noV := noV_ok
  unfold F38.V F38.W
  split
  · exact denF_okV hG hV Try.func38 (fun h Q hq => (F38.den _ _) ▸ hq)
  · exact fun h Q hq => hq.elim
def F39.T (p : Option Addr) : PT := fun h Q =>
  ∃ (I : Int → Hp → Prop) (m : Int → Hp → Nat), I 0 h ∧ (∀ n : Int, ∀ h1 : Hp, I n h1 → ∃ b o, (p : Option Addr) = some ⟨b, o, none⟩ ∧ ∃ l : Sl, h1.at b (o + 12) = some (.slice l.a l.n l.c) ∧ par (n < (l.n : Int)) (∃ b1 o1, (p : Option Addr) = some ⟨b1, o1, none⟩ ∧ ∃ l1 : Sl, h1.at b1 (o1 + 13) = some (.slice l1.a l1.n l1.c) ∧ ∃ b2 o2, (l1.a : Option Addr) = some ⟨b2, o2, none⟩ ∧ ((0 : Int) ≤ n ∧ n < (l1.n : Int)) ∧ ∃ n1 : Int, h1.at b2 (o2 + n.toNat) = some (.int .i64 n1) ∧ ∃ (I1 : Int → Hp → Prop) (m1 : Int → Hp → Nat), I1 n1 h1 ∧ (∀ n2 : Int, ∀ h2 : Hp, I1 n2 h2 → ∃ b3 o3, (p : Option Addr) = some ⟨b3, o3, none⟩ ∧ ∃ l2 : Sl, h2.at b3 (o3 + 12) = some (.slice l2.a l2.n l2.c) ∧ ∃ b4 o4, (l2.a : Option Addr) = some ⟨b4, o4, none⟩ ∧ ((0 : Int) ≤ n ∧ n < (l2.n : Int)) ∧ ∃ l3 : Sl, h2.at b4 (o4 + n.toNat) = some (.slice l3.a l3.n l3.c) ∧ par (n2 < (l3.n : Int)) (∃ b5 o5, (p : Option Addr) = some ⟨b5, o5, none⟩ ∧ ∃ l4 : Sl, h2.at b5 (o5 + 12) = some (.slice l4.a l4.n l4.c) ∧ ∃ b6 o6, (l4.a : Option Addr) = some ⟨b6, o6, none⟩ ∧ ((0 : Int) ≤ n ∧ n < (l4.n : Int)) ∧ ∃ l5 : Sl, h2.at b6 (o6 + n.toNat) = some (.slice l5.a l5.n l5.c) ∧ ∃ b7 o7, (l5.a : Option Addr) = some ⟨b7, o7, none⟩ ∧ ((0 : Int) ≤ n2 ∧ n2 < (l5.n : Int)) ∧ ∃ s : ByteArray, h2.at b7 (o7 + n2.toNat * 3) = some (.string s) ∧ ∃ b8 : Bool, parB b8 (h2.at b7 ((o7 + n2.toNat * 3) + 1) = some (.bool true) ∧ ∃ s1 : ByteArray, h2.at b7 ((o7 + n2.toNat * 3) + 2) = some (.string s1) ∧ F77.T (IntKind.wrap .i64 (n2 - n1)) h2 fun r h3 => ∃ s2 : ByteArray, r = .string s2 ∧ par (([.string s, .bool true, .string s1] : List Value) = [.string s2, .bool false, .string (ByteArray.mk #[])]) (I1 (IntKind.wrap .i64 (n2 + 1)) h3 ∧ m1 (IntKind.wrap .i64 (n2 + 1)) h3 < m1 n2 h2) (Q (.bool false) h3)) (h2.at b7 ((o7 + n2.toNat * 3) + 1) = some (.bool false) ∧ ∃ s3 : ByteArray, h2.at b7 ((o7 + n2.toNat * 3) + 2) = some (.string s3) ∧ F77.T (IntKind.wrap .i64 (n2 - n1)) h2 fun r1 h4 => ∃ s4 : ByteArray, r1 = .string s4 ∧ par (([.string s, .bool false, .string s3] : List Value) = [.string s4, .bool false, .string (ByteArray.mk #[])]) (I1 (IntKind.wrap .i64 (n2 + 1)) h4 ∧ m1 (IntKind.wrap .i64 (n2 + 1)) h4 < m1 n2 h2) (Q (.bool false) h4))) (I (IntKind.wrap .i64 (n + 1)) h2 ∧ m (IntKind.wrap .i64 (n + 1)) h2 < m n h1))) (Q (.bool true) h1))
theorem F39.gen (V : Value → List Value → PT) (T77 : Int → PT) (p : Option Addr) : denF Try.prog [6] [(77, F77.W T77)] V [(26, .loop [(3, .int .i64)] []), (3366, .loop [(5, .int .i64)] []), (215442, .order [0, 1, 2, 3, 4, 5, 6])] Try.f39 [.v (.pointer p)] = fun h Q =>
  ∃ (I : Int → Hp → Prop) (m : Int → Hp → Nat), I 0 h ∧ (∀ n : Int, ∀ h1 : Hp, I n h1 → ∃ b o, (p : Option Addr) = some ⟨b, o, none⟩ ∧ ∃ l : Sl, h1.at b (o + 12) = some (.slice l.a l.n l.c) ∧ par (n < (l.n : Int)) (∃ b1 o1, (p : Option Addr) = some ⟨b1, o1, none⟩ ∧ ∃ l1 : Sl, h1.at b1 (o1 + 13) = some (.slice l1.a l1.n l1.c) ∧ ∃ b2 o2, (l1.a : Option Addr) = some ⟨b2, o2, none⟩ ∧ ((0 : Int) ≤ n ∧ n < (l1.n : Int)) ∧ ∃ n1 : Int, h1.at b2 (o2 + n.toNat) = some (.int .i64 n1) ∧ ∃ (I1 : Int → Hp → Prop) (m1 : Int → Hp → Nat), I1 n1 h1 ∧ (∀ n2 : Int, ∀ h2 : Hp, I1 n2 h2 → ∃ b3 o3, (p : Option Addr) = some ⟨b3, o3, none⟩ ∧ ∃ l2 : Sl, h2.at b3 (o3 + 12) = some (.slice l2.a l2.n l2.c) ∧ ∃ b4 o4, (l2.a : Option Addr) = some ⟨b4, o4, none⟩ ∧ ((0 : Int) ≤ n ∧ n < (l2.n : Int)) ∧ ∃ l3 : Sl, h2.at b4 (o4 + n.toNat) = some (.slice l3.a l3.n l3.c) ∧ par (n2 < (l3.n : Int)) (∃ b5 o5, (p : Option Addr) = some ⟨b5, o5, none⟩ ∧ ∃ l4 : Sl, h2.at b5 (o5 + 12) = some (.slice l4.a l4.n l4.c) ∧ ∃ b6 o6, (l4.a : Option Addr) = some ⟨b6, o6, none⟩ ∧ ((0 : Int) ≤ n ∧ n < (l4.n : Int)) ∧ ∃ l5 : Sl, h2.at b6 (o6 + n.toNat) = some (.slice l5.a l5.n l5.c) ∧ ∃ b7 o7, (l5.a : Option Addr) = some ⟨b7, o7, none⟩ ∧ ((0 : Int) ≤ n2 ∧ n2 < (l5.n : Int)) ∧ ∃ s : ByteArray, h2.at b7 (o7 + n2.toNat * 3) = some (.string s) ∧ ∃ b8 : Bool, parB b8 (h2.at b7 ((o7 + n2.toNat * 3) + 1) = some (.bool true) ∧ ∃ s1 : ByteArray, h2.at b7 ((o7 + n2.toNat * 3) + 2) = some (.string s1) ∧ T77 (IntKind.wrap .i64 (n2 - n1)) h2 fun r h3 => ∃ s2 : ByteArray, r = .string s2 ∧ par (([.string s, .bool true, .string s1] : List Value) = [.string s2, .bool false, .string (ByteArray.mk #[])]) (I1 (IntKind.wrap .i64 (n2 + 1)) h3 ∧ m1 (IntKind.wrap .i64 (n2 + 1)) h3 < m1 n2 h2) (Q (.bool false) h3)) (h2.at b7 ((o7 + n2.toNat * 3) + 1) = some (.bool false) ∧ ∃ s3 : ByteArray, h2.at b7 ((o7 + n2.toNat * 3) + 2) = some (.string s3) ∧ T77 (IntKind.wrap .i64 (n2 - n1)) h2 fun r1 h4 => ∃ s4 : ByteArray, r1 = .string s4 ∧ par (([.string s, .bool false, .string s3] : List Value) = [.string s4, .bool false, .string (ByteArray.mk #[])]) (I1 (IntKind.wrap .i64 (n2 + 1)) h4 ∧ m1 (IntKind.wrap .i64 (n2 + 1)) h4 < m1 n2 h2) (Q (.bool false) h4))) (I (IntKind.wrap .i64 (n + 1)) h2 ∧ m (IntKind.wrap .i64 (n + 1)) h2 < m n h1))) (Q (.bool true) h1)) := by kernel_rfl
theorem F39.den (V : Value → List Value → PT) (p : Option Addr) : denF Try.prog [6] [(77, F77.V)] V [(26, .loop [(3, .int .i64)] []), (3366, .loop [(5, .int .i64)] []), (215442, .order [0, 1, 2, 3, 4, 5, 6])] Try.f39 [.v (.pointer p)] = F39.T p := F39.gen V F77.T p
def F39.W (T39 : Option Addr → PT) (args : List Value) : PT := match args with
  | [.pointer p] => T39 p
  | _ => fun _ _ => False
def F39.V : List Value → PT := F39.W F39.T
theorem F39.ok : FOk Try.prog 39 F39.V := by
  refine ⟨⟨_, Try.func39, rfl, rfl⟩, fun args => ?_⟩
  have hG : GOk Try.prog [(77, F77.V)] := GOk.cons F77.ok (GOk.nil)
  have hV : VOk Try.prog noV := noV_ok
  unfold F39.V F39.W
  split
  · exact denF_okV hG hV Try.func39 (fun h Q hq => (F39.den _ _) ▸ hq)
  · exact fun h Q hq => hq.elim
def F40.T (p : Option Addr) : PT := fun h Q =>
  ∃ (I : Int → Hp → Prop) (m : Int → Hp → Nat), I 0 h ∧ (∀ n : Int, ∀ h1 : Hp, I n h1 → ∃ b o, (p : Option Addr) = some ⟨b, o, none⟩ ∧ ∃ l : Sl, h1.at b (o + 14) = some (.slice l.a l.n l.c) ∧ par (n < (l.n : Int)) (∃ b1 o1, (p : Option Addr) = some ⟨b1, o1, none⟩ ∧ ∃ l1 : Sl, h1.at b1 (o1 + 15) = some (.slice l1.a l1.n l1.c) ∧ ∃ b2 o2, (l1.a : Option Addr) = some ⟨b2, o2, none⟩ ∧ ((0 : Int) ≤ n ∧ n < (l1.n : Int)) ∧ ∃ n1 : Int, h1.at b2 (o2 + n.toNat) = some (.int .i64 n1) ∧ ∃ (I1 : Int → Hp → Prop) (m1 : Int → Hp → Nat), I1 n1 h1 ∧ (∀ n2 : Int, ∀ h2 : Hp, I1 n2 h2 → ∃ b3 o3, (p : Option Addr) = some ⟨b3, o3, none⟩ ∧ ∃ l2 : Sl, h2.at b3 (o3 + 14) = some (.slice l2.a l2.n l2.c) ∧ ∃ b4 o4, (l2.a : Option Addr) = some ⟨b4, o4, none⟩ ∧ ((0 : Int) ≤ n ∧ n < (l2.n : Int)) ∧ ∃ l3 : Sl, h2.at b4 (o4 + n.toNat) = some (.slice l3.a l3.n l3.c) ∧ par (n2 < (l3.n : Int)) (∃ b5 o5, (p : Option Addr) = some ⟨b5, o5, none⟩ ∧ ∃ l4 : Sl, h2.at b5 (o5 + 14) = some (.slice l4.a l4.n l4.c) ∧ ∃ b6 o6, (l4.a : Option Addr) = some ⟨b6, o6, none⟩ ∧ ((0 : Int) ≤ n ∧ n < (l4.n : Int)) ∧ ∃ l5 : Sl, h2.at b6 (o6 + n.toNat) = some (.slice l5.a l5.n l5.c) ∧ ∃ b7 o7, (l5.a : Option Addr) = some ⟨b7, o7, none⟩ ∧ ((0 : Int) ≤ n2 ∧ n2 < (l5.n : Int)) ∧ ∃ n3 : Int, h2.at b7 (o7 + n2.toNat * 6) = some (.int .u64 n3) ∧ ∃ n4 : Int, h2.at b7 ((o7 + n2.toNat * 6) + 1) = some (.int .i64 n4) ∧ ∃ n5 : Int, h2.at b7 ((o7 + n2.toNat * 6) + 2) = some (.int .i64 n5) ∧ ∃ n6 : Int, h2.at b7 ((o7 + n2.toNat * 6) + 3) = some (.int .i64 n6) ∧ ∃ s : ByteArray, h2.at b7 ((o7 + n2.toNat * 6) + 4) = some (.string s) ∧ ∃ s1 : ByteArray, h2.at b7 ((o7 + n2.toNat * 6) + 5) = some (.string s1) ∧ F77.T (IntKind.wrap .i64 (n2 - n1)) h2 fun r h3 => ∃ s2 : ByteArray, r = .string s2 ∧ par (([.int .u64 n3, .int .i64 n4, .int .i64 n5, .int .i64 n6, .string s, .string s1] : List Value) = [.int .u64 0, .int .i64 0, .int .i64 0, .int .i64 0, .string s2, .string (ByteArray.mk #[])]) (I1 (IntKind.wrap .i64 (n2 + 1)) h3 ∧ m1 (IntKind.wrap .i64 (n2 + 1)) h3 < m1 n2 h2) (Q (.bool false) h3)) (I (IntKind.wrap .i64 (n + 1)) h2 ∧ m (IntKind.wrap .i64 (n + 1)) h2 < m n h1))) (Q (.bool true) h1))
theorem F40.gen (V : Value → List Value → PT) (T77 : Int → PT) (p : Option Addr) : denF Try.prog [6] [(77, F77.W T77)] V [(26, .loop [(3, .int .i64)] []), (3366, .loop [(5, .int .i64)] []), (215442, .order [0, 1, 2, 3, 4, 5, 6])] Try.f40 [.v (.pointer p)] = fun h Q =>
  ∃ (I : Int → Hp → Prop) (m : Int → Hp → Nat), I 0 h ∧ (∀ n : Int, ∀ h1 : Hp, I n h1 → ∃ b o, (p : Option Addr) = some ⟨b, o, none⟩ ∧ ∃ l : Sl, h1.at b (o + 14) = some (.slice l.a l.n l.c) ∧ par (n < (l.n : Int)) (∃ b1 o1, (p : Option Addr) = some ⟨b1, o1, none⟩ ∧ ∃ l1 : Sl, h1.at b1 (o1 + 15) = some (.slice l1.a l1.n l1.c) ∧ ∃ b2 o2, (l1.a : Option Addr) = some ⟨b2, o2, none⟩ ∧ ((0 : Int) ≤ n ∧ n < (l1.n : Int)) ∧ ∃ n1 : Int, h1.at b2 (o2 + n.toNat) = some (.int .i64 n1) ∧ ∃ (I1 : Int → Hp → Prop) (m1 : Int → Hp → Nat), I1 n1 h1 ∧ (∀ n2 : Int, ∀ h2 : Hp, I1 n2 h2 → ∃ b3 o3, (p : Option Addr) = some ⟨b3, o3, none⟩ ∧ ∃ l2 : Sl, h2.at b3 (o3 + 14) = some (.slice l2.a l2.n l2.c) ∧ ∃ b4 o4, (l2.a : Option Addr) = some ⟨b4, o4, none⟩ ∧ ((0 : Int) ≤ n ∧ n < (l2.n : Int)) ∧ ∃ l3 : Sl, h2.at b4 (o4 + n.toNat) = some (.slice l3.a l3.n l3.c) ∧ par (n2 < (l3.n : Int)) (∃ b5 o5, (p : Option Addr) = some ⟨b5, o5, none⟩ ∧ ∃ l4 : Sl, h2.at b5 (o5 + 14) = some (.slice l4.a l4.n l4.c) ∧ ∃ b6 o6, (l4.a : Option Addr) = some ⟨b6, o6, none⟩ ∧ ((0 : Int) ≤ n ∧ n < (l4.n : Int)) ∧ ∃ l5 : Sl, h2.at b6 (o6 + n.toNat) = some (.slice l5.a l5.n l5.c) ∧ ∃ b7 o7, (l5.a : Option Addr) = some ⟨b7, o7, none⟩ ∧ ((0 : Int) ≤ n2 ∧ n2 < (l5.n : Int)) ∧ ∃ n3 : Int, h2.at b7 (o7 + n2.toNat * 6) = some (.int .u64 n3) ∧ ∃ n4 : Int, h2.at b7 ((o7 + n2.toNat * 6) + 1) = some (.int .i64 n4) ∧ ∃ n5 : Int, h2.at b7 ((o7 + n2.toNat * 6) + 2) = some (.int .i64 n5) ∧ ∃ n6 : Int, h2.at b7 ((o7 + n2.toNat * 6) + 3) = some (.int .i64 n6) ∧ ∃ s : ByteArray, h2.at b7 ((o7 + n2.toNat * 6) + 4) = some (.string s) ∧ ∃ s1 : ByteArray, h2.at b7 ((o7 + n2.toNat * 6) + 5) = some (.string s1) ∧ T77 (IntKind.wrap .i64 (n2 - n1)) h2 fun r h3 => ∃ s2 : ByteArray, r = .string s2 ∧ par (([.int .u64 n3, .int .i64 n4, .int .i64 n5, .int .i64 n6, .string s, .string s1] : List Value) = [.int .u64 0, .int .i64 0, .int .i64 0, .int .i64 0, .string s2, .string (ByteArray.mk #[])]) (I1 (IntKind.wrap .i64 (n2 + 1)) h3 ∧ m1 (IntKind.wrap .i64 (n2 + 1)) h3 < m1 n2 h2) (Q (.bool false) h3)) (I (IntKind.wrap .i64 (n + 1)) h2 ∧ m (IntKind.wrap .i64 (n + 1)) h2 < m n h1))) (Q (.bool true) h1)) := by kernel_rfl
theorem F40.den (V : Value → List Value → PT) (p : Option Addr) : denF Try.prog [6] [(77, F77.V)] V [(26, .loop [(3, .int .i64)] []), (3366, .loop [(5, .int .i64)] []), (215442, .order [0, 1, 2, 3, 4, 5, 6])] Try.f40 [.v (.pointer p)] = F40.T p := F40.gen V F77.T p
def F40.W (T40 : Option Addr → PT) (args : List Value) : PT := match args with
  | [.pointer p] => T40 p
  | _ => fun _ _ => False
def F40.V : List Value → PT := F40.W F40.T
theorem F40.ok : FOk Try.prog 40 F40.V := by
  refine ⟨⟨_, Try.func40, rfl, rfl⟩, fun args => ?_⟩
  have hG : GOk Try.prog [(77, F77.V)] := GOk.cons F77.ok (GOk.nil)
  have hV : VOk Try.prog noV := noV_ok
  unfold F40.V F40.W
  split
  · exact denF_okV hG hV Try.func40 (fun h Q hq => (F40.den _ _) ▸ hq)
  · exact fun h Q hq => hq.elim
def F41.T (p : Option Addr) : PT := fun h Q =>
  ∃ (I : Int → Hp → Prop) (m : Int → Hp → Nat), I 0 h ∧ (∀ n : Int, ∀ h1 : Hp, I n h1 → ∃ b o, (p : Option Addr) = some ⟨b, o, none⟩ ∧ ∃ l : Sl, h1.at b (o + 16) = some (.slice l.a l.n l.c) ∧ par (n < (l.n : Int)) (∃ b1 o1, (p : Option Addr) = some ⟨b1, o1, none⟩ ∧ ∃ l1 : Sl, h1.at b1 (o1 + 17) = some (.slice l1.a l1.n l1.c) ∧ ∃ b2 o2, (l1.a : Option Addr) = some ⟨b2, o2, none⟩ ∧ ((0 : Int) ≤ n ∧ n < (l1.n : Int)) ∧ ∃ n1 : Int, h1.at b2 (o2 + n.toNat) = some (.int .i64 n1) ∧ ∃ (I1 : Int → Hp → Prop) (m1 : Int → Hp → Nat), I1 n1 h1 ∧ (∀ n2 : Int, ∀ h2 : Hp, I1 n2 h2 → ∃ b3 o3, (p : Option Addr) = some ⟨b3, o3, none⟩ ∧ ∃ l2 : Sl, h2.at b3 (o3 + 16) = some (.slice l2.a l2.n l2.c) ∧ ∃ b4 o4, (l2.a : Option Addr) = some ⟨b4, o4, none⟩ ∧ ((0 : Int) ≤ n ∧ n < (l2.n : Int)) ∧ ∃ l3 : Sl, h2.at b4 (o4 + n.toNat) = some (.slice l3.a l3.n l3.c) ∧ par (n2 < (l3.n : Int)) (∃ b5 o5, (p : Option Addr) = some ⟨b5, o5, none⟩ ∧ ∃ l4 : Sl, h2.at b5 (o5 + 16) = some (.slice l4.a l4.n l4.c) ∧ ∃ b6 o6, (l4.a : Option Addr) = some ⟨b6, o6, none⟩ ∧ ((0 : Int) ≤ n ∧ n < (l4.n : Int)) ∧ ∃ l5 : Sl, h2.at b6 (o6 + n.toNat) = some (.slice l5.a l5.n l5.c) ∧ ∃ b7 o7, (l5.a : Option Addr) = some ⟨b7, o7, none⟩ ∧ ((0 : Int) ≤ n2 ∧ n2 < (l5.n : Int)) ∧ ∃ n3 : Int, h2.at b7 (o7 + n2.toNat * 2) = some (.int .i64 n3) ∧ ∃ n4 : Int, h2.at b7 ((o7 + n2.toNat * 2) + 1) = some (.int .u64 n4) ∧ F68.T (IntKind.wrap .i64 (n2 - n1)) h2 fun r h3 => ∃ n5 : Int, r = .int .i64 n5 ∧ par (([.int .i64 n3, .int .u64 n4] : List Value) = [.int .i64 n5, .int .u64 0]) (I1 (IntKind.wrap .i64 (n2 + 1)) h3 ∧ m1 (IntKind.wrap .i64 (n2 + 1)) h3 < m1 n2 h2) (Q (.bool false) h3)) (I (IntKind.wrap .i64 (n + 1)) h2 ∧ m (IntKind.wrap .i64 (n + 1)) h2 < m n h1))) (Q (.bool true) h1))
theorem F41.gen (V : Value → List Value → PT) (T68 : Int → PT) (p : Option Addr) : denF Try.prog [6] [(68, F68.W T68)] V [(26, .loop [(3, .int .i64)] []), (3366, .loop [(5, .int .i64)] []), (215442, .order [0, 1, 2, 3, 4, 5, 6])] Try.f41 [.v (.pointer p)] = fun h Q =>
  ∃ (I : Int → Hp → Prop) (m : Int → Hp → Nat), I 0 h ∧ (∀ n : Int, ∀ h1 : Hp, I n h1 → ∃ b o, (p : Option Addr) = some ⟨b, o, none⟩ ∧ ∃ l : Sl, h1.at b (o + 16) = some (.slice l.a l.n l.c) ∧ par (n < (l.n : Int)) (∃ b1 o1, (p : Option Addr) = some ⟨b1, o1, none⟩ ∧ ∃ l1 : Sl, h1.at b1 (o1 + 17) = some (.slice l1.a l1.n l1.c) ∧ ∃ b2 o2, (l1.a : Option Addr) = some ⟨b2, o2, none⟩ ∧ ((0 : Int) ≤ n ∧ n < (l1.n : Int)) ∧ ∃ n1 : Int, h1.at b2 (o2 + n.toNat) = some (.int .i64 n1) ∧ ∃ (I1 : Int → Hp → Prop) (m1 : Int → Hp → Nat), I1 n1 h1 ∧ (∀ n2 : Int, ∀ h2 : Hp, I1 n2 h2 → ∃ b3 o3, (p : Option Addr) = some ⟨b3, o3, none⟩ ∧ ∃ l2 : Sl, h2.at b3 (o3 + 16) = some (.slice l2.a l2.n l2.c) ∧ ∃ b4 o4, (l2.a : Option Addr) = some ⟨b4, o4, none⟩ ∧ ((0 : Int) ≤ n ∧ n < (l2.n : Int)) ∧ ∃ l3 : Sl, h2.at b4 (o4 + n.toNat) = some (.slice l3.a l3.n l3.c) ∧ par (n2 < (l3.n : Int)) (∃ b5 o5, (p : Option Addr) = some ⟨b5, o5, none⟩ ∧ ∃ l4 : Sl, h2.at b5 (o5 + 16) = some (.slice l4.a l4.n l4.c) ∧ ∃ b6 o6, (l4.a : Option Addr) = some ⟨b6, o6, none⟩ ∧ ((0 : Int) ≤ n ∧ n < (l4.n : Int)) ∧ ∃ l5 : Sl, h2.at b6 (o6 + n.toNat) = some (.slice l5.a l5.n l5.c) ∧ ∃ b7 o7, (l5.a : Option Addr) = some ⟨b7, o7, none⟩ ∧ ((0 : Int) ≤ n2 ∧ n2 < (l5.n : Int)) ∧ ∃ n3 : Int, h2.at b7 (o7 + n2.toNat * 2) = some (.int .i64 n3) ∧ ∃ n4 : Int, h2.at b7 ((o7 + n2.toNat * 2) + 1) = some (.int .u64 n4) ∧ T68 (IntKind.wrap .i64 (n2 - n1)) h2 fun r h3 => ∃ n5 : Int, r = .int .i64 n5 ∧ par (([.int .i64 n3, .int .u64 n4] : List Value) = [.int .i64 n5, .int .u64 0]) (I1 (IntKind.wrap .i64 (n2 + 1)) h3 ∧ m1 (IntKind.wrap .i64 (n2 + 1)) h3 < m1 n2 h2) (Q (.bool false) h3)) (I (IntKind.wrap .i64 (n + 1)) h2 ∧ m (IntKind.wrap .i64 (n + 1)) h2 < m n h1))) (Q (.bool true) h1)) := by kernel_rfl
theorem F41.den (V : Value → List Value → PT) (p : Option Addr) : denF Try.prog [6] [(68, F68.V)] V [(26, .loop [(3, .int .i64)] []), (3366, .loop [(5, .int .i64)] []), (215442, .order [0, 1, 2, 3, 4, 5, 6])] Try.f41 [.v (.pointer p)] = F41.T p := F41.gen V F68.T p
def F41.W (T41 : Option Addr → PT) (args : List Value) : PT := match args with
  | [.pointer p] => T41 p
  | _ => fun _ _ => False
def F41.V : List Value → PT := F41.W F41.T
theorem F41.ok : FOk Try.prog 41 F41.V := by
  refine ⟨⟨_, Try.func41, rfl, rfl⟩, fun args => ?_⟩
  have hG : GOk Try.prog [(68, F68.V)] := GOk.cons F68.ok (GOk.nil)
  have hV : VOk Try.prog noV := noV_ok
  unfold F41.V F41.W
  split
  · exact denF_okV hG hV Try.func41 (fun h Q hq => (F41.den _ _) ▸ hq)
  · exact fun h Q hq => hq.elim
def F42.T (p : Option Addr) : PT := fun h Q =>
  ∃ (I : Int → Hp → Prop) (m : Int → Hp → Nat), I 0 h ∧ (∀ n : Int, ∀ h1 : Hp, I n h1 → ∃ b o, (p : Option Addr) = some ⟨b, o, none⟩ ∧ ∃ l : Sl, h1.at b (o + 18) = some (.slice l.a l.n l.c) ∧ par (n < (l.n : Int)) (∃ b1 o1, (p : Option Addr) = some ⟨b1, o1, none⟩ ∧ ∃ l1 : Sl, h1.at b1 (o1 + 19) = some (.slice l1.a l1.n l1.c) ∧ ∃ b2 o2, (l1.a : Option Addr) = some ⟨b2, o2, none⟩ ∧ ((0 : Int) ≤ n ∧ n < (l1.n : Int)) ∧ ∃ n1 : Int, h1.at b2 (o2 + n.toNat) = some (.int .i64 n1) ∧ ∃ (I1 : Int → Hp → Prop) (m1 : Int → Hp → Nat), I1 n1 h1 ∧ (∀ n2 : Int, ∀ h2 : Hp, I1 n2 h2 → ∃ b3 o3, (p : Option Addr) = some ⟨b3, o3, none⟩ ∧ ∃ l2 : Sl, h2.at b3 (o3 + 18) = some (.slice l2.a l2.n l2.c) ∧ ∃ b4 o4, (l2.a : Option Addr) = some ⟨b4, o4, none⟩ ∧ ((0 : Int) ≤ n ∧ n < (l2.n : Int)) ∧ ∃ l3 : Sl, h2.at b4 (o4 + n.toNat) = some (.slice l3.a l3.n l3.c) ∧ par (n2 < (l3.n : Int)) (∃ b5 o5, (p : Option Addr) = some ⟨b5, o5, none⟩ ∧ ∃ l4 : Sl, h2.at b5 (o5 + 18) = some (.slice l4.a l4.n l4.c) ∧ ∃ b6 o6, (l4.a : Option Addr) = some ⟨b6, o6, none⟩ ∧ ((0 : Int) ≤ n ∧ n < (l4.n : Int)) ∧ ∃ l5 : Sl, h2.at b6 (o6 + n.toNat) = some (.slice l5.a l5.n l5.c) ∧ ∃ b7 o7, (l5.a : Option Addr) = some ⟨b7, o7, none⟩ ∧ ((0 : Int) ≤ n2 ∧ n2 < (l5.n : Int)) ∧ ∃ n3 : Int, h2.at b7 (o7 + n2.toNat * 7) = some (.int .i64 n3) ∧ ∃ n4 : Int, h2.at b7 ((o7 + n2.toNat * 7) + 1) = some (.int .u64 n4) ∧ ∃ n5 : Int, h2.at b7 ((o7 + n2.toNat * 7) + 2) = some (.int .i64 n5) ∧ ∃ n6 : Int, h2.at b7 ((o7 + n2.toNat * 7) + 3) = some (.int .i64 n6) ∧ ∃ n7 : Int, h2.at b7 ((o7 + n2.toNat * 7) + 4) = some (.int .i64 n7) ∧ ∃ s : ByteArray, h2.at b7 ((o7 + n2.toNat * 7) + 5) = some (.string s) ∧ ∃ s1 : ByteArray, h2.at b7 ((o7 + n2.toNat * 7) + 6) = some (.string s1) ∧ F68.T (IntKind.wrap .i64 (n2 - n1)) h2 fun r h3 => ∃ n8 : Int, r = .int .i64 n8 ∧ par (([.int .i64 n3, .int .u64 n4, .int .i64 n5, .int .i64 n6, .int .i64 n7, .string s, .string s1] : List Value) = [.int .i64 n8, .int .u64 0, .int .i64 0, .int .i64 0, .int .i64 0, .string (ByteArray.mk #[]), .string (ByteArray.mk #[])]) (I1 (IntKind.wrap .i64 (n2 + 1)) h3 ∧ m1 (IntKind.wrap .i64 (n2 + 1)) h3 < m1 n2 h2) (Q (.bool false) h3)) (I (IntKind.wrap .i64 (n + 1)) h2 ∧ m (IntKind.wrap .i64 (n + 1)) h2 < m n h1))) (Q (.bool true) h1))
theorem F42.gen (V : Value → List Value → PT) (T68 : Int → PT) (p : Option Addr) : denF Try.prog [6] [(68, F68.W T68)] V [(26, .loop [(3, .int .i64)] []), (3366, .loop [(5, .int .i64)] []), (215442, .order [0, 1, 2, 3, 4, 5, 6])] Try.f42 [.v (.pointer p)] = fun h Q =>
  ∃ (I : Int → Hp → Prop) (m : Int → Hp → Nat), I 0 h ∧ (∀ n : Int, ∀ h1 : Hp, I n h1 → ∃ b o, (p : Option Addr) = some ⟨b, o, none⟩ ∧ ∃ l : Sl, h1.at b (o + 18) = some (.slice l.a l.n l.c) ∧ par (n < (l.n : Int)) (∃ b1 o1, (p : Option Addr) = some ⟨b1, o1, none⟩ ∧ ∃ l1 : Sl, h1.at b1 (o1 + 19) = some (.slice l1.a l1.n l1.c) ∧ ∃ b2 o2, (l1.a : Option Addr) = some ⟨b2, o2, none⟩ ∧ ((0 : Int) ≤ n ∧ n < (l1.n : Int)) ∧ ∃ n1 : Int, h1.at b2 (o2 + n.toNat) = some (.int .i64 n1) ∧ ∃ (I1 : Int → Hp → Prop) (m1 : Int → Hp → Nat), I1 n1 h1 ∧ (∀ n2 : Int, ∀ h2 : Hp, I1 n2 h2 → ∃ b3 o3, (p : Option Addr) = some ⟨b3, o3, none⟩ ∧ ∃ l2 : Sl, h2.at b3 (o3 + 18) = some (.slice l2.a l2.n l2.c) ∧ ∃ b4 o4, (l2.a : Option Addr) = some ⟨b4, o4, none⟩ ∧ ((0 : Int) ≤ n ∧ n < (l2.n : Int)) ∧ ∃ l3 : Sl, h2.at b4 (o4 + n.toNat) = some (.slice l3.a l3.n l3.c) ∧ par (n2 < (l3.n : Int)) (∃ b5 o5, (p : Option Addr) = some ⟨b5, o5, none⟩ ∧ ∃ l4 : Sl, h2.at b5 (o5 + 18) = some (.slice l4.a l4.n l4.c) ∧ ∃ b6 o6, (l4.a : Option Addr) = some ⟨b6, o6, none⟩ ∧ ((0 : Int) ≤ n ∧ n < (l4.n : Int)) ∧ ∃ l5 : Sl, h2.at b6 (o6 + n.toNat) = some (.slice l5.a l5.n l5.c) ∧ ∃ b7 o7, (l5.a : Option Addr) = some ⟨b7, o7, none⟩ ∧ ((0 : Int) ≤ n2 ∧ n2 < (l5.n : Int)) ∧ ∃ n3 : Int, h2.at b7 (o7 + n2.toNat * 7) = some (.int .i64 n3) ∧ ∃ n4 : Int, h2.at b7 ((o7 + n2.toNat * 7) + 1) = some (.int .u64 n4) ∧ ∃ n5 : Int, h2.at b7 ((o7 + n2.toNat * 7) + 2) = some (.int .i64 n5) ∧ ∃ n6 : Int, h2.at b7 ((o7 + n2.toNat * 7) + 3) = some (.int .i64 n6) ∧ ∃ n7 : Int, h2.at b7 ((o7 + n2.toNat * 7) + 4) = some (.int .i64 n7) ∧ ∃ s : ByteArray, h2.at b7 ((o7 + n2.toNat * 7) + 5) = some (.string s) ∧ ∃ s1 : ByteArray, h2.at b7 ((o7 + n2.toNat * 7) + 6) = some (.string s1) ∧ T68 (IntKind.wrap .i64 (n2 - n1)) h2 fun r h3 => ∃ n8 : Int, r = .int .i64 n8 ∧ par (([.int .i64 n3, .int .u64 n4, .int .i64 n5, .int .i64 n6, .int .i64 n7, .string s, .string s1] : List Value) = [.int .i64 n8, .int .u64 0, .int .i64 0, .int .i64 0, .int .i64 0, .string (ByteArray.mk #[]), .string (ByteArray.mk #[])]) (I1 (IntKind.wrap .i64 (n2 + 1)) h3 ∧ m1 (IntKind.wrap .i64 (n2 + 1)) h3 < m1 n2 h2) (Q (.bool false) h3)) (I (IntKind.wrap .i64 (n + 1)) h2 ∧ m (IntKind.wrap .i64 (n + 1)) h2 < m n h1))) (Q (.bool true) h1)) := by kernel_rfl
theorem F42.den (V : Value → List Value → PT) (p : Option Addr) : denF Try.prog [6] [(68, F68.V)] V [(26, .loop [(3, .int .i64)] []), (3366, .loop [(5, .int .i64)] []), (215442, .order [0, 1, 2, 3, 4, 5, 6])] Try.f42 [.v (.pointer p)] = F42.T p := F42.gen V F68.T p
def F42.W (T42 : Option Addr → PT) (args : List Value) : PT := match args with
  | [.pointer p] => T42 p
  | _ => fun _ _ => False
def F42.V : List Value → PT := F42.W F42.T
theorem F42.ok : FOk Try.prog 42 F42.V := by
  refine ⟨⟨_, Try.func42, rfl, rfl⟩, fun args => ?_⟩
  have hG : GOk Try.prog [(68, F68.V)] := GOk.cons F68.ok (GOk.nil)
  have hV : VOk Try.prog noV := noV_ok
  unfold F42.V F42.W
  split
  · exact denF_okV hG hV Try.func42 (fun h Q hq => (F42.den _ _) ▸ hq)
  · exact fun h Q hq => hq.elim
def F43.T (p : Option Addr) : PT := fun h Q =>
  ∃ (I : Int → Hp → Prop) (m : Int → Hp → Nat), I 0 h ∧ (∀ n : Int, ∀ h1 : Hp, I n h1 → ∃ b o, (p : Option Addr) = some ⟨b, o, none⟩ ∧ ∃ l : Sl, h1.at b (o + 20) = some (.slice l.a l.n l.c) ∧ par (n < (l.n : Int)) (∃ b1 o1, (p : Option Addr) = some ⟨b1, o1, none⟩ ∧ ∃ l1 : Sl, h1.at b1 (o1 + 21) = some (.slice l1.a l1.n l1.c) ∧ ∃ b2 o2, (l1.a : Option Addr) = some ⟨b2, o2, none⟩ ∧ ((0 : Int) ≤ n ∧ n < (l1.n : Int)) ∧ ∃ n1 : Int, h1.at b2 (o2 + n.toNat) = some (.int .i64 n1) ∧ ∃ (I1 : Int → Hp → Prop) (m1 : Int → Hp → Nat), I1 n1 h1 ∧ (∀ n2 : Int, ∀ h2 : Hp, I1 n2 h2 → ∃ b3 o3, (p : Option Addr) = some ⟨b3, o3, none⟩ ∧ ∃ l2 : Sl, h2.at b3 (o3 + 20) = some (.slice l2.a l2.n l2.c) ∧ ∃ b4 o4, (l2.a : Option Addr) = some ⟨b4, o4, none⟩ ∧ ((0 : Int) ≤ n ∧ n < (l2.n : Int)) ∧ ∃ l3 : Sl, h2.at b4 (o4 + n.toNat) = some (.slice l3.a l3.n l3.c) ∧ par (n2 < (l3.n : Int)) (∃ b5 o5, (p : Option Addr) = some ⟨b5, o5, none⟩ ∧ ∃ l4 : Sl, h2.at b5 (o5 + 20) = some (.slice l4.a l4.n l4.c) ∧ ∃ b6 o6, (l4.a : Option Addr) = some ⟨b6, o6, none⟩ ∧ ((0 : Int) ≤ n ∧ n < (l4.n : Int)) ∧ ∃ l5 : Sl, h2.at b6 (o6 + n.toNat) = some (.slice l5.a l5.n l5.c) ∧ ∃ b7 o7, (l5.a : Option Addr) = some ⟨b7, o7, none⟩ ∧ ((0 : Int) ≤ n2 ∧ n2 < (l5.n : Int)) ∧ ∃ l6 : Sl, h2.at b7 (o7 + n2.toNat) = some (.slice l6.a l6.n l6.c) ∧ par ((l6.n : Int) = 1) (∃ b8 o8, (l6.a : Option Addr) = some ⟨b8, o8, none⟩ ∧ ((0 : Int) ≤ 0 ∧ 0 < (l6.n : Int)) ∧ ∃ n3 : Int, h2.at b8 (o8 + (0 : Int).toNat) = some (.int .u8 n3) ∧ F68.T (IntKind.wrap .i64 (n2 - n1)) h2 fun r h3 => ∃ n4 : Int, r = .int .i64 n4 ∧ h3.at b8 (o8 + (0 : Int).toNat) = some (.int .u8 n3) ∧ par (n3 = (IntKind.wrap .u8 n4)) (I1 (IntKind.wrap .i64 (n2 + 1)) h3 ∧ m1 (IntKind.wrap .i64 (n2 + 1)) h3 < m1 n2 h2) (Q (.bool false) h3)) (Q (.bool false) h2)) (I (IntKind.wrap .i64 (n + 1)) h2 ∧ m (IntKind.wrap .i64 (n + 1)) h2 < m n h1))) (Q (.bool true) h1))
theorem F43.gen (V : Value → List Value → PT) (T68 : Int → PT) (p : Option Addr) : denF Try.prog [] [(68, F68.W T68)] V [(26, .loop [(3, .int .i64)] []), (3366, .loop [(5, .int .i64)] []), (215442, .order [0, 1, 2, 3, 4, 5, 6, 7, 8, 9, 10, 11, 12, 13])] Try.f43 [.v (.pointer p)] = fun h Q =>
  ∃ (I : Int → Hp → Prop) (m : Int → Hp → Nat), I 0 h ∧ (∀ n : Int, ∀ h1 : Hp, I n h1 → ∃ b o, (p : Option Addr) = some ⟨b, o, none⟩ ∧ ∃ l : Sl, h1.at b (o + 20) = some (.slice l.a l.n l.c) ∧ par (n < (l.n : Int)) (∃ b1 o1, (p : Option Addr) = some ⟨b1, o1, none⟩ ∧ ∃ l1 : Sl, h1.at b1 (o1 + 21) = some (.slice l1.a l1.n l1.c) ∧ ∃ b2 o2, (l1.a : Option Addr) = some ⟨b2, o2, none⟩ ∧ ((0 : Int) ≤ n ∧ n < (l1.n : Int)) ∧ ∃ n1 : Int, h1.at b2 (o2 + n.toNat) = some (.int .i64 n1) ∧ ∃ (I1 : Int → Hp → Prop) (m1 : Int → Hp → Nat), I1 n1 h1 ∧ (∀ n2 : Int, ∀ h2 : Hp, I1 n2 h2 → ∃ b3 o3, (p : Option Addr) = some ⟨b3, o3, none⟩ ∧ ∃ l2 : Sl, h2.at b3 (o3 + 20) = some (.slice l2.a l2.n l2.c) ∧ ∃ b4 o4, (l2.a : Option Addr) = some ⟨b4, o4, none⟩ ∧ ((0 : Int) ≤ n ∧ n < (l2.n : Int)) ∧ ∃ l3 : Sl, h2.at b4 (o4 + n.toNat) = some (.slice l3.a l3.n l3.c) ∧ par (n2 < (l3.n : Int)) (∃ b5 o5, (p : Option Addr) = some ⟨b5, o5, none⟩ ∧ ∃ l4 : Sl, h2.at b5 (o5 + 20) = some (.slice l4.a l4.n l4.c) ∧ ∃ b6 o6, (l4.a : Option Addr) = some ⟨b6, o6, none⟩ ∧ ((0 : Int) ≤ n ∧ n < (l4.n : Int)) ∧ ∃ l5 : Sl, h2.at b6 (o6 + n.toNat) = some (.slice l5.a l5.n l5.c) ∧ ∃ b7 o7, (l5.a : Option Addr) = some ⟨b7, o7, none⟩ ∧ ((0 : Int) ≤ n2 ∧ n2 < (l5.n : Int)) ∧ ∃ l6 : Sl, h2.at b7 (o7 + n2.toNat) = some (.slice l6.a l6.n l6.c) ∧ par ((l6.n : Int) = 1) (∃ b8 o8, (l6.a : Option Addr) = some ⟨b8, o8, none⟩ ∧ ((0 : Int) ≤ 0 ∧ 0 < (l6.n : Int)) ∧ ∃ n3 : Int, h2.at b8 (o8 + (0 : Int).toNat) = some (.int .u8 n3) ∧ T68 (IntKind.wrap .i64 (n2 - n1)) h2 fun r h3 => ∃ n4 : Int, r = .int .i64 n4 ∧ h3.at b8 (o8 + (0 : Int).toNat) = some (.int .u8 n3) ∧ par (n3 = (IntKind.wrap .u8 n4)) (I1 (IntKind.wrap .i64 (n2 + 1)) h3 ∧ m1 (IntKind.wrap .i64 (n2 + 1)) h3 < m1 n2 h2) (Q (.bool false) h3)) (Q (.bool false) h2)) (I (IntKind.wrap .i64 (n + 1)) h2 ∧ m (IntKind.wrap .i64 (n + 1)) h2 < m n h1))) (Q (.bool true) h1)) := by kernel_rfl
theorem F43.den (V : Value → List Value → PT) (p : Option Addr) : denF Try.prog [] [(68, F68.V)] V [(26, .loop [(3, .int .i64)] []), (3366, .loop [(5, .int .i64)] []), (215442, .order [0, 1, 2, 3, 4, 5, 6, 7, 8, 9, 10, 11, 12, 13])] Try.f43 [.v (.pointer p)] = F43.T p := F43.gen V F68.T p
def F43.W (T43 : Option Addr → PT) (args : List Value) : PT := match args with
  | [.pointer p] => T43 p
  | _ => fun _ _ => False
def F43.V : List Value → PT := F43.W F43.T
theorem F43.ok : FOk Try.prog 43 F43.V := by
  refine ⟨⟨_, Try.func43, rfl, rfl⟩, fun args => ?_⟩
  have hG : GOk Try.prog [(68, F68.V)] := GOk.cons F68.ok (GOk.nil)
  have hV : VOk Try.prog noV := noV_ok
  unfold F43.V F43.W
  split
  · exact denF_okV hG hV Try.func43 (fun h Q hq => (F43.den _ _) ▸ hq)
  · exact fun h Q hq => hq.elim
def F44.T (p : Option Addr) : PT := fun h Q =>
  ∃ (I : Int → Hp → Prop) (m : Int → Hp → Nat), I 0 h ∧ (∀ n : Int, ∀ h1 : Hp, I n h1 → ∃ b o, (p : Option Addr) = some ⟨b, o, none⟩ ∧ ∃ l : Sl, h1.at b (o + 22) = some (.slice l.a l.n l.c) ∧ par (n < (l.n : Int)) (∃ b1 o1, (p : Option Addr) = some ⟨b1, o1, none⟩ ∧ ∃ l1 : Sl, h1.at b1 (o1 + 23) = some (.slice l1.a l1.n l1.c) ∧ ∃ b2 o2, (l1.a : Option Addr) = some ⟨b2, o2, none⟩ ∧ ((0 : Int) ≤ n ∧ n < (l1.n : Int)) ∧ ∃ n1 : Int, h1.at b2 (o2 + n.toNat) = some (.int .i64 n1) ∧ ∃ (I1 : Int → Hp → Prop) (m1 : Int → Hp → Nat), I1 n1 h1 ∧ (∀ n2 : Int, ∀ h2 : Hp, I1 n2 h2 → ∃ b3 o3, (p : Option Addr) = some ⟨b3, o3, none⟩ ∧ ∃ l2 : Sl, h2.at b3 (o3 + 22) = some (.slice l2.a l2.n l2.c) ∧ ∃ b4 o4, (l2.a : Option Addr) = some ⟨b4, o4, none⟩ ∧ ((0 : Int) ≤ n ∧ n < (l2.n : Int)) ∧ ∃ l3 : Sl, h2.at b4 (o4 + n.toNat) = some (.slice l3.a l3.n l3.c) ∧ par (n2 < (l3.n : Int)) (∃ b5 o5, (p : Option Addr) = some ⟨b5, o5, none⟩ ∧ ∃ l4 : Sl, h2.at b5 (o5 + 22) = some (.slice l4.a l4.n l4.c) ∧ ∃ b6 o6, (l4.a : Option Addr) = some ⟨b6, o6, none⟩ ∧ ((0 : Int) ≤ n ∧ n < (l4.n : Int)) ∧ ∃ l5 : Sl, h2.at b6 (o6 + n.toNat) = some (.slice l5.a l5.n l5.c) ∧ ∃ b7 o7, (l5.a : Option Addr) = some ⟨b7, o7, none⟩ ∧ ((0 : Int) ≤ n2 ∧ n2 < (l5.n : Int)) ∧ ∃ l6 : Sl, h2.at b7 (o7 + n2.toNat) = some (.slice l6.a l6.n l6.c) ∧ par ((l6.n : Int) = 1) (∃ b8 o8, (l6.a : Option Addr) = some ⟨b8, o8, none⟩ ∧ ((0 : Int) ≤ 0 ∧ 0 < (l6.n : Int)) ∧ ∃ s : ByteArray, h2.at b8 (o8 + (0 : Int).toNat * 3) = some (.string s) ∧ F77.T (IntKind.wrap .i64 (n2 - n1)) h2 fun r h3 => ∃ s1 : ByteArray, r = .string s1 ∧ h3.at b8 (o8 + (0 : Int).toNat * 3) = some (.string s) ∧ par (s = s1) (∃ b9 o9, (l6.a : Option Addr) = some ⟨b9, o9, none⟩ ∧ ((0 : Int) ≤ 0 ∧ 0 < (l6.n : Int)) ∧ ∃ b10 : Bool, h3.at b9 ((o9 + (0 : Int).toNat * 3) + 1) = some (.bool b10) ∧ parB b10 (Q (.bool false) h3) (∃ b11 o10, (l6.a : Option Addr) = some ⟨b11, o10, none⟩ ∧ ((0 : Int) ≤ 0 ∧ 0 < (l6.n : Int)) ∧ ∃ s2 : ByteArray, h3.at b11 ((o10 + (0 : Int).toNat * 3) + 2) = some (.string s2) ∧ par (s2 = (ByteArray.mk #[])) (I1 (IntKind.wrap .i64 (n2 + 1)) h3 ∧ m1 (IntKind.wrap .i64 (n2 + 1)) h3 < m1 n2 h2) (Q (.bool false) h3))) (Q (.bool false) h3)) (Q (.bool false) h2)) (I (IntKind.wrap .i64 (n + 1)) h2 ∧ m (IntKind.wrap .i64 (n + 1)) h2 < m n h1))) (Q (.bool true) h1))
theorem F44.gen (V : Value → List Value → PT) (T77 : Int → PT) (p : Option Addr) : denF Try.prog [] [(77, F77.W T77)] V [(26, .loop [(3, .int .i64)] []), (3366, .loop [(5, .int .i64)] []), (215442, .order [0, 1, 2, 3, 4, 5, 6, 7, 8, 9, 10, 11, 12, 13, 14, 15, 16, 17, 18, 19, 20, 21, 22, 23, 24, 25, 26])] Try.f44 [.v (.pointer p)] = fun h Q =>
  ∃ (I : Int → Hp → Prop) (m : Int → Hp → Nat), I 0 h ∧ (∀ n : Int, ∀ h1 : Hp, I n h1 → ∃ b o, (p : Option Addr) = some ⟨b, o, none⟩ ∧ ∃ l : Sl, h1.at b (o + 22) = some (.slice l.a l.n l.c) ∧ par (n < (l.n : Int)) (∃ b1 o1, (p : Option Addr) = some ⟨b1, o1, none⟩ ∧ ∃ l1 : Sl, h1.at b1 (o1 + 23) = some (.slice l1.a l1.n l1.c) ∧ ∃ b2 o2, (l1.a : Option Addr) = some ⟨b2, o2, none⟩ ∧ ((0 : Int) ≤ n ∧ n < (l1.n : Int)) ∧ ∃ n1 : Int, h1.at b2 (o2 + n.toNat) = some (.int .i64 n1) ∧ ∃ (I1 : Int → Hp → Prop) (m1 : Int → Hp → Nat), I1 n1 h1 ∧ (∀ n2 : Int, ∀ h2 : Hp, I1 n2 h2 → ∃ b3 o3, (p : Option Addr) = some ⟨b3, o3, none⟩ ∧ ∃ l2 : Sl, h2.at b3 (o3 + 22) = some (.slice l2.a l2.n l2.c) ∧ ∃ b4 o4, (l2.a : Option Addr) = some ⟨b4, o4, none⟩ ∧ ((0 : Int) ≤ n ∧ n < (l2.n : Int)) ∧ ∃ l3 : Sl, h2.at b4 (o4 + n.toNat) = some (.slice l3.a l3.n l3.c) ∧ par (n2 < (l3.n : Int)) (∃ b5 o5, (p : Option Addr) = some ⟨b5, o5, none⟩ ∧ ∃ l4 : Sl, h2.at b5 (o5 + 22) = some (.slice l4.a l4.n l4.c) ∧ ∃ b6 o6, (l4.a : Option Addr) = some ⟨b6, o6, none⟩ ∧ ((0 : Int) ≤ n ∧ n < (l4.n : Int)) ∧ ∃ l5 : Sl, h2.at b6 (o6 + n.toNat) = some (.slice l5.a l5.n l5.c) ∧ ∃ b7 o7, (l5.a : Option Addr) = some ⟨b7, o7, none⟩ ∧ ((0 : Int) ≤ n2 ∧ n2 < (l5.n : Int)) ∧ ∃ l6 : Sl, h2.at b7 (o7 + n2.toNat) = some (.slice l6.a l6.n l6.c) ∧ par ((l6.n : Int) = 1) (∃ b8 o8, (l6.a : Option Addr) = some ⟨b8, o8, none⟩ ∧ ((0 : Int) ≤ 0 ∧ 0 < (l6.n : Int)) ∧ ∃ s : ByteArray, h2.at b8 (o8 + (0 : Int).toNat * 3) = some (.string s) ∧ T77 (IntKind.wrap .i64 (n2 - n1)) h2 fun r h3 => ∃ s1 : ByteArray, r = .string s1 ∧ h3.at b8 (o8 + (0 : Int).toNat * 3) = some (.string s) ∧ par (s = s1) (∃ b9 o9, (l6.a : Option Addr) = some ⟨b9, o9, none⟩ ∧ ((0 : Int) ≤ 0 ∧ 0 < (l6.n : Int)) ∧ ∃ b10 : Bool, h3.at b9 ((o9 + (0 : Int).toNat * 3) + 1) = some (.bool b10) ∧ parB b10 (Q (.bool false) h3) (∃ b11 o10, (l6.a : Option Addr) = some ⟨b11, o10, none⟩ ∧ ((0 : Int) ≤ 0 ∧ 0 < (l6.n : Int)) ∧ ∃ s2 : ByteArray, h3.at b11 ((o10 + (0 : Int).toNat * 3) + 2) = some (.string s2) ∧ par (s2 = (ByteArray.mk #[])) (I1 (IntKind.wrap .i64 (n2 + 1)) h3 ∧ m1 (IntKind.wrap .i64 (n2 + 1)) h3 < m1 n2 h2) (Q (.bool false) h3))) (Q (.bool false) h3)) (Q (.bool false) h2)) (I (IntKind.wrap .i64 (n + 1)) h2 ∧ m (IntKind.wrap .i64 (n + 1)) h2 < m n h1))) (Q (.bool true) h1)) := by kernel_rfl
theorem F44.den (V : Value → List Value → PT) (p : Option Addr) : denF Try.prog [] [(77, F77.V)] V [(26, .loop [(3, .int .i64)] []), (3366, .loop [(5, .int .i64)] []), (215442, .order [0, 1, 2, 3, 4, 5, 6, 7, 8, 9, 10, 11, 12, 13, 14, 15, 16, 17, 18, 19, 20, 21, 22, 23, 24, 25, 26])] Try.f44 [.v (.pointer p)] = F44.T p := F44.gen V F77.T p
def F44.W (T44 : Option Addr → PT) (args : List Value) : PT := match args with
  | [.pointer p] => T44 p
  | _ => fun _ _ => False
def F44.V : List Value → PT := F44.W F44.T
theorem F44.ok : FOk Try.prog 44 F44.V := by
  refine ⟨⟨_, Try.func44, rfl, rfl⟩, fun args => ?_⟩
  have hG : GOk Try.prog [(77, F77.V)] := GOk.cons F77.ok (GOk.nil)
  have hV : VOk Try.prog noV := noV_ok
  unfold F44.V F44.W
  split
  · exact denF_okV hG hV Try.func44 (fun h Q hq => (F44.den _ _) ▸ hq)
  · exact fun h Q hq => hq.elim
def F45.T (p : Option Addr) : PT := fun h Q =>
  ∃ (I : Int → Hp → Prop) (m : Int → Hp → Nat), I 0 h ∧ (∀ n : Int, ∀ h1 : Hp, I n h1 → ∃ b o, (p : Option Addr) = some ⟨b, o, none⟩ ∧ ∃ l : Sl, h1.at b (o + 24) = some (.slice l.a l.n l.c) ∧ par (n < (l.n : Int)) (∃ b1 o1, (p : Option Addr) = some ⟨b1, o1, none⟩ ∧ ∃ l1 : Sl, h1.at b1 (o1 + 25) = some (.slice l1.a l1.n l1.c) ∧ ∃ b2 o2, (l1.a : Option Addr) = some ⟨b2, o2, none⟩ ∧ ((0 : Int) ≤ n ∧ n < (l1.n : Int)) ∧ ∃ n1 : Int, h1.at b2 (o2 + n.toNat) = some (.int .i64 n1) ∧ ∃ (I1 : Int → Hp → Prop) (m1 : Int → Hp → Nat), I1 n1 h1 ∧ (∀ n2 : Int, ∀ h2 : Hp, I1 n2 h2 → ∃ b3 o3, (p : Option Addr) = some ⟨b3, o3, none⟩ ∧ ∃ l2 : Sl, h2.at b3 (o3 + 24) = some (.slice l2.a l2.n l2.c) ∧ ∃ b4 o4, (l2.a : Option Addr) = some ⟨b4, o4, none⟩ ∧ ((0 : Int) ≤ n ∧ n < (l2.n : Int)) ∧ ∃ l3 : Sl, h2.at b4 (o4 + n.toNat) = some (.slice l3.a l3.n l3.c) ∧ par (n2 < (l3.n : Int)) (∃ b5 o5, (p : Option Addr) = some ⟨b5, o5, none⟩ ∧ ∃ l4 : Sl, h2.at b5 (o5 + 24) = some (.slice l4.a l4.n l4.c) ∧ ∃ b6 o6, (l4.a : Option Addr) = some ⟨b6, o6, none⟩ ∧ ((0 : Int) ≤ n ∧ n < (l4.n : Int)) ∧ ∃ l5 : Sl, h2.at b6 (o6 + n.toNat) = some (.slice l5.a l5.n l5.c) ∧ ∃ b7 o7, (l5.a : Option Addr) = some ⟨b7, o7, none⟩ ∧ ((0 : Int) ≤ n2 ∧ n2 < (l5.n : Int)) ∧ ∃ s : ByteArray, h2.at b7 (o7 + n2.toNat * 3) = some (.string s) ∧ ∃ l6 : Sl, h2.at b7 ((o7 + n2.toNat * 3) + 1) = some (.slice l6.a l6.n l6.c) ∧ ∃ n3 : Int, h2.at b7 ((o7 + n2.toNat * 3) + 2) = some (.int .i64 n3) ∧ F77.T (IntKind.wrap .i64 (n2 - n1)) h2 fun r h3 => ∃ s1 : ByteArray, r = .string s1 ∧ par (s = s1) (par ((l6.n : Int) = 0) (par (n3 = 0) (I1 (IntKind.wrap .i64 (n2 + 1)) h3 ∧ m1 (IntKind.wrap .i64 (n2 + 1)) h3 < m1 n2 h2) (Q (.bool false) h3)) (Q (.bool false) h3)) (Q (.bool false) h3)) (I (IntKind.wrap .i64 (n + 1)) h2 ∧ m (IntKind.wrap .i64 (n + 1)) h2 < m n h1))) (Q (.bool true) h1))
theorem F45.gen (V : Value → List Value → PT) (T77 : Int → PT) (p : Option Addr) : denF Try.prog [6] [(77, F77.W T77)] V [(26, .loop [(3, .int .i64)] []), (3366, .loop [(5, .int .i64)] []), (215442, .order [0, 1, 2, 3, 4, 5, 6, 7, 8, 9, 10, 11, 12, 13, 14, 15, 16, 17])] Try.f45 [.v (.pointer p)] = fun h Q =>
  ∃ (I : Int → Hp → Prop) (m : Int → Hp → Nat), I 0 h ∧ (∀ n : Int, ∀ h1 : Hp, I n h1 → ∃ b o, (p : Option Addr) = some ⟨b, o, none⟩ ∧ ∃ l : Sl, h1.at b (o + 24) = some (.slice l.a l.n l.c) ∧ par (n < (l.n : Int)) (∃ b1 o1, (p : Option Addr) = some ⟨b1, o1, none⟩ ∧ ∃ l1 : Sl, h1.at b1 (o1 + 25) = some (.slice l1.a l1.n l1.c) ∧ ∃ b2 o2, (l1.a : Option Addr) = some ⟨b2, o2, none⟩ ∧ ((0 : Int) ≤ n ∧ n < (l1.n : Int)) ∧ ∃ n1 : Int, h1.at b2 (o2 + n.toNat) = some (.int .i64 n1) ∧ ∃ (I1 : Int → Hp → Prop) (m1 : Int → Hp → Nat), I1 n1 h1 ∧ (∀ n2 : Int, ∀ h2 : Hp, I1 n2 h2 → ∃ b3 o3, (p : Option Addr) = some ⟨b3, o3, none⟩ ∧ ∃ l2 : Sl, h2.at b3 (o3 + 24) = some (.slice l2.a l2.n l2.c) ∧ ∃ b4 o4, (l2.a : Option Addr) = some ⟨b4, o4, none⟩ ∧ ((0 : Int) ≤ n ∧ n < (l2.n : Int)) ∧ ∃ l3 : Sl, h2.at b4 (o4 + n.toNat) = some (.slice l3.a l3.n l3.c) ∧ par (n2 < (l3.n : Int)) (∃ b5 o5, (p : Option Addr) = some ⟨b5, o5, none⟩ ∧ ∃ l4 : Sl, h2.at b5 (o5 + 24) = some (.slice l4.a l4.n l4.c) ∧ ∃ b6 o6, (l4.a : Option Addr) = some ⟨b6, o6, none⟩ ∧ ((0 : Int) ≤ n ∧ n < (l4.n : Int)) ∧ ∃ l5 : Sl, h2.at b6 (o6 + n.toNat) = some (.slice l5.a l5.n l5.c) ∧ ∃ b7 o7, (l5.a : Option Addr) = some ⟨b7, o7, none⟩ ∧ ((0 : Int) ≤ n2 ∧ n2 < (l5.n : Int)) ∧ ∃ s : ByteArray, h2.at b7 (o7 + n2.toNat * 3) = some (.string s) ∧ ∃ l6 : Sl, h2.at b7 ((o7 + n2.toNat * 3) + 1) = some (.slice l6.a l6.n l6.c) ∧ ∃ n3 : Int, h2.at b7 ((o7 + n2.toNat * 3) + 2) = some (.int .i64 n3) ∧ T77 (IntKind.wrap .i64 (n2 - n1)) h2 fun r h3 => ∃ s1 : ByteArray, r = .string s1 ∧ par (s = s1) (par ((l6.n : Int) = 0) (par (n3 = 0) (I1 (IntKind.wrap .i64 (n2 + 1)) h3 ∧ m1 (IntKind.wrap .i64 (n2 + 1)) h3 < m1 n2 h2) (Q (.bool false) h3)) (Q (.bool false) h3)) (Q (.bool false) h3)) (I (IntKind.wrap .i64 (n + 1)) h2 ∧ m (IntKind.wrap .i64 (n + 1)) h2 < m n h1))) (Q (.bool true) h1)) := by kernel_rfl
theorem F45.den (V : Value → List Value → PT) (p : Option Addr) : denF Try.prog [6] [(77, F77.V)] V [(26, .loop [(3, .int .i64)] []), (3366, .loop [(5, .int .i64)] []), (215442, .order [0, 1, 2, 3, 4, 5, 6, 7, 8, 9, 10, 11, 12, 13, 14, 15, 16, 17])] Try.f45 [.v (.pointer p)] = F45.T p := F45.gen V F77.T p
def F45.W (T45 : Option Addr → PT) (args : List Value) : PT := match args with
  | [.pointer p] => T45 p
  | _ => fun _ _ => False
def F45.V : List Value → PT := F45.W F45.T
theorem F45.ok : FOk Try.prog 45 F45.V := by
  refine ⟨⟨_, Try.func45, rfl, rfl⟩, fun args => ?_⟩
  have hG : GOk Try.prog [(77, F77.V)] := GOk.cons F77.ok (GOk.nil)
  have hV : VOk Try.prog noV := noV_ok
  unfold F45.V F45.W
  split
  · exact denF_okV hG hV Try.func45 (fun h Q hq => (F45.den _ _) ▸ hq)
  · exact fun h Q hq => hq.elim
def F46.T (p : Option Addr) : PT := fun h Q =>
  ∃ (I : Int → Hp → Prop) (m : Int → Hp → Nat), I 0 h ∧ (∀ n : Int, ∀ h1 : Hp, I n h1 → ∃ b o, (p : Option Addr) = some ⟨b, o, none⟩ ∧ ∃ l : Sl, h1.at b (o + 26) = some (.slice l.a l.n l.c) ∧ par (n < (l.n : Int)) (∃ b1 o1, (p : Option Addr) = some ⟨b1, o1, none⟩ ∧ ∃ l1 : Sl, h1.at b1 (o1 + 27) = some (.slice l1.a l1.n l1.c) ∧ ∃ b2 o2, (l1.a : Option Addr) = some ⟨b2, o2, none⟩ ∧ ((0 : Int) ≤ n ∧ n < (l1.n : Int)) ∧ ∃ n1 : Int, h1.at b2 (o2 + n.toNat) = some (.int .i64 n1) ∧ ∃ (I1 : Int → Hp → Prop) (m1 : Int → Hp → Nat), I1 n1 h1 ∧ (∀ n2 : Int, ∀ h2 : Hp, I1 n2 h2 → ∃ b3 o3, (p : Option Addr) = some ⟨b3, o3, none⟩ ∧ ∃ l2 : Sl, h2.at b3 (o3 + 26) = some (.slice l2.a l2.n l2.c) ∧ ∃ b4 o4, (l2.a : Option Addr) = some ⟨b4, o4, none⟩ ∧ ((0 : Int) ≤ n ∧ n < (l2.n : Int)) ∧ ∃ l3 : Sl, h2.at b4 (o4 + n.toNat) = some (.slice l3.a l3.n l3.c) ∧ par (n2 < (l3.n : Int)) (∃ b5 o5, (p : Option Addr) = some ⟨b5, o5, none⟩ ∧ ∃ l4 : Sl, h2.at b5 (o5 + 26) = some (.slice l4.a l4.n l4.c) ∧ ∃ b6 o6, (l4.a : Option Addr) = some ⟨b6, o6, none⟩ ∧ ((0 : Int) ≤ n ∧ n < (l4.n : Int)) ∧ ∃ l5 : Sl, h2.at b6 (o6 + n.toNat) = some (.slice l5.a l5.n l5.c) ∧ ∃ b7 o7, (l5.a : Option Addr) = some ⟨b7, o7, none⟩ ∧ ((0 : Int) ≤ n2 ∧ n2 < (l5.n : Int)) ∧ ∃ n3 : Int, h2.at b7 (o7 + n2.toNat * 12) = some (.int .i64 n3) ∧ ∃ n4 : Int, h2.at b7 ((o7 + n2.toNat * 12) + 1) = some (.int .i64 n4) ∧ ∃ n5 : Int, h2.at b7 ((o7 + n2.toNat * 12) + 2) = some (.int .i64 n5) ∧ ∃ n6 : Int, h2.at b7 ((o7 + n2.toNat * 12) + 3) = some (.int .i64 n6) ∧ ∃ n7 : Int, h2.at b7 ((o7 + n2.toNat * 12) + 4) = some (.int .i64 n7) ∧ ∃ l6 : Sl, h2.at b7 ((o7 + n2.toNat * 12) + 5) = some (.slice l6.a l6.n l6.c) ∧ ∃ b8 : Bool, parB b8 (h2.at b7 ((o7 + n2.toNat * 12) + 6) = some (.bool true) ∧ ∃ s : ByteArray, h2.at b7 ((o7 + n2.toNat * 12) + 7) = some (.string s) ∧ ∃ s1 : ByteArray, h2.at b7 ((o7 + n2.toNat * 12) + 8) = some (.string s1) ∧ ∃ n8 : Int, h2.at b7 ((o7 + n2.toNat * 12) + 9) = some (.int .i64 n8) ∧ ∃ n9 : Int, h2.at b7 ((o7 + n2.toNat * 12) + 10) = some (.int .i64 n9) ∧ ∃ l7 : Sl, h2.at b7 ((o7 + n2.toNat * 12) + 11) = some (.slice l7.a l7.n l7.c) ∧ F68.T (IntKind.wrap .i64 (n2 - n1)) h2 fun r h3 => ∃ n10 : Int, r = .int .i64 n10 ∧ par (n3 = n10) (par (n4 = 0) (par ((l7.n : Int) = 0) (par ((l6.n : Int) = 0) (I1 (IntKind.wrap .i64 (n2 + 1)) h3 ∧ m1 (IntKind.wrap .i64 (n2 + 1)) h3 < m1 n2 h2) (Q (.bool false) h3)) (Q (.bool false) h3)) (Q (.bool false) h3)) (Q (.bool false) h3)) (h2.at b7 ((o7 + n2.toNat * 12) + 6) = some (.bool false) ∧ ∃ s2 : ByteArray, h2.at b7 ((o7 + n2.toNat * 12) + 7) = some (.string s2) ∧ ∃ s3 : ByteArray, h2.at b7 ((o7 + n2.toNat * 12) + 8) = some (.string s3) ∧ ∃ n11 : Int, h2.at b7 ((o7 + n2.toNat * 12) + 9) = some (.int .i64 n11) ∧ ∃ n12 : Int, h2.at b7 ((o7 + n2.toNat * 12) + 10) = some (.int .i64 n12) ∧ ∃ l8 : Sl, h2.at b7 ((o7 + n2.toNat * 12) + 11) = some (.slice l8.a l8.n l8.c) ∧ F68.T (IntKind.wrap .i64 (n2 - n1)) h2 fun r1 h4 => ∃ n13 : Int, r1 = .int .i64 n13 ∧ par (n3 = n13) (par (n4 = 0) (par ((l8.n : Int) = 0) (par ((l6.n : Int) = 0) (I1 (IntKind.wrap .i64 (n2 + 1)) h4 ∧ m1 (IntKind.wrap .i64 (n2 + 1)) h4 < m1 n2 h2) (Q (.bool false) h4)) (Q (.bool false) h4)) (Q (.bool false) h4)) (Q (.bool false) h4))) (I (IntKind.wrap .i64 (n + 1)) h2 ∧ m (IntKind.wrap .i64 (n + 1)) h2 < m n h1))) (Q (.bool true) h1))
theorem F46.gen (V : Value → List Value → PT) (T68 : Int → PT) (p : Option Addr) : denF Try.prog [6] [(68, F68.W T68)] V [(26, .loop [(3, .int .i64)] []), (3366, .loop [(5, .int .i64)] []), (215442, .order [0, 1, 2, 3, 4, 5, 6, 7, 8, 9, 10, 11, 12, 13, 14, 15, 16, 17, 18, 19, 20, 21, 22, 23, 24])] Try.f46 [.v (.pointer p)] = fun h Q =>
  ∃ (I : Int → Hp → Prop) (m : Int → Hp → Nat), I 0 h ∧ (∀ n : Int, ∀ h1 : Hp, I n h1 → ∃ b o, (p : Option Addr) = some ⟨b, o, none⟩ ∧ ∃ l : Sl, h1.at b (o + 26) = some (.slice l.a l.n l.c) ∧ par (n < (l.n : Int)) (∃ b1 o1, (p : Option Addr) = some ⟨b1, o1, none⟩ ∧ ∃ l1 : Sl, h1.at b1 (o1 + 27) = some (.slice l1.a l1.n l1.c) ∧ ∃ b2 o2, (l1.a : Option Addr) = some ⟨b2, o2, none⟩ ∧ ((0 : Int) ≤ n ∧ n < (l1.n : Int)) ∧ ∃ n1 : Int, h1.at b2 (o2 + n.toNat) = some (.int .i64 n1) ∧ ∃ (I1 : Int → Hp → Prop) (m1 : Int → Hp → Nat), I1 n1 h1 ∧ (∀ n2 : Int, ∀ h2 : Hp, I1 n2 h2 → ∃ b3 o3, (p : Option Addr) = some ⟨b3, o3, none⟩ ∧ ∃ l2 : Sl, h2.at b3 (o3 + 26) = some (.slice l2.a l2.n l2.c) ∧ ∃ b4 o4, (l2.a : Option Addr) = some ⟨b4, o4, none⟩ ∧ ((0 : Int) ≤ n ∧ n < (l2.n : Int)) ∧ ∃ l3 : Sl, h2.at b4 (o4 + n.toNat) = some (.slice l3.a l3.n l3.c) ∧ par (n2 < (l3.n : Int)) (∃ b5 o5, (p : Option Addr) = some ⟨b5, o5, none⟩ ∧ ∃ l4 : Sl, h2.at b5 (o5 + 26) = some (.slice l4.a l4.n l4.c) ∧ ∃ b6 o6, (l4.a : Option Addr) = some ⟨b6, o6, none⟩ ∧ ((0 : Int) ≤ n ∧ n < (l4.n : Int)) ∧ ∃ l5 : Sl, h2.at b6 (o6 + n.toNat) = some (.slice l5.a l5.n l5.c) ∧ ∃ b7 o7, (l5.a : Option Addr) = some ⟨b7, o7, none⟩ ∧ ((0 : Int) ≤ n2 ∧ n2 < (l5.n : Int)) ∧ ∃ n3 : Int, h2.at b7 (o7 + n2.toNat * 12) = some (.int .i64 n3) ∧ ∃ n4 : Int, h2.at b7 ((o7 + n2.toNat * 12) + 1) = some (.int .i64 n4) ∧ ∃ n5 : Int, h2.at b7 ((o7 + n2.toNat * 12) + 2) = some (.int .i64 n5) ∧ ∃ n6 : Int, h2.at b7 ((o7 + n2.toNat * 12) + 3) = some (.int .i64 n6) ∧ ∃ n7 : Int, h2.at b7 ((o7 + n2.toNat * 12) + 4) = some (.int .i64 n7) ∧ ∃ l6 : Sl, h2.at b7 ((o7 + n2.toNat * 12) + 5) = some (.slice l6.a l6.n l6.c) ∧ ∃ b8 : Bool, parB b8 (h2.at b7 ((o7 + n2.toNat * 12) + 6) = some (.bool true) ∧ ∃ s : ByteArray, h2.at b7 ((o7 + n2.toNat * 12) + 7) = some (.string s) ∧ ∃ s1 : ByteArray, h2.at b7 ((o7 + n2.toNat * 12) + 8) = some (.string s1) ∧ ∃ n8 : Int, h2.at b7 ((o7 + n2.toNat * 12) + 9) = some (.int .i64 n8) ∧ ∃ n9 : Int, h2.at b7 ((o7 + n2.toNat * 12) + 10) = some (.int .i64 n9) ∧ ∃ l7 : Sl, h2.at b7 ((o7 + n2.toNat * 12) + 11) = some (.slice l7.a l7.n l7.c) ∧ T68 (IntKind.wrap .i64 (n2 - n1)) h2 fun r h3 => ∃ n10 : Int, r = .int .i64 n10 ∧ par (n3 = n10) (par (n4 = 0) (par ((l7.n : Int) = 0) (par ((l6.n : Int) = 0) (I1 (IntKind.wrap .i64 (n2 + 1)) h3 ∧ m1 (IntKind.wrap .i64 (n2 + 1)) h3 < m1 n2 h2) (Q (.bool false) h3)) (Q (.bool false) h3)) (Q (.bool false) h3)) (Q (.bool false) h3)) (h2.at b7 ((o7 + n2.toNat * 12) + 6) = some (.bool false) ∧ ∃ s2 : ByteArray, h2.at b7 ((o7 + n2.toNat * 12) + 7) = some (.string s2) ∧ ∃ s3 : ByteArray, h2.at b7 ((o7 + n2.toNat * 12) + 8) = some (.string s3) ∧ ∃ n11 : Int, h2.at b7 ((o7 + n2.toNat * 12) + 9) = some (.int .i64 n11) ∧ ∃ n12 : Int, h2.at b7 ((o7 + n2.toNat * 12) + 10) = some (.int .i64 n12) ∧ ∃ l8 : Sl, h2.at b7 ((o7 + n2.toNat * 12) + 11) = some (.slice l8.a l8.n l8.c) ∧ T68 (IntKind.wrap .i64 (n2 - n1)) h2 fun r1 h4 => ∃ n13 : Int, r1 = .int .i64 n13 ∧ par (n3 = n13) (par (n4 = 0) (par ((l8.n : Int) = 0) (par ((l6.n : Int) = 0) (I1 (IntKind.wrap .i64 (n2 + 1)) h4 ∧ m1 (IntKind.wrap .i64 (n2 + 1)) h4 < m1 n2 h2) (Q (.bool false) h4)) (Q (.bool false) h4)) (Q (.bool false) h4)) (Q (.bool false) h4))) (I (IntKind.wrap .i64 (n + 1)) h2 ∧ m (IntKind.wrap .i64 (n + 1)) h2 < m n h1))) (Q (.bool true) h1)) := by kernel_rfl
theorem F46.den (V : Value → List Value → PT) (p : Option Addr) : denF Try.prog [6] [(68, F68.V)] V [(26, .loop [(3, .int .i64)] []), (3366, .loop [(5, .int .i64)] []), (215442, .order [0, 1, 2, 3, 4, 5, 6, 7, 8, 9, 10, 11, 12, 13, 14, 15, 16, 17, 18, 19, 20, 21, 22, 23, 24])] Try.f46 [.v (.pointer p)] = F46.T p := F46.gen V F68.T p
def F46.W (T46 : Option Addr → PT) (args : List Value) : PT := match args with
  | [.pointer p] => T46 p
  | _ => fun _ _ => False
def F46.V : List Value → PT := F46.W F46.T
theorem F46.ok : FOk Try.prog 46 F46.V := by
  refine ⟨⟨_, Try.func46, rfl, rfl⟩, fun args => ?_⟩
  have hG : GOk Try.prog [(68, F68.V)] := GOk.cons F68.ok (GOk.nil)
  have hV : VOk Try.prog noV := noV_ok
  unfold F46.V F46.W
  split
  · exact denF_okV hG hV Try.func46 (fun h Q hq => (F46.den _ _) ▸ hq)
  · exact fun h Q hq => hq.elim
end Go.Eng.Ytblghgacokoklaa
end
section
set_option maxRecDepth 100000
set_option linter.unusedVariables false
open Go.Proofs
namespace Go.Eng.Ytblghgacokoklaa
def F14.T (p : Option Addr) : PT := fun h Q =>
  F33.T p h fun r h1 => ∃ b : Bool, r = .bool b ∧ parB b (F34.T p h1 fun r1 h2 => ∃ b1 : Bool, r1 = .bool b1 ∧ parB b1 (F35.T p h2 fun r2 h3 => ∃ b2 : Bool, r2 = .bool b2 ∧ parB b2 (F36.T p h3 fun r3 h4 => ∃ b3 : Bool, r3 = .bool b3 ∧ parB b3 (F37.T p h4 fun r4 h5 => ∃ b4 : Bool, r4 = .bool b4 ∧ parB b4 (F38.T p h5 fun r5 h6 => ∃ b5 : Bool, r5 = .bool b5 ∧ parB b5 (F39.T p h6 fun r6 h7 => ∃ b6 : Bool, r6 = .bool b6 ∧ parB b6 (F40.T p h7 fun r7 h8 => ∃ b7 : Bool, r7 = .bool b7 ∧ parB b7 (F41.T p h8 fun r8 h9 => ∃ b8 : Bool, r8 = .bool b8 ∧ parB b8 (F42.T p h9 fun r9 h10 => ∃ b9 : Bool, r9 = .bool b9 ∧ parB b9 (F43.T p h10 fun r10 h11 => ∃ b10 : Bool, r10 = .bool b10 ∧ parB b10 (F44.T p h11 fun r11 h12 => ∃ b11 : Bool, r11 = .bool b11 ∧ parB b11 (F45.T p h12 fun r12 h13 => ∃ b12 : Bool, r12 = .bool b12 ∧ parB b12 (F46.T p h13 fun r13 h14 => ∃ b13 : Bool, r13 = .bool b13 ∧ parB b13 (Q (.bool true) h14) (Q (.bool false) h14)) (Q (.bool false) h13)) (Q (.bool false) h12)) (Q (.bool false) h11)) (Q (.bool false) h10)) (Q (.bool false) h9)) (Q (.bool false) h8)) (Q (.bool false) h7)) (Q (.bool false) h6)) (Q (.bool false) h5)) (Q (.bool false) h4)) (Q (.bool false) h3)) (Q (.bool false) h2)) (Q (.bool false) h1)
theorem F14.gen (V : Value → List Value → PT) (T33 : Option Addr → PT) (T34 : Option Addr → PT) (T35 : Option Addr → PT) (T36 : Option Addr → PT) (T37 : Option Addr → PT) (T38 : Option Addr → PT) (T39 : Option Addr → PT) (T40 : Option Addr → PT) (T41 : Option Addr → PT) (T42 : Option Addr → PT) (T43 : Option Addr → PT) (T44 : Option Addr → PT) (T45 : Option Addr → PT) (T46 : Option Addr → PT) (p : Option Addr) : denF Try.prog [] [(33, F33.W T33), (34, F34.W T34), (35, F35.W T35), (36, F36.W T36), (37, F37.W T37), (38, F38.W T38), (39, F39.W T39), (40, F40.W T40), (41, F41.W T41), (42, F42.W T42), (43, F43.W T43), (44, F44.W T44), (45, F45.W T45), (46, F46.W T46)] V [] Try.f14 [.v (.pointer p)] = fun h Q =>
  T33 p h fun r h1 => ∃ b : Bool, r = .bool b ∧ parB b (T34 p h1 fun r1 h2 => ∃ b1 : Bool, r1 = .bool b1 ∧ parB b1 (T35 p h2 fun r2 h3 => ∃ b2 : Bool, r2 = .bool b2 ∧ parB b2 (T36 p h3 fun r3 h4 => ∃ b3 : Bool, r3 = .bool b3 ∧ parB b3 (T37 p h4 fun r4 h5 => ∃ b4 : Bool, r4 = .bool b4 ∧ parB b4 (T38 p h5 fun r5 h6 => ∃ b5 : Bool, r5 = .bool b5 ∧ parB b5 (T39 p h6 fun r6 h7 => ∃ b6 : Bool, r6 = .bool b6 ∧ parB b6 (T40 p h7 fun r7 h8 => ∃ b7 : Bool, r7 = .bool b7 ∧ parB b7 (T41 p h8 fun r8 h9 => ∃ b8 : Bool, r8 = .bool b8 ∧ parB b8 (T42 p h9 fun r9 h10 => ∃ b9 : Bool, r9 = .bool b9 ∧ parB b9 (T43 p h10 fun r10 h11 => ∃ b10 : Bool, r10 = .bool b10 ∧ parB b10 (T44 p h11 fun r11 h12 => ∃ b11 : Bool, r11 = .bool b11 ∧ parB b11 (T45 p h12 fun r12 h13 => ∃ b12 : Bool, r12 = .bool b12 ∧ parB b12 (T46 p h13 fun r13 h14 => ∃ b13 : Bool, r13 = .bool b13 ∧ parB b13 (Q (.bool true) h14) (Q (.bool false) h14)) (Q (.bool false) h13)) (Q (.bool false) h12)) (Q (.bool false) h11)) (Q (.bool false) h10)) (Q (.bool false) h9)) (Q (.bool false) h8)) (Q (.bool false) h7)) (Q (.bool false) h6)) (Q (.bool false) h5)) (Q (.bool false) h4)) (Q (.bool false) h3)) (Q (.bool false) h2)) (Q (.bool false) h1) := by kernel_rfl
theorem F14.den (V : Value → List Value → PT) (p : Option Addr) : denF Try.prog [] [(33, F33.V), (34, F34.V), (35, F35.V), (36, F36.V), (37, F37.V), (38, F38.V), (39, F39.V), (40, F40.V), (41, F41.V), (42, F42.V), (43, F43.V), (44, F44.V), (45, F45.V), (46, F46.V)] V [] Try.f14 [.v (.pointer p)] = F14.T p := F14.gen V F33.T F34.T F35.T F36.T F37.T F38.T F39.T F40.T F41.T F42.T F43.T F44.T F45.T F46.T p
def F14.W (T14 : Option Addr → PT) (args : List Value) : PT := match args with
  | [.pointer p] => T14 p
  | _ => fun _ _ => False
def F14.V : List Value → PT := F14.W F14.T
theorem F14.ok : FOk Try.prog 14 F14.V := by
  refine ⟨⟨_, Try.func14, rfl, rfl⟩, fun args => ?_⟩
  have hG : GOk Try.prog [(33, F33.V), (34, F34.V), (35, F35.V), (36, F36.V), (37, F37.V), (38, F38.V), (39, F39.V), (40, F40.V), (41, F41.V), (42, F42.V), (43, F43.V), (44, F44.V), (45, F45.V), (46, F46.V)] := GOk.cons F33.ok (GOk.cons F34.ok (GOk.cons F35.ok (GOk.cons F36.ok (GOk.cons F37.ok (GOk.cons F38.ok (GOk.cons F39.ok (GOk.cons F40.ok (GOk.cons F41.ok (GOk.cons F42.ok (GOk.cons F43.ok (GOk.cons F44.ok (GOk.cons F45.ok (GOk.cons F46.ok (GOk.nil))))))))))))))
  have hV : VOk Try.prog noV := noV_ok
  unfold F14.V F14.W
  split
  · exact denF_okV hG hV Try.func14 (fun h Q hq => (F14.den _ _) ▸ hq)
  · exact fun h Q hq => hq.elim
end Go.Eng.Ytblghgacokoklaa
end
