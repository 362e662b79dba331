/-
  TEXTS OF MINE, JOINED: N1 T1 T2 T3 T4 T5 T6.
-/
import Derived.Test.YtblghgacokoklaaDoorK3
import Derived.Test.YtblghgacokoklaaDoorK2
import Derived.Test.YtblghgacokoklaaDoorProg
section
set_option maxRecDepth 100000
set_option linter.unusedVariables false
open Go.Proofs
namespace Go.Eng.YtblghgacokoklaaDoor
def F58.T (n : Int) : PT := fun h Q =>
  ∀ b, h b = none → Q (.pointer (some ⟨b, 0, none⟩)) (h.new b (.cells ⟨[.int .i64 n]⟩ 159 (0, 0)))
theorem F58.den (V : Value → List Value → PT) (n : Int) : denF Tryd.prog [] [] V [] Tryd.f58 [.v (.int .i64 n)] = F58.T n := by kernel_rfl
def F58.W (T58 : Int → PT) (args : List Value) : PT := match args with
  | [.int .i64 n] => T58 n
  | _ => fun _ _ => False
def F58.V : List Value → PT := F58.W F58.T
theorem F58.ok : FOk Tryd.prog 58 F58.V := by
  refine ⟨⟨_, Tryd.func58, rfl, rfl⟩, fun args => ?_⟩
  have hG : GOk Tryd.prog [] := GOk.nil
  have hV : VOk Tryd.prog noV := noV_ok
  unfold F58.V F58.W
  split
  · exact denF_okV hG hV Tryd.func58 (fun h Q hq => (F58.den _ _) ▸ hq)
  · exact fun h Q hq => hq.elim
def F60.T (p : Option Addr) : PT := fun h Q =>
  ∃ b o, (p : Option Addr) = some ⟨b, o, none⟩ ∧ ∃ n : Int, h.at b o = some (.int .i64 n) ∧ par ((0 : Int) ≤ n) (Q (.bool true) h) (Q (.bool false) h)
theorem F60.den (V : Value → List Value → PT) (p : Option Addr) : denF Tryd.prog [] [] V [] Tryd.f60 [.v (.pointer p)] = F60.T p := by kernel_rfl
def F60.W (T60 : Option Addr → PT) (args : List Value) : PT := match args with
  | [.pointer p] => T60 p
  | _ => fun _ _ => False
def F60.V : List Value → PT := F60.W F60.T
theorem F60.ok : FOk Tryd.prog 60 F60.V := by
  refine ⟨⟨_, Tryd.func60, rfl, rfl⟩, fun args => ?_⟩
  have hG : GOk Tryd.prog [] := GOk.nil
  have hV : VOk Tryd.prog noV := noV_ok
  unfold F60.V F60.W
  split
  · exact denF_okV hG hV Tryd.func60 (fun h Q hq => (F60.den _ _) ▸ hq)
  · exact fun h Q hq => hq.elim
def F115.T (p : Option Addr) (n : Int) : PT := fun h Q =>
  ∃ b o, (p : Option Addr) = some ⟨b, o, none⟩ ∧ ∃ n1 : Int, h.at b o = some (.int .i64 n1) ∧ par ((0 : Int) ≤ n1) (∃ b1 o1, (p : Option Addr) = some ⟨b1, o1, none⟩ ∧ ∃ n2 : Int, h.at b1 o1 = some (.int .i64 n2) ∧ ∃ b2 o2, (p : Option Addr) = some ⟨b2, o2, none⟩ ∧ h.canW b2 o2 1 ∧ ∃ b3 o3, (p : Option Addr) = some ⟨b3, o3, none⟩ ∧ ∃ n3 : Int, (h.wr b2 o2 [.int .i64 (IntKind.wrap .i64 (n2 - n))]).at b3 o3 = some (.int .i64 n3) ∧ par ((0 : Int) ≤ n3) (Q (.bool true) (h.wr b2 o2 [.int .i64 (IntKind.wrap .i64 (n2 - n))])) (Q (.bool false) (h.wr b2 o2 [.int .i64 (IntKind.wrap .i64 (n2 - n))]))) (∃ b4 o4, (p : Option Addr) = some ⟨b4, o4, none⟩ ∧ ∃ n4 : Int, h.at b4 o4 = some (.int .i64 n4) ∧ par ((0 : Int) ≤ n4) (Q (.bool true) h) (Q (.bool false) h))
theorem F115.den (V : Value → List Value → PT) (p : Option Addr) (n : Int) : denF Tryd.prog [] [] V [] Tryd.f115 [.v (.pointer p), .v (.int .i64 n)] = F115.T p n := by kernel_rfl
def F115.W (T115 : Option Addr → Int → PT) (args : List Value) : PT := match args with
  | [.pointer p, .int .i64 n] => T115 p n
  | _ => fun _ _ => False
def F115.V : List Value → PT := F115.W F115.T
theorem F115.ok : FOk Tryd.prog 115 F115.V := by
  refine ⟨⟨_, Tryd.func115, rfl, rfl⟩, fun args => ?_⟩
  have hG : GOk Tryd.prog [] := GOk.nil
  have hV : VOk Tryd.prog noV := noV_ok
  unfold F115.V F115.W
  split
  · exact denF_okV hG hV Tryd.func115 (fun h Q hq => (F115.den _ _ _) ▸ hq)
  · exact fun h Q hq => hq.elim
def F116.T (p : Option Addr) (s : ByteArray) : PT := fun h Q =>
  F115.T p (IntKind.wrap .i64 (1 + (s.size : Int))) h fun r h1 => ∃ b : Bool, r = .bool b ∧ parB b (Q (.tuple ⟨[]⟩) h1) (Q (.tuple ⟨[]⟩) h1)
theorem F116.gen (V : Value → List Value → PT) (T115 : Option Addr → Int → PT) (p : Option Addr) (s : ByteArray) : denF Tryd.prog [] [(115, F115.W T115)] V [] Tryd.f116 [.v (.pointer p), .v (.string s)] = fun h Q =>
  T115 p (IntKind.wrap .i64 (1 + (s.size : Int))) h fun r h1 => ∃ b : Bool, r = .bool b ∧ parB b (Q (.tuple ⟨[]⟩) h1) (Q (.tuple ⟨[]⟩) h1) := by kernel_rfl
theorem F116.den (V : Value → List Value → PT) (p : Option Addr) (s : ByteArray) : denF Tryd.prog [] [(115, F115.V)] V [] Tryd.f116 [.v (.pointer p), .v (.string s)] = F116.T p s := F116.gen V F115.T p s
def F116.W (T116 : Option Addr → ByteArray → PT) (args : List Value) : PT := match args with
  | [.pointer p, .string s] => T116 p s
  | _ => fun _ _ => False
def F116.V : List Value → PT := F116.W F116.T
theorem F116.ok : FOk Tryd.prog 116 F116.V := by
  refine ⟨⟨_, Tryd.func116, rfl, rfl⟩, fun args => ?_⟩
  have hG : GOk Tryd.prog [(115, F115.V)] := GOk.cons F115.ok (GOk.nil)
  have hV : VOk Tryd.prog noV := noV_ok
  unfold F116.V F116.W
  split
  · exact denF_okV hG hV Tryd.func116 (fun h Q hq => (F116.den _ _ _) ▸ hq)
  · exact fun h Q hq => hq.elim
def F91.T (p : Option Addr) (n : Int) (n1 : Int) (n2 : Int) (l : Sl) (l1 : Sl) (l2 : Sl) : PT := fun h Q =>
  F115.T p (IntKind.wrap .i64 (1 + (l.n : Int))) h fun r h1 => ∃ b : Bool, r = .bool b ∧ parB b (∃ J : Hp → Prop, (∀ h2 : Hp, J h2 → ∃ (I : Int → Hp → Prop) (m : Int → Hp → Nat), I 0 h2 ∧ (∀ n3 : Int, ∀ h3 : Hp, I n3 h3 → par (n3 < (l2.n : Int)) (F60.T p h3 fun r1 h4 => ∃ b1 : Bool, r1 = .bool b1 ∧ parB b1 (∃ b2 o, (l2.a : Option Addr) = some ⟨b2, o, none⟩ ∧ ((0 : Int) ≤ n3 ∧ n3 < (l2.n : Int)) ∧ ∃ s : ByteArray, h4.at b2 (o + n3.toNat) = some (.string s) ∧ F116.T p s h4 fun r2 h5 => I (IntKind.wrap .i64 (n3 + 1)) h5 ∧ m (IntKind.wrap .i64 (n3 + 1)) h5 < m n3 h3) (Q (.tuple ⟨[]⟩) h4)) (Q (.tuple ⟨[]⟩) h3))) ∧ (∃ (I1 : Int → Hp → Prop) (m1 : Int → Hp → Nat), I1 0 h1 ∧ (∀ n4 : Int, ∀ h6 : Hp, I1 n4 h6 → par (n4 < (l1.n : Int)) (F60.T p h6 fun r3 h7 => ∃ b3 : Bool, r3 = .bool b3 ∧ parB b3 (∃ b4 o1, (l1.a : Option Addr) = some ⟨b4, o1, none⟩ ∧ ((0 : Int) ≤ n4 ∧ n4 < (l1.n : Int)) ∧ ∃ s1 : ByteArray, h7.at b4 (((o1 + n4.toNat * 7) + 1) + 4) = some (.string s1) ∧ F116.T p s1 h7 fun r4 h8 => ∃ b5 o2, (l1.a : Option Addr) = some ⟨b5, o2, none⟩ ∧ ((0 : Int) ≤ n4 ∧ n4 < (l1.n : Int)) ∧ ∃ s2 : ByteArray, h8.at b5 (((o2 + n4.toNat * 7) + 1) + 5) = some (.string s2) ∧ F115.T p (s2.size : Int) h8 fun r5 h9 => ∃ b6 : Bool, r5 = .bool b6 ∧ parB b6 (I1 (IntKind.wrap .i64 (n4 + 1)) h9 ∧ m1 (IntKind.wrap .i64 (n4 + 1)) h9 < m1 n4 h6) (I1 (IntKind.wrap .i64 (n4 + 1)) h9 ∧ m1 (IntKind.wrap .i64 (n4 + 1)) h9 < m1 n4 h6)) (J h7)) (J h6)))) (∃ J1 : Hp → Prop, (∀ h10 : Hp, J1 h10 → ∃ (I2 : Int → Hp → Prop) (m2 : Int → Hp → Nat), I2 0 h10 ∧ (∀ n5 : Int, ∀ h11 : Hp, I2 n5 h11 → par (n5 < (l2.n : Int)) (F60.T p h11 fun r6 h12 => ∃ b7 : Bool, r6 = .bool b7 ∧ parB b7 (∃ b8 o3, (l2.a : Option Addr) = some ⟨b8, o3, none⟩ ∧ ((0 : Int) ≤ n5 ∧ n5 < (l2.n : Int)) ∧ ∃ s3 : ByteArray, h12.at b8 (o3 + n5.toNat) = some (.string s3) ∧ F116.T p s3 h12 fun r7 h13 => I2 (IntKind.wrap .i64 (n5 + 1)) h13 ∧ m2 (IntKind.wrap .i64 (n5 + 1)) h13 < m2 n5 h11) (Q (.tuple ⟨[]⟩) h12)) (Q (.tuple ⟨[]⟩) h11))) ∧ (∃ (I3 : Int → Hp → Prop) (m3 : Int → Hp → Nat), I3 0 h1 ∧ (∀ n6 : Int, ∀ h14 : Hp, I3 n6 h14 → par (n6 < (l1.n : Int)) (F60.T p h14 fun r8 h15 => ∃ b9 : Bool, r8 = .bool b9 ∧ parB b9 (∃ b10 o4, (l1.a : Option Addr) = some ⟨b10, o4, none⟩ ∧ ((0 : Int) ≤ n6 ∧ n6 < (l1.n : Int)) ∧ ∃ s4 : ByteArray, h15.at b10 (((o4 + n6.toNat * 7) + 1) + 4) = some (.string s4) ∧ F116.T p s4 h15 fun r9 h16 => ∃ b11 o5, (l1.a : Option Addr) = some ⟨b11, o5, none⟩ ∧ ((0 : Int) ≤ n6 ∧ n6 < (l1.n : Int)) ∧ ∃ s5 : ByteArray, h16.at b11 (((o5 + n6.toNat * 7) + 1) + 5) = some (.string s5) ∧ F115.T p (s5.size : Int) h16 fun r10 h17 => ∃ b12 : Bool, r10 = .bool b12 ∧ parB b12 (I3 (IntKind.wrap .i64 (n6 + 1)) h17 ∧ m3 (IntKind.wrap .i64 (n6 + 1)) h17 < m3 n6 h14) (I3 (IntKind.wrap .i64 (n6 + 1)) h17 ∧ m3 (IntKind.wrap .i64 (n6 + 1)) h17 < m3 n6 h14)) (J1 h15)) (J1 h14))))
theorem F91.gen (V : Value → List Value → PT) (T60 : Option Addr → PT) (T115 : Option Addr → Int → PT) (T116 : Option Addr → ByteArray → PT) (p : Option Addr) (n : Int) (n1 : Int) (n2 : Int) (l : Sl) (l1 : Sl) (l2 : Sl) : denF Tryd.prog [3] [(60, F60.W T60), (115, F115.W T115), (116, F116.W T116)] V [(7, .join [] []), (58, .loop [(4, .int .i64)] []), (62, .loop [(5, .int .i64)] [])] Tryd.f91 [.v (.pointer p), .v (.agg ⟨[.int .u64 n, .int .u64 n1, .int .u64 n2, .slice l.a l.n l.c, .slice l1.a l1.n l1.c, .slice l2.a l2.n l2.c]⟩)] = fun h Q =>
  T115 p (IntKind.wrap .i64 (1 + (l.n : Int))) h fun r h1 => ∃ b : Bool, r = .bool b ∧ parB b (∃ J : Hp → Prop, (∀ h2 : Hp, J h2 → ∃ (I : Int → Hp → Prop) (m : Int → Hp → Nat), I 0 h2 ∧ (∀ n3 : Int, ∀ h3 : Hp, I n3 h3 → par (n3 < (l2.n : Int)) (T60 p h3 fun r1 h4 => ∃ b1 : Bool, r1 = .bool b1 ∧ parB b1 (∃ b2 o, (l2.a : Option Addr) = some ⟨b2, o, none⟩ ∧ ((0 : Int) ≤ n3 ∧ n3 < (l2.n : Int)) ∧ ∃ s : ByteArray, h4.at b2 (o + n3.toNat) = some (.string s) ∧ T116 p s h4 fun r2 h5 => I (IntKind.wrap .i64 (n3 + 1)) h5 ∧ m (IntKind.wrap .i64 (n3 + 1)) h5 < m n3 h3) (Q (.tuple ⟨[]⟩) h4)) (Q (.tuple ⟨[]⟩) h3))) ∧ (∃ (I1 : Int → Hp → Prop) (m1 : Int → Hp → Nat), I1 0 h1 ∧ (∀ n4 : Int, ∀ h6 : Hp, I1 n4 h6 → par (n4 < (l1.n : Int)) (T60 p h6 fun r3 h7 => ∃ b3 : Bool, r3 = .bool b3 ∧ parB b3 (∃ b4 o1, (l1.a : Option Addr) = some ⟨b4, o1, none⟩ ∧ ((0 : Int) ≤ n4 ∧ n4 < (l1.n : Int)) ∧ ∃ s1 : ByteArray, h7.at b4 (((o1 + n4.toNat * 7) + 1) + 4) = some (.string s1) ∧ T116 p s1 h7 fun r4 h8 => ∃ b5 o2, (l1.a : Option Addr) = some ⟨b5, o2, none⟩ ∧ ((0 : Int) ≤ n4 ∧ n4 < (l1.n : Int)) ∧ ∃ s2 : ByteArray, h8.at b5 (((o2 + n4.toNat * 7) + 1) + 5) = some (.string s2) ∧ T115 p (s2.size : Int) h8 fun r5 h9 => ∃ b6 : Bool, r5 = .bool b6 ∧ parB b6 (I1 (IntKind.wrap .i64 (n4 + 1)) h9 ∧ m1 (IntKind.wrap .i64 (n4 + 1)) h9 < m1 n4 h6) (I1 (IntKind.wrap .i64 (n4 + 1)) h9 ∧ m1 (IntKind.wrap .i64 (n4 + 1)) h9 < m1 n4 h6)) (J h7)) (J h6)))) (∃ J1 : Hp → Prop, (∀ h10 : Hp, J1 h10 → ∃ (I2 : Int → Hp → Prop) (m2 : Int → Hp → Nat), I2 0 h10 ∧ (∀ n5 : Int, ∀ h11 : Hp, I2 n5 h11 → par (n5 < (l2.n : Int)) (T60 p h11 fun r6 h12 => ∃ b7 : Bool, r6 = .bool b7 ∧ parB b7 (∃ b8 o3, (l2.a : Option Addr) = some ⟨b8, o3, none⟩ ∧ ((0 : Int) ≤ n5 ∧ n5 < (l2.n : Int)) ∧ ∃ s3 : ByteArray, h12.at b8 (o3 + n5.toNat) = some (.string s3) ∧ T116 p s3 h12 fun r7 h13 => I2 (IntKind.wrap .i64 (n5 + 1)) h13 ∧ m2 (IntKind.wrap .i64 (n5 + 1)) h13 < m2 n5 h11) (Q (.tuple ⟨[]⟩) h12)) (Q (.tuple ⟨[]⟩) h11))) ∧ (∃ (I3 : Int → Hp → Prop) (m3 : Int → Hp → Nat), I3 0 h1 ∧ (∀ n6 : Int, ∀ h14 : Hp, I3 n6 h14 → par (n6 < (l1.n : Int)) (T60 p h14 fun r8 h15 => ∃ b9 : Bool, r8 = .bool b9 ∧ parB b9 (∃ b10 o4, (l1.a : Option Addr) = some ⟨b10, o4, none⟩ ∧ ((0 : Int) ≤ n6 ∧ n6 < (l1.n : Int)) ∧ ∃ s4 : ByteArray, h15.at b10 (((o4 + n6.toNat * 7) + 1) + 4) = some (.string s4) ∧ T116 p s4 h15 fun r9 h16 => ∃ b11 o5, (l1.a : Option Addr) = some ⟨b11, o5, none⟩ ∧ ((0 : Int) ≤ n6 ∧ n6 < (l1.n : Int)) ∧ ∃ s5 : ByteArray, h16.at b11 (((o5 + n6.toNat * 7) + 1) + 5) = some (.string s5) ∧ T115 p (s5.size : Int) h16 fun r10 h17 => ∃ b12 : Bool, r10 = .bool b12 ∧ parB b12 (I3 (IntKind.wrap .i64 (n6 + 1)) h17 ∧ m3 (IntKind.wrap .i64 (n6 + 1)) h17 < m3 n6 h14) (I3 (IntKind.wrap .i64 (n6 + 1)) h17 ∧ m3 (IntKind.wrap .i64 (n6 + 1)) h17 < m3 n6 h14)) (J1 h15)) (J1 h14)))) := by kernel_rfl
theorem F91.den (V : Value → List Value → PT) (p : Option Addr) (n : Int) (n1 : Int) (n2 : Int) (l : Sl) (l1 : Sl) (l2 : Sl) : denF Tryd.prog [3] [(60, F60.V), (115, F115.V), (116, F116.V)] V [(7, .join [] []), (58, .loop [(4, .int .i64)] []), (62, .loop [(5, .int .i64)] [])] Tryd.f91 [.v (.pointer p), .v (.agg ⟨[.int .u64 n, .int .u64 n1, .int .u64 n2, .slice l.a l.n l.c, .slice l1.a l1.n l1.c, .slice l2.a l2.n l2.c]⟩)] = F91.T p n n1 n2 l l1 l2 := F91.gen V F60.T F115.T F116.T p n n1 n2 l l1 l2
def F91.W (T91 : Option Addr → Int → Int → Int → Sl → Sl → Sl → PT) (args : List Value) : PT := match args with
  | [.pointer p, .agg ⟨[.int .u64 n, .int .u64 n1, .int .u64 n2, .slice l_a l_n l_c, .slice l1_a l1_n l1_c, .slice l2_a l2_n l2_c]⟩] => T91 p n n1 n2 ⟨l_a, l_n, l_c⟩ ⟨l1_a, l1_n, l1_c⟩ ⟨l2_a, l2_n, l2_c⟩
  | _ => fun _ _ => False
def F91.V : List Value → PT := F91.W F91.T
theorem F91.ok : FOk Tryd.prog 91 F91.V := by
  refine ⟨⟨_, Tryd.func91, rfl, rfl⟩, fun args => ?_⟩
  have hG : GOk Tryd.prog [(60, F60.V), (115, F115.V), (116, F116.V)] := GOk.cons F60.ok (GOk.cons F115.ok (GOk.cons F116.ok (GOk.nil)))
  have hV : VOk Tryd.prog noV := noV_ok
  unfold F91.V F91.W
  split
  · exact denF_okV hG hV Tryd.func91 (fun h Q hq => (F91.den _ _ _ _ _ _ _ _) ▸ hq)
  · exact fun h Q hq => hq.elim
def F59.T (p : Option Addr) (l : Sl) : PT := fun h Q =>
  ∃ (I : Int → Hp → Prop) (m : Int → Hp → Nat), I 0 h ∧ (∀ n : Int, ∀ h1 : Hp, I n h1 → par (n < (l.n : Int)) (F60.T p h1 fun r h2 => ∃ b : Bool, r = .bool b ∧ parB b (∃ b1 o, (l.a : Option Addr) = some ⟨b1, o, none⟩ ∧ ((0 : Int) ≤ n ∧ n < (l.n : Int)) ∧ ∃ n1 : Int, h2.at b1 (o + n.toNat * 6) = some (.int .u64 n1) ∧ ∃ n2 : Int, h2.at b1 ((o + n.toNat * 6) + 1) = some (.int .u64 n2) ∧ ∃ n3 : Int, h2.at b1 ((o + n.toNat * 6) + 2) = some (.int .u64 n3) ∧ ∃ l1 : Sl, h2.at b1 ((o + n.toNat * 6) + 3) = some (.slice l1.a l1.n l1.c) ∧ ∃ l2 : Sl, h2.at b1 ((o + n.toNat * 6) + 4) = some (.slice l2.a l2.n l2.c) ∧ ∃ l3 : Sl, h2.at b1 ((o + n.toNat * 6) + 5) = some (.slice l3.a l3.n l3.c) ∧ F91.T p n1 n2 n3 l1 l2 l3 h2 fun r1 h3 => I (IntKind.wrap .i64 (n + 1)) h3 ∧ m (IntKind.wrap .i64 (n + 1)) h3 < m n h1) (Q (.tuple ⟨[]⟩) h2)) (Q (.tuple ⟨[]⟩) h1))
theorem F59.gen (V : Value → List Value → PT) (T60 : Option Addr → PT) (T91 : Option Addr → Int → Int → Int → Sl → Sl → Sl → PT) (p : Option Addr) (l : Sl) : denF Tryd.prog [] [(60, F60.W T60), (91, F91.W T91)] V [(6, .loop [(4, .int .i64)] [])] Tryd.f59 [.v (.pointer p), .v (.slice l.a l.n l.c)] = fun h Q =>
  ∃ (I : Int → Hp → Prop) (m : Int → Hp → Nat), I 0 h ∧ (∀ n : Int, ∀ h1 : Hp, I n h1 → par (n < (l.n : Int)) (T60 p h1 fun r h2 => ∃ b : Bool, r = .bool b ∧ parB b (∃ b1 o, (l.a : Option Addr) = some ⟨b1, o, none⟩ ∧ ((0 : Int) ≤ n ∧ n < (l.n : Int)) ∧ ∃ n1 : Int, h2.at b1 (o + n.toNat * 6) = some (.int .u64 n1) ∧ ∃ n2 : Int, h2.at b1 ((o + n.toNat * 6) + 1) = some (.int .u64 n2) ∧ ∃ n3 : Int, h2.at b1 ((o + n.toNat * 6) + 2) = some (.int .u64 n3) ∧ ∃ l1 : Sl, h2.at b1 ((o + n.toNat * 6) + 3) = some (.slice l1.a l1.n l1.c) ∧ ∃ l2 : Sl, h2.at b1 ((o + n.toNat * 6) + 4) = some (.slice l2.a l2.n l2.c) ∧ ∃ l3 : Sl, h2.at b1 ((o + n.toNat * 6) + 5) = some (.slice l3.a l3.n l3.c) ∧ T91 p n1 n2 n3 l1 l2 l3 h2 fun r1 h3 => I (IntKind.wrap .i64 (n + 1)) h3 ∧ m (IntKind.wrap .i64 (n + 1)) h3 < m n h1) (Q (.tuple ⟨[]⟩) h2)) (Q (.tuple ⟨[]⟩) h1)) := by kernel_rfl
theorem F59.den (V : Value → List Value → PT) (p : Option Addr) (l : Sl) : denF Tryd.prog [] [(60, F60.V), (91, F91.V)] V [(6, .loop [(4, .int .i64)] [])] Tryd.f59 [.v (.pointer p), .v (.slice l.a l.n l.c)] = F59.T p l := F59.gen V F60.T F91.T p l
def F59.W (T59 : Option Addr → Sl → PT) (args : List Value) : PT := match args with
  | [.pointer p, .slice l_a l_n l_c] => T59 p ⟨l_a, l_n, l_c⟩
  | _ => fun _ _ => False
def F59.V : List Value → PT := F59.W F59.T
theorem F59.ok : FOk Tryd.prog 59 F59.V := by
  refine ⟨⟨_, Tryd.func59, rfl, rfl⟩, fun args => ?_⟩
  have hG : GOk Tryd.prog [(60, F60.V), (91, F91.V)] := GOk.cons F60.ok (GOk.cons F91.ok (GOk.nil))
  have hV : VOk Tryd.prog noV := noV_ok
  unfold F59.V F59.W
  split
  · exact denF_okV hG hV Tryd.func59 (fun h Q hq => (F59.den _ _ _) ▸ hq)
  · exact fun h Q hq => hq.elim
def F17.T (l : Sl) : PT := fun h Q =>
  F58.T 10000 h fun r h1 => ∃ p : Option Addr, r = .pointer p ∧ F59.T p l h1 fun r1 h2 => F60.T p h2 fun r2 h3 => ∃ b : Bool, r2 = .bool b ∧ parB b (Q (.bool true) h3) (Q (.bool false) h3)
theorem F17.gen (V : Value → List Value → PT) (T58 : Int → PT) (T59 : Option Addr → Sl → PT) (T60 : Option Addr → PT) (l : Sl) : denF Tryd.prog [] [(58, F58.W T58), (59, F59.W T59), (60, F60.W T60)] V [] Tryd.f17 [.v (.slice l.a l.n l.c)] = fun h Q =>
  T58 10000 h fun r h1 => ∃ p : Option Addr, r = .pointer p ∧ T59 p l h1 fun r1 h2 => T60 p h2 fun r2 h3 => ∃ b : Bool, r2 = .bool b ∧ parB b (Q (.bool true) h3) (Q (.bool false) h3) := by kernel_rfl
theorem F17.den (V : Value → List Value → PT) (l : Sl) : denF Tryd.prog [] [(58, F58.V), (59, F59.V), (60, F60.V)] V [] Tryd.f17 [.v (.slice l.a l.n l.c)] = F17.T l := F17.gen V F58.T F59.T F60.T l
def F17.W (T17 : Sl → PT) (args : List Value) : PT := match args with
  | [.slice l_a l_n l_c] => T17 ⟨l_a, l_n, l_c⟩
  | _ => fun _ _ => False
def F17.V : List Value → PT := F17.W F17.T
theorem F17.ok : FOk Tryd.prog 17 F17.V := by
  refine ⟨⟨_, Tryd.func17, rfl, rfl⟩, fun args => ?_⟩
  have hG : GOk Tryd.prog [(58, F58.V), (59, F59.V), (60, F60.V)] := GOk.cons F58.ok (GOk.cons F59.ok (GOk.cons F60.ok (GOk.nil)))
  have hV : VOk Tryd.prog noV := noV_ok
  unfold F17.V F17.W
  split
  · exact denF_okV hG hV Tryd.func17 (fun h Q hq => (F17.den _ _) ▸ hq)
  · exact fun h Q hq => hq.elim
def F18.T (l : Sl) : PT := fun h Q =>
  ∃ (I : Sl → Int → Hp → Prop) (m : Sl → Int → Hp → Nat), I ⟨none, 0, 0⟩ 0 h ∧ (∀ l1 : Sl, ∀ n : Int, ∀ h1 : Hp, I l1 n h1 → par (n < (l.n : Int)) (∃ b o, (l.a : Option Addr) = some ⟨b, o, none⟩ ∧ ((0 : Int) ≤ n ∧ n < (l.n : Int)) ∧ ∃ n1 : Int, h1.at b (o + n.toNat * 6) = some (.int .u64 n1) ∧ ∃ n2 : Int, h1.at b ((o + n.toNat * 6) + 1) = some (.int .u64 n2) ∧ ∃ n3 : Int, h1.at b ((o + n.toNat * 6) + 2) = some (.int .u64 n3) ∧ ∃ l2 : Sl, h1.at b ((o + n.toNat * 6) + 3) = some (.slice l2.a l2.n l2.c) ∧ ∃ l3 : Sl, h1.at b ((o + n.toNat * 6) + 4) = some (.slice l3.a l3.n l3.c) ∧ ∃ l4 : Sl, h1.at b ((o + n.toNat * 6) + 5) = some (.slice l4.a l4.n l4.c) ∧ ∃ vs, h1.row l2.a (l2.n * 2) vs ∧ (∀ v ∈ vs, Value.oneCell' v = true) ∧ appendD ⟨none, 0, 0⟩ 104 2 16 [.int .i64 0, .int .u64 0] l2.n vs h1 fun l5 h2 => ∃ vs1, h2.row l3.a (l3.n * 7) vs1 ∧ (∀ v ∈ vs1, Value.oneCell' v = true) ∧ appendD ⟨none, 0, 0⟩ 108 7 72 [.int .i64 0, .int .u64 0, .int .i64 0, .int .i64 0, .int .i64 0, .string (ByteArray.mk #[]), .string (ByteArray.mk #[])] l3.n vs1 h2 fun l6 h3 => ∃ vs2, h3.row l4.a (l4.n * 1) vs2 ∧ (∀ v ∈ vs2, Value.oneCell' v = true) ∧ appendD ⟨none, 0, 0⟩ 9 1 16 [.string (ByteArray.mk #[])] l4.n vs2 h3 fun l7 h4 => appendD l1 65 6 96 [.int .u64 0, .int .u64 0, .int .u64 0, .slice none 0 0, .slice none 0 0, .slice none 0 0] 1 [.int .u64 n1, .int .u64 n2, .int .u64 n3, .slice l5.a l5.n l5.c, .slice l6.a l6.n l6.c, .slice l7.a l7.n l7.c] h4 fun l8 h5 => I l8 (IntKind.wrap .i64 (n + 1)) h5 ∧ m l8 (IntKind.wrap .i64 (n + 1)) h5 < m l1 n h1) (Q (.slice l1.a l1.n l1.c) h1))
theorem F18.den (V : Value → List Value → PT) (l : Sl) : denF Tryd.prog [5, 30] [] V [(58, .loop [(3, .sl), (4, .int .i64)] [])] Tryd.f18 [.v (.slice l.a l.n l.c)] = F18.T l := by kernel_rfl
def F18.W (T18 : Sl → PT) (args : List Value) : PT := match args with
  | [.slice l_a l_n l_c] => T18 ⟨l_a, l_n, l_c⟩
  | _ => fun _ _ => False
def F18.V : List Value → PT := F18.W F18.T
theorem F18.ok : FOk Tryd.prog 18 F18.V := by
  refine ⟨⟨_, Tryd.func18, rfl, rfl⟩, fun args => ?_⟩
  have hG : GOk Tryd.prog [] := GOk.nil
  have hV : VOk Tryd.prog noV := noV_ok
  unfold F18.V F18.W
  split
  · exact denF_okV hG hV Tryd.func18 (fun h Q hq => (F18.den _ _) ▸ hq)
  · exact fun h Q hq => hq.elim
def F117.T (p : Option Addr) (l : Sl) (n : Int) : PT := fun h Q =>
  ∀ b, h b = none → ∃ vs, (h.new b (.cells ⟨[]⟩ 104 (0, 0))).row l.a (l.n * 2) vs ∧ (∀ v ∈ vs, Value.oneCell' v = true) ∧ appendD ⟨(some ⟨b, 0, none⟩), 0, 0⟩ 104 2 16 [.int .i64 0, .int .u64 0] l.n vs (h.new b (.cells ⟨[]⟩ 104 (0, 0))) fun l1 h1 => ∃ (I : Sl → Int → Hp → Prop) (m : Sl → Int → Hp → Nat), I l1 0 h1 ∧ (∀ l2 : Sl, ∀ n1 : Int, ∀ h2 : Hp, I l2 n1 h2 → par (n1 < n) (F85.T n1 h2 fun r h3 => ∃ n2 : Int, r = .int .i64 n2 ∧ appendD l2 104 2 16 [.int .i64 0, .int .u64 0] 1 [.int .i64 n2, .int .u64 0] h3 fun l3 h4 => I l3 (IntKind.wrap .i64 (n1 + 1)) h4 ∧ m l3 (IntKind.wrap .i64 (n1 + 1)) h4 < m l2 n1 h2) (∃ b1 o, (p : Option Addr) = some ⟨b1, o, none⟩ ∧ ∃ l4 : Sl, h2.at b1 (o + 16) = some (.slice l4.a l4.n l4.c) ∧ appendD l4 61 1 24 [.slice none 0 0] 1 [.slice l2.a l2.n l2.c] h2 fun l5 h5 => ∃ b2 o1, (p : Option Addr) = some ⟨b2, o1, none⟩ ∧ h5.canW b2 (o1 + 16) 1 ∧ ∃ b3 o2, (p : Option Addr) = some ⟨b3, o2, none⟩ ∧ ∃ l6 : Sl, (h5.wr b2 (o1 + 16) [.slice l5.a l5.n l5.c]).at b3 (o2 + 17) = some (.slice l6.a l6.n l6.c) ∧ appendD l6 3 1 8 [.int .i64 0] 1 [.int .i64 (l.n : Int)] (h5.wr b2 (o1 + 16) [.slice l5.a l5.n l5.c]) fun l7 h6 => ∃ b4 o3, (p : Option Addr) = some ⟨b4, o3, none⟩ ∧ h6.canW b4 (o3 + 17) 1 ∧ Sl.okCut l2 0 (l.n : Int) (l2.n : Int) ∧ Q (.slice (Sl.cut l2 2 0 (l.n : Int) (l2.n : Int)).a (Sl.cut l2 2 0 (l.n : Int) (l2.n : Int)).n (Sl.cut l2 2 0 (l.n : Int) (l2.n : Int)).c) (h6.wr b4 (o3 + 17) [.slice l7.a l7.n l7.c])))
theorem F117.gen (V : Value → List Value → PT) (T85 : Int → PT) (p : Option Addr) (l : Sl) (n : Int) : denF Tryd.prog [22, 30, 41] [(85, F85.W T85)] V [(122, .loop [(7, .sl), (8, .int .i64)] [])] Tryd.f117 [.v (.pointer p), .v (.slice l.a l.n l.c), .v (.int .i64 n)] = fun h Q =>
  ∀ b, h b = none → ∃ vs, (h.new b (.cells ⟨[]⟩ 104 (0, 0))).row l.a (l.n * 2) vs ∧ (∀ v ∈ vs, Value.oneCell' v = true) ∧ appendD ⟨(some ⟨b, 0, none⟩), 0, 0⟩ 104 2 16 [.int .i64 0, .int .u64 0] l.n vs (h.new b (.cells ⟨[]⟩ 104 (0, 0))) fun l1 h1 => ∃ (I : Sl → Int → Hp → Prop) (m : Sl → Int → Hp → Nat), I l1 0 h1 ∧ (∀ l2 : Sl, ∀ n1 : Int, ∀ h2 : Hp, I l2 n1 h2 → par (n1 < n) (T85 n1 h2 fun r h3 => ∃ n2 : Int, r = .int .i64 n2 ∧ appendD l2 104 2 16 [.int .i64 0, .int .u64 0] 1 [.int .i64 n2, .int .u64 0] h3 fun l3 h4 => I l3 (IntKind.wrap .i64 (n1 + 1)) h4 ∧ m l3 (IntKind.wrap .i64 (n1 + 1)) h4 < m l2 n1 h2) (∃ b1 o, (p : Option Addr) = some ⟨b1, o, none⟩ ∧ ∃ l4 : Sl, h2.at b1 (o + 16) = some (.slice l4.a l4.n l4.c) ∧ appendD l4 61 1 24 [.slice none 0 0] 1 [.slice l2.a l2.n l2.c] h2 fun l5 h5 => ∃ b2 o1, (p : Option Addr) = some ⟨b2, o1, none⟩ ∧ h5.canW b2 (o1 + 16) 1 ∧ ∃ b3 o2, (p : Option Addr) = some ⟨b3, o2, none⟩ ∧ ∃ l6 : Sl, (h5.wr b2 (o1 + 16) [.slice l5.a l5.n l5.c]).at b3 (o2 + 17) = some (.slice l6.a l6.n l6.c) ∧ appendD l6 3 1 8 [.int .i64 0] 1 [.int .i64 (l.n : Int)] (h5.wr b2 (o1 + 16) [.slice l5.a l5.n l5.c]) fun l7 h6 => ∃ b4 o3, (p : Option Addr) = some ⟨b4, o3, none⟩ ∧ h6.canW b4 (o3 + 17) 1 ∧ Sl.okCut l2 0 (l.n : Int) (l2.n : Int) ∧ Q (.slice (Sl.cut l2 2 0 (l.n : Int) (l2.n : Int)).a (Sl.cut l2 2 0 (l.n : Int) (l2.n : Int)).n (Sl.cut l2 2 0 (l.n : Int) (l2.n : Int)).c) (h6.wr b4 (o3 + 17) [.slice l7.a l7.n l7.c]))) := by kernel_rfl
theorem F117.den (V : Value → List Value → PT) (p : Option Addr) (l : Sl) (n : Int) : denF Tryd.prog [22, 30, 41] [(85, F85.V)] V [(122, .loop [(7, .sl), (8, .int .i64)] [])] Tryd.f117 [.v (.pointer p), .v (.slice l.a l.n l.c), .v (.int .i64 n)] = F117.T p l n := F117.gen V F85.T p l n
def F117.W (T117 : Option Addr → Sl → Int → PT) (args : List Value) : PT := match args with
  | [.pointer p, .slice l_a l_n l_c, .int .i64 n] => T117 p ⟨l_a, l_n, l_c⟩ n
  | _ => fun _ _ => False
def F117.V : List Value → PT := F117.W F117.T
theorem F117.ok : FOk Tryd.prog 117 F117.V := by
  refine ⟨⟨_, Tryd.func117, rfl, rfl⟩, fun args => ?_⟩
  have hG : GOk Tryd.prog [(85, F85.V)] := GOk.cons F85.ok (GOk.nil)
  have hV : VOk Tryd.prog noV := noV_ok
  unfold F117.V F117.W
  split
  · exact denF_okV hG hV Tryd.func117 (fun h Q hq => (F117.den _ _ _ _) ▸ hq)
  · exact fun h Q hq => hq.elim
def F92.T (p : Option Addr) (l : Sl) : PT := fun h Q =>
  F117.T p l 40 h fun r h1 => ∃ l1 : Sl, r = .slice l1.a l1.n l1.c ∧ Q (.slice l1.a l1.n l1.c) h1
theorem F92.gen (V : Value → List Value → PT) (T117 : Option Addr → Sl → Int → PT) (p : Option Addr) (l : Sl) : denF Tryd.prog [] [(117, F117.W T117)] V [] Tryd.f92 [.v (.pointer p), .v (.slice l.a l.n l.c)] = fun h Q =>
  T117 p l 40 h fun r h1 => ∃ l1 : Sl, r = .slice l1.a l1.n l1.c ∧ Q (.slice l1.a l1.n l1.c) h1 := by kernel_rfl
theorem F92.den (V : Value → List Value → PT) (p : Option Addr) (l : Sl) : denF Tryd.prog [] [(117, F117.V)] V [] Tryd.f92 [.v (.pointer p), .v (.slice l.a l.n l.c)] = F92.T p l := F92.gen V F117.T p l
def F92.W (T92 : Option Addr → Sl → PT) (args : List Value) : PT := match args with
  | [.pointer p, .slice l_a l_n l_c] => T92 p ⟨l_a, l_n, l_c⟩
  | _ => fun _ _ => False
def F92.V : List Value → PT := F92.W F92.T
theorem F92.ok : FOk Tryd.prog 92 F92.V := by
  refine ⟨⟨_, Tryd.func92, rfl, rfl⟩, fun args => ?_⟩
  have hG : GOk Tryd.prog [(117, F117.V)] := GOk.cons F117.ok (GOk.nil)
  have hV : VOk Tryd.prog noV := noV_ok
  unfold F92.V F92.W
  split
  · exact denF_okV hG hV Tryd.func92 (fun h Q hq => (F92.den _ _ _) ▸ hq)
  · exact fun h Q hq => hq.elim
def F118.T (p : Option Addr) (l : Sl) (n : Int) : PT := fun h Q =>
  ∀ b, h b = none → ∃ vs, (h.new b (.cells ⟨[]⟩ 108 (0, 0))).row l.a (l.n * 7) vs ∧ (∀ v ∈ vs, Value.oneCell' v = true) ∧ appendD ⟨(some ⟨b, 0, none⟩), 0, 0⟩ 108 7 72 [.int .i64 0, .int .u64 0, .int .i64 0, .int .i64 0, .int .i64 0, .string (ByteArray.mk #[]), .string (ByteArray.mk #[])] l.n vs (h.new b (.cells ⟨[]⟩ 108 (0, 0))) fun l1 h1 => ∃ (I : Sl → Int → Hp → Prop) (m : Sl → Int → Hp → Nat), I l1 0 h1 ∧ (∀ l2 : Sl, ∀ n1 : Int, ∀ h2 : Hp, I l2 n1 h2 → par (n1 < n) (F85.T n1 h2 fun r h3 => ∃ n2 : Int, r = .int .i64 n2 ∧ appendD l2 108 7 72 [.int .i64 0, .int .u64 0, .int .i64 0, .int .i64 0, .int .i64 0, .string (ByteArray.mk #[]), .string (ByteArray.mk #[])] 1 [.int .i64 n2, .int .u64 0, .int .i64 0, .int .i64 0, .int .i64 0, .string (ByteArray.mk #[]), .string (ByteArray.mk #[])] h3 fun l3 h4 => I l3 (IntKind.wrap .i64 (n1 + 1)) h4 ∧ m l3 (IntKind.wrap .i64 (n1 + 1)) h4 < m l2 n1 h2) (∃ b1 o, (p : Option Addr) = some ⟨b1, o, none⟩ ∧ ∃ l4 : Sl, h2.at b1 (o + 18) = some (.slice l4.a l4.n l4.c) ∧ appendD l4 62 1 24 [.slice none 0 0] 1 [.slice l2.a l2.n l2.c] h2 fun l5 h5 => ∃ b2 o1, (p : Option Addr) = some ⟨b2, o1, none⟩ ∧ h5.canW b2 (o1 + 18) 1 ∧ ∃ b3 o2, (p : Option Addr) = some ⟨b3, o2, none⟩ ∧ ∃ l6 : Sl, (h5.wr b2 (o1 + 18) [.slice l5.a l5.n l5.c]).at b3 (o2 + 19) = some (.slice l6.a l6.n l6.c) ∧ appendD l6 3 1 8 [.int .i64 0] 1 [.int .i64 (l.n : Int)] (h5.wr b2 (o1 + 18) [.slice l5.a l5.n l5.c]) fun l7 h6 => ∃ b4 o3, (p : Option Addr) = some ⟨b4, o3, none⟩ ∧ h6.canW b4 (o3 + 19) 1 ∧ Sl.okCut l2 0 (l.n : Int) (l2.n : Int) ∧ Q (.slice (Sl.cut l2 7 0 (l.n : Int) (l2.n : Int)).a (Sl.cut l2 7 0 (l.n : Int) (l2.n : Int)).n (Sl.cut l2 7 0 (l.n : Int) (l2.n : Int)).c) (h6.wr b4 (o3 + 19) [.slice l7.a l7.n l7.c])))
theorem F118.gen (V : Value → List Value → PT) (T85 : Int → PT) (p : Option Addr) (l : Sl) (n : Int) : denF Tryd.prog [22, 30, 41] [(85, F85.W T85)] V [(122, .loop [(7, .sl), (8, .int .i64)] [])] Tryd.f118 [.v (.pointer p), .v (.slice l.a l.n l.c), .v (.int .i64 n)] = fun h Q =>
  ∀ b, h b = none → ∃ vs, (h.new b (.cells ⟨[]⟩ 108 (0, 0))).row l.a (l.n * 7) vs ∧ (∀ v ∈ vs, Value.oneCell' v = true) ∧ appendD ⟨(some ⟨b, 0, none⟩), 0, 0⟩ 108 7 72 [.int .i64 0, .int .u64 0, .int .i64 0, .int .i64 0, .int .i64 0, .string (ByteArray.mk #[]), .string (ByteArray.mk #[])] l.n vs (h.new b (.cells ⟨[]⟩ 108 (0, 0))) fun l1 h1 => ∃ (I : Sl → Int → Hp → Prop) (m : Sl → Int → Hp → Nat), I l1 0 h1 ∧ (∀ l2 : Sl, ∀ n1 : Int, ∀ h2 : Hp, I l2 n1 h2 → par (n1 < n) (T85 n1 h2 fun r h3 => ∃ n2 : Int, r = .int .i64 n2 ∧ appendD l2 108 7 72 [.int .i64 0, .int .u64 0, .int .i64 0, .int .i64 0, .int .i64 0, .string (ByteArray.mk #[]), .string (ByteArray.mk #[])] 1 [.int .i64 n2, .int .u64 0, .int .i64 0, .int .i64 0, .int .i64 0, .string (ByteArray.mk #[]), .string (ByteArray.mk #[])] h3 fun l3 h4 => I l3 (IntKind.wrap .i64 (n1 + 1)) h4 ∧ m l3 (IntKind.wrap .i64 (n1 + 1)) h4 < m l2 n1 h2) (∃ b1 o, (p : Option Addr) = some ⟨b1, o, none⟩ ∧ ∃ l4 : Sl, h2.at b1 (o + 18) = some (.slice l4.a l4.n l4.c) ∧ appendD l4 62 1 24 [.slice none 0 0] 1 [.slice l2.a l2.n l2.c] h2 fun l5 h5 => ∃ b2 o1, (p : Option Addr) = some ⟨b2, o1, none⟩ ∧ h5.canW b2 (o1 + 18) 1 ∧ ∃ b3 o2, (p : Option Addr) = some ⟨b3, o2, none⟩ ∧ ∃ l6 : Sl, (h5.wr b2 (o1 + 18) [.slice l5.a l5.n l5.c]).at b3 (o2 + 19) = some (.slice l6.a l6.n l6.c) ∧ appendD l6 3 1 8 [.int .i64 0] 1 [.int .i64 (l.n : Int)] (h5.wr b2 (o1 + 18) [.slice l5.a l5.n l5.c]) fun l7 h6 => ∃ b4 o3, (p : Option Addr) = some ⟨b4, o3, none⟩ ∧ h6.canW b4 (o3 + 19) 1 ∧ Sl.okCut l2 0 (l.n : Int) (l2.n : Int) ∧ Q (.slice (Sl.cut l2 7 0 (l.n : Int) (l2.n : Int)).a (Sl.cut l2 7 0 (l.n : Int) (l2.n : Int)).n (Sl.cut l2 7 0 (l.n : Int) (l2.n : Int)).c) (h6.wr b4 (o3 + 19) [.slice l7.a l7.n l7.c]))) := by kernel_rfl
theorem F118.den (V : Value → List Value → PT) (p : Option Addr) (l : Sl) (n : Int) : denF Tryd.prog [22, 30, 41] [(85, F85.V)] V [(122, .loop [(7, .sl), (8, .int .i64)] [])] Tryd.f118 [.v (.pointer p), .v (.slice l.a l.n l.c), .v (.int .i64 n)] = F118.T p l n := F118.gen V F85.T p l n
def F118.W (T118 : Option Addr → Sl → Int → PT) (args : List Value) : PT := match args with
  | [.pointer p, .slice l_a l_n l_c, .int .i64 n] => T118 p ⟨l_a, l_n, l_c⟩ n
  | _ => fun _ _ => False
def F118.V : List Value → PT := F118.W F118.T
theorem F118.ok : FOk Tryd.prog 118 F118.V := by
  refine ⟨⟨_, Tryd.func118, rfl, rfl⟩, fun args => ?_⟩
  have hG : GOk Tryd.prog [(85, F85.V)] := GOk.cons F85.ok (GOk.nil)
  have hV : VOk Tryd.prog noV := noV_ok
  unfold F118.V F118.W
  split
  · exact denF_okV hG hV Tryd.func118 (fun h Q hq => (F118.den _ _ _ _) ▸ hq)
  · exact fun h Q hq => hq.elim
def F93.T (p : Option Addr) (l : Sl) : PT := fun h Q =>
  F118.T p l 40 h fun r h1 => ∃ l1 : Sl, r = .slice l1.a l1.n l1.c ∧ Q (.slice l1.a l1.n l1.c) h1
theorem F93.gen (V : Value → List Value → PT) (T118 : Option Addr → Sl → Int → PT) (p : Option Addr) (l : Sl) : denF Tryd.prog [] [(118, F118.W T118)] V [] Tryd.f93 [.v (.pointer p), .v (.slice l.a l.n l.c)] = fun h Q =>
  T118 p l 40 h fun r h1 => ∃ l1 : Sl, r = .slice l1.a l1.n l1.c ∧ Q (.slice l1.a l1.n l1.c) h1 := by kernel_rfl
theorem F93.den (V : Value → List Value → PT) (p : Option Addr) (l : Sl) : denF Tryd.prog [] [(118, F118.V)] V [] Tryd.f93 [.v (.pointer p), .v (.slice l.a l.n l.c)] = F93.T p l := F93.gen V F118.T p l
def F93.W (T93 : Option Addr → Sl → PT) (args : List Value) : PT := match args with
  | [.pointer p, .slice l_a l_n l_c] => T93 p ⟨l_a, l_n, l_c⟩
  | _ => fun _ _ => False
def F93.V : List Value → PT := F93.W F93.T
theorem F93.ok : FOk Tryd.prog 93 F93.V := by
  refine ⟨⟨_, Tryd.func93, rfl, rfl⟩, fun args => ?_⟩
  have hG : GOk Tryd.prog [(118, F118.V)] := GOk.cons F118.ok (GOk.nil)
  have hV : VOk Tryd.prog noV := noV_ok
  unfold F93.V F93.W
  split
  · exact denF_okV hG hV Tryd.func93 (fun h Q hq => (F93.den _ _ _) ▸ hq)
  · exact fun h Q hq => hq.elim
def F119.T (p : Option Addr) (l : Sl) (n : Int) : PT := fun h Q =>
  ∀ b, h b = none → ∃ vs, (h.new b (.cells ⟨[]⟩ 9 (0, 0))).row l.a (l.n * 1) vs ∧ (∀ v ∈ vs, Value.oneCell' v = true) ∧ appendD ⟨(some ⟨b, 0, none⟩), 0, 0⟩ 9 1 16 [.string (ByteArray.mk #[])] l.n vs (h.new b (.cells ⟨[]⟩ 9 (0, 0))) fun l1 h1 => ∃ (I : Sl → Int → Hp → Prop) (m : Sl → Int → Hp → Nat), I l1 0 h1 ∧ (∀ l2 : Sl, ∀ n1 : Int, ∀ h2 : Hp, I l2 n1 h2 → par (n1 < n) (F90.T n1 h2 fun r h3 => ∃ s : ByteArray, r = .string s ∧ appendD l2 9 1 16 [.string (ByteArray.mk #[])] 1 [.string s] h3 fun l3 h4 => I l3 (IntKind.wrap .i64 (n1 + 1)) h4 ∧ m l3 (IntKind.wrap .i64 (n1 + 1)) h4 < m l2 n1 h2) (∃ b1 o, (p : Option Addr) = some ⟨b1, o, none⟩ ∧ ∃ l4 : Sl, h2.at b1 (o + 6) = some (.slice l4.a l4.n l4.c) ∧ appendD l4 63 1 24 [.slice none 0 0] 1 [.slice l2.a l2.n l2.c] h2 fun l5 h5 => ∃ b2 o1, (p : Option Addr) = some ⟨b2, o1, none⟩ ∧ h5.canW b2 (o1 + 6) 1 ∧ ∃ b3 o2, (p : Option Addr) = some ⟨b3, o2, none⟩ ∧ ∃ l6 : Sl, (h5.wr b2 (o1 + 6) [.slice l5.a l5.n l5.c]).at b3 (o2 + 7) = some (.slice l6.a l6.n l6.c) ∧ appendD l6 3 1 8 [.int .i64 0] 1 [.int .i64 (l.n : Int)] (h5.wr b2 (o1 + 6) [.slice l5.a l5.n l5.c]) fun l7 h6 => ∃ b4 o3, (p : Option Addr) = some ⟨b4, o3, none⟩ ∧ h6.canW b4 (o3 + 7) 1 ∧ Sl.okCut l2 0 (l.n : Int) (l2.n : Int) ∧ Q (.slice (Sl.cut l2 1 0 (l.n : Int) (l2.n : Int)).a (Sl.cut l2 1 0 (l.n : Int) (l2.n : Int)).n (Sl.cut l2 1 0 (l.n : Int) (l2.n : Int)).c) (h6.wr b4 (o3 + 7) [.slice l7.a l7.n l7.c])))
theorem F119.gen (V : Value → List Value → PT) (T90 : Int → PT) (p : Option Addr) (l : Sl) (n : Int) : denF Tryd.prog [21, 29, 40] [(90, F90.W T90)] V [(122, .loop [(7, .sl), (8, .int .i64)] [])] Tryd.f119 [.v (.pointer p), .v (.slice l.a l.n l.c), .v (.int .i64 n)] = fun h Q =>
  ∀ b, h b = none → ∃ vs, (h.new b (.cells ⟨[]⟩ 9 (0, 0))).row l.a (l.n * 1) vs ∧ (∀ v ∈ vs, Value.oneCell' v = true) ∧ appendD ⟨(some ⟨b, 0, none⟩), 0, 0⟩ 9 1 16 [.string (ByteArray.mk #[])] l.n vs (h.new b (.cells ⟨[]⟩ 9 (0, 0))) fun l1 h1 => ∃ (I : Sl → Int → Hp → Prop) (m : Sl → Int → Hp → Nat), I l1 0 h1 ∧ (∀ l2 : Sl, ∀ n1 : Int, ∀ h2 : Hp, I l2 n1 h2 → par (n1 < n) (T90 n1 h2 fun r h3 => ∃ s : ByteArray, r = .string s ∧ appendD l2 9 1 16 [.string (ByteArray.mk #[])] 1 [.string s] h3 fun l3 h4 => I l3 (IntKind.wrap .i64 (n1 + 1)) h4 ∧ m l3 (IntKind.wrap .i64 (n1 + 1)) h4 < m l2 n1 h2) (∃ b1 o, (p : Option Addr) = some ⟨b1, o, none⟩ ∧ ∃ l4 : Sl, h2.at b1 (o + 6) = some (.slice l4.a l4.n l4.c) ∧ appendD l4 63 1 24 [.slice none 0 0] 1 [.slice l2.a l2.n l2.c] h2 fun l5 h5 => ∃ b2 o1, (p : Option Addr) = some ⟨b2, o1, none⟩ ∧ h5.canW b2 (o1 + 6) 1 ∧ ∃ b3 o2, (p : Option Addr) = some ⟨b3, o2, none⟩ ∧ ∃ l6 : Sl, (h5.wr b2 (o1 + 6) [.slice l5.a l5.n l5.c]).at b3 (o2 + 7) = some (.slice l6.a l6.n l6.c) ∧ appendD l6 3 1 8 [.int .i64 0] 1 [.int .i64 (l.n : Int)] (h5.wr b2 (o1 + 6) [.slice l5.a l5.n l5.c]) fun l7 h6 => ∃ b4 o3, (p : Option Addr) = some ⟨b4, o3, none⟩ ∧ h6.canW b4 (o3 + 7) 1 ∧ Sl.okCut l2 0 (l.n : Int) (l2.n : Int) ∧ Q (.slice (Sl.cut l2 1 0 (l.n : Int) (l2.n : Int)).a (Sl.cut l2 1 0 (l.n : Int) (l2.n : Int)).n (Sl.cut l2 1 0 (l.n : Int) (l2.n : Int)).c) (h6.wr b4 (o3 + 7) [.slice l7.a l7.n l7.c]))) := by kernel_rfl
theorem F119.den (V : Value → List Value → PT) (p : Option Addr) (l : Sl) (n : Int) : denF Tryd.prog [21, 29, 40] [(90, F90.V)] V [(122, .loop [(7, .sl), (8, .int .i64)] [])] Tryd.f119 [.v (.pointer p), .v (.slice l.a l.n l.c), .v (.int .i64 n)] = F119.T p l n := F119.gen V F90.T p l n
def F119.W (T119 : Option Addr → Sl → Int → PT) (args : List Value) : PT := match args with
  | [.pointer p, .slice l_a l_n l_c, .int .i64 n] => T119 p ⟨l_a, l_n, l_c⟩ n
  | _ => fun _ _ => False
def F119.V : List Value → PT := F119.W F119.T
theorem F119.ok : FOk Tryd.prog 119 F119.V := by
  refine ⟨⟨_, Tryd.func119, rfl, rfl⟩, fun args => ?_⟩
  have hG : GOk Tryd.prog [(90, F90.V)] := GOk.cons F90.ok (GOk.nil)
  have hV : VOk Tryd.prog noV := noV_ok
  unfold F119.V F119.W
  split
  · exact denF_okV hG hV Tryd.func119 (fun h Q hq => (F119.den _ _ _ _) ▸ hq)
  · exact fun h Q hq => hq.elim
def F94.T (p : Option Addr) (l : Sl) : PT := fun h Q =>
  F119.T p l 40 h fun r h1 => ∃ l1 : Sl, r = .slice l1.a l1.n l1.c ∧ Q (.slice l1.a l1.n l1.c) h1
theorem F94.gen (V : Value → List Value → PT) (T119 : Option Addr → Sl → Int → PT) (p : Option Addr) (l : Sl) : denF Tryd.prog [] [(119, F119.W T119)] V [] Tryd.f94 [.v (.pointer p), .v (.slice l.a l.n l.c)] = fun h Q =>
  T119 p l 40 h fun r h1 => ∃ l1 : Sl, r = .slice l1.a l1.n l1.c ∧ Q (.slice l1.a l1.n l1.c) h1 := by kernel_rfl
theorem F94.den (V : Value → List Value → PT) (p : Option Addr) (l : Sl) : denF Tryd.prog [] [(119, F119.V)] V [] Tryd.f94 [.v (.pointer p), .v (.slice l.a l.n l.c)] = F94.T p l := F94.gen V F119.T p l
def F94.W (T94 : Option Addr → Sl → PT) (args : List Value) : PT := match args with
  | [.pointer p, .slice l_a l_n l_c] => T94 p ⟨l_a, l_n, l_c⟩
  | _ => fun _ _ => False
def F94.V : List Value → PT := F94.W F94.T
theorem F94.ok : FOk Tryd.prog 94 F94.V := by
  refine ⟨⟨_, Tryd.func94, rfl, rfl⟩, fun args => ?_⟩
  have hG : GOk Tryd.prog [(119, F119.V)] := GOk.cons F119.ok (GOk.nil)
  have hV : VOk Tryd.prog noV := noV_ok
  unfold F94.V F94.W
  split
  · exact denF_okV hG hV Tryd.func94 (fun h Q hq => (F94.den _ _ _) ▸ hq)
  · exact fun h Q hq => hq.elim
def F61.T (p : Option Addr) (n : Int) (n1 : Int) (n2 : Int) (l : Sl) (l1 : Sl) (l2 : Sl) : PT := fun h Q =>
  F92.T p l h fun r h1 => ∃ l3 : Sl, r = .slice l3.a l3.n l3.c ∧ F93.T p l1 h1 fun r1 h2 => ∃ l4 : Sl, r1 = .slice l4.a l4.n l4.c ∧ F94.T p l2 h2 fun r2 h3 => ∃ l5 : Sl, r2 = .slice l5.a l5.n l5.c ∧ Q (.agg ⟨[.int .u64 n, .int .u64 n1, .int .u64 n2, .slice l3.a l3.n l3.c, .slice l4.a l4.n l4.c, .slice l5.a l5.n l5.c]⟩) h3
theorem F61.gen (V : Value → List Value → PT) (T92 : Option Addr → Sl → PT) (T93 : Option Addr → Sl → PT) (T94 : Option Addr → Sl → PT) (p : Option Addr) (n : Int) (n1 : Int) (n2 : Int) (l : Sl) (l1 : Sl) (l2 : Sl) : denF Tryd.prog [3, 4] [(92, F92.W T92), (93, F93.W T93), (94, F94.W T94)] V [] Tryd.f61 [.v (.pointer p), .v (.agg ⟨[.int .u64 n, .int .u64 n1, .int .u64 n2, .slice l.a l.n l.c, .slice l1.a l1.n l1.c, .slice l2.a l2.n l2.c]⟩)] = fun h Q =>
  T92 p l h fun r h1 => ∃ l3 : Sl, r = .slice l3.a l3.n l3.c ∧ T93 p l1 h1 fun r1 h2 => ∃ l4 : Sl, r1 = .slice l4.a l4.n l4.c ∧ T94 p l2 h2 fun r2 h3 => ∃ l5 : Sl, r2 = .slice l5.a l5.n l5.c ∧ Q (.agg ⟨[.int .u64 n, .int .u64 n1, .int .u64 n2, .slice l3.a l3.n l3.c, .slice l4.a l4.n l4.c, .slice l5.a l5.n l5.c]⟩) h3 := by kernel_rfl
theorem F61.den (V : Value → List Value → PT) (p : Option Addr) (n : Int) (n1 : Int) (n2 : Int) (l : Sl) (l1 : Sl) (l2 : Sl) : denF Tryd.prog [3, 4] [(92, F92.V), (93, F93.V), (94, F94.V)] V [] Tryd.f61 [.v (.pointer p), .v (.agg ⟨[.int .u64 n, .int .u64 n1, .int .u64 n2, .slice l.a l.n l.c, .slice l1.a l1.n l1.c, .slice l2.a l2.n l2.c]⟩)] = F61.T p n n1 n2 l l1 l2 := F61.gen V F92.T F93.T F94.T p n n1 n2 l l1 l2
def F61.W (T61 : Option Addr → Int → Int → Int → Sl → Sl → Sl → PT) (args : List Value) : PT := match args with
  | [.pointer p, .agg ⟨[.int .u64 n, .int .u64 n1, .int .u64 n2, .slice l_a l_n l_c, .slice l1_a l1_n l1_c, .slice l2_a l2_n l2_c]⟩] => T61 p n n1 n2 ⟨l_a, l_n, l_c⟩ ⟨l1_a, l1_n, l1_c⟩ ⟨l2_a, l2_n, l2_c⟩
  | _ => fun _ _ => False
def F61.V : List Value → PT := F61.W F61.T
theorem F61.ok : FOk Tryd.prog 61 F61.V := by
  refine ⟨⟨_, Tryd.func61, rfl, rfl⟩, fun args => ?_⟩
  have hG : GOk Tryd.prog [(92, F92.V), (93, F93.V), (94, F94.V)] := GOk.cons F92.ok (GOk.cons F93.ok (GOk.cons F94.ok (GOk.nil)))
  have hV : VOk Tryd.prog noV := noV_ok
  unfold F61.V F61.W
  split
  · exact denF_okV hG hV Tryd.func61 (fun h Q hq => (F61.den _ _ _ _ _ _ _ _) ▸ hq)
  · exact fun h Q hq => hq.elim
def F19.T (p : Option Addr) (l : Sl) : PT := fun h Q =>
  ∃ (I : Sl → Int → Hp → Prop) (m : Sl → Int → Hp → Nat), I ⟨none, 0, 0⟩ 0 h ∧ (∀ l1 : Sl, ∀ n : Int, ∀ h1 : Hp, I l1 n h1 → par (n < (l.n : Int)) (∃ b o, (l.a : Option Addr) = some ⟨b, o, none⟩ ∧ ((0 : Int) ≤ n ∧ n < (l.n : Int)) ∧ ∃ n1 : Int, h1.at b (o + n.toNat * 6) = some (.int .u64 n1) ∧ ∃ n2 : Int, h1.at b ((o + n.toNat * 6) + 1) = some (.int .u64 n2) ∧ ∃ n3 : Int, h1.at b ((o + n.toNat * 6) + 2) = some (.int .u64 n3) ∧ ∃ l2 : Sl, h1.at b ((o + n.toNat * 6) + 3) = some (.slice l2.a l2.n l2.c) ∧ ∃ l3 : Sl, h1.at b ((o + n.toNat * 6) + 4) = some (.slice l3.a l3.n l3.c) ∧ ∃ l4 : Sl, h1.at b ((o + n.toNat * 6) + 5) = some (.slice l4.a l4.n l4.c) ∧ F61.T p n1 n2 n3 l2 l3 l4 h1 fun r h2 => ∃ n4 : Int, ∃ n5 : Int, ∃ n6 : Int, ∃ l5 : Sl, ∃ l6 : Sl, ∃ l7 : Sl, r = .agg ⟨[.int .u64 n4, .int .u64 n5, .int .u64 n6, .slice l5.a l5.n l5.c, .slice l6.a l6.n l6.c, .slice l7.a l7.n l7.c]⟩ ∧ appendD l1 65 6 96 [.int .u64 0, .int .u64 0, .int .u64 0, .slice none 0 0, .slice none 0 0, .slice none 0 0] 1 [.int .u64 n4, .int .u64 n5, .int .u64 n6, .slice l5.a l5.n l5.c, .slice l6.a l6.n l6.c, .slice l7.a l7.n l7.c] h2 fun l8 h3 => I l8 (IntKind.wrap .i64 (n + 1)) h3 ∧ m l8 (IntKind.wrap .i64 (n + 1)) h3 < m l1 n h1) (Q (.slice l1.a l1.n l1.c) h1))
theorem F19.gen (V : Value → List Value → PT) (T61 : Option Addr → Int → Int → Int → Sl → Sl → Sl → PT) (p : Option Addr) (l : Sl) : denF Tryd.prog [20] [(61, F61.W T61)] V [(58, .loop [(5, .sl), (6, .int .i64)] [])] Tryd.f19 [.v (.pointer p), .v (.slice l.a l.n l.c)] = fun h Q =>
  ∃ (I : Sl → Int → Hp → Prop) (m : Sl → Int → Hp → Nat), I ⟨none, 0, 0⟩ 0 h ∧ (∀ l1 : Sl, ∀ n : Int, ∀ h1 : Hp, I l1 n h1 → par (n < (l.n : Int)) (∃ b o, (l.a : Option Addr) = some ⟨b, o, none⟩ ∧ ((0 : Int) ≤ n ∧ n < (l.n : Int)) ∧ ∃ n1 : Int, h1.at b (o + n.toNat * 6) = some (.int .u64 n1) ∧ ∃ n2 : Int, h1.at b ((o + n.toNat * 6) + 1) = some (.int .u64 n2) ∧ ∃ n3 : Int, h1.at b ((o + n.toNat * 6) + 2) = some (.int .u64 n3) ∧ ∃ l2 : Sl, h1.at b ((o + n.toNat * 6) + 3) = some (.slice l2.a l2.n l2.c) ∧ ∃ l3 : Sl, h1.at b ((o + n.toNat * 6) + 4) = some (.slice l3.a l3.n l3.c) ∧ ∃ l4 : Sl, h1.at b ((o + n.toNat * 6) + 5) = some (.slice l4.a l4.n l4.c) ∧ T61 p n1 n2 n3 l2 l3 l4 h1 fun r h2 => ∃ n4 : Int, ∃ n5 : Int, ∃ n6 : Int, ∃ l5 : Sl, ∃ l6 : Sl, ∃ l7 : Sl, r = .agg ⟨[.int .u64 n4, .int .u64 n5, .int .u64 n6, .slice l5.a l5.n l5.c, .slice l6.a l6.n l6.c, .slice l7.a l7.n l7.c]⟩ ∧ appendD l1 65 6 96 [.int .u64 0, .int .u64 0, .int .u64 0, .slice none 0 0, .slice none 0 0, .slice none 0 0] 1 [.int .u64 n4, .int .u64 n5, .int .u64 n6, .slice l5.a l5.n l5.c, .slice l6.a l6.n l6.c, .slice l7.a l7.n l7.c] h2 fun l8 h3 => I l8 (IntKind.wrap .i64 (n + 1)) h3 ∧ m l8 (IntKind.wrap .i64 (n + 1)) h3 < m l1 n h1) (Q (.slice l1.a l1.n l1.c) h1)) := by kernel_rfl
theorem F19.den (V : Value → List Value → PT) (p : Option Addr) (l : Sl) : denF Tryd.prog [20] [(61, F61.V)] V [(58, .loop [(5, .sl), (6, .int .i64)] [])] Tryd.f19 [.v (.pointer p), .v (.slice l.a l.n l.c)] = F19.T p l := F19.gen V F61.T p l
def F19.W (T19 : Option Addr → Sl → PT) (args : List Value) : PT := match args with
  | [.pointer p, .slice l_a l_n l_c] => T19 p ⟨l_a, l_n, l_c⟩
  | _ => fun _ _ => False
def F19.V : List Value → PT := F19.W F19.T
theorem F19.ok : FOk Tryd.prog 19 F19.V := by
  refine ⟨⟨_, Tryd.func19, rfl, rfl⟩, fun args => ?_⟩
  have hG : GOk Tryd.prog [(61, F61.V)] := GOk.cons F61.ok (GOk.nil)
  have hV : VOk Tryd.prog noV := noV_ok
  unfold F19.V F19.W
  split
  · exact denF_okV hG hV Tryd.func19 (fun h Q hq => (F19.den _ _ _) ▸ hq)
  · exact fun h Q hq => hq.elim
def F20.T (l : Sl) (l1 : Sl) : PT := fun h Q =>
  par ((l.n : Int) = (l1.n : Int)) (∃ (I : Int → Hp → Prop) (m : Int → Hp → Nat), I 0 h ∧ (∀ n : Int, ∀ h1 : Hp, I n h1 → par (n < (l.n : Int)) (∃ b o, (l.a : Option Addr) = some ⟨b, o, none⟩ ∧ ((0 : Int) ≤ n ∧ n < (l.n : Int)) ∧ ∃ l2 : Sl, h1.at b (o + n.toNat) = some (.slice l2.a l2.n l2.c) ∧ ∃ b1 o1, (l1.a : Option Addr) = some ⟨b1, o1, none⟩ ∧ ((0 : Int) ≤ n ∧ n < (l1.n : Int)) ∧ ∃ l3 : Sl, h1.at b1 (o1 + n.toNat) = some (.slice l3.a l3.n l3.c) ∧ F10.T l2 l3 h1 fun r h2 => ∃ b2 : Bool, r = .bool b2 ∧ parB b2 (I (IntKind.wrap .i64 (n + 1)) h2 ∧ m (IntKind.wrap .i64 (n + 1)) h2 < m n h1) (Q (.bool false) h2)) (Q (.bool true) h1))) (Q (.bool false) h)
theorem F20.gen (V : Value → List Value → PT) (T10 : Sl → Sl → PT) (l : Sl) (l1 : Sl) : denF Tryd.prog [] [(10, F10.W T10)] V [(58, .loop [(5, .int .i64)] []), (1864, .order [0, 1, 2, 3, 4, 5, 6, 7, 8, 9])] Tryd.f20 [.v (.slice l.a l.n l.c), .v (.slice l1.a l1.n l1.c)] = fun h Q =>
  par ((l.n : Int) = (l1.n : Int)) (∃ (I : Int → Hp → Prop) (m : Int → Hp → Nat), I 0 h ∧ (∀ n : Int, ∀ h1 : Hp, I n h1 → par (n < (l.n : Int)) (∃ b o, (l.a : Option Addr) = some ⟨b, o, none⟩ ∧ ((0 : Int) ≤ n ∧ n < (l.n : Int)) ∧ ∃ l2 : Sl, h1.at b (o + n.toNat) = some (.slice l2.a l2.n l2.c) ∧ ∃ b1 o1, (l1.a : Option Addr) = some ⟨b1, o1, none⟩ ∧ ((0 : Int) ≤ n ∧ n < (l1.n : Int)) ∧ ∃ l3 : Sl, h1.at b1 (o1 + n.toNat) = some (.slice l3.a l3.n l3.c) ∧ T10 l2 l3 h1 fun r h2 => ∃ b2 : Bool, r = .bool b2 ∧ parB b2 (I (IntKind.wrap .i64 (n + 1)) h2 ∧ m (IntKind.wrap .i64 (n + 1)) h2 < m n h1) (Q (.bool false) h2)) (Q (.bool true) h1))) (Q (.bool false) h) := by kernel_rfl
theorem F20.den (V : Value → List Value → PT) (l : Sl) (l1 : Sl) : denF Tryd.prog [] [(10, F10.V)] V [(58, .loop [(5, .int .i64)] []), (1864, .order [0, 1, 2, 3, 4, 5, 6, 7, 8, 9])] Tryd.f20 [.v (.slice l.a l.n l.c), .v (.slice l1.a l1.n l1.c)] = F20.T l l1 := F20.gen V F10.T l l1
def F20.W (T20 : Sl → Sl → PT) (args : List Value) : PT := match args with
  | [.slice l_a l_n l_c, .slice l1_a l1_n l1_c] => T20 ⟨l_a, l_n, l_c⟩ ⟨l1_a, l1_n, l1_c⟩
  | _ => fun _ _ => False
def F20.V : List Value → PT := F20.W F20.T
theorem F20.ok : FOk Tryd.prog 20 F20.V := by
  refine ⟨⟨_, Tryd.func20, rfl, rfl⟩, fun args => ?_⟩
  have hG : GOk Tryd.prog [(10, F10.V)] := GOk.cons F10.ok (GOk.nil)
  have hV : VOk Tryd.prog noV := noV_ok
  unfold F20.V F20.W
  split
  · exact denF_okV hG hV Tryd.func20 (fun h Q hq => (F20.den _ _ _) ▸ hq)
  · exact fun h Q hq => hq.elim
def F62.T (n : Int) (n1 : Int) (n2 : Int) (l : Sl) (l1 : Sl) (l2 : Sl) : PT := fun h Q =>
  ∃ (I : Int → Hp → Prop) (m : Int → Hp → Nat), I 0 h ∧ (∀ n3 : Int, ∀ h1 : Hp, I n3 h1 → par (n3 < (l.n : Int)) (∃ b o, (l.a : Option Addr) = some ⟨b, o, none⟩ ∧ ((0 : Int) ≤ n3 ∧ n3 < (l.n : Int)) ∧ ∃ n4 : Int, h1.at b (o + n3.toNat * 2) = some (.int .i64 n4) ∧ ∃ n5 : Int, h1.at b ((o + n3.toNat * 2) + 1) = some (.int .u64 n5) ∧ par (n4 < 0) (Q (.bool false) h1) (par ((5 : Int) ≤ n4) (Q (.bool false) h1) (I (IntKind.wrap .i64 (n3 + 1)) h1 ∧ m (IntKind.wrap .i64 (n3 + 1)) h1 < m n3 h1))) (∃ (I1 : Int → Hp → Prop) (m1 : Int → Hp → Nat), I1 0 h1 ∧ (∀ n6 : Int, ∀ h2 : Hp, I1 n6 h2 → par (n6 < (l1.n : Int)) (∃ b1 o1, (l1.a : Option Addr) = some ⟨b1, o1, none⟩ ∧ ((0 : Int) ≤ n6 ∧ n6 < (l1.n : Int)) ∧ ∃ n7 : Int, h2.at b1 (o1 + n6.toNat * 7) = some (.int .i64 n7) ∧ ∃ n8 : Int, h2.at b1 ((o1 + n6.toNat * 7) + 1) = some (.int .u64 n8) ∧ ∃ n9 : Int, h2.at b1 ((o1 + n6.toNat * 7) + 2) = some (.int .i64 n9) ∧ ∃ n10 : Int, h2.at b1 ((o1 + n6.toNat * 7) + 3) = some (.int .i64 n10) ∧ ∃ n11 : Int, h2.at b1 ((o1 + n6.toNat * 7) + 4) = some (.int .i64 n11) ∧ ∃ s : ByteArray, h2.at b1 ((o1 + n6.toNat * 7) + 5) = some (.string s) ∧ ∃ s1 : ByteArray, h2.at b1 ((o1 + n6.toNat * 7) + 6) = some (.string s1) ∧ par (n7 < 0) (Q (.bool false) h2) (par ((5 : Int) ≤ n7) (Q (.bool false) h2) (par ((iMin (iMin n9 n10) n11) < 0) (Q (.bool false) h2) (par ((64 : Int) < (iMax (s.size : Int) (s1.size : Int))) (Q (.bool false) h2) (I1 (IntKind.wrap .i64 (n6 + 1)) h2 ∧ m1 (IntKind.wrap .i64 (n6 + 1)) h2 < m1 n6 h2))))) (∃ (I2 : Int → Hp → Prop) (m2 : Int → Hp → Nat), I2 0 h2 ∧ (∀ n12 : Int, ∀ h3 : Hp, I2 n12 h3 → par (n12 < (l2.n : Int)) (∃ b2 o2, (l2.a : Option Addr) = some ⟨b2, o2, none⟩ ∧ ((0 : Int) ≤ n12 ∧ n12 < (l2.n : Int)) ∧ ∃ s2 : ByteArray, h3.at b2 (o2 + n12.toNat) = some (.string s2) ∧ par ((64 : Int) < (s2.size : Int)) (Q (.bool false) h3) (I2 (IntKind.wrap .i64 (n12 + 1)) h3 ∧ m2 (IntKind.wrap .i64 (n12 + 1)) h3 < m2 n12 h3)) (par ((l2.n : Int) ≤ 5) (Q (.bool true) h3) (Q (.bool false) h3)))))))
theorem F62.den (V : Value → List Value → PT) (n : Int) (n1 : Int) (n2 : Int) (l : Sl) (l1 : Sl) (l2 : Sl) : denF Tryd.prog [1, 4, 6, 7] [] V [(26, .loop [(13, .int .i64)] []), (58, .loop [(29, .int .i64)] []), (122, .loop [(67, .int .i64)] [])] Tryd.f62 [.v (.agg ⟨[.int .u64 n, .int .u64 n1, .int .u64 n2, .slice l.a l.n l.c, .slice l1.a l1.n l1.c, .slice l2.a l2.n l2.c]⟩)] = F62.T n n1 n2 l l1 l2 := by kernel_rfl
def F62.W (T62 : Int → Int → Int → Sl → Sl → Sl → PT) (args : List Value) : PT := match args with
  | [.agg ⟨[.int .u64 n, .int .u64 n1, .int .u64 n2, .slice l_a l_n l_c, .slice l1_a l1_n l1_c, .slice l2_a l2_n l2_c]⟩] => T62 n n1 n2 ⟨l_a, l_n, l_c⟩ ⟨l1_a, l1_n, l1_c⟩ ⟨l2_a, l2_n, l2_c⟩
  | _ => fun _ _ => False
def F62.V : List Value → PT := F62.W F62.T
theorem F62.ok : FOk Tryd.prog 62 F62.V := by
  refine ⟨⟨_, Tryd.func62, rfl, rfl⟩, fun args => ?_⟩
  have hG : GOk Tryd.prog [] := GOk.nil
  have hV : VOk Tryd.prog noV := noV_ok
  unfold F62.V F62.W
  split
  · exact denF_okV hG hV Tryd.func62 (fun h Q hq => (F62.den _ _ _ _ _ _ _) ▸ hq)
  · exact fun h Q hq => hq.elim
def F120.T (l : Sl) (n : Int) : PT := fun h Q =>
  F88.T l 10 h fun r h1 => ∃ l1 : Sl, r = .slice l1.a l1.n l1.c ∧ F81.T l1 n h1 fun r1 h2 => ∃ l2 : Sl, r1 = .slice l2.a l2.n l2.c ∧ Q (.slice l2.a l2.n l2.c) h2
theorem F120.gen (V : Value → List Value → PT) (T81 : Sl → Int → PT) (T88 : Sl → Int → PT) (l : Sl) (n : Int) : denF Tryd.prog [] [(81, F81.W T81), (88, F88.W T88)] V [] Tryd.f120 [.v (.slice l.a l.n l.c), .v (.int .u64 n)] = fun h Q =>
  T88 l 10 h fun r h1 => ∃ l1 : Sl, r = .slice l1.a l1.n l1.c ∧ T81 l1 n h1 fun r1 h2 => ∃ l2 : Sl, r1 = .slice l2.a l2.n l2.c ∧ Q (.slice l2.a l2.n l2.c) h2 := by kernel_rfl
theorem F120.den (V : Value → List Value → PT) (l : Sl) (n : Int) : denF Tryd.prog [] [(81, F81.V), (88, F88.V)] V [] Tryd.f120 [.v (.slice l.a l.n l.c), .v (.int .u64 n)] = F120.T l n := F120.gen V F81.T F88.T l n
def F120.W (T120 : Sl → Int → PT) (args : List Value) : PT := match args with
  | [.slice l_a l_n l_c, .int .u64 n] => T120 ⟨l_a, l_n, l_c⟩ n
  | _ => fun _ _ => False
def F120.V : List Value → PT := F120.W F120.T
theorem F120.ok : FOk Tryd.prog 120 F120.V := by
  refine ⟨⟨_, Tryd.func120, rfl, rfl⟩, fun args => ?_⟩
  have hG : GOk Tryd.prog [(81, F81.V), (88, F88.V)] := GOk.cons F81.ok (GOk.cons F88.ok (GOk.nil))
  have hV : VOk Tryd.prog noV := noV_ok
  unfold F120.V F120.W
  split
  · exact denF_okV hG hV Tryd.func120 (fun h Q hq => (F120.den _ _ _) ▸ hq)
  · exact fun h Q hq => hq.elim
def F95.T (l : Sl) (l1 : Sl) : PT := fun h Q =>
  ∃ (I : Sl → Int → Hp → Prop) (m : Sl → Int → Hp → Nat), I l 0 h ∧ (∀ l2 : Sl, ∀ n : Int, ∀ h1 : Hp, I l2 n h1 → par (n < (l1.n : Int)) (∃ b o, (l1.a : Option Addr) = some ⟨b, o, none⟩ ∧ ((0 : Int) ≤ n ∧ n < (l1.n : Int)) ∧ ∃ n1 : Int, h1.at b (o + n.toNat) = some (.int .u64 n1) ∧ F120.T ⟨none, 0, 0⟩ n1 h1 fun r h2 => ∃ l3 : Sl, r = .slice l3.a l3.n l3.c ∧ ∃ vs, h2.row l3.a (l3.n * 1) vs ∧ (∀ v ∈ vs, Value.oneCell' v = true) ∧ appendD l2 5 1 1 [.int .u8 0] l3.n vs h2 fun l4 h3 => I l4 (IntKind.wrap .i64 (n + 1)) h3 ∧ m l4 (IntKind.wrap .i64 (n + 1)) h3 < m l2 n h1) (Q (.slice l2.a l2.n l2.c) h1))
theorem F95.gen (V : Value → List Value → PT) (T120 : Sl → Int → PT) (l : Sl) (l1 : Sl) : denF Tryd.prog [] [(120, F120.W T120)] V [(26, .loop [(0, .sl), (9, .int .i64)] [])] Tryd.f95 [.v (.slice l.a l.n l.c), .v (.slice l1.a l1.n l1.c)] = fun h Q =>
  ∃ (I : Sl → Int → Hp → Prop) (m : Sl → Int → Hp → Nat), I l 0 h ∧ (∀ l2 : Sl, ∀ n : Int, ∀ h1 : Hp, I l2 n h1 → par (n < (l1.n : Int)) (∃ b o, (l1.a : Option Addr) = some ⟨b, o, none⟩ ∧ ((0 : Int) ≤ n ∧ n < (l1.n : Int)) ∧ ∃ n1 : Int, h1.at b (o + n.toNat) = some (.int .u64 n1) ∧ T120 ⟨none, 0, 0⟩ n1 h1 fun r h2 => ∃ l3 : Sl, r = .slice l3.a l3.n l3.c ∧ ∃ vs, h2.row l3.a (l3.n * 1) vs ∧ (∀ v ∈ vs, Value.oneCell' v = true) ∧ appendD l2 5 1 1 [.int .u8 0] l3.n vs h2 fun l4 h3 => I l4 (IntKind.wrap .i64 (n + 1)) h3 ∧ m l4 (IntKind.wrap .i64 (n + 1)) h3 < m l2 n h1) (Q (.slice l2.a l2.n l2.c) h1)) := by kernel_rfl
theorem F95.den (V : Value → List Value → PT) (l : Sl) (l1 : Sl) : denF Tryd.prog [] [(120, F120.V)] V [(26, .loop [(0, .sl), (9, .int .i64)] [])] Tryd.f95 [.v (.slice l.a l.n l.c), .v (.slice l1.a l1.n l1.c)] = F95.T l l1 := F95.gen V F120.T l l1
def F95.W (T95 : Sl → Sl → PT) (args : List Value) : PT := match args with
  | [.slice l_a l_n l_c, .slice l1_a l1_n l1_c] => T95 ⟨l_a, l_n, l_c⟩ ⟨l1_a, l1_n, l1_c⟩
  | _ => fun _ _ => False
def F95.V : List Value → PT := F95.W F95.T
theorem F95.ok : FOk Tryd.prog 95 F95.V := by
  refine ⟨⟨_, Tryd.func95, rfl, rfl⟩, fun args => ?_⟩
  have hG : GOk Tryd.prog [(120, F120.V)] := GOk.cons F120.ok (GOk.nil)
  have hV : VOk Tryd.prog noV := noV_ok
  unfold F95.V F95.W
  split
  · exact denF_okV hG hV Tryd.func95 (fun h Q hq => (F95.den _ _ _) ▸ hq)
  · exact fun h Q hq => hq.elim
def F121.T (l : Sl) (s : ByteArray) : PT := fun h Q =>
  F88.T l (IntKind.wrap .i64 (10 + (s.size : Int))) h fun r h1 => ∃ l1 : Sl, r = .slice l1.a l1.n l1.c ∧ F81.T l1 (IntKind.wrap .u64 (s.size : Int)) h1 fun r1 h2 => ∃ l2 : Sl, r1 = .slice l2.a l2.n l2.c ∧ appendD l2 5 1 1 [.int .u8 0] s.size (bytesV s) h2 fun l3 h3 => Q (.slice l3.a l3.n l3.c) h3
theorem F121.gen (V : Value → List Value → PT) (T81 : Sl → Int → PT) (T88 : Sl → Int → PT) (l : Sl) (s : ByteArray) : denF Tryd.prog [] [(81, F81.W T81), (88, F88.W T88)] V [] Tryd.f121 [.v (.slice l.a l.n l.c), .v (.string s)] = fun h Q =>
  T88 l (IntKind.wrap .i64 (10 + (s.size : Int))) h fun r h1 => ∃ l1 : Sl, r = .slice l1.a l1.n l1.c ∧ T81 l1 (IntKind.wrap .u64 (s.size : Int)) h1 fun r1 h2 => ∃ l2 : Sl, r1 = .slice l2.a l2.n l2.c ∧ appendD l2 5 1 1 [.int .u8 0] s.size (bytesV s) h2 fun l3 h3 => Q (.slice l3.a l3.n l3.c) h3 := by kernel_rfl
theorem F121.den (V : Value → List Value → PT) (l : Sl) (s : ByteArray) : denF Tryd.prog [] [(81, F81.V), (88, F88.V)] V [] Tryd.f121 [.v (.slice l.a l.n l.c), .v (.string s)] = F121.T l s := F121.gen V F81.T F88.T l s
def F121.W (T121 : Sl → ByteArray → PT) (args : List Value) : PT := match args with
  | [.slice l_a l_n l_c, .string s] => T121 ⟨l_a, l_n, l_c⟩ s
  | _ => fun _ _ => False
def F121.V : List Value → PT := F121.W F121.T
theorem F121.ok : FOk Tryd.prog 121 F121.V := by
  refine ⟨⟨_, Tryd.func121, rfl, rfl⟩, fun args => ?_⟩
  have hG : GOk Tryd.prog [(81, F81.V), (88, F88.V)] := GOk.cons F81.ok (GOk.cons F88.ok (GOk.nil))
  have hV : VOk Tryd.prog noV := noV_ok
  unfold F121.V F121.W
  split
  · exact denF_okV hG hV Tryd.func121 (fun h Q hq => (F121.den _ _ _) ▸ hq)
  · exact fun h Q hq => hq.elim
def F96.T (l : Sl) (s : ByteArray) : PT := fun h Q =>
  F121.T ⟨none, 0, 0⟩ s h fun r h1 => ∃ l1 : Sl, r = .slice l1.a l1.n l1.c ∧ ∃ vs, h1.row l1.a (l1.n * 1) vs ∧ (∀ v ∈ vs, Value.oneCell' v = true) ∧ appendD l 5 1 1 [.int .u8 0] l1.n vs h1 fun l2 h2 => Q (.slice l2.a l2.n l2.c) h2
theorem F96.gen (V : Value → List Value → PT) (T121 : Sl → ByteArray → PT) (l : Sl) (s : ByteArray) : denF Tryd.prog [] [(121, F121.W T121)] V [] Tryd.f96 [.v (.slice l.a l.n l.c), .v (.string s)] = fun h Q =>
  T121 ⟨none, 0, 0⟩ s h fun r h1 => ∃ l1 : Sl, r = .slice l1.a l1.n l1.c ∧ ∃ vs, h1.row l1.a (l1.n * 1) vs ∧ (∀ v ∈ vs, Value.oneCell' v = true) ∧ appendD l 5 1 1 [.int .u8 0] l1.n vs h1 fun l2 h2 => Q (.slice l2.a l2.n l2.c) h2 := by kernel_rfl
theorem F96.den (V : Value → List Value → PT) (l : Sl) (s : ByteArray) : denF Tryd.prog [] [(121, F121.V)] V [] Tryd.f96 [.v (.slice l.a l.n l.c), .v (.string s)] = F96.T l s := F96.gen V F121.T l s
def F96.W (T96 : Sl → ByteArray → PT) (args : List Value) : PT := match args with
  | [.slice l_a l_n l_c, .string s] => T96 ⟨l_a, l_n, l_c⟩ s
  | _ => fun _ _ => False
def F96.V : List Value → PT := F96.W F96.T
theorem F96.ok : FOk Tryd.prog 96 F96.V := by
  refine ⟨⟨_, Tryd.func96, rfl, rfl⟩, fun args => ?_⟩
  have hG : GOk Tryd.prog [(121, F121.V)] := GOk.cons F121.ok (GOk.nil)
  have hV : VOk Tryd.prog noV := noV_ok
  unfold F96.V F96.W
  split
  · exact denF_okV hG hV Tryd.func96 (fun h Q hq => (F96.den _ _ _) ▸ hq)
  · exact fun h Q hq => hq.elim
def F63.Tt (n : Int) (n1 : Int) (n2 : Int) (l : Sl) (l1 : Sl) (l2 : Sl) : PT := fun h Q =>
  ∀ b, h b = none → ∃ b1 o, ((some ⟨b, 0, none⟩) : Option Addr) = some ⟨b1, o, none⟩ ∧ ((0 : Int) ≤ 0 ∧ 0 < (1 : Int)) ∧ (h.new b (.cells ⟨[.int .u8 0]⟩ 5 (0, 0))).canW b1 (o + (0 : Int).toNat) 1 ∧ ∀ b2, ((h.new b (.cells ⟨[.int .u8 0]⟩ 5 (0, 0))).wr b1 (o + (0 : Int).toNat) [.int .u8 1]) b2 = none → F95.T ⟨(some ⟨b, 0, none⟩), 1, 1⟩ ⟨(some ⟨b2, 0, none⟩), 4, 4⟩ (((h.new b (.cells ⟨[.int .u8 0]⟩ 5 (0, 0))).wr b1 (o + (0 : Int).toNat) [.int .u8 1]).new b2 (.cells ⟨[.int .u64 n, .int .u64 n1, .int .u64 n2, .int .u64 (IntKind.wrap .u64 (l.n : Int))]⟩ 22 (0, 0))) fun r h1 => ∃ l3 : Sl, r = .slice l3.a l3.n l3.c ∧ ∃ (I : Sl → Int → Hp → Prop) (m : Sl → Int → Hp → Nat), I l3 0 h1 ∧ (∀ l4 : Sl, ∀ n3 : Int, ∀ h2 : Hp, I l4 n3 h2 → par (n3 < (l.n : Int)) (∃ b3 o1, (l.a : Option Addr) = some ⟨b3, o1, none⟩ ∧ ((0 : Int) ≤ n3 ∧ n3 < (l.n : Int)) ∧ ∃ n4 : Int, h2.at b3 (o1 + n3.toNat * 2) = some (.int .i64 n4) ∧ ∃ n5 : Int, h2.at b3 ((o1 + n3.toNat * 2) + 1) = some (.int .u64 n5) ∧ ∀ b4, h2 b4 = none → F95.T l4 ⟨(some ⟨b4, 0, none⟩), 2, 2⟩ (h2.new b4 (.cells ⟨[.int .u64 (IntKind.wrap .u64 n4), .int .u64 n5]⟩ 22 (0, 0))) fun r1 h3 => ∃ l5 : Sl, r1 = .slice l5.a l5.n l5.c ∧ I l5 (IntKind.wrap .i64 (n3 + 1)) h3 ∧ m l5 (IntKind.wrap .i64 (n3 + 1)) h3 < m l4 n3 h2) (∀ b5, h2 b5 = none → F95.T l4 ⟨(some ⟨b5, 0, none⟩), 1, 1⟩ (h2.new b5 (.cells ⟨[.int .u64 (IntKind.wrap .u64 (l1.n : Int))]⟩ 22 (0, 0))) fun r2 h4 => ∃ l6 : Sl, r2 = .slice l6.a l6.n l6.c ∧ ∃ (I1 : Sl → Int → Hp → Prop) (m1 : Sl → Int → Hp → Nat), I1 l6 0 h4 ∧ (∀ l7 : Sl, ∀ n6 : Int, ∀ h5 : Hp, I1 l7 n6 h5 → par (n6 < (l1.n : Int)) (∃ b6 o2, (l1.a : Option Addr) = some ⟨b6, o2, none⟩ ∧ ((0 : Int) ≤ n6 ∧ n6 < (l1.n : Int)) ∧ ∃ n7 : Int, h5.at b6 (o2 + n6.toNat * 7) = some (.int .i64 n7) ∧ ∃ n8 : Int, h5.at b6 ((o2 + n6.toNat * 7) + 1) = some (.int .u64 n8) ∧ ∃ n9 : Int, h5.at b6 ((o2 + n6.toNat * 7) + 2) = some (.int .i64 n9) ∧ ∃ n10 : Int, h5.at b6 ((o2 + n6.toNat * 7) + 3) = some (.int .i64 n10) ∧ ∃ n11 : Int, h5.at b6 ((o2 + n6.toNat * 7) + 4) = some (.int .i64 n11) ∧ ∃ s : ByteArray, h5.at b6 ((o2 + n6.toNat * 7) + 5) = some (.string s) ∧ ∃ s1 : ByteArray, h5.at b6 ((o2 + n6.toNat * 7) + 6) = some (.string s1) ∧ ∀ b7, h5 b7 = none → F95.T l7 ⟨(some ⟨b7, 0, none⟩), 5, 5⟩ (h5.new b7 (.cells ⟨[.int .u64 (IntKind.wrap .u64 n7), .int .u64 n8, .int .u64 (IntKind.wrap .u64 n9), .int .u64 (IntKind.wrap .u64 n10), .int .u64 (IntKind.wrap .u64 n11)]⟩ 22 (0, 0))) fun r3 h6 => ∃ l8 : Sl, r3 = .slice l8.a l8.n l8.c ∧ F96.T l8 s h6 fun r4 h7 => ∃ l9 : Sl, r4 = .slice l9.a l9.n l9.c ∧ F96.T l9 s1 h7 fun r5 h8 => ∃ l10 : Sl, r5 = .slice l10.a l10.n l10.c ∧ I1 l10 (IntKind.wrap .i64 (n6 + 1)) h8 ∧ m1 l10 (IntKind.wrap .i64 (n6 + 1)) h8 < m1 l7 n6 h5) (∀ b8, h5 b8 = none → F95.T l7 ⟨(some ⟨b8, 0, none⟩), 1, 1⟩ (h5.new b8 (.cells ⟨[.int .u64 (IntKind.wrap .u64 (l2.n : Int))]⟩ 22 (0, 0))) fun r6 h9 => ∃ l11 : Sl, r6 = .slice l11.a l11.n l11.c ∧ ∃ (I2 : Sl → Int → Hp → Prop) (m2 : Sl → Int → Hp → Nat), I2 l11 0 h9 ∧ (∀ l12 : Sl, ∀ n12 : Int, ∀ h10 : Hp, I2 l12 n12 h10 → par (n12 < (l2.n : Int)) (∃ b9 o3, (l2.a : Option Addr) = some ⟨b9, o3, none⟩ ∧ ((0 : Int) ≤ n12 ∧ n12 < (l2.n : Int)) ∧ ∃ s2 : ByteArray, h10.at b9 (o3 + n12.toNat) = some (.string s2) ∧ F96.T l12 s2 h10 fun r7 h11 => ∃ l13 : Sl, r7 = .slice l13.a l13.n l13.c ∧ I2 l13 (IntKind.wrap .i64 (n12 + 1)) h11 ∧ m2 l13 (IntKind.wrap .i64 (n12 + 1)) h11 < m2 l12 n12 h10) (Q (.slice l12.a l12.n l12.c) h10))))))
theorem F63.gent (V : Value → List Value → PT) (T95 : Sl → Sl → PT) (T96 : Sl → ByteArray → PT) (n : Int) (n1 : Int) (n2 : Int) (l : Sl) (l1 : Sl) (l2 : Sl) : denF Tryd.prog [2, 7, 9, 10] [(95, F95.W T95), (96, F96.W T96)] V [(250, .loop [(5, .sl), (33, .int .i64)] []), (1018, .loop [(5, .sl), (56, .int .i64)] []), (4090, .loop [(5, .sl), (97, .int .i64)] []), (260711, .order [0, 1, 2, 4, 5, 3, 6, 7])] Tryd.f63 [.v (.agg ⟨[.int .u64 n, .int .u64 n1, .int .u64 n2, .slice l.a l.n l.c, .slice l1.a l1.n l1.c, .slice l2.a l2.n l2.c]⟩), .v (.bool true)] = fun h Q =>
  ∀ b, h b = none → ∃ b1 o, ((some ⟨b, 0, none⟩) : Option Addr) = some ⟨b1, o, none⟩ ∧ ((0 : Int) ≤ 0 ∧ 0 < (1 : Int)) ∧ (h.new b (.cells ⟨[.int .u8 0]⟩ 5 (0, 0))).canW b1 (o + (0 : Int).toNat) 1 ∧ ∀ b2, ((h.new b (.cells ⟨[.int .u8 0]⟩ 5 (0, 0))).wr b1 (o + (0 : Int).toNat) [.int .u8 1]) b2 = none → T95 ⟨(some ⟨b, 0, none⟩), 1, 1⟩ ⟨(some ⟨b2, 0, none⟩), 4, 4⟩ (((h.new b (.cells ⟨[.int .u8 0]⟩ 5 (0, 0))).wr b1 (o + (0 : Int).toNat) [.int .u8 1]).new b2 (.cells ⟨[.int .u64 n, .int .u64 n1, .int .u64 n2, .int .u64 (IntKind.wrap .u64 (l.n : Int))]⟩ 22 (0, 0))) fun r h1 => ∃ l3 : Sl, r = .slice l3.a l3.n l3.c ∧ ∃ (I : Sl → Int → Hp → Prop) (m : Sl → Int → Hp → Nat), I l3 0 h1 ∧ (∀ l4 : Sl, ∀ n3 : Int, ∀ h2 : Hp, I l4 n3 h2 → par (n3 < (l.n : Int)) (∃ b3 o1, (l.a : Option Addr) = some ⟨b3, o1, none⟩ ∧ ((0 : Int) ≤ n3 ∧ n3 < (l.n : Int)) ∧ ∃ n4 : Int, h2.at b3 (o1 + n3.toNat * 2) = some (.int .i64 n4) ∧ ∃ n5 : Int, h2.at b3 ((o1 + n3.toNat * 2) + 1) = some (.int .u64 n5) ∧ ∀ b4, h2 b4 = none → T95 l4 ⟨(some ⟨b4, 0, none⟩), 2, 2⟩ (h2.new b4 (.cells ⟨[.int .u64 (IntKind.wrap .u64 n4), .int .u64 n5]⟩ 22 (0, 0))) fun r1 h3 => ∃ l5 : Sl, r1 = .slice l5.a l5.n l5.c ∧ I l5 (IntKind.wrap .i64 (n3 + 1)) h3 ∧ m l5 (IntKind.wrap .i64 (n3 + 1)) h3 < m l4 n3 h2) (∀ b5, h2 b5 = none → T95 l4 ⟨(some ⟨b5, 0, none⟩), 1, 1⟩ (h2.new b5 (.cells ⟨[.int .u64 (IntKind.wrap .u64 (l1.n : Int))]⟩ 22 (0, 0))) fun r2 h4 => ∃ l6 : Sl, r2 = .slice l6.a l6.n l6.c ∧ ∃ (I1 : Sl → Int → Hp → Prop) (m1 : Sl → Int → Hp → Nat), I1 l6 0 h4 ∧ (∀ l7 : Sl, ∀ n6 : Int, ∀ h5 : Hp, I1 l7 n6 h5 → par (n6 < (l1.n : Int)) (∃ b6 o2, (l1.a : Option Addr) = some ⟨b6, o2, none⟩ ∧ ((0 : Int) ≤ n6 ∧ n6 < (l1.n : Int)) ∧ ∃ n7 : Int, h5.at b6 (o2 + n6.toNat * 7) = some (.int .i64 n7) ∧ ∃ n8 : Int, h5.at b6 ((o2 + n6.toNat * 7) + 1) = some (.int .u64 n8) ∧ ∃ n9 : Int, h5.at b6 ((o2 + n6.toNat * 7) + 2) = some (.int .i64 n9) ∧ ∃ n10 : Int, h5.at b6 ((o2 + n6.toNat * 7) + 3) = some (.int .i64 n10) ∧ ∃ n11 : Int, h5.at b6 ((o2 + n6.toNat * 7) + 4) = some (.int .i64 n11) ∧ ∃ s : ByteArray, h5.at b6 ((o2 + n6.toNat * 7) + 5) = some (.string s) ∧ ∃ s1 : ByteArray, h5.at b6 ((o2 + n6.toNat * 7) + 6) = some (.string s1) ∧ ∀ b7, h5 b7 = none → T95 l7 ⟨(some ⟨b7, 0, none⟩), 5, 5⟩ (h5.new b7 (.cells ⟨[.int .u64 (IntKind.wrap .u64 n7), .int .u64 n8, .int .u64 (IntKind.wrap .u64 n9), .int .u64 (IntKind.wrap .u64 n10), .int .u64 (IntKind.wrap .u64 n11)]⟩ 22 (0, 0))) fun r3 h6 => ∃ l8 : Sl, r3 = .slice l8.a l8.n l8.c ∧ T96 l8 s h6 fun r4 h7 => ∃ l9 : Sl, r4 = .slice l9.a l9.n l9.c ∧ T96 l9 s1 h7 fun r5 h8 => ∃ l10 : Sl, r5 = .slice l10.a l10.n l10.c ∧ I1 l10 (IntKind.wrap .i64 (n6 + 1)) h8 ∧ m1 l10 (IntKind.wrap .i64 (n6 + 1)) h8 < m1 l7 n6 h5) (∀ b8, h5 b8 = none → T95 l7 ⟨(some ⟨b8, 0, none⟩), 1, 1⟩ (h5.new b8 (.cells ⟨[.int .u64 (IntKind.wrap .u64 (l2.n : Int))]⟩ 22 (0, 0))) fun r6 h9 => ∃ l11 : Sl, r6 = .slice l11.a l11.n l11.c ∧ ∃ (I2 : Sl → Int → Hp → Prop) (m2 : Sl → Int → Hp → Nat), I2 l11 0 h9 ∧ (∀ l12 : Sl, ∀ n12 : Int, ∀ h10 : Hp, I2 l12 n12 h10 → par (n12 < (l2.n : Int)) (∃ b9 o3, (l2.a : Option Addr) = some ⟨b9, o3, none⟩ ∧ ((0 : Int) ≤ n12 ∧ n12 < (l2.n : Int)) ∧ ∃ s2 : ByteArray, h10.at b9 (o3 + n12.toNat) = some (.string s2) ∧ T96 l12 s2 h10 fun r7 h11 => ∃ l13 : Sl, r7 = .slice l13.a l13.n l13.c ∧ I2 l13 (IntKind.wrap .i64 (n12 + 1)) h11 ∧ m2 l13 (IntKind.wrap .i64 (n12 + 1)) h11 < m2 l12 n12 h10) (Q (.slice l12.a l12.n l12.c) h10)))))) := by kernel_rfl
theorem F63.dent (V : Value → List Value → PT) (n : Int) (n1 : Int) (n2 : Int) (l : Sl) (l1 : Sl) (l2 : Sl) : denF Tryd.prog [2, 7, 9, 10] [(95, F95.V), (96, F96.V)] V [(250, .loop [(5, .sl), (33, .int .i64)] []), (1018, .loop [(5, .sl), (56, .int .i64)] []), (4090, .loop [(5, .sl), (97, .int .i64)] []), (260711, .order [0, 1, 2, 4, 5, 3, 6, 7])] Tryd.f63 [.v (.agg ⟨[.int .u64 n, .int .u64 n1, .int .u64 n2, .slice l.a l.n l.c, .slice l1.a l1.n l1.c, .slice l2.a l2.n l2.c]⟩), .v (.bool true)] = F63.Tt n n1 n2 l l1 l2 := F63.gent V F95.T F96.T n n1 n2 l l1 l2
def F63.Tf (n : Int) (n1 : Int) (n2 : Int) (l : Sl) (l1 : Sl) (l2 : Sl) : PT := fun h Q =>
  ∀ b, h b = none → ∀ b1, (h.new b (.cells ⟨[.int .u8 0]⟩ 5 (0, 0))) b1 = none → F95.T ⟨(some ⟨b, 0, none⟩), 1, 1⟩ ⟨(some ⟨b1, 0, none⟩), 4, 4⟩ ((h.new b (.cells ⟨[.int .u8 0]⟩ 5 (0, 0))).new b1 (.cells ⟨[.int .u64 n, .int .u64 n1, .int .u64 n2, .int .u64 (IntKind.wrap .u64 (l.n : Int))]⟩ 22 (0, 0))) fun r h1 => ∃ l3 : Sl, r = .slice l3.a l3.n l3.c ∧ ∃ (I : Sl → Int → Hp → Prop) (m : Sl → Int → Hp → Nat), I l3 0 h1 ∧ (∀ l4 : Sl, ∀ n3 : Int, ∀ h2 : Hp, I l4 n3 h2 → par (n3 < (l.n : Int)) (∃ b2 o, (l.a : Option Addr) = some ⟨b2, o, none⟩ ∧ ((0 : Int) ≤ n3 ∧ n3 < (l.n : Int)) ∧ ∃ n4 : Int, h2.at b2 (o + n3.toNat * 2) = some (.int .i64 n4) ∧ ∃ n5 : Int, h2.at b2 ((o + n3.toNat * 2) + 1) = some (.int .u64 n5) ∧ ∀ b3, h2 b3 = none → F95.T l4 ⟨(some ⟨b3, 0, none⟩), 2, 2⟩ (h2.new b3 (.cells ⟨[.int .u64 (IntKind.wrap .u64 n4), .int .u64 n5]⟩ 22 (0, 0))) fun r1 h3 => ∃ l5 : Sl, r1 = .slice l5.a l5.n l5.c ∧ I l5 (IntKind.wrap .i64 (n3 + 1)) h3 ∧ m l5 (IntKind.wrap .i64 (n3 + 1)) h3 < m l4 n3 h2) (∀ b4, h2 b4 = none → F95.T l4 ⟨(some ⟨b4, 0, none⟩), 1, 1⟩ (h2.new b4 (.cells ⟨[.int .u64 (IntKind.wrap .u64 (l1.n : Int))]⟩ 22 (0, 0))) fun r2 h4 => ∃ l6 : Sl, r2 = .slice l6.a l6.n l6.c ∧ ∃ (I1 : Sl → Int → Hp → Prop) (m1 : Sl → Int → Hp → Nat), I1 l6 0 h4 ∧ (∀ l7 : Sl, ∀ n6 : Int, ∀ h5 : Hp, I1 l7 n6 h5 → par (n6 < (l1.n : Int)) (∃ b5 o1, (l1.a : Option Addr) = some ⟨b5, o1, none⟩ ∧ ((0 : Int) ≤ n6 ∧ n6 < (l1.n : Int)) ∧ ∃ n7 : Int, h5.at b5 (o1 + n6.toNat * 7) = some (.int .i64 n7) ∧ ∃ n8 : Int, h5.at b5 ((o1 + n6.toNat * 7) + 1) = some (.int .u64 n8) ∧ ∃ n9 : Int, h5.at b5 ((o1 + n6.toNat * 7) + 2) = some (.int .i64 n9) ∧ ∃ n10 : Int, h5.at b5 ((o1 + n6.toNat * 7) + 3) = some (.int .i64 n10) ∧ ∃ n11 : Int, h5.at b5 ((o1 + n6.toNat * 7) + 4) = some (.int .i64 n11) ∧ ∃ s : ByteArray, h5.at b5 ((o1 + n6.toNat * 7) + 5) = some (.string s) ∧ ∃ s1 : ByteArray, h5.at b5 ((o1 + n6.toNat * 7) + 6) = some (.string s1) ∧ ∀ b6, h5 b6 = none → F95.T l7 ⟨(some ⟨b6, 0, none⟩), 5, 5⟩ (h5.new b6 (.cells ⟨[.int .u64 (IntKind.wrap .u64 n7), .int .u64 n8, .int .u64 (IntKind.wrap .u64 n9), .int .u64 (IntKind.wrap .u64 n10), .int .u64 (IntKind.wrap .u64 n11)]⟩ 22 (0, 0))) fun r3 h6 => ∃ l8 : Sl, r3 = .slice l8.a l8.n l8.c ∧ F96.T l8 s h6 fun r4 h7 => ∃ l9 : Sl, r4 = .slice l9.a l9.n l9.c ∧ F96.T l9 s1 h7 fun r5 h8 => ∃ l10 : Sl, r5 = .slice l10.a l10.n l10.c ∧ I1 l10 (IntKind.wrap .i64 (n6 + 1)) h8 ∧ m1 l10 (IntKind.wrap .i64 (n6 + 1)) h8 < m1 l7 n6 h5) (∀ b7, h5 b7 = none → F95.T l7 ⟨(some ⟨b7, 0, none⟩), 1, 1⟩ (h5.new b7 (.cells ⟨[.int .u64 (IntKind.wrap .u64 (l2.n : Int))]⟩ 22 (0, 0))) fun r6 h9 => ∃ l11 : Sl, r6 = .slice l11.a l11.n l11.c ∧ ∃ (I2 : Sl → Int → Hp → Prop) (m2 : Sl → Int → Hp → Nat), I2 l11 0 h9 ∧ (∀ l12 : Sl, ∀ n12 : Int, ∀ h10 : Hp, I2 l12 n12 h10 → par (n12 < (l2.n : Int)) (∃ b8 o2, (l2.a : Option Addr) = some ⟨b8, o2, none⟩ ∧ ((0 : Int) ≤ n12 ∧ n12 < (l2.n : Int)) ∧ ∃ s2 : ByteArray, h10.at b8 (o2 + n12.toNat) = some (.string s2) ∧ F96.T l12 s2 h10 fun r7 h11 => ∃ l13 : Sl, r7 = .slice l13.a l13.n l13.c ∧ I2 l13 (IntKind.wrap .i64 (n12 + 1)) h11 ∧ m2 l13 (IntKind.wrap .i64 (n12 + 1)) h11 < m2 l12 n12 h10) (Q (.slice l12.a l12.n l12.c) h10))))))
theorem F63.genf (V : Value → List Value → PT) (T95 : Sl → Sl → PT) (T96 : Sl → ByteArray → PT) (n : Int) (n1 : Int) (n2 : Int) (l : Sl) (l1 : Sl) (l2 : Sl) : denF Tryd.prog [2, 7, 9, 10] [(95, F95.W T95), (96, F96.W T96)] V [(250, .loop [(5, .sl), (33, .int .i64)] []), (1018, .loop [(5, .sl), (56, .int .i64)] []), (4090, .loop [(5, .sl), (97, .int .i64)] []), (260711, .order [0, 1, 2, 4, 5, 3, 6, 7])] Tryd.f63 [.v (.agg ⟨[.int .u64 n, .int .u64 n1, .int .u64 n2, .slice l.a l.n l.c, .slice l1.a l1.n l1.c, .slice l2.a l2.n l2.c]⟩), .v (.bool false)] = fun h Q =>
  ∀ b, h b = none → ∀ b1, (h.new b (.cells ⟨[.int .u8 0]⟩ 5 (0, 0))) b1 = none → T95 ⟨(some ⟨b, 0, none⟩), 1, 1⟩ ⟨(some ⟨b1, 0, none⟩), 4, 4⟩ ((h.new b (.cells ⟨[.int .u8 0]⟩ 5 (0, 0))).new b1 (.cells ⟨[.int .u64 n, .int .u64 n1, .int .u64 n2, .int .u64 (IntKind.wrap .u64 (l.n : Int))]⟩ 22 (0, 0))) fun r h1 => ∃ l3 : Sl, r = .slice l3.a l3.n l3.c ∧ ∃ (I : Sl → Int → Hp → Prop) (m : Sl → Int → Hp → Nat), I l3 0 h1 ∧ (∀ l4 : Sl, ∀ n3 : Int, ∀ h2 : Hp, I l4 n3 h2 → par (n3 < (l.n : Int)) (∃ b2 o, (l.a : Option Addr) = some ⟨b2, o, none⟩ ∧ ((0 : Int) ≤ n3 ∧ n3 < (l.n : Int)) ∧ ∃ n4 : Int, h2.at b2 (o + n3.toNat * 2) = some (.int .i64 n4) ∧ ∃ n5 : Int, h2.at b2 ((o + n3.toNat * 2) + 1) = some (.int .u64 n5) ∧ ∀ b3, h2 b3 = none → T95 l4 ⟨(some ⟨b3, 0, none⟩), 2, 2⟩ (h2.new b3 (.cells ⟨[.int .u64 (IntKind.wrap .u64 n4), .int .u64 n5]⟩ 22 (0, 0))) fun r1 h3 => ∃ l5 : Sl, r1 = .slice l5.a l5.n l5.c ∧ I l5 (IntKind.wrap .i64 (n3 + 1)) h3 ∧ m l5 (IntKind.wrap .i64 (n3 + 1)) h3 < m l4 n3 h2) (∀ b4, h2 b4 = none → T95 l4 ⟨(some ⟨b4, 0, none⟩), 1, 1⟩ (h2.new b4 (.cells ⟨[.int .u64 (IntKind.wrap .u64 (l1.n : Int))]⟩ 22 (0, 0))) fun r2 h4 => ∃ l6 : Sl, r2 = .slice l6.a l6.n l6.c ∧ ∃ (I1 : Sl → Int → Hp → Prop) (m1 : Sl → Int → Hp → Nat), I1 l6 0 h4 ∧ (∀ l7 : Sl, ∀ n6 : Int, ∀ h5 : Hp, I1 l7 n6 h5 → par (n6 < (l1.n : Int)) (∃ b5 o1, (l1.a : Option Addr) = some ⟨b5, o1, none⟩ ∧ ((0 : Int) ≤ n6 ∧ n6 < (l1.n : Int)) ∧ ∃ n7 : Int, h5.at b5 (o1 + n6.toNat * 7) = some (.int .i64 n7) ∧ ∃ n8 : Int, h5.at b5 ((o1 + n6.toNat * 7) + 1) = some (.int .u64 n8) ∧ ∃ n9 : Int, h5.at b5 ((o1 + n6.toNat * 7) + 2) = some (.int .i64 n9) ∧ ∃ n10 : Int, h5.at b5 ((o1 + n6.toNat * 7) + 3) = some (.int .i64 n10) ∧ ∃ n11 : Int, h5.at b5 ((o1 + n6.toNat * 7) + 4) = some (.int .i64 n11) ∧ ∃ s : ByteArray, h5.at b5 ((o1 + n6.toNat * 7) + 5) = some (.string s) ∧ ∃ s1 : ByteArray, h5.at b5 ((o1 + n6.toNat * 7) + 6) = some (.string s1) ∧ ∀ b6, h5 b6 = none → T95 l7 ⟨(some ⟨b6, 0, none⟩), 5, 5⟩ (h5.new b6 (.cells ⟨[.int .u64 (IntKind.wrap .u64 n7), .int .u64 n8, .int .u64 (IntKind.wrap .u64 n9), .int .u64 (IntKind.wrap .u64 n10), .int .u64 (IntKind.wrap .u64 n11)]⟩ 22 (0, 0))) fun r3 h6 => ∃ l8 : Sl, r3 = .slice l8.a l8.n l8.c ∧ T96 l8 s h6 fun r4 h7 => ∃ l9 : Sl, r4 = .slice l9.a l9.n l9.c ∧ T96 l9 s1 h7 fun r5 h8 => ∃ l10 : Sl, r5 = .slice l10.a l10.n l10.c ∧ I1 l10 (IntKind.wrap .i64 (n6 + 1)) h8 ∧ m1 l10 (IntKind.wrap .i64 (n6 + 1)) h8 < m1 l7 n6 h5) (∀ b7, h5 b7 = none → T95 l7 ⟨(some ⟨b7, 0, none⟩), 1, 1⟩ (h5.new b7 (.cells ⟨[.int .u64 (IntKind.wrap .u64 (l2.n : Int))]⟩ 22 (0, 0))) fun r6 h9 => ∃ l11 : Sl, r6 = .slice l11.a l11.n l11.c ∧ ∃ (I2 : Sl → Int → Hp → Prop) (m2 : Sl → Int → Hp → Nat), I2 l11 0 h9 ∧ (∀ l12 : Sl, ∀ n12 : Int, ∀ h10 : Hp, I2 l12 n12 h10 → par (n12 < (l2.n : Int)) (∃ b8 o2, (l2.a : Option Addr) = some ⟨b8, o2, none⟩ ∧ ((0 : Int) ≤ n12 ∧ n12 < (l2.n : Int)) ∧ ∃ s2 : ByteArray, h10.at b8 (o2 + n12.toNat) = some (.string s2) ∧ T96 l12 s2 h10 fun r7 h11 => ∃ l13 : Sl, r7 = .slice l13.a l13.n l13.c ∧ I2 l13 (IntKind.wrap .i64 (n12 + 1)) h11 ∧ m2 l13 (IntKind.wrap .i64 (n12 + 1)) h11 < m2 l12 n12 h10) (Q (.slice l12.a l12.n l12.c) h10)))))) := by kernel_rfl
theorem F63.denf (V : Value → List Value → PT) (n : Int) (n1 : Int) (n2 : Int) (l : Sl) (l1 : Sl) (l2 : Sl) : denF Tryd.prog [2, 7, 9, 10] [(95, F95.V), (96, F96.V)] V [(250, .loop [(5, .sl), (33, .int .i64)] []), (1018, .loop [(5, .sl), (56, .int .i64)] []), (4090, .loop [(5, .sl), (97, .int .i64)] []), (260711, .order [0, 1, 2, 4, 5, 3, 6, 7])] Tryd.f63 [.v (.agg ⟨[.int .u64 n, .int .u64 n1, .int .u64 n2, .slice l.a l.n l.c, .slice l1.a l1.n l1.c, .slice l2.a l2.n l2.c]⟩), .v (.bool false)] = F63.Tf n n1 n2 l l1 l2 := F63.genf V F95.T F96.T n n1 n2 l l1 l2
def F63.W (T63t : Int → Int → Int → Sl → Sl → Sl → PT) (T63f : Int → Int → Int → Sl → Sl → Sl → PT) (args : List Value) : PT := match args with
  | [.agg ⟨[.int .u64 n, .int .u64 n1, .int .u64 n2, .slice l_a l_n l_c, .slice l1_a l1_n l1_c, .slice l2_a l2_n l2_c]⟩, .bool true] => T63t n n1 n2 ⟨l_a, l_n, l_c⟩ ⟨l1_a, l1_n, l1_c⟩ ⟨l2_a, l2_n, l2_c⟩
  | [.agg ⟨[.int .u64 n, .int .u64 n1, .int .u64 n2, .slice l_a l_n l_c, .slice l1_a l1_n l1_c, .slice l2_a l2_n l2_c]⟩, .bool false] => T63f n n1 n2 ⟨l_a, l_n, l_c⟩ ⟨l1_a, l1_n, l1_c⟩ ⟨l2_a, l2_n, l2_c⟩
  | _ => fun _ _ => False
def F63.V : List Value → PT := F63.W F63.Tt F63.Tf
theorem F63.ok : FOk Tryd.prog 63 F63.V := by
  refine ⟨⟨_, Tryd.func63, rfl, rfl⟩, fun args => ?_⟩
  have hG : GOk Tryd.prog [(95, F95.V), (96, F96.V)] := GOk.cons F95.ok (GOk.cons F96.ok (GOk.nil))
  have hV : VOk Tryd.prog noV := noV_ok
  unfold F63.V F63.W
  split
  · exact denF_okV hG hV Tryd.func63 (fun h Q hq => (F63.dent _ _ _ _ _ _ _) ▸ hq)
  · exact denF_okV hG hV Tryd.func63 (fun h Q hq => (F63.denf _ _ _ _ _ _ _) ▸ hq)
  · exact fun h Q hq => hq.elim
def F21.T (n : Int) (n1 : Int) (n2 : Int) (l : Sl) (l1 : Sl) (l2 : Sl) : PT := fun h Q =>
  F62.T n n1 n2 l l1 l2 h fun r h1 => ∃ b : Bool, r = .bool b ∧ parB b (∃ (I : Sl → Int → Int → Int → Sl → Sl → Sl → Hp → Prop) (m : Sl → Int → Int → Int → Sl → Sl → Sl → Hp → Nat), I ⟨none, 0, 0⟩ n n1 n2 l l1 l2 h1 ∧ (∀ l3 : Sl, ∀ n3 : Int, ∀ n4 : Int, ∀ n5 : Int, ∀ l4 : Sl, ∀ l5 : Sl, ∀ l6 : Sl, ∀ h2 : Hp, I l3 n3 n4 n5 l4 l5 l6 h2 → Sl.okCut l4 0 (iMin (l4.n : Int) 256) (iMin (l4.n : Int) 256) ∧ Sl.okCut l5 0 (iMin (l5.n : Int) (IntKind.wrap .i64 (256 - (iMin (l4.n : Int) 256)))) (iMin (l5.n : Int) (IntKind.wrap .i64 (256 - (iMin (l4.n : Int) 256)))) ∧ Sl.okCut l4 (iMin (l4.n : Int) 256) (l4.n : Int) (l4.c : Int) ∧ Sl.okCut l5 (iMin (l5.n : Int) (IntKind.wrap .i64 (256 - (iMin (l4.n : Int) 256)))) (l5.n : Int) (l5.c : Int) ∧ par ((IntKind.wrap .i64 (((Sl.cut l4 2 (iMin (l4.n : Int) 256) (l4.n : Int) (l4.c : Int)).n : Int) + ((Sl.cut l5 7 (iMin (l5.n : Int) (IntKind.wrap .i64 (256 - (iMin (l4.n : Int) 256)))) (l5.n : Int) (l5.c : Int)).n : Int))) = 0) (F63.Tt n3 n4 n5 (Sl.cut l4 2 0 (iMin (l4.n : Int) 256) (iMin (l4.n : Int) 256)) (Sl.cut l5 7 0 (iMin (l5.n : Int) (IntKind.wrap .i64 (256 - (iMin (l4.n : Int) 256)))) (iMin (l5.n : Int) (IntKind.wrap .i64 (256 - (iMin (l4.n : Int) 256))))) l6 h2 fun r1 h3 => ∃ l7 : Sl, r1 = .slice l7.a l7.n l7.c ∧ appendD l3 23 1 24 [.slice none 0 0] 1 [.slice l7.a l7.n l7.c] h3 fun l8 h4 => Q (.slice l8.a l8.n l8.c) h4) (F63.Tf n3 n4 n5 (Sl.cut l4 2 0 (iMin (l4.n : Int) 256) (iMin (l4.n : Int) 256)) (Sl.cut l5 7 0 (iMin (l5.n : Int) (IntKind.wrap .i64 (256 - (iMin (l4.n : Int) 256)))) (iMin (l5.n : Int) (IntKind.wrap .i64 (256 - (iMin (l4.n : Int) 256))))) ⟨none, 0, 0⟩ h2 fun r2 h5 => ∃ l9 : Sl, r2 = .slice l9.a l9.n l9.c ∧ appendD l3 23 1 24 [.slice none 0 0] 1 [.slice l9.a l9.n l9.c] h5 fun l10 h6 => I l10 n3 n4 n5 (Sl.cut l4 2 (iMin (l4.n : Int) 256) (l4.n : Int) (l4.c : Int)) (Sl.cut l5 7 (iMin (l5.n : Int) (IntKind.wrap .i64 (256 - (iMin (l4.n : Int) 256)))) (l5.n : Int) (l5.c : Int)) l6 h6 ∧ m l10 n3 n4 n5 (Sl.cut l4 2 (iMin (l4.n : Int) 256) (l4.n : Int) (l4.c : Int)) (Sl.cut l5 7 (iMin (l5.n : Int) (IntKind.wrap .i64 (256 - (iMin (l4.n : Int) 256)))) (l5.n : Int) (l5.c : Int)) l6 h6 < m l3 n3 n4 n5 l4 l5 l6 h2))) (Q (.slice none 0 0) h1)
theorem F21.gen (V : Value → List Value → PT) (T62 : Int → Int → Int → Sl → Sl → Sl → PT) (T63t : Int → Int → Int → Sl → Sl → Sl → PT) (T63f : Int → Int → Int → Sl → Sl → Sl → PT) (n : Int) (n1 : Int) (n2 : Int) (l : Sl) (l1 : Sl) (l2 : Sl) : denF Tryd.prog [1, 4, 54, 60] [(62, F62.W T62), (63, F63.W T63t T63f)] V [(30, .loop [(3, .sl)] [(1, [.int .u64, .int .u64, .int .u64, .sl, .sl, .sl])]), (1934, .order [0, 1, 2, 3, 4, 5, 6, 7, 8, 9, 10, 11, 12, 13]), (3870, .order [0, 1, 2, 3, 4, 5, 6, 7, 8, 9, 10, 11])] Tryd.f21 [.v (.agg ⟨[.int .u64 n, .int .u64 n1, .int .u64 n2, .slice l.a l.n l.c, .slice l1.a l1.n l1.c, .slice l2.a l2.n l2.c]⟩)] = fun h Q =>
  T62 n n1 n2 l l1 l2 h fun r h1 => ∃ b : Bool, r = .bool b ∧ parB b (∃ (I : Sl → Int → Int → Int → Sl → Sl → Sl → Hp → Prop) (m : Sl → Int → Int → Int → Sl → Sl → Sl → Hp → Nat), I ⟨none, 0, 0⟩ n n1 n2 l l1 l2 h1 ∧ (∀ l3 : Sl, ∀ n3 : Int, ∀ n4 : Int, ∀ n5 : Int, ∀ l4 : Sl, ∀ l5 : Sl, ∀ l6 : Sl, ∀ h2 : Hp, I l3 n3 n4 n5 l4 l5 l6 h2 → Sl.okCut l4 0 (iMin (l4.n : Int) 256) (iMin (l4.n : Int) 256) ∧ Sl.okCut l5 0 (iMin (l5.n : Int) (IntKind.wrap .i64 (256 - (iMin (l4.n : Int) 256)))) (iMin (l5.n : Int) (IntKind.wrap .i64 (256 - (iMin (l4.n : Int) 256)))) ∧ Sl.okCut l4 (iMin (l4.n : Int) 256) (l4.n : Int) (l4.c : Int) ∧ Sl.okCut l5 (iMin (l5.n : Int) (IntKind.wrap .i64 (256 - (iMin (l4.n : Int) 256)))) (l5.n : Int) (l5.c : Int) ∧ par ((IntKind.wrap .i64 (((Sl.cut l4 2 (iMin (l4.n : Int) 256) (l4.n : Int) (l4.c : Int)).n : Int) + ((Sl.cut l5 7 (iMin (l5.n : Int) (IntKind.wrap .i64 (256 - (iMin (l4.n : Int) 256)))) (l5.n : Int) (l5.c : Int)).n : Int))) = 0) (T63t n3 n4 n5 (Sl.cut l4 2 0 (iMin (l4.n : Int) 256) (iMin (l4.n : Int) 256)) (Sl.cut l5 7 0 (iMin (l5.n : Int) (IntKind.wrap .i64 (256 - (iMin (l4.n : Int) 256)))) (iMin (l5.n : Int) (IntKind.wrap .i64 (256 - (iMin (l4.n : Int) 256))))) l6 h2 fun r1 h3 => ∃ l7 : Sl, r1 = .slice l7.a l7.n l7.c ∧ appendD l3 23 1 24 [.slice none 0 0] 1 [.slice l7.a l7.n l7.c] h3 fun l8 h4 => Q (.slice l8.a l8.n l8.c) h4) (T63f n3 n4 n5 (Sl.cut l4 2 0 (iMin (l4.n : Int) 256) (iMin (l4.n : Int) 256)) (Sl.cut l5 7 0 (iMin (l5.n : Int) (IntKind.wrap .i64 (256 - (iMin (l4.n : Int) 256)))) (iMin (l5.n : Int) (IntKind.wrap .i64 (256 - (iMin (l4.n : Int) 256))))) ⟨none, 0, 0⟩ h2 fun r2 h5 => ∃ l9 : Sl, r2 = .slice l9.a l9.n l9.c ∧ appendD l3 23 1 24 [.slice none 0 0] 1 [.slice l9.a l9.n l9.c] h5 fun l10 h6 => I l10 n3 n4 n5 (Sl.cut l4 2 (iMin (l4.n : Int) 256) (l4.n : Int) (l4.c : Int)) (Sl.cut l5 7 (iMin (l5.n : Int) (IntKind.wrap .i64 (256 - (iMin (l4.n : Int) 256)))) (l5.n : Int) (l5.c : Int)) l6 h6 ∧ m l10 n3 n4 n5 (Sl.cut l4 2 (iMin (l4.n : Int) 256) (l4.n : Int) (l4.c : Int)) (Sl.cut l5 7 (iMin (l5.n : Int) (IntKind.wrap .i64 (256 - (iMin (l4.n : Int) 256)))) (l5.n : Int) (l5.c : Int)) l6 h6 < m l3 n3 n4 n5 l4 l5 l6 h2))) (Q (.slice none 0 0) h1) := by kernel_rfl
theorem F21.den (V : Value → List Value → PT) (n : Int) (n1 : Int) (n2 : Int) (l : Sl) (l1 : Sl) (l2 : Sl) : denF Tryd.prog [1, 4, 54, 60] [(62, F62.V), (63, F63.V)] V [(30, .loop [(3, .sl)] [(1, [.int .u64, .int .u64, .int .u64, .sl, .sl, .sl])]), (1934, .order [0, 1, 2, 3, 4, 5, 6, 7, 8, 9, 10, 11, 12, 13]), (3870, .order [0, 1, 2, 3, 4, 5, 6, 7, 8, 9, 10, 11])] Tryd.f21 [.v (.agg ⟨[.int .u64 n, .int .u64 n1, .int .u64 n2, .slice l.a l.n l.c, .slice l1.a l1.n l1.c, .slice l2.a l2.n l2.c]⟩)] = F21.T n n1 n2 l l1 l2 := F21.gen V F62.T F63.Tt F63.Tf n n1 n2 l l1 l2
def F21.W (T21 : Int → Int → Int → Sl → Sl → Sl → PT) (args : List Value) : PT := match args with
  | [.agg ⟨[.int .u64 n, .int .u64 n1, .int .u64 n2, .slice l_a l_n l_c, .slice l1_a l1_n l1_c, .slice l2_a l2_n l2_c]⟩] => T21 n n1 n2 ⟨l_a, l_n, l_c⟩ ⟨l1_a, l1_n, l1_c⟩ ⟨l2_a, l2_n, l2_c⟩
  | _ => fun _ _ => False
def F21.V : List Value → PT := F21.W F21.T
theorem F21.ok : FOk Tryd.prog 21 F21.V := by
  refine ⟨⟨_, Tryd.func21, rfl, rfl⟩, fun args => ?_⟩
  have hG : GOk Tryd.prog [(62, F62.V), (63, F63.V)] := GOk.cons F62.ok (GOk.cons F63.ok (GOk.nil))
  have hV : VOk Tryd.prog noV := noV_ok
  unfold F21.V F21.W
  split
  · exact denF_okV hG hV Tryd.func21 (fun h Q hq => (F21.den _ _ _ _ _ _ _) ▸ hq)
  · exact fun h Q hq => hq.elim
def F64.T (n : Int) (n1 : Int) (n2 : Int) (l : Sl) (l1 : Sl) (l2 : Sl) : PT := fun h Q =>
  ∃ (I : Int → Hp → Prop) (m : Int → Hp → Nat), I 0 h ∧ (∀ n3 : Int, ∀ h1 : Hp, I n3 h1 → par (n3 < (l.n : Int)) (∃ b o, (l.a : Option Addr) = some ⟨b, o, none⟩ ∧ ((0 : Int) ≤ n3 ∧ n3 < (l.n : Int)) ∧ ∃ n4 : Int, h1.at b (o + n3.toNat * 2) = some (.int .i64 n4) ∧ par (n4 < 0) (Q (.bool false) h1) (∃ b1 o1, (l.a : Option Addr) = some ⟨b1, o1, none⟩ ∧ ((0 : Int) ≤ n3 ∧ n3 < (l.n : Int)) ∧ ∃ n5 : Int, h1.at b1 (o1 + n3.toNat * 2) = some (.int .i64 n5) ∧ par ((4 : Int) < n5) (Q (.bool false) h1) (I (IntKind.wrap .i64 (n3 + 1)) h1 ∧ m (IntKind.wrap .i64 (n3 + 1)) h1 < m n3 h1))) (∃ (I1 : Int → Hp → Prop) (m1 : Int → Hp → Nat), I1 0 h1 ∧ (∀ n6 : Int, ∀ h2 : Hp, I1 n6 h2 → par (n6 < (l1.n : Int)) (∃ b2 o2, (l1.a : Option Addr) = some ⟨b2, o2, none⟩ ∧ ((0 : Int) ≤ n6 ∧ n6 < (l1.n : Int)) ∧ ∃ n7 : Int, h2.at b2 (o2 + n6.toNat * 7) = some (.int .i64 n7) ∧ ∃ n8 : Int, h2.at b2 ((o2 + n6.toNat * 7) + 1) = some (.int .u64 n8) ∧ ∃ n9 : Int, h2.at b2 ((o2 + n6.toNat * 7) + 2) = some (.int .i64 n9) ∧ ∃ n10 : Int, h2.at b2 ((o2 + n6.toNat * 7) + 3) = some (.int .i64 n10) ∧ ∃ n11 : Int, h2.at b2 ((o2 + n6.toNat * 7) + 4) = some (.int .i64 n11) ∧ ∃ s : ByteArray, h2.at b2 ((o2 + n6.toNat * 7) + 5) = some (.string s) ∧ ∃ s1 : ByteArray, h2.at b2 ((o2 + n6.toNat * 7) + 6) = some (.string s1) ∧ par (n7 < 0) (Q (.bool false) h2) (par ((4 : Int) < n7) (Q (.bool false) h2) (par (n9 < 0) (Q (.bool false) h2) (par (n10 < 0) (Q (.bool false) h2) (par (n11 < 0) (Q (.bool false) h2) (par ((64 : Int) < (s.size : Int)) (Q (.bool false) h2) (par ((64 : Int) < (s1.size : Int)) (Q (.bool false) h2) (I1 (IntKind.wrap .i64 (n6 + 1)) h2 ∧ m1 (IntKind.wrap .i64 (n6 + 1)) h2 < m1 n6 h2)))))))) (∃ (I2 : Int → Hp → Prop) (m2 : Int → Hp → Nat), I2 0 h2 ∧ (∀ n12 : Int, ∀ h3 : Hp, I2 n12 h3 → par (n12 < (l2.n : Int)) (∃ b3 o3, (l2.a : Option Addr) = some ⟨b3, o3, none⟩ ∧ ((0 : Int) ≤ n12 ∧ n12 < (l2.n : Int)) ∧ ∃ s2 : ByteArray, h3.at b3 (o3 + n12.toNat) = some (.string s2) ∧ par ((64 : Int) < (s2.size : Int)) (Q (.bool false) h3) (I2 (IntKind.wrap .i64 (n12 + 1)) h3 ∧ m2 (IntKind.wrap .i64 (n12 + 1)) h3 < m2 n12 h3)) (par ((l2.n : Int) ≤ 5) (Q (.bool true) h3) (Q (.bool false) h3)))))))
theorem F64.den (V : Value → List Value → PT) (n : Int) (n1 : Int) (n2 : Int) (l : Sl) (l1 : Sl) (l2 : Sl) : denF Tryd.prog [1, 5] [] V [(26, .loop [(3, .int .i64)] []), (58, .loop [(4, .int .i64)] []), (122, .loop [(6, .int .i64)] [])] Tryd.f64 [.v (.agg ⟨[.int .u64 n, .int .u64 n1, .int .u64 n2, .slice l.a l.n l.c, .slice l1.a l1.n l1.c, .slice l2.a l2.n l2.c]⟩)] = F64.T n n1 n2 l l1 l2 := by kernel_rfl
def F64.W (T64 : Int → Int → Int → Sl → Sl → Sl → PT) (args : List Value) : PT := match args with
  | [.agg ⟨[.int .u64 n, .int .u64 n1, .int .u64 n2, .slice l_a l_n l_c, .slice l1_a l1_n l1_c, .slice l2_a l2_n l2_c]⟩] => T64 n n1 n2 ⟨l_a, l_n, l_c⟩ ⟨l1_a, l1_n, l1_c⟩ ⟨l2_a, l2_n, l2_c⟩
  | _ => fun _ _ => False
def F64.V : List Value → PT := F64.W F64.T
theorem F64.ok : FOk Tryd.prog 64 F64.V := by
  refine ⟨⟨_, Tryd.func64, rfl, rfl⟩, fun args => ?_⟩
  have hG : GOk Tryd.prog [] := GOk.nil
  have hV : VOk Tryd.prog noV := noV_ok
  unfold F64.V F64.W
  split
  · exact denF_okV hG hV Tryd.func64 (fun h Q hq => (F64.den _ _ _ _ _ _ _) ▸ hq)
  · exact fun h Q hq => hq.elim
def F98.T (n : Int) : PT := fun h Q =>
  F82.T (IntKind.wrap .u64 n) h fun r h1 => ∃ l : Sl, r = .slice l.a l.n l.c ∧ Q (.slice l.a l.n l.c) h1
theorem F98.gen (V : Value → List Value → PT) (T82 : Int → PT) (n : Int) : denF Tryd.prog [] [(82, F82.W T82)] V [] Tryd.f98 [.v (.int .i64 n)] = fun h Q =>
  T82 (IntKind.wrap .u64 n) h fun r h1 => ∃ l : Sl, r = .slice l.a l.n l.c ∧ Q (.slice l.a l.n l.c) h1 := by kernel_rfl
theorem F98.den (V : Value → List Value → PT) (n : Int) : denF Tryd.prog [] [(82, F82.V)] V [] Tryd.f98 [.v (.int .i64 n)] = F98.T n := F98.gen V F82.T n
def F98.W (T98 : Int → PT) (args : List Value) : PT := match args with
  | [.int .i64 n] => T98 n
  | _ => fun _ _ => False
def F98.V : List Value → PT := F98.W F98.T
theorem F98.ok : FOk Tryd.prog 98 F98.V := by
  refine ⟨⟨_, Tryd.func98, rfl, rfl⟩, fun args => ?_⟩
  have hG : GOk Tryd.prog [(82, F82.V)] := GOk.cons F82.ok (GOk.nil)
  have hV : VOk Tryd.prog noV := noV_ok
  unfold F98.V F98.W
  split
  · exact denF_okV hG hV Tryd.func98 (fun h Q hq => (F98.den _ _) ▸ hq)
  · exact fun h Q hq => hq.elim
def F97.T (l : Sl) : PT := fun h Q =>
  ∃ (I : Sl → Int → Hp → Prop) (m : Sl → Int → Hp → Nat), I ⟨none, 0, 0⟩ 0 h ∧ (∀ l1 : Sl, ∀ n : Int, ∀ h1 : Hp, I l1 n h1 → par (n < (l.n : Int)) (∃ b o, (l.a : Option Addr) = some ⟨b, o, none⟩ ∧ ((0 : Int) ≤ n ∧ n < (l.n : Int)) ∧ ∃ l2 : Sl, h1.at b (o + n.toNat) = some (.slice l2.a l2.n l2.c) ∧ ∃ vs, h1.row l2.a (l2.n * 1) vs ∧ (∀ v ∈ vs, Value.oneCell' v = true) ∧ appendD l1 5 1 1 [.int .u8 0] l2.n vs h1 fun l3 h2 => I l3 (IntKind.wrap .i64 (n + 1)) h2 ∧ m l3 (IntKind.wrap .i64 (n + 1)) h2 < m l1 n h1) (Q (.slice l1.a l1.n l1.c) h1))
theorem F97.den (V : Value → List Value → PT) (l : Sl) : denF Tryd.prog [] [] V [(58, .loop [(3, .sl), (4, .int .i64)] [])] Tryd.f97 [.v (.slice l.a l.n l.c)] = F97.T l := by kernel_rfl
def F97.W (T97 : Sl → PT) (args : List Value) : PT := match args with
  | [.slice l_a l_n l_c] => T97 ⟨l_a, l_n, l_c⟩
  | _ => fun _ _ => False
def F97.V : List Value → PT := F97.W F97.T
theorem F97.ok : FOk Tryd.prog 97 F97.V := by
  refine ⟨⟨_, Tryd.func97, rfl, rfl⟩, fun args => ?_⟩
  have hG : GOk Tryd.prog [] := GOk.nil
  have hV : VOk Tryd.prog noV := noV_ok
  unfold F97.V F97.W
  split
  · exact denF_okV hG hV Tryd.func97 (fun h Q hq => (F97.den _ _) ▸ hq)
  · exact fun h Q hq => hq.elim
def F99.T (s : ByteArray) : PT := fun h Q =>
  F82.T (IntKind.wrap .u64 (s.size : Int)) h fun r h1 => ∃ l : Sl, r = .slice l.a l.n l.c ∧ ∃ (I : Sl → Int → Hp → Prop) (m : Sl → Int → Hp → Nat), I l 0 h1 ∧ (∀ l1 : Sl, ∀ n : Int, ∀ h2 : Hp, I l1 n h2 → par (n < (s.size : Int)) (((0 : Int) ≤ n ∧ n < (s.size : Int)) ∧ appendD l1 5 1 1 [.int .u8 0] 1 [.int .u8 (bt s n)] h2 fun l2 h3 => I l2 (IntKind.wrap .i64 (n + 1)) h3 ∧ m l2 (IntKind.wrap .i64 (n + 1)) h3 < m l1 n h2) (Q (.slice l1.a l1.n l1.c) h2))
theorem F99.gen (V : Value → List Value → PT) (T82 : Int → PT) (s : ByteArray) : denF Tryd.prog [19] [(82, F82.W T82)] V [(58, .loop [(3, .sl), (4, .int .i64)] [])] Tryd.f99 [.v (.string s)] = fun h Q =>
  T82 (IntKind.wrap .u64 (s.size : Int)) h fun r h1 => ∃ l : Sl, r = .slice l.a l.n l.c ∧ ∃ (I : Sl → Int → Hp → Prop) (m : Sl → Int → Hp → Nat), I l 0 h1 ∧ (∀ l1 : Sl, ∀ n : Int, ∀ h2 : Hp, I l1 n h2 → par (n < (s.size : Int)) (((0 : Int) ≤ n ∧ n < (s.size : Int)) ∧ appendD l1 5 1 1 [.int .u8 0] 1 [.int .u8 (bt s n)] h2 fun l2 h3 => I l2 (IntKind.wrap .i64 (n + 1)) h3 ∧ m l2 (IntKind.wrap .i64 (n + 1)) h3 < m l1 n h2) (Q (.slice l1.a l1.n l1.c) h2)) := by kernel_rfl
theorem F99.den (V : Value → List Value → PT) (s : ByteArray) : denF Tryd.prog [19] [(82, F82.V)] V [(58, .loop [(3, .sl), (4, .int .i64)] [])] Tryd.f99 [.v (.string s)] = F99.T s := F99.gen V F82.T s
def F99.W (T99 : ByteArray → PT) (args : List Value) : PT := match args with
  | [.string s] => T99 s
  | _ => fun _ _ => False
def F99.V : List Value → PT := F99.W F99.T
theorem F99.ok : FOk Tryd.prog 99 F99.V := by
  refine ⟨⟨_, Tryd.func99, rfl, rfl⟩, fun args => ?_⟩
  have hG : GOk Tryd.prog [(82, F82.V)] := GOk.cons F82.ok (GOk.nil)
  have hV : VOk Tryd.prog noV := noV_ok
  unfold F99.V F99.W
  split
  · exact denF_okV hG hV Tryd.func99 (fun h Q hq => (F99.den _ _) ▸ hq)
  · exact fun h Q hq => hq.elim
def F100.T (n : Int) : PT := fun h Q =>
  (512 : Int) ≠ 0 ∧ Q (.int .i64 (IntKind.wrap .i64 (512 - (Int.tmod n 512)))) h
theorem F100.den (V : Value → List Value → PT) (n : Int) : denF Tryd.prog [] [] V [] Tryd.f100 [.v (.int .i64 n)] = F100.T n := by kernel_rfl
def F100.W (T100 : Int → PT) (args : List Value) : PT := match args with
  | [.int .i64 n] => T100 n
  | _ => fun _ _ => False
def F100.V : List Value → PT := F100.W F100.T
theorem F100.ok : FOk Tryd.prog 100 F100.V := by
  refine ⟨⟨_, Tryd.func100, rfl, rfl⟩, fun args => ?_⟩
  have hG : GOk Tryd.prog [] := GOk.nil
  have hV : VOk Tryd.prog noV := noV_ok
  unfold F100.V F100.W
  split
  · exact denF_okV hG hV Tryd.func100 (fun h Q hq => (F100.den _ _) ▸ hq)
  · exact fun h Q hq => hq.elim
def F122.T (n : Int) : PT := fun h Q =>
  (0 : Int) ≤ 8 ∧ (0 : Int) ≤ 16 ∧ (0 : Int) ≤ 24 ∧ ∀ b, h b = none → Q (.slice (some ⟨b, 0, none⟩) 4 4) (h.new b (.cells ⟨[.int .u8 (IntKind.wrap .u8 n), .int .u8 (IntKind.wrap .u8 (shrI .u32 n 8)), .int .u8 (IntKind.wrap .u8 (shrI .u32 n 16)), .int .u8 (IntKind.wrap .u8 (shrI .u32 n 24))]⟩ 5 (0, 0)))
theorem F122.den (V : Value → List Value → PT) (n : Int) : denF Tryd.prog [] [] V [] Tryd.f122 [.v (.int .u32 n)] = F122.T n := by kernel_rfl
def F122.W (T122 : Int → PT) (args : List Value) : PT := match args with
  | [.int .u32 n] => T122 n
  | _ => fun _ _ => False
def F122.V : List Value → PT := F122.W F122.T
theorem F122.ok : FOk Tryd.prog 122 F122.V := by
  refine ⟨⟨_, Tryd.func122, rfl, rfl⟩, fun args => ?_⟩
  have hG : GOk Tryd.prog [] := GOk.nil
  have hV : VOk Tryd.prog noV := noV_ok
  unfold F122.V F122.W
  split
  · exact denF_okV hG hV Tryd.func122 (fun h Q hq => (F122.den _ _) ▸ hq)
  · exact fun h Q hq => hq.elim
def F101.T (n : Int) (l : Sl) : PT := fun h Q =>
  (0 : Int) ≤ 8 ∧ ∀ b, h b = none → ∃ vs, (h.new b (.cells ⟨[.int .u8 (IntKind.wrap .u8 (l.n : Int)), .int .u8 (IntKind.wrap .u8 (shrI .i64 (l.n : Int) 8)), .int .u8 (IntKind.wrap .u8 n)]⟩ 5 (0, 0))).row l.a (l.n * 1) vs ∧ (∀ v ∈ vs, Value.oneCell' v = true) ∧ appendD ⟨(some ⟨b, 0, none⟩), 3, 3⟩ 5 1 1 [.int .u8 0] l.n vs (h.new b (.cells ⟨[.int .u8 (IntKind.wrap .u8 (l.n : Int)), .int .u8 (IntKind.wrap .u8 (shrI .i64 (l.n : Int) 8)), .int .u8 (IntKind.wrap .u8 n)]⟩ 5 (0, 0))) fun l1 h1 => F114.T l1 h1 fun r h2 => ∃ n1 : Int, r = .int .u32 n1 ∧ F122.T n1 h2 fun r1 h3 => ∃ l2 : Sl, r1 = .slice l2.a l2.n l2.c ∧ ∃ vs1, h3.row l1.a (l1.n * 1) vs1 ∧ (∀ v ∈ vs1, Value.oneCell' v = true) ∧ appendD l2 5 1 1 [.int .u8 0] l1.n vs1 h3 fun l3 h4 => Q (.slice l3.a l3.n l3.c) h4
theorem F101.gen (V : Value → List Value → PT) (T114 : Sl → PT) (T122 : Int → PT) (n : Int) (l : Sl) : denF Tryd.prog [] [(114, F114.W T114), (122, F122.W T122)] V [] Tryd.f101 [.v (.int .i64 n), .v (.slice l.a l.n l.c)] = fun h Q =>
  (0 : Int) ≤ 8 ∧ ∀ b, h b = none → ∃ vs, (h.new b (.cells ⟨[.int .u8 (IntKind.wrap .u8 (l.n : Int)), .int .u8 (IntKind.wrap .u8 (shrI .i64 (l.n : Int) 8)), .int .u8 (IntKind.wrap .u8 n)]⟩ 5 (0, 0))).row l.a (l.n * 1) vs ∧ (∀ v ∈ vs, Value.oneCell' v = true) ∧ appendD ⟨(some ⟨b, 0, none⟩), 3, 3⟩ 5 1 1 [.int .u8 0] l.n vs (h.new b (.cells ⟨[.int .u8 (IntKind.wrap .u8 (l.n : Int)), .int .u8 (IntKind.wrap .u8 (shrI .i64 (l.n : Int) 8)), .int .u8 (IntKind.wrap .u8 n)]⟩ 5 (0, 0))) fun l1 h1 => T114 l1 h1 fun r h2 => ∃ n1 : Int, r = .int .u32 n1 ∧ T122 n1 h2 fun r1 h3 => ∃ l2 : Sl, r1 = .slice l2.a l2.n l2.c ∧ ∃ vs1, h3.row l1.a (l1.n * 1) vs1 ∧ (∀ v ∈ vs1, Value.oneCell' v = true) ∧ appendD l2 5 1 1 [.int .u8 0] l1.n vs1 h3 fun l3 h4 => Q (.slice l3.a l3.n l3.c) h4 := by kernel_rfl
theorem F101.den (V : Value → List Value → PT) (n : Int) (l : Sl) : denF Tryd.prog [] [(114, F114.V), (122, F122.V)] V [] Tryd.f101 [.v (.int .i64 n), .v (.slice l.a l.n l.c)] = F101.T n l := F101.gen V F114.T F122.T n l
def F101.W (T101 : Int → Sl → PT) (args : List Value) : PT := match args with
  | [.int .i64 n, .slice l_a l_n l_c] => T101 n ⟨l_a, l_n, l_c⟩
  | _ => fun _ _ => False
def F101.V : List Value → PT := F101.W F101.T
theorem F101.ok : FOk Tryd.prog 101 F101.V := by
  refine ⟨⟨_, Tryd.func101, rfl, rfl⟩, fun args => ?_⟩
  have hG : GOk Tryd.prog [(114, F114.V), (122, F122.V)] := GOk.cons F114.ok (GOk.cons F122.ok (GOk.nil))
  have hV : VOk Tryd.prog noV := noV_ok
  unfold F101.V F101.W
  split
  · exact denF_okV hG hV Tryd.func101 (fun h Q hq => (F101.den _ _ _) ▸ hq)
  · exact fun h Q hq => hq.elim
def F66.T (n : Int) (l : Sl) : PT := fun h Q =>
  ∃ J : Sl → Hp → Prop, (∀ l1 : Sl, ∀ h1 : Hp, J l1 h1 → ∃ (I : Sl → Sl → Int → Hp → Prop) (m : Sl → Sl → Int → Hp → Nat), I l l1 1 h1 ∧ (∀ l2 : Sl, ∀ l3 : Sl, ∀ n1 : Int, ∀ h2 : Hp, I l2 l3 n1 h2 → F100.T (IntKind.wrap .i64 ((iMax n 0) + (l3.n : Int))) h2 fun r h3 => ∃ n2 : Int, r = .int .i64 n2 ∧ par ((iMin (l2.n : Int) (IntKind.wrap .i64 (n2 - 7))) = (l2.n : Int)) (par (n1 = 1) (F101.T n1 l2 h3 fun r1 h4 => ∃ l4 : Sl, r1 = .slice l4.a l4.n l4.c ∧ ∃ vs, h4.row l4.a (l4.n * 1) vs ∧ (∀ v ∈ vs, Value.oneCell' v = true) ∧ appendD l3 5 1 1 [.int .u8 0] l4.n vs h4 fun l5 h5 => Q (.slice l5.a l5.n l5.c) h5) (F101.T 4 l2 h3 fun r2 h6 => ∃ l6 : Sl, r2 = .slice l6.a l6.n l6.c ∧ ∃ vs1, h6.row l6.a (l6.n * 1) vs1 ∧ (∀ v ∈ vs1, Value.oneCell' v = true) ∧ appendD l3 5 1 1 [.int .u8 0] l6.n vs1 h6 fun l7 h7 => Q (.slice l7.a l7.n l7.c) h7)) (par (n1 = 1) (Sl.okCut l2 0 (iMin (l2.n : Int) (IntKind.wrap .i64 (n2 - 7))) (l2.c : Int) ∧ F101.T 2 (Sl.cut l2 1 0 (iMin (l2.n : Int) (IntKind.wrap .i64 (n2 - 7))) (l2.c : Int)) h3 fun r3 h8 => ∃ l8 : Sl, r3 = .slice l8.a l8.n l8.c ∧ ∃ vs2, h8.row l8.a (l8.n * 1) vs2 ∧ (∀ v ∈ vs2, Value.oneCell' v = true) ∧ appendD l3 5 1 1 [.int .u8 0] l8.n vs2 h8 fun l9 h9 => Sl.okCut l2 (iMin (l2.n : Int) (IntKind.wrap .i64 (n2 - 7))) (l2.n : Int) (l2.c : Int) ∧ I (Sl.cut l2 1 (iMin (l2.n : Int) (IntKind.wrap .i64 (n2 - 7))) (l2.n : Int) (l2.c : Int)) l9 3 h9 ∧ m (Sl.cut l2 1 (iMin (l2.n : Int) (IntKind.wrap .i64 (n2 - 7))) (l2.n : Int) (l2.c : Int)) l9 3 h9 < m l2 l3 n1 h2) (Sl.okCut l2 0 (iMin (l2.n : Int) (IntKind.wrap .i64 (n2 - 7))) (l2.c : Int) ∧ F101.T n1 (Sl.cut l2 1 0 (iMin (l2.n : Int) (IntKind.wrap .i64 (n2 - 7))) (l2.c : Int)) h3 fun r4 h10 => ∃ l10 : Sl, r4 = .slice l10.a l10.n l10.c ∧ ∃ vs3, h10.row l10.a (l10.n * 1) vs3 ∧ (∀ v ∈ vs3, Value.oneCell' v = true) ∧ appendD l3 5 1 1 [.int .u8 0] l10.n vs3 h10 fun l11 h11 => Sl.okCut l2 (iMin (l2.n : Int) (IntKind.wrap .i64 (n2 - 7))) (l2.n : Int) (l2.c : Int) ∧ I (Sl.cut l2 1 (iMin (l2.n : Int) (IntKind.wrap .i64 (n2 - 7))) (l2.n : Int) (l2.c : Int)) l11 3 h11 ∧ m (Sl.cut l2 1 (iMin (l2.n : Int) (IntKind.wrap .i64 (n2 - 7))) (l2.n : Int) (l2.c : Int)) l11 3 h11 < m l2 l3 n1 h2)))) ∧ (F100.T (iMax n 0) h fun r5 h12 => ∃ n3 : Int, r5 = .int .i64 n3 ∧ par (n3 ≤ 7) (((0 : Int) ≤ n3 ∧ n3 ≤ n3 ∧ 1 * n3 ≤ 281474976710656) ∧ ∀ b, h12 b = none → J ⟨(some ⟨b, 0, none⟩), (n3 : Int).toNat, (n3 : Int).toNat⟩ (h12.new b (.cells (Builtin.zeroCells (List.toArray [.int .u8 0]) (n3 : Int).toNat) 5 (0, 0)))) (J ⟨none, 0, 0⟩ h12))
theorem F66.gen (V : Value → List Value → PT) (T100 : Int → PT) (T101 : Int → Sl → PT) (n : Int) (l : Sl) : denF Tryd.prog [] [(100, F100.W T100), (101, F101.W T101)] V [(15, .join [(5, .sl)] []), (126, .loop [(1, .sl), (5, .sl), (7, .int .i64)] []), (8079, .order [0, 1, 2, 3, 4])] Tryd.f66 [.v (.int .i64 n), .v (.slice l.a l.n l.c)] = fun h Q =>
  ∃ J : Sl → Hp → Prop, (∀ l1 : Sl, ∀ h1 : Hp, J l1 h1 → ∃ (I : Sl → Sl → Int → Hp → Prop) (m : Sl → Sl → Int → Hp → Nat), I l l1 1 h1 ∧ (∀ l2 : Sl, ∀ l3 : Sl, ∀ n1 : Int, ∀ h2 : Hp, I l2 l3 n1 h2 → T100 (IntKind.wrap .i64 ((iMax n 0) + (l3.n : Int))) h2 fun r h3 => ∃ n2 : Int, r = .int .i64 n2 ∧ par ((iMin (l2.n : Int) (IntKind.wrap .i64 (n2 - 7))) = (l2.n : Int)) (par (n1 = 1) (T101 n1 l2 h3 fun r1 h4 => ∃ l4 : Sl, r1 = .slice l4.a l4.n l4.c ∧ ∃ vs, h4.row l4.a (l4.n * 1) vs ∧ (∀ v ∈ vs, Value.oneCell' v = true) ∧ appendD l3 5 1 1 [.int .u8 0] l4.n vs h4 fun l5 h5 => Q (.slice l5.a l5.n l5.c) h5) (T101 4 l2 h3 fun r2 h6 => ∃ l6 : Sl, r2 = .slice l6.a l6.n l6.c ∧ ∃ vs1, h6.row l6.a (l6.n * 1) vs1 ∧ (∀ v ∈ vs1, Value.oneCell' v = true) ∧ appendD l3 5 1 1 [.int .u8 0] l6.n vs1 h6 fun l7 h7 => Q (.slice l7.a l7.n l7.c) h7)) (par (n1 = 1) (Sl.okCut l2 0 (iMin (l2.n : Int) (IntKind.wrap .i64 (n2 - 7))) (l2.c : Int) ∧ T101 2 (Sl.cut l2 1 0 (iMin (l2.n : Int) (IntKind.wrap .i64 (n2 - 7))) (l2.c : Int)) h3 fun r3 h8 => ∃ l8 : Sl, r3 = .slice l8.a l8.n l8.c ∧ ∃ vs2, h8.row l8.a (l8.n * 1) vs2 ∧ (∀ v ∈ vs2, Value.oneCell' v = true) ∧ appendD l3 5 1 1 [.int .u8 0] l8.n vs2 h8 fun l9 h9 => Sl.okCut l2 (iMin (l2.n : Int) (IntKind.wrap .i64 (n2 - 7))) (l2.n : Int) (l2.c : Int) ∧ I (Sl.cut l2 1 (iMin (l2.n : Int) (IntKind.wrap .i64 (n2 - 7))) (l2.n : Int) (l2.c : Int)) l9 3 h9 ∧ m (Sl.cut l2 1 (iMin (l2.n : Int) (IntKind.wrap .i64 (n2 - 7))) (l2.n : Int) (l2.c : Int)) l9 3 h9 < m l2 l3 n1 h2) (Sl.okCut l2 0 (iMin (l2.n : Int) (IntKind.wrap .i64 (n2 - 7))) (l2.c : Int) ∧ T101 n1 (Sl.cut l2 1 0 (iMin (l2.n : Int) (IntKind.wrap .i64 (n2 - 7))) (l2.c : Int)) h3 fun r4 h10 => ∃ l10 : Sl, r4 = .slice l10.a l10.n l10.c ∧ ∃ vs3, h10.row l10.a (l10.n * 1) vs3 ∧ (∀ v ∈ vs3, Value.oneCell' v = true) ∧ appendD l3 5 1 1 [.int .u8 0] l10.n vs3 h10 fun l11 h11 => Sl.okCut l2 (iMin (l2.n : Int) (IntKind.wrap .i64 (n2 - 7))) (l2.n : Int) (l2.c : Int) ∧ I (Sl.cut l2 1 (iMin (l2.n : Int) (IntKind.wrap .i64 (n2 - 7))) (l2.n : Int) (l2.c : Int)) l11 3 h11 ∧ m (Sl.cut l2 1 (iMin (l2.n : Int) (IntKind.wrap .i64 (n2 - 7))) (l2.n : Int) (l2.c : Int)) l11 3 h11 < m l2 l3 n1 h2)))) ∧ (T100 (iMax n 0) h fun r5 h12 => ∃ n3 : Int, r5 = .int .i64 n3 ∧ par (n3 ≤ 7) (((0 : Int) ≤ n3 ∧ n3 ≤ n3 ∧ 1 * n3 ≤ 281474976710656) ∧ ∀ b, h12 b = none → J ⟨(some ⟨b, 0, none⟩), (n3 : Int).toNat, (n3 : Int).toNat⟩ (h12.new b (.cells (Builtin.zeroCells (List.toArray [.int .u8 0]) (n3 : Int).toNat) 5 (0, 0)))) (J ⟨none, 0, 0⟩ h12)) := by kernel_rfl
theorem F66.den (V : Value → List Value → PT) (n : Int) (l : Sl) : denF Tryd.prog [] [(100, F100.V), (101, F101.V)] V [(15, .join [(5, .sl)] []), (126, .loop [(1, .sl), (5, .sl), (7, .int .i64)] []), (8079, .order [0, 1, 2, 3, 4])] Tryd.f66 [.v (.int .i64 n), .v (.slice l.a l.n l.c)] = F66.T n l := F66.gen V F100.T F101.T n l
def F66.W (T66 : Int → Sl → PT) (args : List Value) : PT := match args with
  | [.int .i64 n, .slice l_a l_n l_c] => T66 n ⟨l_a, l_n, l_c⟩
  | _ => fun _ _ => False
def F66.V : List Value → PT := F66.W F66.T
theorem F66.ok : FOk Tryd.prog 66 F66.V := by
  refine ⟨⟨_, Tryd.func66, rfl, rfl⟩, fun args => ?_⟩
  have hG : GOk Tryd.prog [(100, F100.V), (101, F101.V)] := GOk.cons F100.ok (GOk.cons F101.ok (GOk.nil))
  have hV : VOk Tryd.prog noV := noV_ok
  unfold F66.V F66.W
  split
  · exact denF_okV hG hV Tryd.func66 (fun h Q hq => (F66.den _ _ _) ▸ hq)
  · exact fun h Q hq => hq.elim
def F23.T (n : Int) (l : Sl) : PT := fun h Q =>
  ∃ (I : Sl → Int → Hp → Prop) (m : Sl → Int → Hp → Nat), I ⟨none, 0, 0⟩ 0 h ∧ (∀ l1 : Sl, ∀ n1 : Int, ∀ h1 : Hp, I l1 n1 h1 → par (n1 < (l.n : Int)) (∃ b o, (l.a : Option Addr) = some ⟨b, o, none⟩ ∧ ((0 : Int) ≤ n1 ∧ n1 < (l.n : Int)) ∧ ∃ n2 : Int, h1.at b (o + n1.toNat * 6) = some (.int .u64 n2) ∧ ∃ n3 : Int, h1.at b ((o + n1.toNat * 6) + 1) = some (.int .u64 n3) ∧ ∃ n4 : Int, h1.at b ((o + n1.toNat * 6) + 2) = some (.int .u64 n4) ∧ ∃ l2 : Sl, h1.at b ((o + n1.toNat * 6) + 3) = some (.slice l2.a l2.n l2.c) ∧ ∃ l3 : Sl, h1.at b ((o + n1.toNat * 6) + 4) = some (.slice l3.a l3.n l3.c) ∧ ∃ l4 : Sl, h1.at b ((o + n1.toNat * 6) + 5) = some (.slice l4.a l4.n l4.c) ∧ F21.T n2 n3 n4 l2 l3 l4 h1 fun r h2 => ∃ l5 : Sl, r = .slice l5.a l5.n l5.c ∧ ∃ (I1 : Sl → Int → Hp → Prop) (m1 : Sl → Int → Hp → Nat), I1 l1 0 h2 ∧ (∀ l6 : Sl, ∀ n5 : Int, ∀ h3 : Hp, I1 l6 n5 h3 → par (n5 < (l5.n : Int)) (∃ b1 o1, (l5.a : Option Addr) = some ⟨b1, o1, none⟩ ∧ ((0 : Int) ≤ n5 ∧ n5 < (l5.n : Int)) ∧ ∃ l7 : Sl, h3.at b1 (o1 + n5.toNat) = some (.slice l7.a l7.n l7.c) ∧ F66.T (IntKind.wrap .i64 ((iMax n 0) + (l6.n : Int))) l7 h3 fun r1 h4 => ∃ l8 : Sl, r1 = .slice l8.a l8.n l8.c ∧ ∃ vs, h4.row l8.a (l8.n * 1) vs ∧ (∀ v ∈ vs, Value.oneCell' v = true) ∧ appendD l6 5 1 1 [.int .u8 0] l8.n vs h4 fun l9 h5 => I1 l9 (IntKind.wrap .i64 (n5 + 1)) h5 ∧ m1 l9 (IntKind.wrap .i64 (n5 + 1)) h5 < m1 l6 n5 h3) (I l6 (IntKind.wrap .i64 (n1 + 1)) h3 ∧ m l6 (IntKind.wrap .i64 (n1 + 1)) h3 < m l1 n1 h1))) (Q (.slice l1.a l1.n l1.c) h1))
theorem F23.gen (V : Value → List Value → PT) (T21 : Int → Int → Int → Sl → Sl → Sl → PT) (T66 : Int → Sl → PT) (n : Int) (l : Sl) : denF Tryd.prog [7] [(21, F21.W T21), (66, F66.W T66)] V [(58, .loop [(5, .sl), (12, .int .i64)] []), (14950, .loop [(5, .sl), (19, .int .i64)] [])] Tryd.f23 [.v (.int .i64 n), .v (.slice l.a l.n l.c)] = fun h Q =>
  ∃ (I : Sl → Int → Hp → Prop) (m : Sl → Int → Hp → Nat), I ⟨none, 0, 0⟩ 0 h ∧ (∀ l1 : Sl, ∀ n1 : Int, ∀ h1 : Hp, I l1 n1 h1 → par (n1 < (l.n : Int)) (∃ b o, (l.a : Option Addr) = some ⟨b, o, none⟩ ∧ ((0 : Int) ≤ n1 ∧ n1 < (l.n : Int)) ∧ ∃ n2 : Int, h1.at b (o + n1.toNat * 6) = some (.int .u64 n2) ∧ ∃ n3 : Int, h1.at b ((o + n1.toNat * 6) + 1) = some (.int .u64 n3) ∧ ∃ n4 : Int, h1.at b ((o + n1.toNat * 6) + 2) = some (.int .u64 n4) ∧ ∃ l2 : Sl, h1.at b ((o + n1.toNat * 6) + 3) = some (.slice l2.a l2.n l2.c) ∧ ∃ l3 : Sl, h1.at b ((o + n1.toNat * 6) + 4) = some (.slice l3.a l3.n l3.c) ∧ ∃ l4 : Sl, h1.at b ((o + n1.toNat * 6) + 5) = some (.slice l4.a l4.n l4.c) ∧ T21 n2 n3 n4 l2 l3 l4 h1 fun r h2 => ∃ l5 : Sl, r = .slice l5.a l5.n l5.c ∧ ∃ (I1 : Sl → Int → Hp → Prop) (m1 : Sl → Int → Hp → Nat), I1 l1 0 h2 ∧ (∀ l6 : Sl, ∀ n5 : Int, ∀ h3 : Hp, I1 l6 n5 h3 → par (n5 < (l5.n : Int)) (∃ b1 o1, (l5.a : Option Addr) = some ⟨b1, o1, none⟩ ∧ ((0 : Int) ≤ n5 ∧ n5 < (l5.n : Int)) ∧ ∃ l7 : Sl, h3.at b1 (o1 + n5.toNat) = some (.slice l7.a l7.n l7.c) ∧ T66 (IntKind.wrap .i64 ((iMax n 0) + (l6.n : Int))) l7 h3 fun r1 h4 => ∃ l8 : Sl, r1 = .slice l8.a l8.n l8.c ∧ ∃ vs, h4.row l8.a (l8.n * 1) vs ∧ (∀ v ∈ vs, Value.oneCell' v = true) ∧ appendD l6 5 1 1 [.int .u8 0] l8.n vs h4 fun l9 h5 => I1 l9 (IntKind.wrap .i64 (n5 + 1)) h5 ∧ m1 l9 (IntKind.wrap .i64 (n5 + 1)) h5 < m1 l6 n5 h3) (I l6 (IntKind.wrap .i64 (n1 + 1)) h3 ∧ m l6 (IntKind.wrap .i64 (n1 + 1)) h3 < m l1 n1 h1))) (Q (.slice l1.a l1.n l1.c) h1)) := by kernel_rfl
theorem F23.den (V : Value → List Value → PT) (n : Int) (l : Sl) : denF Tryd.prog [7] [(21, F21.V), (66, F66.V)] V [(58, .loop [(5, .sl), (12, .int .i64)] []), (14950, .loop [(5, .sl), (19, .int .i64)] [])] Tryd.f23 [.v (.int .i64 n), .v (.slice l.a l.n l.c)] = F23.T n l := F23.gen V F21.T F66.T n l
def F23.W (T23 : Int → Sl → PT) (args : List Value) : PT := match args with
  | [.int .i64 n, .slice l_a l_n l_c] => T23 n ⟨l_a, l_n, l_c⟩
  | _ => fun _ _ => False
def F23.V : List Value → PT := F23.W F23.T
theorem F23.ok : FOk Tryd.prog 23 F23.V := by
  refine ⟨⟨_, Tryd.func23, rfl, rfl⟩, fun args => ?_⟩
  have hG : GOk Tryd.prog [(21, F21.V), (66, F66.V)] := GOk.cons F21.ok (GOk.cons F66.ok (GOk.nil))
  have hV : VOk Tryd.prog noV := noV_ok
  unfold F23.V F23.W
  split
  · exact denF_okV hG hV Tryd.func23 (fun h Q hq => (F23.den _ _ _) ▸ hq)
  · exact fun h Q hq => hq.elim
def F37.T (l : Sl) (l1 : Sl) : PT := fun h Q =>
  par ((l.n : Int) = (l1.n : Int)) (∃ (I : Int → Hp → Prop) (m : Int → Hp → Nat), I 0 h ∧ (∀ n : Int, ∀ h1 : Hp, I n h1 → par (n < (l.n : Int)) (∃ b o, (l.a : Option Addr) = some ⟨b, o, none⟩ ∧ ((0 : Int) ≤ n ∧ n < (l.n : Int)) ∧ ∃ s : ByteArray, h1.at b (o + n.toNat) = some (.string s) ∧ ∃ b1 o1, (l1.a : Option Addr) = some ⟨b1, o1, none⟩ ∧ ((0 : Int) ≤ n ∧ n < (l1.n : Int)) ∧ ∃ s1 : ByteArray, h1.at b1 (o1 + n.toNat) = some (.string s1) ∧ par (s = s1) (I (IntKind.wrap .i64 (n + 1)) h1 ∧ m (IntKind.wrap .i64 (n + 1)) h1 < m n h1) (Q (.bool false) h1)) (Q (.bool true) h1))) (Q (.bool false) h)
theorem F37.den (V : Value → List Value → PT) (l : Sl) (l1 : Sl) : denF Tryd.prog [] [] V [(58, .loop [(5, .int .i64)] []), (1864, .order [0, 1, 2, 3, 4, 5, 6, 7, 8])] Tryd.f37 [.v (.slice l.a l.n l.c), .v (.slice l1.a l1.n l1.c)] = F37.T l l1 := by kernel_rfl
def F37.W (T37 : Sl → Sl → PT) (args : List Value) : PT := match args with
  | [.slice l_a l_n l_c, .slice l1_a l1_n l1_c] => T37 ⟨l_a, l_n, l_c⟩ ⟨l1_a, l1_n, l1_c⟩
  | _ => fun _ _ => False
def F37.V : List Value → PT := F37.W F37.T
theorem F37.ok : FOk Tryd.prog 37 F37.V := by
  refine ⟨⟨_, Tryd.func37, rfl, rfl⟩, fun args => ?_⟩
  have hG : GOk Tryd.prog [] := GOk.nil
  have hV : VOk Tryd.prog noV := noV_ok
  unfold F37.V F37.W
  split
  · exact denF_okV hG hV Tryd.func37 (fun h Q hq => (F37.den _ _ _) ▸ hq)
  · exact fun h Q hq => hq.elim
def F68.T (n : Int) (n1 : Int) (n2 : Int) (l : Sl) (l1 : Sl) (l2 : Sl) (n3 : Int) (n4 : Int) (n5 : Int) (l3 : Sl) (l4 : Sl) (l5 : Sl) : PT := fun h Q =>
  par (n = n3) (par (n1 = n4) (par (n2 = n5) (par ((l.n : Int) = (l3.n : Int)) (par ((l1.n : Int) = (l4.n : Int)) (F37.T l2 l5 h fun r h1 => ∃ b : Bool, r = .bool b ∧ parB b (∃ (I : Int → Hp → Prop) (m : Int → Hp → Nat), I 0 h1 ∧ (∀ n6 : Int, ∀ h2 : Hp, I n6 h2 → par (n6 < (l.n : Int)) (∃ b1 o, (l.a : Option Addr) = some ⟨b1, o, none⟩ ∧ ((0 : Int) ≤ n6 ∧ n6 < (l.n : Int)) ∧ ∃ n7 : Int, h2.at b1 (o + n6.toNat * 2) = some (.int .i64 n7) ∧ ∃ n8 : Int, h2.at b1 ((o + n6.toNat * 2) + 1) = some (.int .u64 n8) ∧ ∃ b2 o1, (l3.a : Option Addr) = some ⟨b2, o1, none⟩ ∧ ((0 : Int) ≤ n6 ∧ n6 < (l3.n : Int)) ∧ ∃ n9 : Int, h2.at b2 (o1 + n6.toNat * 2) = some (.int .i64 n9) ∧ ∃ n10 : Int, h2.at b2 ((o1 + n6.toNat * 2) + 1) = some (.int .u64 n10) ∧ par (([.int .i64 n7, .int .u64 n8] : List Value) = [.int .i64 n9, .int .u64 n10]) (I (IntKind.wrap .i64 (n6 + 1)) h2 ∧ m (IntKind.wrap .i64 (n6 + 1)) h2 < m n6 h2) (Q (.bool false) h2)) (∃ (I1 : Int → Hp → Prop) (m1 : Int → Hp → Nat), I1 0 h2 ∧ (∀ n11 : Int, ∀ h3 : Hp, I1 n11 h3 → par (n11 < (l1.n : Int)) (∃ b3 o2, (l1.a : Option Addr) = some ⟨b3, o2, none⟩ ∧ ((0 : Int) ≤ n11 ∧ n11 < (l1.n : Int)) ∧ ∃ n12 : Int, h3.at b3 (o2 + n11.toNat * 7) = some (.int .i64 n12) ∧ ∃ n13 : Int, h3.at b3 ((o2 + n11.toNat * 7) + 1) = some (.int .u64 n13) ∧ ∃ n14 : Int, h3.at b3 ((o2 + n11.toNat * 7) + 2) = some (.int .i64 n14) ∧ ∃ n15 : Int, h3.at b3 ((o2 + n11.toNat * 7) + 3) = some (.int .i64 n15) ∧ ∃ n16 : Int, h3.at b3 ((o2 + n11.toNat * 7) + 4) = some (.int .i64 n16) ∧ ∃ s : ByteArray, h3.at b3 ((o2 + n11.toNat * 7) + 5) = some (.string s) ∧ ∃ s1 : ByteArray, h3.at b3 ((o2 + n11.toNat * 7) + 6) = some (.string s1) ∧ ∃ b4 o3, (l4.a : Option Addr) = some ⟨b4, o3, none⟩ ∧ ((0 : Int) ≤ n11 ∧ n11 < (l4.n : Int)) ∧ ∃ n17 : Int, h3.at b4 (o3 + n11.toNat * 7) = some (.int .i64 n17) ∧ ∃ n18 : Int, h3.at b4 ((o3 + n11.toNat * 7) + 1) = some (.int .u64 n18) ∧ ∃ n19 : Int, h3.at b4 ((o3 + n11.toNat * 7) + 2) = some (.int .i64 n19) ∧ ∃ n20 : Int, h3.at b4 ((o3 + n11.toNat * 7) + 3) = some (.int .i64 n20) ∧ ∃ n21 : Int, h3.at b4 ((o3 + n11.toNat * 7) + 4) = some (.int .i64 n21) ∧ ∃ s2 : ByteArray, h3.at b4 ((o3 + n11.toNat * 7) + 5) = some (.string s2) ∧ ∃ s3 : ByteArray, h3.at b4 ((o3 + n11.toNat * 7) + 6) = some (.string s3) ∧ par (([.int .i64 n12, .int .u64 n13, .int .i64 n14, .int .i64 n15, .int .i64 n16, .string s, .string s1] : List Value) = [.int .i64 n17, .int .u64 n18, .int .i64 n19, .int .i64 n20, .int .i64 n21, .string s2, .string s3]) (I1 (IntKind.wrap .i64 (n11 + 1)) h3 ∧ m1 (IntKind.wrap .i64 (n11 + 1)) h3 < m1 n11 h3) (Q (.bool false) h3)) (Q (.bool true) h3))))) (Q (.bool false) h1)) (Q (.bool false) h)) (Q (.bool false) h)) (Q (.bool false) h)) (Q (.bool false) h)) (Q (.bool false) h)
theorem F68.gen (V : Value → List Value → PT) (T37 : Sl → Sl → PT) (n : Int) (n1 : Int) (n2 : Int) (l : Sl) (l1 : Sl) (l2 : Sl) (n3 : Int) (n4 : Int) (n5 : Int) (l3 : Sl) (l4 : Sl) (l5 : Sl) : denF Tryd.prog [2, 3] [(37, F37.W T37)] V [(58, .loop [(5, .int .i64)] []), (122, .loop [(6, .int .i64)] []), (1864, .order [0, 1, 2, 3, 4, 5, 6, 7, 8, 9, 10]), (3912, .order [0, 1, 2, 3, 4, 5, 6, 7, 8, 9, 10])] Tryd.f68 [.v (.agg ⟨[.int .u64 n, .int .u64 n1, .int .u64 n2, .slice l.a l.n l.c, .slice l1.a l1.n l1.c, .slice l2.a l2.n l2.c]⟩), .v (.agg ⟨[.int .u64 n3, .int .u64 n4, .int .u64 n5, .slice l3.a l3.n l3.c, .slice l4.a l4.n l4.c, .slice l5.a l5.n l5.c]⟩)] = fun h Q =>
  par (n = n3) (par (n1 = n4) (par (n2 = n5) (par ((l.n : Int) = (l3.n : Int)) (par ((l1.n : Int) = (l4.n : Int)) (T37 l2 l5 h fun r h1 => ∃ b : Bool, r = .bool b ∧ parB b (∃ (I : Int → Hp → Prop) (m : Int → Hp → Nat), I 0 h1 ∧ (∀ n6 : Int, ∀ h2 : Hp, I n6 h2 → par (n6 < (l.n : Int)) (∃ b1 o, (l.a : Option Addr) = some ⟨b1, o, none⟩ ∧ ((0 : Int) ≤ n6 ∧ n6 < (l.n : Int)) ∧ ∃ n7 : Int, h2.at b1 (o + n6.toNat * 2) = some (.int .i64 n7) ∧ ∃ n8 : Int, h2.at b1 ((o + n6.toNat * 2) + 1) = some (.int .u64 n8) ∧ ∃ b2 o1, (l3.a : Option Addr) = some ⟨b2, o1, none⟩ ∧ ((0 : Int) ≤ n6 ∧ n6 < (l3.n : Int)) ∧ ∃ n9 : Int, h2.at b2 (o1 + n6.toNat * 2) = some (.int .i64 n9) ∧ ∃ n10 : Int, h2.at b2 ((o1 + n6.toNat * 2) + 1) = some (.int .u64 n10) ∧ par (([.int .i64 n7, .int .u64 n8] : List Value) = [.int .i64 n9, .int .u64 n10]) (I (IntKind.wrap .i64 (n6 + 1)) h2 ∧ m (IntKind.wrap .i64 (n6 + 1)) h2 < m n6 h2) (Q (.bool false) h2)) (∃ (I1 : Int → Hp → Prop) (m1 : Int → Hp → Nat), I1 0 h2 ∧ (∀ n11 : Int, ∀ h3 : Hp, I1 n11 h3 → par (n11 < (l1.n : Int)) (∃ b3 o2, (l1.a : Option Addr) = some ⟨b3, o2, none⟩ ∧ ((0 : Int) ≤ n11 ∧ n11 < (l1.n : Int)) ∧ ∃ n12 : Int, h3.at b3 (o2 + n11.toNat * 7) = some (.int .i64 n12) ∧ ∃ n13 : Int, h3.at b3 ((o2 + n11.toNat * 7) + 1) = some (.int .u64 n13) ∧ ∃ n14 : Int, h3.at b3 ((o2 + n11.toNat * 7) + 2) = some (.int .i64 n14) ∧ ∃ n15 : Int, h3.at b3 ((o2 + n11.toNat * 7) + 3) = some (.int .i64 n15) ∧ ∃ n16 : Int, h3.at b3 ((o2 + n11.toNat * 7) + 4) = some (.int .i64 n16) ∧ ∃ s : ByteArray, h3.at b3 ((o2 + n11.toNat * 7) + 5) = some (.string s) ∧ ∃ s1 : ByteArray, h3.at b3 ((o2 + n11.toNat * 7) + 6) = some (.string s1) ∧ ∃ b4 o3, (l4.a : Option Addr) = some ⟨b4, o3, none⟩ ∧ ((0 : Int) ≤ n11 ∧ n11 < (l4.n : Int)) ∧ ∃ n17 : Int, h3.at b4 (o3 + n11.toNat * 7) = some (.int .i64 n17) ∧ ∃ n18 : Int, h3.at b4 ((o3 + n11.toNat * 7) + 1) = some (.int .u64 n18) ∧ ∃ n19 : Int, h3.at b4 ((o3 + n11.toNat * 7) + 2) = some (.int .i64 n19) ∧ ∃ n20 : Int, h3.at b4 ((o3 + n11.toNat * 7) + 3) = some (.int .i64 n20) ∧ ∃ n21 : Int, h3.at b4 ((o3 + n11.toNat * 7) + 4) = some (.int .i64 n21) ∧ ∃ s2 : ByteArray, h3.at b4 ((o3 + n11.toNat * 7) + 5) = some (.string s2) ∧ ∃ s3 : ByteArray, h3.at b4 ((o3 + n11.toNat * 7) + 6) = some (.string s3) ∧ par (([.int .i64 n12, .int .u64 n13, .int .i64 n14, .int .i64 n15, .int .i64 n16, .string s, .string s1] : List Value) = [.int .i64 n17, .int .u64 n18, .int .i64 n19, .int .i64 n20, .int .i64 n21, .string s2, .string s3]) (I1 (IntKind.wrap .i64 (n11 + 1)) h3 ∧ m1 (IntKind.wrap .i64 (n11 + 1)) h3 < m1 n11 h3) (Q (.bool false) h3)) (Q (.bool true) h3))))) (Q (.bool false) h1)) (Q (.bool false) h)) (Q (.bool false) h)) (Q (.bool false) h)) (Q (.bool false) h)) (Q (.bool false) h) := by kernel_rfl
theorem F68.den (V : Value → List Value → PT) (n : Int) (n1 : Int) (n2 : Int) (l : Sl) (l1 : Sl) (l2 : Sl) (n3 : Int) (n4 : Int) (n5 : Int) (l3 : Sl) (l4 : Sl) (l5 : Sl) : denF Tryd.prog [2, 3] [(37, F37.V)] V [(58, .loop [(5, .int .i64)] []), (122, .loop [(6, .int .i64)] []), (1864, .order [0, 1, 2, 3, 4, 5, 6, 7, 8, 9, 10]), (3912, .order [0, 1, 2, 3, 4, 5, 6, 7, 8, 9, 10])] Tryd.f68 [.v (.agg ⟨[.int .u64 n, .int .u64 n1, .int .u64 n2, .slice l.a l.n l.c, .slice l1.a l1.n l1.c, .slice l2.a l2.n l2.c]⟩), .v (.agg ⟨[.int .u64 n3, .int .u64 n4, .int .u64 n5, .slice l3.a l3.n l3.c, .slice l4.a l4.n l4.c, .slice l5.a l5.n l5.c]⟩)] = F68.T n n1 n2 l l1 l2 n3 n4 n5 l3 l4 l5 := F68.gen V F37.T n n1 n2 l l1 l2 n3 n4 n5 l3 l4 l5
def F68.W (T68 : Int → Int → Int → Sl → Sl → Sl → Int → Int → Int → Sl → Sl → Sl → PT) (args : List Value) : PT := match args with
  | [.agg ⟨[.int .u64 n, .int .u64 n1, .int .u64 n2, .slice l_a l_n l_c, .slice l1_a l1_n l1_c, .slice l2_a l2_n l2_c]⟩, .agg ⟨[.int .u64 n3, .int .u64 n4, .int .u64 n5, .slice l3_a l3_n l3_c, .slice l4_a l4_n l4_c, .slice l5_a l5_n l5_c]⟩] => T68 n n1 n2 ⟨l_a, l_n, l_c⟩ ⟨l1_a, l1_n, l1_c⟩ ⟨l2_a, l2_n, l2_c⟩ n3 n4 n5 ⟨l3_a, l3_n, l3_c⟩ ⟨l4_a, l4_n, l4_c⟩ ⟨l5_a, l5_n, l5_c⟩
  | _ => fun _ _ => False
def F68.V : List Value → PT := F68.W F68.T
theorem F68.ok : FOk Tryd.prog 68 F68.V := by
  refine ⟨⟨_, Tryd.func68, rfl, rfl⟩, fun args => ?_⟩
  have hG : GOk Tryd.prog [(37, F37.V)] := GOk.cons F37.ok (GOk.nil)
  have hV : VOk Tryd.prog noV := noV_ok
  unfold F68.V F68.W
  split
  · exact denF_okV hG hV Tryd.func68 (fun h Q hq => (F68.den _ _ _ _ _ _ _ _ _ _ _ _ _) ▸ hq)
  · exact fun h Q hq => hq.elim
def F25.T (l : Sl) (l1 : Sl) : PT := fun h Q =>
  par ((l.n : Int) = (l1.n : Int)) (∃ (I : Int → Hp → Prop) (m : Int → Hp → Nat), I 0 h ∧ (∀ n : Int, ∀ h1 : Hp, I n h1 → par (n < (l.n : Int)) (∃ b o, (l.a : Option Addr) = some ⟨b, o, none⟩ ∧ ((0 : Int) ≤ n ∧ n < (l.n : Int)) ∧ ∃ n1 : Int, h1.at b (o + n.toNat * 6) = some (.int .u64 n1) ∧ ∃ n2 : Int, h1.at b ((o + n.toNat * 6) + 1) = some (.int .u64 n2) ∧ ∃ n3 : Int, h1.at b ((o + n.toNat * 6) + 2) = some (.int .u64 n3) ∧ ∃ l2 : Sl, h1.at b ((o + n.toNat * 6) + 3) = some (.slice l2.a l2.n l2.c) ∧ ∃ l3 : Sl, h1.at b ((o + n.toNat * 6) + 4) = some (.slice l3.a l3.n l3.c) ∧ ∃ l4 : Sl, h1.at b ((o + n.toNat * 6) + 5) = some (.slice l4.a l4.n l4.c) ∧ ∃ b1 o1, (l1.a : Option Addr) = some ⟨b1, o1, none⟩ ∧ ((0 : Int) ≤ n ∧ n < (l1.n : Int)) ∧ ∃ n4 : Int, h1.at b1 (o1 + n.toNat * 6) = some (.int .u64 n4) ∧ ∃ n5 : Int, h1.at b1 ((o1 + n.toNat * 6) + 1) = some (.int .u64 n5) ∧ ∃ n6 : Int, h1.at b1 ((o1 + n.toNat * 6) + 2) = some (.int .u64 n6) ∧ ∃ l5 : Sl, h1.at b1 ((o1 + n.toNat * 6) + 3) = some (.slice l5.a l5.n l5.c) ∧ ∃ l6 : Sl, h1.at b1 ((o1 + n.toNat * 6) + 4) = some (.slice l6.a l6.n l6.c) ∧ ∃ l7 : Sl, h1.at b1 ((o1 + n.toNat * 6) + 5) = some (.slice l7.a l7.n l7.c) ∧ F68.T n1 n2 n3 l2 l3 l4 n4 n5 n6 l5 l6 l7 h1 fun r h2 => ∃ b2 : Bool, r = .bool b2 ∧ parB b2 (I (IntKind.wrap .i64 (n + 1)) h2 ∧ m (IntKind.wrap .i64 (n + 1)) h2 < m n h1) (Q (.bool false) h2)) (Q (.bool true) h1))) (Q (.bool false) h)
theorem F25.gen (V : Value → List Value → PT) (T68 : Int → Int → Int → Sl → Sl → Sl → Int → Int → Int → Sl → Sl → Sl → PT) (l : Sl) (l1 : Sl) : denF Tryd.prog [] [(68, F68.W T68)] V [(58, .loop [(5, .int .i64)] []), (1864, .order [0, 1, 2, 3, 4, 5, 6, 7, 8, 9])] Tryd.f25 [.v (.slice l.a l.n l.c), .v (.slice l1.a l1.n l1.c)] = fun h Q =>
  par ((l.n : Int) = (l1.n : Int)) (∃ (I : Int → Hp → Prop) (m : Int → Hp → Nat), I 0 h ∧ (∀ n : Int, ∀ h1 : Hp, I n h1 → par (n < (l.n : Int)) (∃ b o, (l.a : Option Addr) = some ⟨b, o, none⟩ ∧ ((0 : Int) ≤ n ∧ n < (l.n : Int)) ∧ ∃ n1 : Int, h1.at b (o + n.toNat * 6) = some (.int .u64 n1) ∧ ∃ n2 : Int, h1.at b ((o + n.toNat * 6) + 1) = some (.int .u64 n2) ∧ ∃ n3 : Int, h1.at b ((o + n.toNat * 6) + 2) = some (.int .u64 n3) ∧ ∃ l2 : Sl, h1.at b ((o + n.toNat * 6) + 3) = some (.slice l2.a l2.n l2.c) ∧ ∃ l3 : Sl, h1.at b ((o + n.toNat * 6) + 4) = some (.slice l3.a l3.n l3.c) ∧ ∃ l4 : Sl, h1.at b ((o + n.toNat * 6) + 5) = some (.slice l4.a l4.n l4.c) ∧ ∃ b1 o1, (l1.a : Option Addr) = some ⟨b1, o1, none⟩ ∧ ((0 : Int) ≤ n ∧ n < (l1.n : Int)) ∧ ∃ n4 : Int, h1.at b1 (o1 + n.toNat * 6) = some (.int .u64 n4) ∧ ∃ n5 : Int, h1.at b1 ((o1 + n.toNat * 6) + 1) = some (.int .u64 n5) ∧ ∃ n6 : Int, h1.at b1 ((o1 + n.toNat * 6) + 2) = some (.int .u64 n6) ∧ ∃ l5 : Sl, h1.at b1 ((o1 + n.toNat * 6) + 3) = some (.slice l5.a l5.n l5.c) ∧ ∃ l6 : Sl, h1.at b1 ((o1 + n.toNat * 6) + 4) = some (.slice l6.a l6.n l6.c) ∧ ∃ l7 : Sl, h1.at b1 ((o1 + n.toNat * 6) + 5) = some (.slice l7.a l7.n l7.c) ∧ T68 n1 n2 n3 l2 l3 l4 n4 n5 n6 l5 l6 l7 h1 fun r h2 => ∃ b2 : Bool, r = .bool b2 ∧ parB b2 (I (IntKind.wrap .i64 (n + 1)) h2 ∧ m (IntKind.wrap .i64 (n + 1)) h2 < m n h1) (Q (.bool false) h2)) (Q (.bool true) h1))) (Q (.bool false) h) := by kernel_rfl
theorem F25.den (V : Value → List Value → PT) (l : Sl) (l1 : Sl) : denF Tryd.prog [] [(68, F68.V)] V [(58, .loop [(5, .int .i64)] []), (1864, .order [0, 1, 2, 3, 4, 5, 6, 7, 8, 9])] Tryd.f25 [.v (.slice l.a l.n l.c), .v (.slice l1.a l1.n l1.c)] = F25.T l l1 := F25.gen V F68.T l l1
def F25.W (T25 : Sl → Sl → PT) (args : List Value) : PT := match args with
  | [.slice l_a l_n l_c, .slice l1_a l1_n l1_c] => T25 ⟨l_a, l_n, l_c⟩ ⟨l1_a, l1_n, l1_c⟩
  | _ => fun _ _ => False
def F25.V : List Value → PT := F25.W F25.T
theorem F25.ok : FOk Tryd.prog 25 F25.V := by
  refine ⟨⟨_, Tryd.func25, rfl, rfl⟩, fun args => ?_⟩
  have hG : GOk Tryd.prog [(68, F68.V)] := GOk.cons F68.ok (GOk.nil)
  have hV : VOk Tryd.prog noV := noV_ok
  unfold F25.V F25.W
  split
  · exact denF_okV hG hV Tryd.func25 (fun h Q hq => (F25.den _ _ _) ▸ hq)
  · exact fun h Q hq => hq.elim
def F26.T (l : Sl) : PT := fun h Q =>
  ∃ (I : Int → Hp → Prop) (m : Int → Hp → Nat), I 0 h ∧ (∀ n : Int, ∀ h1 : Hp, I n h1 → par (n < (l.n : Int)) (∃ (I1 : Int → Hp → Prop) (m1 : Int → Hp → Nat), I1 0 h1 ∧ (∀ n1 : Int, ∀ h2 : Hp, I1 n1 h2 → ∃ b o, (l.a : Option Addr) = some ⟨b, o, none⟩ ∧ ((0 : Int) ≤ n ∧ n < (l.n : Int)) ∧ ∃ l1 : Sl, h2.at b ((o + n.toNat * 6) + 3) = some (.slice l1.a l1.n l1.c) ∧ par (n1 < (l1.n : Int)) (∃ b1 o1, (l.a : Option Addr) = some ⟨b1, o1, none⟩ ∧ ((0 : Int) ≤ n ∧ n < (l.n : Int)) ∧ ∃ l2 : Sl, h2.at b1 ((o1 + n.toNat * 6) + 3) = some (.slice l2.a l2.n l2.c) ∧ ∃ b2 o2, (l2.a : Option Addr) = some ⟨b2, o2, none⟩ ∧ ((0 : Int) ≤ n1 ∧ n1 < (l2.n : Int)) ∧ h2.canW b2 (o2 + n1.toNat * 2) 2 ∧ I1 (IntKind.wrap .i64 (n1 + 1)) (h2.wr b2 (o2 + n1.toNat * 2) [.int .i64 3, .int .u64 77]) ∧ m1 (IntKind.wrap .i64 (n1 + 1)) (h2.wr b2 (o2 + n1.toNat * 2) [.int .i64 3, .int .u64 77]) < m1 n1 h2) (∃ (I2 : Int → Hp → Prop) (m2 : Int → Hp → Nat), I2 0 h2 ∧ (∀ n2 : Int, ∀ h3 : Hp, I2 n2 h3 → ∃ b3 o3, (l.a : Option Addr) = some ⟨b3, o3, none⟩ ∧ ((0 : Int) ≤ n ∧ n < (l.n : Int)) ∧ ∃ l3 : Sl, h3.at b3 ((o3 + n.toNat * 6) + 4) = some (.slice l3.a l3.n l3.c) ∧ par (n2 < (l3.n : Int)) (∃ b4 o4, (l.a : Option Addr) = some ⟨b4, o4, none⟩ ∧ ((0 : Int) ≤ n ∧ n < (l.n : Int)) ∧ ∃ l4 : Sl, h3.at b4 ((o4 + n.toNat * 6) + 4) = some (.slice l4.a l4.n l4.c) ∧ ∃ b5 o5, (l4.a : Option Addr) = some ⟨b5, o5, none⟩ ∧ ((0 : Int) ≤ n2 ∧ n2 < (l4.n : Int)) ∧ h3.canW b5 (o5 + n2.toNat * 7) 7 ∧ I2 (IntKind.wrap .i64 (n2 + 1)) (h3.wr b5 (o5 + n2.toNat * 7) [.int .i64 2, .int .u64 78, .int .i64 0, .int .i64 0, .int .i64 0, .string (ByteArray.mk #[115]), .string (ByteArray.mk #[116])]) ∧ m2 (IntKind.wrap .i64 (n2 + 1)) (h3.wr b5 (o5 + n2.toNat * 7) [.int .i64 2, .int .u64 78, .int .i64 0, .int .i64 0, .int .i64 0, .string (ByteArray.mk #[115]), .string (ByteArray.mk #[116])]) < m2 n2 h3) (∃ (I3 : Int → Hp → Prop) (m3 : Int → Hp → Nat), I3 0 h3 ∧ (∀ n3 : Int, ∀ h4 : Hp, I3 n3 h4 → ∃ b6 o6, (l.a : Option Addr) = some ⟨b6, o6, none⟩ ∧ ((0 : Int) ≤ n ∧ n < (l.n : Int)) ∧ ∃ l5 : Sl, h4.at b6 ((o6 + n.toNat * 6) + 5) = some (.slice l5.a l5.n l5.c) ∧ par (n3 < (l5.n : Int)) (∃ b7 o7, (l.a : Option Addr) = some ⟨b7, o7, none⟩ ∧ ((0 : Int) ≤ n ∧ n < (l.n : Int)) ∧ ∃ l6 : Sl, h4.at b7 ((o7 + n.toNat * 6) + 5) = some (.slice l6.a l6.n l6.c) ∧ ∃ b8 o8, (l6.a : Option Addr) = some ⟨b8, o8, none⟩ ∧ ((0 : Int) ≤ n3 ∧ n3 < (l6.n : Int)) ∧ h4.canW b8 (o8 + n3.toNat) 1 ∧ I3 (IntKind.wrap .i64 (n3 + 1)) (h4.wr b8 (o8 + n3.toNat) [.string (ByteArray.mk #[115, 112, 111, 105, 108, 116])]) ∧ m3 (IntKind.wrap .i64 (n3 + 1)) (h4.wr b8 (o8 + n3.toNat) [.string (ByteArray.mk #[115, 112, 111, 105, 108, 116])]) < m3 n3 h4) (I (IntKind.wrap .i64 (n + 1)) h4 ∧ m (IntKind.wrap .i64 (n + 1)) h4 < m n h1))))))) (Q (.tuple ⟨[]⟩) h1))
theorem F26.den (V : Value → List Value → PT) (l : Sl) : denF Tryd.prog [] [] V [(6, .loop [(2, .int .i64)] []), (802, .loop [(3, .int .i64)] []), (1610, .loop [(4, .int .i64)] []), (1614, .loop [(5, .int .i64)] [])] Tryd.f26 [.v (.slice l.a l.n l.c)] = F26.T l := by kernel_rfl
def F26.W (T26 : Sl → PT) (args : List Value) : PT := match args with
  | [.slice l_a l_n l_c] => T26 ⟨l_a, l_n, l_c⟩
  | _ => fun _ _ => False
def F26.V : List Value → PT := F26.W F26.T
theorem F26.ok : FOk Tryd.prog 26 F26.V := by
  refine ⟨⟨_, Tryd.func26, rfl, rfl⟩, fun args => ?_⟩
  have hG : GOk Tryd.prog [] := GOk.nil
  have hV : VOk Tryd.prog noV := noV_ok
  unfold F26.V F26.W
  split
  · exact denF_okV hG hV Tryd.func26 (fun h Q hq => (F26.den _ _) ▸ hq)
  · exact fun h Q hq => hq.elim
end Go.Eng.YtblghgacokoklaaDoor
end
section
/-
  SPECS, 1: numbers and texts as bytes.
-/
set_option linter.unusedSimpArgs false
set_option linter.unusedVariables false
namespace Go.Eng
def encF : Nat → Nat → List Int
  | 0, _ => []
  | f + 1, n => if n < 128 then [(n : Int)] else ((n % 128 + 128 : Nat) : Int) :: encF f (n / 128)
/-- A number's bytes. -/
def encU (n : Nat) : List Int := encF 10 n
/-- Bytes as cells. -/
def bv (l : List Int) : List Value := l.map (Value.int .u8)
theorem bv_append (a b : List Int) : bv (a ++ b) = bv a ++ bv b := List.map_append
theorem bv_length (a : List Int) : (bv a).length = a.length := List.length_map _
theorem or128 (n : Int) (h : 0 ≤ n) : bitsI .or .u8 (IntKind.wrap .u8 n) 128 = ((n.toNat % 128 + 128 : Nat) : Int) := by
  have key : ∀ x : Fin 256, bitsI .or .u8 ((x.val : Nat) : Int) 128 = ((x.val % 128 + 128 : Nat) : Int) := by decide +kernel
  have h1 : IntKind.wrap .u8 n = ((n.toNat % 256 : Nat) : Int) := by rw [IntKind.wrap_u8]; omega
  rw [h1]
  have := key ⟨n.toNat % 256, Nat.mod_lt _ (by decide)⟩
  simp only at this
  rw [this]
  congr 1
  omega
theorem shr7 (n : Int) (h : 0 ≤ n) : shrI .u64 n 7 = ((n.toNat / 128 : Nat) : Int) := by
  unfold shrI
  have : (2 : Int) ^ (min (7 : Int).toNat (IntKind.bits .u64)) = 128 := by decide
  rw [this, Int.fdiv_eq_ediv_of_nonneg _ (by decide)]
  omega
end Go.Eng
namespace Go.Eng.YtblghgacokoklaaDoor
theorem number_spec {h : Hp} {l : Sl} {xs : List Value} {n : Int} {Q : Value → Hp → Prop} (B : Buf h l 1 5 xs) (h0 : 0 ≤ n) (h1 : n < 18446744073709551616) (hl : l.n ≤ 70368744177664)
    (hQ : ∀ l' h', Buf h' l' 1 5 (xs ++ bv (encU n.toNat)) → Upd h h' l l' → Q (.slice l'.a l'.n l'.c) h') : F81.T l n h Q := by
  refine ⟨fun l1 n1 h1 => ∃ f ys, f ≤ 10 ∧ ys.length + f = 10 ∧ Buf h1 l1 1 5 (xs ++ bv ys) ∧ Upd h h1 l l1 ∧ 0 ≤ n1 ∧ n1.toNat < 128 ^ f ∧ 0 < f ∧ encU n.toNat = ys ++ encF f n1.toNat, fun _ n1 _ => n1.toNat,
    ⟨10, [], Nat.le_refl _, rfl, by simpa [bv] using B, Upd.refl _ _, h0, by omega, by decide, rfl⟩, ?_⟩
  rintro l1 n1 h1 ⟨f, ys, hf, hys, B1, U1, hn1, hlt, hf0, he⟩
  have hln : l1.n = l.n + ys.length := by
    have e1 := B1.len; have e2 := B.len
    simp only [List.length_append, bv_length] at e1
    omega
  obtain ⟨f, rfl⟩ : ∃ g, f = g + 1 := ⟨f - 1, by omega⟩
  refine ⟨fun hge => ?_, fun hlt2 => ?_⟩
  · have hnn : ¬ n1.toNat < 128 := by omega
    have hf1 : 0 < f := by
      rcases Nat.eq_zero_or_pos f with rfl | h
      · simp at hlt; omega
      · exact h
    refine append_buf B1 rfl rfl (by omega) fun l2 h2 B2 hn2 U2 => ⟨by decide, ⟨f, ys ++ [((n1.toNat % 128 + 128 : Nat) : Int)], by omega, by simp; omega, ?_, U1.trans U2, ?_, ?_, hf1, ?_⟩, ?_⟩
    · rw [or128 n1 hn1] at B2
      rw [bv_append, ← List.append_assoc]
      exact B2
    · rw [shr7 n1 hn1]; omega
    · rw [shr7 n1 hn1, Int.toNat_natCast]
      rw [Nat.pow_succ] at hlt
      omega
    · rw [shr7 n1 hn1, Int.toNat_natCast, he]
      simp only [encF, if_neg hnn, List.append_assoc, List.singleton_append]
    · show (shrI .u64 n1 7).toNat < n1.toNat
      rw [shr7 n1 hn1, Int.toNat_natCast]; omega
  · have hnn : n1.toNat < 128 := by omega
    refine append_buf B1 rfl rfl (by omega) fun l2 h2 B2 hn2 U2 => hQ l2 h2 ?_ (U1.trans U2)
    have hw : IntKind.wrap .u8 n1 = (n1.toNat : Int) := by rw [IntKind.wrap_u8]; omega
    rw [hw] at B2
    rw [he, bv_append, ← List.append_assoc]
    simp only [encF, if_pos hnn]
    exact B2
theorem encF_length (f n : Nat) : (encF f n).length ≤ f := by
  induction f generalizing n with
  | zero => simp [encF]
  | succ f ih =>
    simp only [encF]
    split
    · simp
    · have := ih (n / 128); simp; omega
theorem encU_length (n : Nat) : (encU n).length ≤ 10 := encF_length 10 n
theorem twin_nil {h : Hp} {m : Int} {Q : Value → Hp → Prop} (h0 : 0 ≤ m) (h1 : m ≤ 70368744177664)
    (hQ : ∀ l' h', Buf h' l' 1 5 [] → Keep h h' → (∃ b, l'.a = some ⟨b, 0, none⟩ ∧ h b = none) → l'.n = 0 → Q (.slice l'.a l'.n l'.c) h') : F88.T ⟨none, 0, 0⟩ m h Q := by
  have hw : IntKind.wrap .i64 (((0 : Nat) : Int) + m) = m := by
    rw [show ((0 : Nat) : Int) + m = m by omega]
    exact wrap_i64 (by omega) (by omega)
  unfold F88.T
  simp only [hw]
  refine ⟨⟨by simp, by simpa using h0, by omega⟩, fun b hb => ⟨[], ⟨by simp [Nat.min], .inl (by simp [Nat.min])⟩, fun v hv => (by cases hv), .inl rfl, ?_⟩⟩
  rw [wrA_nil]
  refine hQ ⟨some ⟨b, 0, none⟩, 0, m.toNat⟩ _ ⟨by simp, Nat.zero_le _, .inr ⟨b, _, (0, 0), rfl, by unfold Hp.new; rw [if_pos rfl], ?_, fun j _ => by simp, rfl⟩⟩ (Keep.new hb _) ⟨b, rfl, hb⟩ rfl
  show m.toNat * 1 ≤ _
  have := zerosV_length (z := [Value.int .u8 0]) m.toNat
  unfold zerosV at this
  simp only [Array.length_toList, List.length_singleton] at this
  exact Nat.le_of_eq this.symm
theorem putUint_nil {h : Hp} {n : Int} {Q : Value → Hp → Prop} (h0 : 0 ≤ n) (h1 : n < 18446744073709551616)
    (hQ : ∀ l' h', Buf h' l' 1 5 (bv (encU n.toNat)) → Keep h h' → (∃ b, l'.a = some ⟨b, 0, none⟩ ∧ h b = none) → Q (.slice l'.a l'.n l'.c) h') : F120.T ⟨none, 0, 0⟩ n h Q := by
  refine twin_nil (m := 10) (by decide) (by decide) fun l1 h2 B1 K1 hf hn => ⟨l1, rfl, ?_⟩
  refine number_spec B1 h0 h1 (by omega) fun l2 h3 B2 U2 => ⟨l2, rfl, hQ l2 h3 B2 ?_ ?_⟩
  · obtain ⟨b, hb, hbn⟩ := hf
    intro k x e
    exact U2.keep k x (fun o hs => by rw [hb] at hs; simp only [Option.some.injEq, Addr.mk.injEq] at hs; rw [← hs.1, hbn] at e; cases e) (K1 k x e)
  · obtain ⟨b, hb, hbn⟩ := hf
    rcases U2.at_ with h0 | ⟨b2, hb2, hn2⟩
    · exact ⟨b, by rw [h0]; exact hb, hbn⟩
    · exact ⟨b2, hb2, K1.dom _ hn2⟩
/-- Numbers' bytes, one behind the other. -/
def encUs (ns : List Int) : List Int := ns.flatMap fun n => encU n.toNat
theorem encUs_length (ns : List Int) : (encUs ns).length ≤ 10 * ns.length := by
  induction ns with
  | nil => simp [encUs]
  | cons n ns ih =>
    have := encU_length n.toNat
    simp only [encUs, List.flatMap_cons, List.length_append, List.length_cons] at ih ⊢
    omega
def uv (ns : List Int) : List Value := ns.map (Value.int .u64)
theorem bv_one (l : List Int) : ∀ v ∈ bv l, Value.oneCell' v = true := by
  intro v hv
  obtain ⟨n, _, rfl⟩ := List.mem_map.1 hv
  rfl
theorem uints_spec {h : Hp} {l r : Sl} {xs : List Value} {ns : List Int} {Q : Value → Hp → Prop} (B : Buf h l 1 5 xs) (hr : h.row r.a r.n (uv ns)) (ho : Off r l) (hu : ∀ n ∈ ns, 0 ≤ n ∧ n < 18446744073709551616) (hl : l.n + 10 * ns.length ≤ 70368744177664)
    (hQ : ∀ l' h', Buf h' l' 1 5 (xs ++ bv (encUs ns)) → Upd h h' l l' → Q (.slice l'.a l'.n l'.c) h') : F95.T l r h Q := by
  have hrn : r.n = ns.length := by rw [← hr.1]; simp [uv]
  refine ⟨fun l2 i h1 => ∃ k : Nat, i = (k : Int) ∧ k ≤ ns.length ∧ Buf h1 l2 1 5 (xs ++ bv (encUs (ns.take k))) ∧ Upd h h1 l l2, fun _ i _ => ns.length - i.toNat,
    ⟨0, rfl, Nat.zero_le _, by simpa [encUs, bv] using B, Upd.refl _ _⟩, ?_⟩
  rintro l2 i h1 ⟨k, rfl, hk, B1, U1⟩
  refine ⟨fun hlt => ?_, fun hge => ?_⟩
  · have hk1 : k < ns.length := by omega
    have hr1 := row_upd U1 (.inr ho) hr
    obtain ⟨b, o, ha, hat⟩ := row_get hr1 (i := k) (by omega)
    have hv : (uv ns)[k]? = some (Value.int .u64 ns[k]) := by simp [uv, hk1]
    have hu' := hu _ (List.getElem_mem hk1)
    refine ⟨b, o, ha, ⟨by omega, hlt⟩, ns[k], ?_, ?_⟩
    · rw [Int.toNat_natCast, hat k (by omega), hv]
    · refine putUint_nil hu'.1 hu'.2 fun l3 h2 B3 K2 hf => ⟨l3, rfl, bv (encU (ns[k]).toNat), B3.row, bv_one _, ?_⟩
      have hl3 : l3.n = (encU (ns[k]).toNat).length := by have := B3.len; rw [bv_length] at this; omega
      have hl2 : l2.n = xs.length + (encUs (ns.take k)).length := by have := B1.len; simp only [List.length_append, bv_length] at this; omega
      have hxs : l.n = xs.length := by have := B.len; omega
      have h10 := encUs_length (ns.take k)
      have h11 := encU_length (ns[k]).toNat
      rw [List.length_take, Nat.min_eq_left hk] at h10
      refine append_buf (B1.keep K2) rfl (by rw [bv_length, hl3]; omega) (by omega) fun l4 h3 B4 hn4 U4 => ?_
      have hw : IntKind.wrap .i64 ((k : Int) + 1) = ((k + 1 : Nat) : Int) := by rw [wrap_i64 (by omega) (by omega)]; omega
      rw [hw]
      refine ⟨⟨k + 1, rfl, hk1, ?_, (U1.trans (Upd.of_keep K2 l2)).trans U4⟩, ?_⟩
      · have : encUs (ns.take (k + 1)) = encUs (ns.take k) ++ encU (ns[k]).toNat := by
          unfold encUs
          rw [List.take_succ_eq_append_getElem hk1, List.flatMap_append]
          simp only [List.flatMap_cons, List.flatMap_nil, List.append_nil]
        rw [this, bv_append, ← List.append_assoc]
        exact B4
      · show ns.length - ((k + 1 : Nat) : Int).toNat < ns.length - (k : Int).toNat
        omega
  · have hkn : k = ns.length := by omega
    subst hkn
    rw [List.take_length] at B1
    exact hQ l2 h1 B1 U1
/-- A text's bytes behind their number. -/
def bI (s : ByteArray) : List Int := s.data.toList.map fun b => (b.toNat : Int)
theorem bytesV_bI (s : ByteArray) : bytesV s = bv (bI s) := by simp [bytesV, bv, bI, Function.comp_def]
theorem bI_length (s : ByteArray) : (bI s).length = s.size := by rw [← bv_length, ← bytesV_bI, bytesV_length]
def encT (s : ByteArray) : List Int := encU s.size ++ bI s
theorem putText_nil {h : Hp} {s : ByteArray} {Q : Value → Hp → Prop} (hs : s.size ≤ 35184372088832)
    (hQ : ∀ l' h', Buf h' l' 1 5 (bv (encT s)) → Keep h h' → (∃ b, l'.a = some ⟨b, 0, none⟩ ∧ h b = none) → Q (.slice l'.a l'.n l'.c) h') : F121.T ⟨none, 0, 0⟩ s h Q := by
  have hw : IntKind.wrap .i64 (10 + (s.size : Int)) = 10 + (s.size : Int) := wrap_i64 (by omega) (by omega)
  have hw2 : IntKind.wrap .u64 (s.size : Int) = (s.size : Int) := wrap_u64 (by omega) (by omega)
  unfold F121.T
  rw [hw, hw2]
  refine twin_nil (by omega) (by omega) fun l1 h2 B1 K1 hf hn => ⟨l1, rfl, ?_⟩
  refine number_spec B1 (by omega) (by omega) (by omega) fun l2 h3 B2 U2 => ⟨l2, rfl, ?_⟩
  rw [List.nil_append, Int.toNat_natCast] at B2
  have h10 := encU_length s.size
  have hl2 : l2.n = (encU s.size).length := by have := B2.len; rw [bv_length] at this; omega
  refine append_buf B2 rfl (by rw [bytesV_length]; omega) (by omega) fun l3 h4 B3 hn3 U3 => hQ l3 h4 ?_ ?_ ?_
  · unfold encT; rw [bv_append, ← bytesV_bI]; exact B3
  · obtain ⟨b, hb, hbn⟩ := hf
    intro k x e
    have U := U2.trans U3
    exact U.keep k x (fun o hs => by rw [hb] at hs; simp only [Option.some.injEq, Addr.mk.injEq] at hs; rw [← hs.1, hbn] at e; cases e) (K1 k x e)
  · obtain ⟨b, hb, hbn⟩ := hf
    rcases (U2.trans U3).at_ with h0 | ⟨b2, hb2, hn2⟩
    · exact ⟨b, by rw [h0]; exact hb, hbn⟩
    · exact ⟨b2, hb2, K1.dom _ hn2⟩
theorem text_spec {h : Hp} {l : Sl} {xs : List Value} {s : ByteArray} {Q : Value → Hp → Prop} (B : Buf h l 1 5 xs) (hs : s.size ≤ 35184372088832) (hl : l.n + s.size + 10 ≤ 140737488355328)
    (hQ : ∀ l' h', Buf h' l' 1 5 (xs ++ bv (encT s)) → Upd h h' l l' → Q (.slice l'.a l'.n l'.c) h') : F96.T l s h Q := by
  refine putText_nil hs fun l1 h1 B1 K1 hf => ⟨l1, rfl, bv (encT s), B1.row, bv_one _, ?_⟩
  have h10 := encU_length s.size
  have hl1 : l1.n = (encU s.size).length + s.size := by have := B1.len; rw [bv_length] at this; unfold encT at this; rw [List.length_append, bI_length] at this; omega
  refine append_buf (B.keep K1) rfl (by rw [bv_length, hl1]; unfold encT; rw [List.length_append, bI_length]; omega) (by omega) fun l2 h2 B2 hn2 U2 => hQ l2 h2 B2 ((Upd.of_keep K1 l).trans U2)
end Go.Eng.YtblghgacokoklaaDoor
end
section
/-
  SPECS, 2: edits; a record's bytes.
-/
set_option linter.unusedSimpArgs false
set_option linter.unusedVariables false
namespace Go.Eng.YtblghgacokoklaaDoor
structure Place where
  lv : Int
  num : Int
structure Placed where
  lv : Int
  num : Int
  weight : Int
  bytes : Int
  entries : Int
  least : ByteArray
  greatest : ByteArray
structure Edit where
  log : Int
  next : Int
  seq : Int
  out : List Place
  inn : List Placed
  ptr : List ByteArray
def Place.cells (p : Place) : List Value := [.int .i64 p.lv, .int .u64 p.num]
def Placed.cells (p : Placed) : List Value := [.int .i64 p.lv, .int .u64 p.num, .int .i64 p.weight, .int .i64 p.bytes, .int .i64 p.entries, .string p.least, .string p.greatest]
def outV (l : List Place) : List Value := l.flatMap Place.cells
def inV (l : List Placed) : List Value := l.flatMap Placed.cells
def ptrV (l : List ByteArray) : List Value := l.map Value.string
/-- Every element has as many cells: where the cells of one stand. -/
theorem flat_get {α : Type} (f : α → List Value) (n : Nat) (hf : ∀ x, (f x).length = n) : ∀ (l : List α) (i j : Nat) (hi : i < l.length), j < n → (l.flatMap f)[i * n + j]? = (f l[i])[j]?
  | [], i, j, hi, _ => by simp at hi
  | x :: l, 0, j, hi, hj => by
    simp only [List.flatMap_cons, Nat.zero_mul, Nat.zero_add, List.getElem_cons_zero]
    rw [List.getElem?_append_left (by rw [hf]; exact hj)]
  | x :: l, i + 1, j, hi, hj => by
    simp only [List.flatMap_cons, List.getElem_cons_succ]
    rw [List.getElem?_append_right (by rw [hf, Nat.add_mul]; omega), hf, show (i + 1) * n + j - n = i * n + j by rw [Nat.add_mul]; omega]
    exact flat_get f n hf l i j (by simpa using hi) hj
theorem flat_length {α : Type} (f : α → List Value) (n : Nat) (hf : ∀ x, (f x).length = n) (l : List α) : (l.flatMap f).length = l.length * n := by
  induction l with
  | nil => simp
  | cons x l ih => simp only [List.flatMap_cons, List.length_append, hf, ih, List.length_cons, Nat.add_mul]; omega
def okU (n : Int) : Prop := 0 ≤ n ∧ n < 18446744073709551616
def okI (n : Int) : Prop := 0 ≤ n ∧ n < 9223372036854775808
structure Place.ok (p : Place) : Prop where
  lv : okI p.lv
  num : okU p.num
structure Placed.ok (p : Placed) : Prop where
  lv : okI p.lv
  num : okU p.num
  weight : okI p.weight
  bytes : okI p.bytes
  entries : okI p.entries
  least : p.least.size ≤ 64
  greatest : p.greatest.size ≤ 64
def Place.enc (p : Place) : List Int := encUs [p.lv, p.num]
def Placed.enc (p : Placed) : List Int := encUs [p.lv, p.num, p.weight, p.bytes, p.entries] ++ encT p.least ++ encT p.greatest
/-- A record's bytes. -/
def recB (e : Edit) (last : Bool) : List Int :=
  (if last then 1 else 0) :: (encUs [e.log, e.next, e.seq, (e.out.length : Int)] ++ e.out.flatMap Place.enc ++ encUs [(e.inn.length : Int)] ++ e.inn.flatMap Placed.enc ++ encUs [(e.ptr.length : Int)] ++ e.ptr.flatMap encT)
theorem encT_length {s : ByteArray} (h : s.size ≤ 64) : (encT s).length ≤ 74 := by
  have := encU_length s.size
  unfold encT
  rw [List.length_append, bI_length]
  omega
theorem Place.enc_length (p : Place) : p.enc.length ≤ 20 := by
  have := encUs_length [p.lv, p.num]
  simpa [Place.enc] using this
theorem Placed.enc_length {p : Placed} (h : p.ok) : p.enc.length ≤ 198 := by
  have h1 := encUs_length [p.lv, p.num, p.weight, p.bytes, p.entries]
  have h2 := encT_length h.least
  have h3 := encT_length h.greatest
  simp only [Placed.enc, List.length_append]
  simp only [List.length_cons, List.length_nil] at h1
  omega
theorem Placed.ok.enc_length' {p : Placed} (h : p.ok) : p.enc.length ≤ 198 := Placed.enc_length h
theorem flatMap_le {α : Type} (f : α → List Int) (n : Nat) (l : List α) (h : ∀ x ∈ l, (f x).length ≤ n) : (l.flatMap f).length ≤ n * l.length := by
  induction l with
  | nil => simp
  | cons x l ih =>
    have h1 := h x List.mem_cons_self
    have h2 := ih fun y hy => h y (List.mem_cons_of_mem _ hy)
    simp only [List.flatMap_cons, List.length_append, List.length_cons, Nat.mul_add, Nat.mul_one]
    omega
theorem _root_.Go.Eng.Buf.n1 {h : Hp} {l : Sl} {xs : List Value} (B : Buf h l 1 5 xs) : l.n = xs.length := by have := B.len; omega
/-- A new block is off whatever was there. -/
theorem off_new {h : Hp} {l : Sl} {xs : List Value} {sz t : Nat} (B : Buf h l sz t xs) {b : Nat} (hb : h b = none) (n c : Nat) : Off ⟨some ⟨b, 0, none⟩, n, c⟩ l := by
  intro b' o o' e1 e2
  simp only [Option.some.injEq, Addr.mk.injEq] at e1
  rcases B.own with ⟨ha, _⟩ | ⟨k, cs, f, ha, hk, _⟩
  · rw [ha] at e2; cases e2
  · rw [ha] at e2
    simp only [Option.some.injEq, Addr.mk.injEq] at e2
    rw [e2.1, ← e1.1, hb] at hk; cases hk
theorem row_new (h : Hp) (b t : Nat) (vs : List Value) (n : Nat) (hn : vs.length = n) : (h.new b (.cells ⟨vs⟩ t (0, 0))).row (some ⟨b, 0, none⟩) n vs := by
  refine ⟨hn, .inr ⟨b, 0, rfl, fun j _ => ?_⟩⟩
  rw [Nat.zero_add, at_new]
  simp
/-- Numbers laid behind a buffer, out of a list that is made for it. -/
theorem uints_lit {h : Hp} {l : Sl} {xs : List Value} {ns : List Int} {Q : Value → Hp → Prop} (B : Buf h l 1 5 xs) (hu : ∀ n ∈ ns, 0 ≤ n ∧ n < 18446744073709551616) (hl : l.n + 10 * ns.length ≤ 70368744177664)
    (hQ : ∀ l' h', Buf h' l' 1 5 (xs ++ bv (encUs ns)) → Upd h h' l l' → Q (.slice l'.a l'.n l'.c) h') :
    ∀ b, h b = none → F95.T l ⟨some ⟨b, 0, none⟩, ns.length, ns.length⟩ (h.new b (.cells ⟨uv ns⟩ 22 (0, 0))) Q := by
  intro b hb
  refine uints_spec (B.keep (Keep.new hb _)) (row_new h b 22 (uv ns) _ (by simp [uv])) (off_new B hb _ _) hu hl fun l' h' B' U' => hQ l' h' B' ((Upd.of_new hb _ l).trans U')
theorem out_loop {h : Hp} {l lo : Sl} {xs : List Value} {out : List Place} {R : Sl → Hp → Prop} (B : Buf h l 1 5 xs) (hr : h.row lo.a (lo.n * 2) (outV out)) (ho : lo.n * 2 = 0 ∨ Off lo l) (hok : ∀ p ∈ out, p.ok) (hn : out.length ≤ 1000) (hl : l.n ≤ 1000000)
    (hR : ∀ l' h', Buf h' l' 1 5 (xs ++ bv (out.flatMap Place.enc)) → Upd h h' l l' → R l' h') :
    ∃ (I : Sl → Int → Hp → Prop) (m : Sl → Int → Hp → Nat), I l 0 h ∧ (∀ l4 : Sl, ∀ n3 : Int, ∀ h2 : Hp, I l4 n3 h2 → par (n3 < (lo.n : Int)) (∃ b2 o, (lo.a : Option Addr) = some ⟨b2, o, none⟩ ∧ ((0 : Int) ≤ n3 ∧ n3 < (lo.n : Int)) ∧ ∃ n4 : Int, h2.at b2 (o + n3.toNat * 2) = some (.int .i64 n4) ∧ ∃ n5 : Int, h2.at b2 ((o + n3.toNat * 2) + 1) = some (.int .u64 n5) ∧ ∀ b3, h2 b3 = none → F95.T l4 ⟨(some ⟨b3, 0, none⟩), 2, 2⟩ (h2.new b3 (.cells ⟨[.int .u64 (IntKind.wrap .u64 n4), .int .u64 n5]⟩ 22 (0, 0))) fun r1 h3 => ∃ l5 : Sl, r1 = .slice l5.a l5.n l5.c ∧ I l5 (IntKind.wrap .i64 (n3 + 1)) h3 ∧ m l5 (IntKind.wrap .i64 (n3 + 1)) h3 < m l4 n3 h2) (R l4 h2)) := by
  have hlo : lo.n = out.length := by
    have h1 := hr.1
    unfold outV at h1
    rw [flat_length Place.cells 2 (fun _ => rfl)] at h1
    omega
  refine ⟨fun l4 i h2 => ∃ k : Nat, i = (k : Int) ∧ k ≤ out.length ∧ Buf h2 l4 1 5 (xs ++ bv ((out.take k).flatMap Place.enc)) ∧ Upd h h2 l l4, fun _ i _ => out.length - i.toNat, ⟨0, rfl, Nat.zero_le _, by simpa [bv] using B, Upd.refl _ _⟩, ?_⟩
  rintro l4 i h2 ⟨k, rfl, hk, B1, U1⟩
  refine ⟨fun hlt => ?_, fun hge => ?_⟩
  · have hk1 : k < out.length := by omega
    obtain ⟨b, o, ha, hat⟩ := row_get (row_upd U1 ho hr) (i := k * 2) (by omega)
    have hp := hok _ (List.getElem_mem hk1)
    have c0 := flat_get Place.cells 2 (fun _ => rfl) out k 0 hk1 (by decide)
    have c1 := flat_get Place.cells 2 (fun _ => rfl) out k 1 hk1 (by decide)
    have hlen : l4.n ≤ 1000000 + 20 * 1000 := by
      have e1 := B1.n1
      have e2 := B.n1
      have e3 := flatMap_le Place.enc 20 (out.take k) (fun p _ => p.enc_length)
      rw [List.length_take, Nat.min_eq_left hk] at e3
      simp only [List.length_append, bv_length] at e1
      omega
    refine ⟨b, o, ha, ⟨by omega, hlt⟩, out[k].lv, ?_, out[k].num, ?_, fun b3 hb3 => ?_⟩
    · rw [Int.toNat_natCast, hat _ (by omega)]; exact c0
    · rw [Int.toNat_natCast, Nat.add_assoc, hat _ (by omega)]; exact c1
    · have hw1 : IntKind.wrap .u64 out[k].lv = out[k].lv := wrap_u64 hp.lv.1 (by have := hp.lv.2; omega)
      rw [hw1]
      refine uints_lit (ns := [out[k].lv, out[k].num]) B1 (fun n hn => ?_) (by simp; omega) (fun l5 h3 B5 U5 => ⟨l5, rfl, ?_, ?_⟩) b3 hb3
      · simp only [List.mem_cons, List.not_mem_nil, or_false] at hn
        rcases hn with rfl | rfl
        · exact ⟨hp.lv.1, by have := hp.lv.2; omega⟩
        · exact hp.num
      · have hw : IntKind.wrap .i64 ((k : Int) + 1) = ((k + 1 : Nat) : Int) := by rw [wrap_i64 (by omega) (by omega)]; omega
        rw [hw]
        refine ⟨k + 1, rfl, hk1, ?_, U1.trans U5⟩
        rw [List.take_succ_eq_append_getElem hk1, List.flatMap_append, bv_append, ← List.append_assoc]
        simpa [Place.enc] using B5
      · have hw : IntKind.wrap .i64 ((k : Int) + 1) = ((k + 1 : Nat) : Int) := by rw [wrap_i64 (by omega) (by omega)]; omega
        rw [hw]
        show out.length - ((k + 1 : Nat) : Int).toNat < out.length - (k : Int).toNat
        omega
  · have hkn : k = out.length := by omega
    subst hkn
    rw [List.take_length] at B1
    exact hR l4 h2 B1 U1
theorem in_loop {h : Hp} {l li : Sl} {xs : List Value} {inn : List Placed} {R : Sl → Hp → Prop} (B : Buf h l 1 5 xs) (hr : h.row li.a (li.n * 7) (inV inn)) (ho : li.n * 7 = 0 ∨ Off li l) (hok : ∀ p ∈ inn, p.ok) (hn : inn.length ≤ 1000) (hl : l.n ≤ 2000000)
    (hR : ∀ l' h', Buf h' l' 1 5 (xs ++ bv (inn.flatMap Placed.enc)) → Upd h h' l l' → R l' h') :
    ∃ (I1 : Sl → Int → Hp → Prop) (m1 : Sl → Int → Hp → Nat), I1 l 0 h ∧ (∀ l7 : Sl, ∀ n6 : Int, ∀ h5 : Hp, I1 l7 n6 h5 → par (n6 < (li.n : Int)) (∃ b6 o2, (li.a : Option Addr) = some ⟨b6, o2, none⟩ ∧ ((0 : Int) ≤ n6 ∧ n6 < (li.n : Int)) ∧ ∃ n7 : Int, h5.at b6 (o2 + n6.toNat * 7) = some (.int .i64 n7) ∧ ∃ n8 : Int, h5.at b6 ((o2 + n6.toNat * 7) + 1) = some (.int .u64 n8) ∧ ∃ n9 : Int, h5.at b6 ((o2 + n6.toNat * 7) + 2) = some (.int .i64 n9) ∧ ∃ n10 : Int, h5.at b6 ((o2 + n6.toNat * 7) + 3) = some (.int .i64 n10) ∧ ∃ n11 : Int, h5.at b6 ((o2 + n6.toNat * 7) + 4) = some (.int .i64 n11) ∧ ∃ s : ByteArray, h5.at b6 ((o2 + n6.toNat * 7) + 5) = some (.string s) ∧ ∃ s1 : ByteArray, h5.at b6 ((o2 + n6.toNat * 7) + 6) = some (.string s1) ∧ ∀ b7, h5 b7 = none → F95.T l7 ⟨(some ⟨b7, 0, none⟩), 5, 5⟩ (h5.new b7 (.cells ⟨[.int .u64 (IntKind.wrap .u64 n7), .int .u64 n8, .int .u64 (IntKind.wrap .u64 n9), .int .u64 (IntKind.wrap .u64 n10), .int .u64 (IntKind.wrap .u64 n11)]⟩ 22 (0, 0))) fun r3 h6 => ∃ l8 : Sl, r3 = .slice l8.a l8.n l8.c ∧ F96.T l8 s h6 fun r4 h7 => ∃ l9 : Sl, r4 = .slice l9.a l9.n l9.c ∧ F96.T l9 s1 h7 fun r5 h8 => ∃ l10 : Sl, r5 = .slice l10.a l10.n l10.c ∧ I1 l10 (IntKind.wrap .i64 (n6 + 1)) h8 ∧ m1 l10 (IntKind.wrap .i64 (n6 + 1)) h8 < m1 l7 n6 h5) (R l7 h5)) := by
  have hli : li.n = inn.length := by
    have h1 := hr.1
    unfold inV at h1
    rw [flat_length Placed.cells 7 (fun _ => rfl)] at h1
    omega
  refine ⟨fun l4 i h2 => ∃ k : Nat, i = (k : Int) ∧ k ≤ inn.length ∧ Buf h2 l4 1 5 (xs ++ bv ((inn.take k).flatMap Placed.enc)) ∧ Upd h h2 l l4, fun _ i _ => inn.length - i.toNat, ⟨0, rfl, Nat.zero_le _, by simpa [bv] using B, Upd.refl _ _⟩, ?_⟩
  rintro l4 i h2 ⟨k, rfl, hk, B1, U1⟩
  refine ⟨fun hlt => ?_, fun hge => ?_⟩
  · have hk1 : k < inn.length := by omega
    obtain ⟨b, o, ha, hat⟩ := row_get (row_upd U1 ho hr) (i := k * 7) (by omega)
    have hp := hok _ (List.getElem_mem hk1)
    have cc : ∀ j, j < 7 → h2.at b ((o + k * 7) + j) = (Placed.cells inn[k])[j]? := fun j hj => by
      rw [Nat.add_assoc, hat _ (by omega)]
      exact flat_get Placed.cells 7 (fun _ => rfl) inn k j hk1 hj
    have hlen : l4.n ≤ 2000000 + 198 * 1000 := by
      have e1 := B1.n1
      have e2 := B.n1
      have e3 := flatMap_le Placed.enc 198 (inn.take k) (fun p hp => (hok p (List.mem_of_mem_take hp)).enc_length')
      rw [List.length_take, Nat.min_eq_left hk] at e3
      simp only [List.length_append, bv_length] at e1
      omega
    refine ⟨b, o, ha, ⟨by omega, hlt⟩, inn[k].lv, ?_, inn[k].num, ?_, inn[k].weight, ?_, inn[k].bytes, ?_, inn[k].entries, ?_, inn[k].least, ?_, inn[k].greatest, ?_, fun b3 hb3 => ?_⟩
    · rw [Int.toNat_natCast]; exact cc 0 (by decide)
    · rw [Int.toNat_natCast]; exact cc 1 (by decide)
    · rw [Int.toNat_natCast]; exact cc 2 (by decide)
    · rw [Int.toNat_natCast]; exact cc 3 (by decide)
    · rw [Int.toNat_natCast]; exact cc 4 (by decide)
    · rw [Int.toNat_natCast]; exact cc 5 (by decide)
    · rw [Int.toNat_natCast]; exact cc 6 (by decide)
    · have uw : ∀ n, okI n → IntKind.wrap .u64 n = n := fun n h => wrap_u64 h.1 (by have := h.2; omega)
      rw [uw _ hp.lv, uw _ hp.weight, uw _ hp.bytes, uw _ hp.entries]
      have iu : ∀ n, okI n → 0 ≤ n ∧ n < 18446744073709551616 := fun n h => ⟨h.1, by have := h.2; omega⟩
      have hle := hp.least
      have hgr := hp.greatest
      have hw : IntKind.wrap .i64 ((k : Int) + 1) = ((k + 1 : Nat) : Int) := by rw [wrap_i64 (by omega) (by omega)]; omega
      refine uints_lit (ns := [inn[k].lv, inn[k].num, inn[k].weight, inn[k].bytes, inn[k].entries]) B1 (fun n hn => ?_) (by simp; omega) (fun l5 h3 B5 U5 => ⟨l5, rfl, ?_⟩) b3 hb3
      · simp only [List.mem_cons, List.not_mem_nil, or_false] at hn
        rcases hn with rfl | rfl | rfl | rfl | rfl
        · exact iu _ hp.lv
        · exact hp.num
        · exact iu _ hp.weight
        · exact iu _ hp.bytes
        · exact iu _ hp.entries
      · have e5 : l5.n ≤ l4.n + 50 := by
          have e1 := B5.n1
          have e2 := B1.n1
          have e3 := encUs_length [inn[k].lv, inn[k].num, inn[k].weight, inn[k].bytes, inn[k].entries]
          simp only [List.length_append, bv_length, List.length_cons, List.length_nil] at e1 e2 e3
          omega
        refine text_spec B5 (by omega) (by omega) fun l6 h4 B6 U6 => ⟨l6, rfl, ?_⟩
        have e6 : l6.n ≤ l5.n + 74 := by
          have e1 := B6.n1
          have e2 := B5.n1
          have e3 := encT_length hle
          rw [List.length_append, bv_length] at e1
          omega
        refine text_spec B6 (by omega) (by omega) fun l7 h5 B7 U7 => ⟨l7, rfl, ?_, ?_⟩
        · rw [hw]
          refine ⟨k + 1, rfl, hk1, ?_, ((U1.trans U5).trans U6).trans U7⟩
          rw [List.take_succ_eq_append_getElem hk1, List.flatMap_append, bv_append, ← List.append_assoc]
          simp only [List.flatMap_cons, List.flatMap_nil, List.append_nil, Placed.enc, bv_append, ← List.append_assoc]
          exact B7
        · rw [hw]
          show inn.length - ((k + 1 : Nat) : Int).toNat < inn.length - (k : Int).toNat
          omega
  · have hkn : k = inn.length := by omega
    subst hkn
    rw [List.take_length] at B1
    exact hR l4 h2 B1 U1
end Go.Eng.YtblghgacokoklaaDoor
end
section
/-
  SPECS, 3: a record's bytes.
-/
set_option linter.unusedSimpArgs false
set_option linter.unusedVariables false
namespace Go.Eng.YtblghgacokoklaaDoor
theorem ptr_loop {h : Hp} {l lp : Sl} {xs : List Value} {ptr : List ByteArray} {R : Sl → Hp → Prop} (B : Buf h l 1 5 xs) (hr : h.row lp.a lp.n (ptrV ptr)) (ho : lp.n = 0 ∨ Off lp l) (hok : ∀ p ∈ ptr, p.size ≤ 64) (hn : ptr.length ≤ 1000) (hl : l.n ≤ 3000000)
    (hR : ∀ l' h', Buf h' l' 1 5 (xs ++ bv (ptr.flatMap encT)) → Upd h h' l l' → R l' h') :
    ∃ (I2 : Sl → Int → Hp → Prop) (m2 : Sl → Int → Hp → Nat), I2 l 0 h ∧ (∀ l12 : Sl, ∀ n12 : Int, ∀ h10 : Hp, I2 l12 n12 h10 → par (n12 < (lp.n : Int)) (∃ b9 o3, (lp.a : Option Addr) = some ⟨b9, o3, none⟩ ∧ ((0 : Int) ≤ n12 ∧ n12 < (lp.n : Int)) ∧ ∃ s2 : ByteArray, h10.at b9 (o3 + n12.toNat) = some (.string s2) ∧ F96.T l12 s2 h10 fun r7 h11 => ∃ l13 : Sl, r7 = .slice l13.a l13.n l13.c ∧ I2 l13 (IntKind.wrap .i64 (n12 + 1)) h11 ∧ m2 l13 (IntKind.wrap .i64 (n12 + 1)) h11 < m2 l12 n12 h10) (R l12 h10)) := by
  have hlp : lp.n = ptr.length := by have h1 := hr.1; simpa [ptrV] using h1.symm
  refine ⟨fun l4 i h2 => ∃ k : Nat, i = (k : Int) ∧ k ≤ ptr.length ∧ Buf h2 l4 1 5 (xs ++ bv ((ptr.take k).flatMap encT)) ∧ Upd h h2 l l4, fun _ i _ => ptr.length - i.toNat, ⟨0, rfl, Nat.zero_le _, by simpa [bv] using B, Upd.refl _ _⟩, ?_⟩
  rintro l4 i h2 ⟨k, rfl, hk, B1, U1⟩
  refine ⟨fun hlt => ?_, fun hge => ?_⟩
  · have hk1 : k < ptr.length := by omega
    obtain ⟨b, o, ha, hat⟩ := row_get (row_upd U1 ho hr) (i := k) (by omega)
    have hp := hok _ (List.getElem_mem hk1)
    have hlen : l4.n ≤ 3000000 + 74 * 1000 := by
      have e1 := B1.n1
      have e2 := B.n1
      have e3 := flatMap_le encT 74 (ptr.take k) (fun p hp => encT_length (hok p (List.mem_of_mem_take hp)))
      rw [List.length_take, Nat.min_eq_left hk] at e3
      simp only [List.length_append, bv_length] at e1
      omega
    have hw : IntKind.wrap .i64 ((k : Int) + 1) = ((k + 1 : Nat) : Int) := by rw [wrap_i64 (by omega) (by omega)]; omega
    refine ⟨b, o, ha, ⟨by omega, hlt⟩, ptr[k], ?_, ?_⟩
    · rw [Int.toNat_natCast, hat _ (by omega)]; simp [ptrV, hk1]
    · refine text_spec B1 (by omega) (by omega) fun l5 h3 B5 U5 => ⟨l5, rfl, ?_, ?_⟩
      · rw [hw]
        refine ⟨k + 1, rfl, hk1, ?_, U1.trans U5⟩
        rw [List.take_succ_eq_append_getElem hk1, List.flatMap_append, bv_append, ← List.append_assoc]
        simpa using B5
      · rw [hw]
        show ptr.length - ((k + 1 : Nat) : Int).toNat < ptr.length - (k : Int).toNat
        omega
  · have hkn : k = ptr.length := by omega
    subst hkn
    rw [List.take_length] at B1
    exact hR l4 h2 B1 U1
/-- An edit's lists, in memory. -/
structure EdAt (h : Hp) (e : Edit) (l l1 l2 : Sl) : Prop where
  out : h.row l.a (l.n * 2) (outV e.out)
  inn : h.row l1.a (l1.n * 7) (inV e.inn)
  ptr : h.row l2.a l2.n (ptrV e.ptr)
/-- An edit whose record is no longer than a record may be. -/
structure Edit.small (e : Edit) : Prop where
  log : okU e.log
  next : okU e.next
  seq : okU e.seq
  out : ∀ p ∈ e.out, p.ok
  inn : ∀ p ∈ e.inn, p.ok
  ptr : ∀ p ∈ e.ptr, p.size ≤ 64
  nout : e.out.length ≤ 1000
  ninn : e.inn.length ≤ 1000
  nptr : e.ptr.length ≤ 1000
theorem EdAt.nout {h : Hp} {e : Edit} {l l1 l2 : Sl} (E : EdAt h e l l1 l2) : l.n = e.out.length := by
  have h1 := E.out.1
  unfold outV at h1
  rw [flat_length Place.cells 2 (fun _ => rfl)] at h1
  omega
theorem EdAt.ninn {h : Hp} {e : Edit} {l l1 l2 : Sl} (E : EdAt h e l l1 l2) : l1.n = e.inn.length := by
  have h1 := E.inn.1
  unfold inV at h1
  rw [flat_length Placed.cells 7 (fun _ => rfl)] at h1
  omega
theorem EdAt.nptr {h : Hp} {e : Edit} {l l1 l2 : Sl} (E : EdAt h e l l1 l2) : l2.n = e.ptr.length := by
  have h1 := E.ptr.1; simpa [ptrV] using h1.symm
/-- A slice in a block that was not there. -/
def New (h : Hp) (s : Sl) : Prop := ∃ b, s.a = some ⟨b, 0, none⟩ ∧ h b = none
theorem New.upd {h h' : Hp} {s s' : Sl} (N : New h s) (U : Upd h h' s s') : New h s' := by
  obtain ⟨b, hb, hn⟩ := N
  rcases U.at_ with h0 | h1
  · exact ⟨b, by rw [h0]; exact hb, hn⟩
  · exact h1
theorem New.keep {h h' : Hp} {s s' : Sl} (N : New h s) (U : Upd h h' s s') : Keep h h' := by
  obtain ⟨b, hb, hn⟩ := N
  exact fun k x e => U.keep k x (fun o hs => by rw [hb] at hs; simp only [Option.some.injEq, Addr.mk.injEq] at hs; rw [← hs.1, hn] at e; cases e) e
theorem New.off {h : Hp} {s r : Sl} (N : New h s) {n : Nat} {vs : List Value} (hr : h.row r.a n vs) : n = 0 ∨ Off r s := by
  obtain ⟨b, hb, hn⟩ := N
  exact off_fresh hr hb hn
theorem encs_len (ns : List Int) (k : Nat) (h : ns.length = k) : (encUs ns).length ≤ 10 * k := by have := encUs_length ns; omega
theorem record_f {h : Hp} {e : Edit} {l l1 l2 : Sl} {Q : Value → Hp → Prop} (E : EdAt h e l l1 l2) (S : e.small)
    (hQ : ∀ r h', Buf h' r 1 5 (bv (recB e false)) → Keep h h' → New h r → Q (.slice r.a r.n r.c) h') : F63.Tf e.log e.next e.seq l l1 l2 h Q := by
  have c1 : IntKind.wrap .u64 (l.n : Int) = (e.out.length : Int) := by rw [E.nout]; exact wrap_u64 (by omega) (by have := S.nout; omega)
  have c2 : IntKind.wrap .u64 (l1.n : Int) = (e.inn.length : Int) := by rw [E.ninn]; exact wrap_u64 (by omega) (by have := S.ninn; omega)
  have c3 : IntKind.wrap .u64 (l2.n : Int) = (e.ptr.length : Int) := by rw [E.nptr]; exact wrap_u64 (by omega) (by have := S.nptr; omega)
  unfold F63.Tf
  rw [c1, c2, c3]
  intro b hb
  let s0 : Sl := ⟨some ⟨b, 0, none⟩, 1, 1⟩
  have N0 : New h s0 := ⟨b, rfl, hb⟩
  have B0 : Buf (h.new b (.cells ⟨[.int .u8 0]⟩ 5 (0, 0))) s0 1 5 (bv [0]) := ⟨rfl, Nat.le_refl _, .inr ⟨b, _, (0, 0), rfl, by unfold Hp.new; rw [if_pos rfl], Nat.le_refl _, fun j _ => by simp, rfl⟩⟩
  have U0 : Upd h (h.new b (.cells ⟨[.int .u8 0]⟩ 5 (0, 0))) s0 s0 := Upd.of_new hb _ s0
  refine uints_lit (l := s0) (ns := [e.log, e.next, e.seq, (e.out.length : Int)]) B0 (fun n hn => ?_) (by simp [s0]) (fun l3 h1 B1 U1 => ⟨l3, rfl, ?_⟩)
  · simp only [List.mem_cons, List.not_mem_nil, or_false] at hn
    have := S.nout
    rcases hn with rfl | rfl | rfl | rfl
    · exact S.log
    · exact S.next
    · exact S.seq
    · omega
  · have U01 := U0.trans U1
    have m1 : l3.n ≤ 41 := by
      have e1 := B1.n1
      have e3 := encs_len [e.log, e.next, e.seq, (e.out.length : Int)] 4 rfl
      simp only [List.length_append, bv_length, List.length_singleton] at e1
      omega
    refine out_loop (lo := l) (out := e.out) B1 (row_upd U01 (N0.off E.out) E.out) ((N0.upd U01).off E.out) S.out S.nout (by omega) (fun l4 h2 B2 U2 => ?_)
    have U02 := U01.trans U2
    have m2 : l4.n ≤ 41 + 20 * 1000 := by
      have e1 := B2.n1
      have e2 := B1.n1
      have e3 := flatMap_le Place.enc 20 e.out (fun p _ => p.enc_length)
      have := S.nout
      rw [List.length_append, bv_length] at e1
      omega
    refine uints_lit (ns := [(e.inn.length : Int)]) B2 (fun n hn => ?_) (by simp; omega) (fun l5 h3 B3 U3 => ⟨l5, rfl, ?_⟩)
    · simp only [List.mem_cons, List.not_mem_nil, or_false] at hn
      have := S.ninn
      subst hn
      omega
    have U03 := U02.trans U3
    have m3 : l5.n ≤ 41 + 20 * 1000 + 10 := by
      have e1 := B3.n1
      have e2 := B2.n1
      have e3 := encs_len [(e.inn.length : Int)] 1 rfl
      rw [List.length_append, bv_length] at e1
      omega
    refine in_loop (li := l1) (inn := e.inn) B3 (row_upd U03 (N0.off E.inn) E.inn) ((N0.upd U03).off E.inn) S.inn S.ninn (by omega) (fun l6 h4 B4 U4 => ?_)
    have U04 := U03.trans U4
    have m4 : l6.n ≤ 41 + 20 * 1000 + 10 + 198 * 1000 := by
      have e1 := B4.n1
      have e2 := B3.n1
      have e3 := flatMap_le Placed.enc 198 e.inn (fun p hp => (S.inn p hp).enc_length')
      have := S.ninn
      rw [List.length_append, bv_length] at e1
      omega
    refine uints_lit (ns := [(e.ptr.length : Int)]) B4 (fun n hn => ?_) (by simp; omega) (fun l7 h5 B5 U5 => ⟨l7, rfl, ?_⟩)
    · simp only [List.mem_cons, List.not_mem_nil, or_false] at hn
      have := S.nptr
      subst hn
      omega
    have U05 := U04.trans U5
    have m5 : l7.n ≤ 41 + 20 * 1000 + 10 + 198 * 1000 + 10 := by
      have e1 := B5.n1
      have e2 := B4.n1
      have e3 := encs_len [(e.ptr.length : Int)] 1 rfl
      rw [List.length_append, bv_length] at e1
      omega
    refine ptr_loop (lp := l2) (ptr := e.ptr) (R := fun l' h' => Q (.slice l'.a l'.n l'.c) h') B5 (row_upd U05 (N0.off E.ptr) E.ptr) ((N0.upd U05).off E.ptr) S.ptr S.nptr (by omega) (fun l8 h6 B6 U6 => ?_)
    have U06 := U05.trans U6
    refine hQ l8 h6 ?_ (N0.keep U06) (N0.upd U06)
    simpa [recB, bv_append, bv, List.append_assoc] using B6
theorem record_t {h : Hp} {e : Edit} {l l1 l2 : Sl} {Q : Value → Hp → Prop} (E : EdAt h e l l1 l2) (S : e.small)
    (hQ : ∀ r h', Buf h' r 1 5 (bv (recB e true)) → Keep h h' → New h r → Q (.slice r.a r.n r.c) h') : F63.Tt e.log e.next e.seq l l1 l2 h Q := by
  have c1 : IntKind.wrap .u64 (l.n : Int) = (e.out.length : Int) := by rw [E.nout]; exact wrap_u64 (by omega) (by have := S.nout; omega)
  have c2 : IntKind.wrap .u64 (l1.n : Int) = (e.inn.length : Int) := by rw [E.ninn]; exact wrap_u64 (by omega) (by have := S.ninn; omega)
  have c3 : IntKind.wrap .u64 (l2.n : Int) = (e.ptr.length : Int) := by rw [E.nptr]; exact wrap_u64 (by omega) (by have := S.nptr; omega)
  unfold F63.Tt
  rw [c1, c2, c3]
  intro b hb
  let s0 : Sl := ⟨some ⟨b, 0, none⟩, 1, 1⟩
  have N0 : New h s0 := ⟨b, rfl, hb⟩
  have hcell : (h.new b (.cells ⟨[.int .u8 0]⟩ 5 (0, 0))) b = some (.cells ⟨[.int .u8 0]⟩ 5 (0, 0)) := by unfold Hp.new; rw [if_pos rfl]
  refine ⟨b, 0, rfl, ⟨by decide, by decide⟩, ⟨_, 5, (0, 0), hcell, by decide, fun j _ _ => by simp⟩, ?_⟩
  have B0 : Buf ((h.new b (.cells ⟨[.int .u8 0]⟩ 5 (0, 0))).wr b (0 + (0 : Int).toNat) [.int .u8 1]) s0 1 5 (bv [1]) := ⟨rfl, Nat.le_refl _, .inr ⟨b, ⟨[.int .u8 1]⟩, (0, 0), rfl, by unfold Hp.wr; rw [if_pos rfl, hcell]; rfl, Nat.le_refl _, fun j _ => by simp, rfl⟩⟩
  have U0 : Upd h ((h.new b (.cells ⟨[.int .u8 0]⟩ 5 (0, 0))).wr b (0 + (0 : Int).toNat) [.int .u8 1]) s0 s0 := by
    refine ⟨fun k x hk e => ?_, .inl rfl, fun k e => ?_⟩
    · have hkb : k ≠ b := fun q => hk 0 (by rw [q])
      unfold Hp.wr Hp.new
      rw [if_neg hkb, if_neg hkb]
      exact e
    · unfold Hp.wr at e
      by_cases hkb : k = b
      · rw [hkb]; exact hb
      · rw [if_neg hkb] at e
        unfold Hp.new at e
        rw [if_neg hkb] at e
        exact e
  refine uints_lit (l := s0) (ns := [e.log, e.next, e.seq, (e.out.length : Int)]) B0 (fun n hn => ?_) (by simp [s0]) (fun l3 h1 B1 U1 => ⟨l3, rfl, ?_⟩)
  · simp only [List.mem_cons, List.not_mem_nil, or_false] at hn
    have := S.nout
    rcases hn with rfl | rfl | rfl | rfl
    · exact S.log
    · exact S.next
    · exact S.seq
    · omega
  · have U01 := U0.trans U1
    have m1 : l3.n ≤ 41 := by
      have e1 := B1.n1
      have e3 := encs_len [e.log, e.next, e.seq, (e.out.length : Int)] 4 rfl
      simp only [List.length_append, bv_length, List.length_singleton] at e1
      omega
    refine out_loop (lo := l) (out := e.out) B1 (row_upd U01 (N0.off E.out) E.out) ((N0.upd U01).off E.out) S.out S.nout (by omega) (fun l4 h2 B2 U2 => ?_)
    have U02 := U01.trans U2
    have m2 : l4.n ≤ 41 + 20 * 1000 := by
      have e1 := B2.n1
      have e2 := B1.n1
      have e3 := flatMap_le Place.enc 20 e.out (fun p _ => p.enc_length)
      have := S.nout
      rw [List.length_append, bv_length] at e1
      omega
    refine uints_lit (ns := [(e.inn.length : Int)]) B2 (fun n hn => ?_) (by simp; omega) (fun l5 h3 B3 U3 => ⟨l5, rfl, ?_⟩)
    · simp only [List.mem_cons, List.not_mem_nil, or_false] at hn
      have := S.ninn
      subst hn
      omega
    have U03 := U02.trans U3
    have m3 : l5.n ≤ 41 + 20 * 1000 + 10 := by
      have e1 := B3.n1
      have e2 := B2.n1
      have e3 := encs_len [(e.inn.length : Int)] 1 rfl
      rw [List.length_append, bv_length] at e1
      omega
    refine in_loop (li := l1) (inn := e.inn) B3 (row_upd U03 (N0.off E.inn) E.inn) ((N0.upd U03).off E.inn) S.inn S.ninn (by omega) (fun l6 h4 B4 U4 => ?_)
    have U04 := U03.trans U4
    have m4 : l6.n ≤ 41 + 20 * 1000 + 10 + 198 * 1000 := by
      have e1 := B4.n1
      have e2 := B3.n1
      have e3 := flatMap_le Placed.enc 198 e.inn (fun p hp => (S.inn p hp).enc_length')
      have := S.ninn
      rw [List.length_append, bv_length] at e1
      omega
    refine uints_lit (ns := [(e.ptr.length : Int)]) B4 (fun n hn => ?_) (by simp; omega) (fun l7 h5 B5 U5 => ⟨l7, rfl, ?_⟩)
    · simp only [List.mem_cons, List.not_mem_nil, or_false] at hn
      have := S.nptr
      subst hn
      omega
    have U05 := U04.trans U5
    have m5 : l7.n ≤ 41 + 20 * 1000 + 10 + 198 * 1000 + 10 := by
      have e1 := B5.n1
      have e2 := B4.n1
      have e3 := encs_len [(e.ptr.length : Int)] 1 rfl
      rw [List.length_append, bv_length] at e1
      omega
    refine ptr_loop (lp := l2) (ptr := e.ptr) (R := fun l' h' => Q (.slice l'.a l'.n l'.c) h') B5 (row_upd U05 (N0.off E.ptr) E.ptr) ((N0.upd U05).off E.ptr) S.ptr S.nptr (by omega) (fun l8 h6 B6 U6 => ?_)
    have U06 := U05.trans U6
    refine hQ l8 h6 ?_ (N0.keep U06) (N0.upd U06)
    simpa [recB, bv_append, bv, List.append_assoc] using B6
end Go.Eng.YtblghgacokoklaaDoor
end
section
/-
  SPECS, 4: may an edit be written?
-/
set_option linter.unusedSimpArgs false
set_option linter.unusedVariables false
namespace Go.Eng.YtblghgacokoklaaDoor
def Place.told (p : Place) : Bool := decide (0 ≤ p.lv ∧ p.lv < 5)
def Placed.told (p : Placed) : Bool := decide (0 ≤ p.lv ∧ p.lv < 5 ∧ 0 ≤ p.weight ∧ 0 ≤ p.bytes ∧ 0 ≤ p.entries ∧ p.least.size ≤ 64 ∧ p.greatest.size ≤ 64)
def Edit.told (e : Edit) : Bool := e.out.all Place.told && (e.inn.all Placed.told && (e.ptr.all (fun s => decide (s.size ≤ 64)) && decide (e.ptr.length ≤ 5)))
theorem all_at {α : Type} (f : α → Bool) (l : List α) (k : Nat) (hk : k < l.length) (h0 : (l.take k).all f = true) : (l.take (k + 1)).all f = f l[k] := by
  rw [List.take_succ_eq_append_getElem hk, List.all_append, h0]
  simp
theorem all_not {α : Type} (f : α → Bool) (l : List α) (k : Nat) (hk : k < l.length) (h : f l[k] = false) : l.all f = false := by
  rw [List.all_eq_false]
  exact ⟨l[k], List.getElem_mem hk, by simp [h]⟩
theorem next_i {k n : Nat} (hk : k < n) (hn : n < 9223372036854775807) : IntKind.wrap .i64 ((k : Int) + 1) = ((k + 1 : Nat) : Int) := by rw [wrap_i64 (by omega) (by omega)]; omega
theorem tells_spec {h : Hp} {e : Edit} {l l1 l2 : Sl} {Q : Value → Hp → Prop} (E : EdAt h e l l1 l2) (n1 : e.out.length < 9223372036854775807) (n2 : e.inn.length < 9223372036854775807) (n3 : e.ptr.length < 9223372036854775807)
    (hQ : Q (.bool e.told) h) : F62.T e.log e.next e.seq l l1 l2 h Q := by
  have bad1 : e.out.all Place.told = false → Q (.bool false) h := fun hb => by
    have : e.told = false := by unfold Edit.told; rw [hb]; rfl
    rw [this] at hQ; exact hQ
  refine ⟨fun i h1 => ∃ k : Nat, i = (k : Int) ∧ k ≤ e.out.length ∧ h1 = h ∧ (e.out.take k).all Place.told = true, fun i _ => e.out.length - i.toNat, ⟨0, rfl, Nat.zero_le _, rfl, rfl⟩, ?_⟩
  rintro i h1 ⟨k, rfl, hk, rfl, ht⟩
  refine ⟨fun hlt => ?_, fun hge => ?_⟩
  · have hk1 : k < e.out.length := by have := E.nout; omega
    obtain ⟨b, o, ha, hat⟩ := row_get E.out (i := k * 2) (by have := E.nout; omega)
    have cc : ∀ j, j < 2 → h1.at b ((o + k * 2) + j) = (Place.cells e.out[k])[j]? := fun j hj => by
      rw [Nat.add_assoc, hat _ (by have := E.nout; omega)]
      exact flat_get Place.cells 2 (fun _ => rfl) e.out k j hk1 hj
    refine ⟨b, o, ha, ⟨by omega, hlt⟩, e.out[k].lv, ?_, e.out[k].num, ?_, ⟨fun hb => ?_, fun hb => ⟨fun hc => ?_, fun hc => ⟨⟨k + 1, next_i hk1 n1, hk1, rfl, ?_⟩, ?_⟩⟩⟩⟩
    · rw [Int.toNat_natCast]; exact cc 0 (by decide)
    · rw [Int.toNat_natCast]; exact cc 1 (by decide)
    · exact bad1 (all_not _ _ k hk1 (by unfold Place.told; rw [decide_eq_false]; omega))
    · exact bad1 (all_not _ _ k hk1 (by unfold Place.told; rw [decide_eq_false]; omega))
    · rw [all_at _ _ k hk1 ht]; unfold Place.told; rw [decide_eq_true]; omega
    · rw [next_i hk1 n1]
      show e.out.length - ((k + 1 : Nat) : Int).toNat < e.out.length - (k : Int).toNat
      omega
  have hkn : k = e.out.length := by have := E.nout; omega
  subst hkn
  rw [List.take_length] at ht
  have bad2 : e.inn.all Placed.told = false → Q (.bool false) h1 := fun hb => by
    have : e.told = false := by unfold Edit.told; rw [hb]; simp
    rw [this] at hQ; exact hQ
  refine ⟨fun i h2 => ∃ k : Nat, i = (k : Int) ∧ k ≤ e.inn.length ∧ h2 = h1 ∧ (e.inn.take k).all Placed.told = true, fun i _ => e.inn.length - i.toNat, ⟨0, rfl, Nat.zero_le _, rfl, rfl⟩, ?_⟩
  rintro i h2 ⟨k, rfl, hk, rfl, ht2⟩
  refine ⟨fun hlt => ?_, fun hge => ?_⟩
  · have hk1 : k < e.inn.length := by have := E.ninn; omega
    obtain ⟨b, o, ha, hat⟩ := row_get E.inn (i := k * 7) (by have := E.ninn; omega)
    have cc : ∀ j, j < 7 → h2.at b ((o + k * 7) + j) = (Placed.cells e.inn[k])[j]? := fun j hj => by
      rw [Nat.add_assoc, hat _ (by have := E.ninn; omega)]
      exact flat_get Placed.cells 7 (fun _ => rfl) e.inn k j hk1 hj
    have hbad : ¬ (0 ≤ e.inn[k].lv ∧ e.inn[k].lv < 5 ∧ 0 ≤ e.inn[k].weight ∧ 0 ≤ e.inn[k].bytes ∧ 0 ≤ e.inn[k].entries ∧ e.inn[k].least.size ≤ 64 ∧ e.inn[k].greatest.size ≤ 64) → Q (.bool false) h2 := fun hb => bad2 (all_not _ _ k hk1 (by unfold Placed.told; rw [decide_eq_false hb]))
    refine ⟨b, o, ha, ⟨by omega, hlt⟩, e.inn[k].lv, ?_, e.inn[k].num, ?_, e.inn[k].weight, ?_, e.inn[k].bytes, ?_, e.inn[k].entries, ?_, e.inn[k].least, ?_, e.inn[k].greatest, ?_, ⟨fun hb => hbad (by omega), fun hb => ⟨fun hc => hbad (by omega), fun hc => ⟨fun hd => hbad ?_, fun hd => ⟨fun hf => hbad ?_, fun hf => ⟨⟨k + 1, next_i hk1 n2, hk1, rfl, ?_⟩, ?_⟩⟩⟩⟩⟩⟩
    · rw [Int.toNat_natCast]; exact cc 0 (by decide)
    · rw [Int.toNat_natCast]; exact cc 1 (by decide)
    · rw [Int.toNat_natCast]; exact cc 2 (by decide)
    · rw [Int.toNat_natCast]; exact cc 3 (by decide)
    · rw [Int.toNat_natCast]; exact cc 4 (by decide)
    · rw [Int.toNat_natCast]; exact cc 5 (by decide)
    · rw [Int.toNat_natCast]; exact cc 6 (by decide)
    · unfold iMin at hd; repeat (split at hd) <;> omega
    · unfold iMax at hf; split at hf <;> omega
    · rw [all_at _ _ k hk1 ht2]
      unfold Placed.told
      rw [decide_eq_true]
      unfold iMin at hd
      unfold iMax at hf
      refine ⟨by omega, by omega, ?_, ?_, ?_, ?_, ?_⟩
      · split at hd <;> (try split at hd) <;> omega
      · split at hd <;> (try split at hd) <;> omega
      · split at hd <;> (try split at hd) <;> omega
      · split at hf <;> omega
      · split at hf <;> omega
    · rw [next_i hk1 n2]
      show e.inn.length - ((k + 1 : Nat) : Int).toNat < e.inn.length - (k : Int).toNat
      omega
  have hkn : k = e.inn.length := by have := E.ninn; omega
  subst hkn
  rw [List.take_length] at ht2
  have bad3 : e.ptr.all (fun s => decide (s.size ≤ 64)) = false → Q (.bool false) h2 := fun hb => by
    have : e.told = false := by unfold Edit.told; rw [hb]; simp
    rw [this] at hQ; exact hQ
  refine ⟨fun i h3 => ∃ k : Nat, i = (k : Int) ∧ k ≤ e.ptr.length ∧ h3 = h2 ∧ (e.ptr.take k).all (fun s => decide (s.size ≤ 64)) = true, fun i _ => e.ptr.length - i.toNat, ⟨0, rfl, Nat.zero_le _, rfl, rfl⟩, ?_⟩
  rintro i h3 ⟨k, rfl, hk, rfl, ht3⟩
  refine ⟨fun hlt => ?_, fun hge => ?_⟩
  · have hk1 : k < e.ptr.length := by have := E.nptr; omega
    obtain ⟨b, o, ha, hat⟩ := row_get E.ptr (i := k) (by have := E.nptr; omega)
    refine ⟨b, o, ha, ⟨by omega, hlt⟩, e.ptr[k], ?_, ⟨fun hb => ?_, fun hb => ⟨⟨k + 1, next_i hk1 n3, hk1, rfl, ?_⟩, ?_⟩⟩⟩
    · rw [Int.toNat_natCast, hat _ (by have := E.nptr; omega)]; simp [ptrV, hk1]
    · exact bad3 (all_not _ _ k hk1 (by rw [decide_eq_false]; omega))
    · rw [all_at _ _ k hk1 ht3, decide_eq_true]; omega
    · rw [next_i hk1 n3]
      show e.ptr.length - ((k + 1 : Nat) : Int).toNat < e.ptr.length - (k : Int).toNat
      omega
  have hkn : k = e.ptr.length := by have := E.nptr; omega
  subst hkn
  rw [List.take_length] at ht3
  have hn := E.nptr
  have htold : e.told = decide (e.ptr.length ≤ 5) := by unfold Edit.told; rw [ht, ht2, ht3]; simp
  rw [htold] at hQ
  refine ⟨fun hle => ?_, fun hgt => ?_⟩
  · rw [decide_eq_true (by omega)] at hQ; exact hQ
  · rw [decide_eq_false (by omega)] at hQ; exact hQ
end Go.Eng.YtblghgacokoklaaDoor
end
section
/-
  SPECS, 5: rows cut; the records of an edit.
-/
set_option linter.unusedSimpArgs false
set_option linter.unusedVariables false
namespace Go.Eng.YtblghgacokoklaaDoor
/-- A row's first elements. -/
theorem row_take {h : Hp} {A : Option Addr} {n k : Nat} {vs : List Value} (hr : h.row A n vs) (hk : k ≤ n) : h.row A k (vs.take k) := by
  refine ⟨by rw [List.length_take, hr.1]; omega, ?_⟩
  rcases hr.2 with h0 | ⟨b, o, hA, hat⟩
  · exact .inl (by omega)
  · refine .inr ⟨b, o, hA, fun j hj => ?_⟩
    rw [hat j (by omega), List.getElem?_take, if_pos hj]
/-- A row's last elements. -/
theorem row_drop {h : Hp} {A : Option Addr} {n k : Nat} {vs : List Value} (hr : h.row A n vs) (hk : k ≤ n) : h.row (A.map (·.add k)) (n - k) (vs.drop k) := by
  refine ⟨by rw [List.length_drop, hr.1], ?_⟩
  rcases hr.2 with h0 | ⟨b, o, hA, hat⟩
  · exact .inl (by omega)
  · refine .inr ⟨b, o + k, by rw [hA]; simp [addr_add], fun j hj => ?_⟩
    rw [Nat.add_assoc, hat (k + j) (by omega), List.getElem?_drop]
theorem row_congr {h : Hp} {A B : Option Addr} {n : Nat} {vs : List Value} (hr : h.row A n vs) (e : n = 0 ∨ A = B) : h.row B n vs := by
  rcases e with h0 | rfl
  · exact ⟨hr.1, .inl h0⟩
  · exact hr
/-- s[:k:k] -/
theorem cut_front {h : Hp} {s : Sl} {sz k : Nat} {vs : List Value} (hr : h.row s.a (s.n * sz) vs) (hk : k ≤ s.n) : h.row (Sl.cut s sz 0 (k : Int) (k : Int)).a ((Sl.cut s sz 0 (k : Int) (k : Int)).n * sz) (vs.take (k * sz)) := by
  have h1 := row_take hr (Nat.mul_le_mul_right sz hk)
  have hn : (Sl.cut s sz 0 (k : Int) (k : Int)).n = k := by simp [Sl.cut]
  rw [hn]
  refine row_congr h1 ?_
  unfold Sl.cut
  simp only [Int.toNat_natCast, Int.toNat_zero, Nat.zero_mul]
  by_cases hk0 : k = 0
  · left; rw [hk0]; simp
  · right
    rw [if_neg hk0]
    cases hA : s.a with
    | none => rfl
    | some ad => simp [Addr.add]
/-- s[k:] -/
theorem cut_back {h : Hp} {s : Sl} {sz k : Nat} {vs : List Value} (hr : h.row s.a (s.n * sz) vs) (hk : k ≤ s.n) (hc : s.n ≤ s.c) : h.row (Sl.cut s sz (k : Int) (s.n : Int) (s.c : Int)).a ((Sl.cut s sz (k : Int) (s.n : Int) (s.c : Int)).n * sz) (vs.drop (k * sz)) := by
  have h1 := row_drop hr (Nat.mul_le_mul_right sz hk)
  have hn : (Sl.cut s sz (k : Int) (s.n : Int) (s.c : Int)).n = s.n - k := by simp [Sl.cut]
  rw [hn, Nat.sub_mul]
  refine row_congr h1 ?_
  unfold Sl.cut
  simp only [Int.toNat_natCast]
  by_cases hck : s.c = k
  · left; have : s.n = k := by omega
    rw [this]; simp
  · right; rw [if_neg hck]
/-! ### The records of an edit -/
def front (e : Edit) : Edit := { e with out := e.out.take 256, inn := e.inn.take (256 - min e.out.length 256) }
def behind (e : Edit) : Edit := { e with out := e.out.drop 256, inn := e.inn.drop (256 - min e.out.length 256) }
def putF : Nat → Edit → List (List Int)
  | 0, _ => []
  | f + 1, e => if (behind e).out.length + (behind e).inn.length = 0 then [recB (front e) true] else recB { front e with ptr := [] } false :: putF f (behind e)
/-- The records of an edit. -/
def putS (e : Edit) : List (List Int) := if e.told then putF (e.out.length + e.inn.length + 1) e else []
/-- Buffers of bytes, behind a row of slices. -/
def RowsAt (h : Hp) (ss : List Sl) (bs : List (List Int)) : Prop := ss.length = bs.length ∧ ∀ (i : Nat) (hi : i < ss.length) (hj : i < bs.length), Buf h ss[i] 1 5 (bv bs[i])
def slV (ss : List Sl) : List Value := ss.map fun s => .slice s.a s.n s.c
theorem slV_length (ss : List Sl) : (slV ss).length = ss.length := List.length_map _
theorem RowsAt.keep {h h' : Hp} (k : Keep h h') {ss : List Sl} {bs : List (List Int)} (R : RowsAt h ss bs) : RowsAt h' ss bs := ⟨R.1, fun i hi hj => (R.2 i hi hj).keep k⟩
theorem RowsAt.upd {h h' : Hp} {s s' : Sl} {sz t : Nat} {vs : List Value} (U : Upd h h' s s') (B : Buf h s sz t vs) (ht : (5 : Nat) ≠ t) {ss : List Sl} {bs : List (List Int)} (R : RowsAt h ss bs) : RowsAt h' ss bs := ⟨R.1, fun i hi hj => (R.2 i hi hj).upd U (buf_off (R.2 i hi hj) B ht)⟩
theorem RowsAt.nil (h : Hp) : RowsAt h [] [] := ⟨rfl, fun i hi => absurd hi (Nat.not_lt_zero i)⟩
theorem RowsAt.snoc {h : Hp} {ss : List Sl} {bs : List (List Int)} (R : RowsAt h ss bs) {s : Sl} {b : List Int} (hr : Buf h s 1 5 (bv b)) : RowsAt h (ss ++ [s]) (bs ++ [b]) := by
  refine ⟨by simp [R.1], fun i hi hj => ?_⟩
  by_cases hl : i < ss.length
  · rw [List.getElem_append_left hl, List.getElem_append_left (by rw [← R.1]; exact hl)]
    exact R.2 i hl _
  · have h1 : i = ss.length := by simp at hi; omega
    subst h1
    have h2 : bs.length = ss.length := R.1.symm
    rw [List.getElem_append_right (Nat.le_refl _), List.getElem_append_right (by omega)]
    simp only [Nat.sub_self, h2, List.getElem_cons_zero]
    exact hr
/-- A list that lies nowhere, or in new memory, grows. -/
theorem keep_grow {h h1 h2 : Hp} {s s' : Sl} (K : Keep h h1) (N : s.a = none ∨ New h s) (U : Upd h1 h2 s s') : Keep h h2 ∧ (s'.a = none ∨ New h s') := by
  refine ⟨fun k x e => U.keep k x (fun o hs => ?_) (K k x e), ?_⟩
  · rcases N with h0 | ⟨b, hb, hn⟩
    · rw [h0] at hs; cases hs
    · rw [hb] at hs
      simp only [Option.some.injEq, Addr.mk.injEq] at hs
      rw [← hs.1, hn] at e; cases e
  · rcases U.at_ with h0 | ⟨b, hb, hn⟩
    · rcases N with h3 | ⟨b, hb, hn⟩
      · exact .inl (by rw [h0]; exact h3)
      · exact .inr ⟨b, by rw [h0]; exact hb, hn⟩
    · exact .inr ⟨b, hb, K.dom b hn⟩
theorem EdAt.keep {h h' : Hp} {e : Edit} {l l1 l2 : Sl} (k : Keep h h') (E : EdAt h e l l1 l2) : EdAt h' e l l1 l2 := ⟨k.row E.out, k.row E.inn, k.row E.ptr⟩
theorem record_f' {h : Hp} {e : Edit} {l l1 l2 : Sl} {a b c : Int} {Q : Value → Hp → Prop} (ha : e.log = a) (hb : e.next = b) (hc : e.seq = c) (E : EdAt h e l l1 l2) (S : e.small)
    (hQ : ∀ r h', Buf h' r 1 5 (bv (recB e false)) → Keep h h' → New h r → Q (.slice r.a r.n r.c) h') : F63.Tf a b c l l1 l2 h Q := by
  subst ha hb hc; exact record_f E S hQ
theorem record_t' {h : Hp} {e : Edit} {l l1 l2 : Sl} {a b c : Int} {Q : Value → Hp → Prop} (ha : e.log = a) (hb : e.next = b) (hc : e.seq = c) (E : EdAt h e l l1 l2) (S : e.small)
    (hQ : ∀ r h', Buf h' r 1 5 (bv (recB e true)) → Keep h h' → New h r → Q (.slice r.a r.n r.c) h') : F63.Tt a b c l l1 l2 h Q := by
  subst ha hb hc; exact record_t E S hQ
end Go.Eng.YtblghgacokoklaaDoor
end
section
/-
  SPECS, 6: Put.
-/
set_option linter.unusedSimpArgs false
set_option linter.unusedVariables false
namespace Go.Eng.YtblghgacokoklaaDoor
/-- Whole numbers of an edit lie where their kinds let them. -/
structure Edit.valid (e : Edit) : Prop where
  log : okU e.log
  next : okU e.next
  seq : okU e.seq
  out : ∀ p ∈ e.out, p.lv < 9223372036854775808 ∧ okU p.num
  inn : ∀ p ∈ e.inn, p.lv < 9223372036854775808 ∧ okU p.num ∧ p.weight < 9223372036854775808 ∧ p.bytes < 9223372036854775808 ∧ p.entries < 9223372036854775808
structure Told (e : Edit) : Prop where
  out : ∀ p ∈ e.out, p.ok
  inn : ∀ p ∈ e.inn, p.ok
  ptr : ∀ p ∈ e.ptr, p.size ≤ 64
  n : e.ptr.length ≤ 5
theorem told_spec {e : Edit} (V : e.valid) (h : e.told = true) : Told e := by
  unfold Edit.told at h
  simp only [Bool.and_eq_true, List.all_eq_true, decide_eq_true_eq] at h
  obtain ⟨h1, h2, h3, h4⟩ := h
  refine ⟨fun p hp => ?_, fun p hp => ?_, h3, h4⟩
  · have := h1 p hp
    unfold Place.told at this
    rw [decide_eq_true_eq] at this
    exact ⟨⟨this.1, (V.out p hp).1⟩, (V.out p hp).2⟩
  · have := h2 p hp
    unfold Placed.told at this
    rw [decide_eq_true_eq] at this
    have v := V.inn p hp
    exact ⟨⟨this.1, v.1⟩, v.2.1, ⟨this.2.2.1, v.2.2.1⟩, ⟨this.2.2.2.1, v.2.2.2.1⟩, ⟨this.2.2.2.2.1, v.2.2.2.2⟩, this.2.2.2.2.2.1, this.2.2.2.2.2.2⟩
theorem flat_take {α : Type} (f : α → List Value) (n : Nat) (hf : ∀ x, (f x).length = n) : ∀ (l : List α) (k : Nat), (l.flatMap f).take (k * n) = (l.take k).flatMap f
  | [], k => by simp
  | x :: l, 0 => by simp
  | x :: l, k + 1 => by
    simp only [List.flatMap_cons, List.take_succ_cons]
    rw [Nat.add_mul, Nat.one_mul, Nat.add_comm, List.take_append, hf, List.take_of_length_le (by rw [hf]; omega), Nat.add_sub_cancel_left, flat_take f n hf l k]
theorem flat_drop {α : Type} (f : α → List Value) (n : Nat) (hf : ∀ x, (f x).length = n) : ∀ (l : List α) (k : Nat), (l.flatMap f).drop (k * n) = (l.drop k).flatMap f
  | [], k => by simp
  | x :: l, 0 => by simp
  | x :: l, k + 1 => by
    simp only [List.flatMap_cons, List.drop_succ_cons]
    rw [Nat.add_mul, Nat.one_mul, Nat.add_comm, List.drop_append, hf, List.drop_of_length_le (by rw [hf]; omega), Nat.add_sub_cancel_left, List.nil_append, flat_drop f n hf l k]
theorem take_min {α : Type} (l : List α) (k : Nat) : l.take (min l.length k) = l.take k := by
  rcases Nat.le_total l.length k with h | h
  · rw [Nat.min_eq_left h, List.take_length, List.take_of_length_le h]
  · rw [Nat.min_eq_right h]
theorem drop_min {α : Type} (l : List α) (k : Nat) : l.drop (min l.length k) = l.drop k := by
  rcases Nat.le_total l.length k with h | h
  · rw [Nat.min_eq_left h, List.drop_length, List.drop_of_length_le h]
  · rw [Nat.min_eq_right h]
/-- The first part and what is behind it, in memory. -/
theorem ed_front {h : Hp} {e : Edit} {l l1 l2 : Sl} (E : EdAt h e l l1 l2) :
    EdAt h (front e) (Sl.cut l 2 0 ((min l.n 256 : Nat) : Int) ((min l.n 256 : Nat) : Int)) (Sl.cut l1 7 0 ((min l1.n (256 - min l.n 256) : Nat) : Int) ((min l1.n (256 - min l.n 256) : Nat) : Int)) l2 := by
  have h1 := cut_front E.out (k := min l.n 256) (Nat.min_le_left _ _)
  have h2 := cut_front E.inn (k := min l1.n (256 - min l.n 256)) (Nat.min_le_left _ _)
  refine ⟨?_, ?_, E.ptr⟩
  · have : outV (front e).out = (outV e.out).take (min l.n 256 * 2) := by
      unfold outV
      rw [flat_take Place.cells 2 (fun _ => rfl), E.nout, take_min]
      rfl
    rw [this]; exact h1
  · have : inV (front e).inn = (inV e.inn).take (min l1.n (256 - min l.n 256) * 7) := by
      unfold inV
      rw [flat_take Placed.cells 7 (fun _ => rfl), E.ninn, E.nout, take_min]
      rfl
    rw [this]; exact h2
theorem ed_behind {h : Hp} {e : Edit} {l l1 l2 : Sl} (E : EdAt h e l l1 l2) (c1 : l.n ≤ l.c) (c2 : l1.n ≤ l1.c) :
    EdAt h (behind e) (Sl.cut l 2 ((min l.n 256 : Nat) : Int) (l.n : Int) (l.c : Int)) (Sl.cut l1 7 ((min l1.n (256 - min l.n 256) : Nat) : Int) (l1.n : Int) (l1.c : Int)) l2 := by
  have h1 := cut_back E.out (k := min l.n 256) (Nat.min_le_left _ _) c1
  have h2 := cut_back E.inn (k := min l1.n (256 - min l.n 256)) (Nat.min_le_left _ _) c2
  refine ⟨?_, ?_, E.ptr⟩
  · have : outV (behind e).out = (outV e.out).drop (min l.n 256 * 2) := by
      unfold outV
      rw [flat_drop Place.cells 2 (fun _ => rfl), E.nout, drop_min]
      rfl
    rw [this]; exact h1
  · have : inV (behind e).inn = (inV e.inn).drop (min l1.n (256 - min l.n 256) * 7) := by
      unfold inV
      rw [flat_drop Placed.cells 7 (fun _ => rfl), E.ninn, E.nout, drop_min]
      rfl
    rw [this]; exact h2
theorem iMin_nat (a b : Nat) : iMin (a : Int) (b : Int) = ((min a b : Nat) : Int) := by
  unfold iMin
  split <;> omega
theorem Told.behind {e : Edit} (T : Told e) : Told (behind e) := ⟨fun p hp => T.out p (List.mem_of_mem_drop hp), fun p hp => T.inn p (List.mem_of_mem_drop hp), T.ptr, T.n⟩
theorem Told.small {e : Edit} (T : Told e) (h1 : okU e.log) (h2 : okU e.next) (h3 : okU e.seq) : (front e).small :=
  ⟨h1, h2, h3, fun p hp => T.out p (List.mem_of_mem_take hp), fun p hp => T.inn p (List.mem_of_mem_take hp), T.ptr,
    by have := List.length_take_le 256 e.out; show (e.out.take 256).length ≤ 1000; omega,
    by have := List.length_take_le (256 - min e.out.length 256) e.inn; show (e.inn.take (256 - min e.out.length 256)).length ≤ 1000; omega, by have := T.n; show e.ptr.length ≤ 1000; omega⟩
theorem Edit.small.noptr {e : Edit} (S : e.small) : ({ e with ptr := [] } : Edit).small := ⟨S.log, S.next, S.seq, S.out, S.inn, fun p hp => (by cases hp), S.nout, S.ninn, Nat.zero_le _⟩
/-- PUT TELLS THE RECORDS OF AN EDIT. -/
theorem put_spec {h : Hp} {e : Edit} {l l1 l2 : Sl} {Q : Value → Hp → Prop} (E : EdAt h e l l1 l2) (c1 : l.n ≤ l.c) (c2 : l1.n ≤ l1.c) (V : e.valid) (n1 : e.out.length + e.inn.length ≤ 1000000000000) (n3 : e.ptr.length < 9223372036854775807)
    (hQ : ∀ r h' ss, Buf h' r 1 23 (slV ss) → RowsAt h' ss (putS e) → Keep h h' → (r.a = none ∨ New h r) → Q (.slice r.a r.n r.c) h') : F21.T e.log e.next e.seq l l1 l2 h Q := by
  unfold F21.T
  refine tells_spec E (by omega) (by omega) n3 ⟨e.told, rfl, fun ht => ?_, fun hf => ?_⟩
  · have T := told_spec V ht
    refine ⟨fun l3 x y z l4 l5 l6 h2 => x = e.log ∧ y = e.next ∧ z = e.seq ∧ l6 = l2 ∧ ∃ f e' ss done, e'.log = e.log ∧ e'.next = e.next ∧ e'.seq = e.seq ∧ e'.ptr = e.ptr ∧ Told e' ∧ EdAt h e' l4 l5 l2 ∧ l4.n ≤ l4.c ∧ l5.n ≤ l5.c ∧ Buf h2 l3 1 23 (slV ss) ∧ RowsAt h2 ss done ∧ done ++ putF f e' = putS e ∧ e'.out.length + e'.inn.length < f ∧ Keep h h2 ∧ (l3.a = none ∨ New h l3) ∧ done.length + (e'.out.length + e'.inn.length) ≤ e.out.length + e.inn.length,
      fun _ _ _ _ l4 l5 _ _ => l4.n + l5.n, ⟨rfl, rfl, rfl, rfl, e.out.length + e.inn.length + 1, e, [], [], rfl, rfl, rfl, rfl, T, E, c1, c2, Buf.nil h 1 23, RowsAt.nil h, by unfold putS; rw [if_pos ht]; rfl, by omega, Keep.refl h, .inl rfl, by simp⟩, ?_⟩
    rintro l3 x y z l4 l5 l6 h2 ⟨rfl, rfl, rfl, rfl, f, e', ss, done, g1, g2, g3, g4, T', E', d1, d2, B, R, hput, hfuel, K, hN, hcnt⟩
    have k1 : iMin (l4.n : Int) 256 = ((min l4.n 256 : Nat) : Int) := iMin_nat l4.n 256
    have kw : IntKind.wrap .i64 (256 - ((min l4.n 256 : Nat) : Int)) = ((256 - min l4.n 256 : Nat) : Int) := by rw [wrap_i64 (by omega) (by omega)]; omega
    have k2 : iMin (l5.n : Int) ((256 - min l4.n 256 : Nat) : Int) = ((min l5.n (256 - min l4.n 256) : Nat) : Int) := iMin_nat _ _
    rw [k1, kw, k2]
    have Ef := ed_front E'
    have Eb := ed_behind E' d1 d2
    have no := Eb.nout
    have ni := Eb.ninn
    have n4 := E'.nout
    have n5 := E'.ninn
    have q4 : (Sl.cut l4 2 ((min l4.n 256 : Nat) : Int) (l4.n : Int) (l4.c : Int)).n = l4.n - min l4.n 256 := by simp [Sl.cut]
    have q5 : (Sl.cut l5 7 ((min l5.n (256 - min l4.n 256) : Nat) : Int) (l5.n : Int) (l5.c : Int)).n = l5.n - min l5.n (256 - min l4.n 256) := by simp [Sl.cut]
    have p4 : (Sl.cut l4 2 ((min l4.n 256 : Nat) : Int) (l4.n : Int) (l4.c : Int)).c = l4.c - min l4.n 256 := by simp [Sl.cut]
    have p5 : (Sl.cut l5 7 ((min l5.n (256 - min l4.n 256) : Nat) : Int) (l5.n : Int) (l5.c : Int)).c = l5.c - min l5.n (256 - min l4.n 256) := by simp [Sl.cut]
    have S := T'.small (by rw [g1]; exact V.log) (by rw [g2]; exact V.next) (by rw [g3]; exact V.seq)
    obtain ⟨f, rfl⟩ : ∃ g, f = g + 1 := ⟨f - 1, by omega⟩
    have hss : l3.n = ss.length := by have := B.len; rw [slV_length] at this; omega
    have hdn : ss.length = done.length := R.1
    refine ⟨⟨by omega, by omega, by omega, by omega⟩, ⟨by omega, by omega, by omega, by omega⟩, ⟨by omega, by omega, by omega, by omega⟩, ⟨by omega, by omega, by omega, by omega⟩, fun hz => ?_, fun hz => ?_⟩
    · have hz' : (behind e').out.length + (behind e').inn.length = 0 := by
        rw [wrap_i64 (by omega) (by omega)] at hz
        omega
      refine record_t' (e := front e') g1 g2 g3 (Ef.keep K) S fun r h3 B3 K3 N3 => ⟨r, rfl, ?_⟩
      refine append_buf (B.keep K3) rfl rfl (by omega) fun s' h4 B4 hn4 U4 => ?_
      obtain ⟨K4, N4⟩ := keep_grow (K.trans K3) hN U4
      refine hQ s' h4 (ss ++ [r]) (by simpa [slV] using B4) ?_ K4 N4
      rw [← hput]
      unfold putF
      rw [if_pos hz']
      exact RowsAt.snoc ((R.keep K3).upd U4 (B.keep K3) (by decide)) (B3.upd U4 (buf_off B3 (B.keep K3) (by decide)))
    · have hz' : ¬ (behind e').out.length + (behind e').inn.length = 0 := by
        rw [wrap_i64 (by omega) (by omega)] at hz
        omega
      refine record_f' (e := { front e' with ptr := [] }) g1 g2 g3 (EdAt.keep K ⟨Ef.out, Ef.inn, ⟨rfl, .inl rfl⟩⟩) S.noptr fun r h3 B3 K3 N3 => ⟨r, rfl, ?_⟩
      refine append_buf (B.keep K3) rfl rfl (by omega) fun s' h4 B4 hn4 U4 => ?_
      obtain ⟨K4, N4⟩ := keep_grow (K.trans K3) hN U4
      refine ⟨⟨rfl, rfl, rfl, rfl, f, behind e', ss ++ [r], done ++ [recB { front e' with ptr := [] } false], g1, g2, g3, g4, T'.behind, Eb, by omega, by omega, by simpa [slV] using B4, ?_, ?_, by omega, K4, N4, ?_⟩, by dsimp only; omega⟩
      · exact RowsAt.snoc ((R.keep K3).upd U4 (B.keep K3) (by decide)) (B3.upd U4 (buf_off B3 (B.keep K3) (by decide)))
      · rw [← hput]
        conv => rhs; unfold putF
        rw [if_neg hz', List.append_assoc]
        rfl
      · rw [List.length_append, List.length_singleton]; omega
  · refine hQ ⟨none, 0, 0⟩ h [] (Buf.nil h 1 23) ?_ (Keep.refl h) (.inl rfl)
    have : putS e = [] := by unfold putS; rw [if_neg (by rw [hf]; decide)]
    rw [this]
    exact RowsAt.nil h
end Go.Eng.YtblghgacokoklaaDoor
end
