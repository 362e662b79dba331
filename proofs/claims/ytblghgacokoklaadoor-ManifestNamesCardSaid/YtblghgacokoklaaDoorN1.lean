import Derived.Test.YtblghgacokoklaaDoorN0
import Derived.Test.YtblghgacokoklaaDoorE17
import Derived.Test.YtblghgacokoklaaDoorProg
set_option maxRecDepth 100000
set_option linter.unusedVariables false
open Go.Proofs
namespace Go.Eng.YtblghgacokoklaaDoor
def F58.T (n : Int) : PT := fun h Q =>
  ∀ b, h b = none → Q (.pointer (some ⟨b, 0, none⟩)) (h.new b (.cells ⟨[.int .i64 n]⟩ 159 (0, 0)))
theorem F58.den (V : Value → List Value → PT) (n : Int) : denF Tryd.prog [] [] V [] Tryd.f58 [.v (.int .i64 n)] = F58.T n := by kernel_rfl
def F58.W (T58 : Int → PT) (args : List Value) : PT := match args with
  | [.int .i64 n] => T58 n
  | _ => fun _ _ => False
def F58.V : List Value → PT := F58.W F58.T
theorem F58.ok : FOk Tryd.prog 58 F58.V := by
  refine ⟨⟨_, Tryd.func58, rfl, rfl⟩, fun args => ?_⟩
  have hG : GOk Tryd.prog [] := GOk.nil
  have hV : VOk Tryd.prog noV := noV_ok
  unfold F58.V F58.W
  split
  · exact denF_okV hG hV Tryd.func58 (fun h Q hq => (F58.den _ _) ▸ hq)
  · exact fun h Q hq => hq.elim
def F60.T (p : Option Addr) : PT := fun h Q =>
  ∃ b o, (p : Option Addr) = some ⟨b, o, none⟩ ∧ ∃ n : Int, h.at b o = some (.int .i64 n) ∧ par ((0 : Int) ≤ n) (Q (.bool true) h) (Q (.bool false) h)
theorem F60.den (V : Value → List Value → PT) (p : Option Addr) : denF Tryd.prog [] [] V [] Tryd.f60 [.v (.pointer p)] = F60.T p := by kernel_rfl
def F60.W (T60 : Option Addr → PT) (args : List Value) : PT := match args with
  | [.pointer p] => T60 p
  | _ => fun _ _ => False
def F60.V : List Value → PT := F60.W F60.T
theorem F60.ok : FOk Tryd.prog 60 F60.V := by
  refine ⟨⟨_, Tryd.func60, rfl, rfl⟩, fun args => ?_⟩
  have hG : GOk Tryd.prog [] := GOk.nil
  have hV : VOk Tryd.prog noV := noV_ok
  unfold F60.V F60.W
  split
  · exact denF_okV hG hV Tryd.func60 (fun h Q hq => (F60.den _ _) ▸ hq)
  · exact fun h Q hq => hq.elim
def F115.T (p : Option Addr) (n : Int) : PT := fun h Q =>
  ∃ b o, (p : Option Addr) = some ⟨b, o, none⟩ ∧ ∃ n1 : Int, h.at b o = some (.int .i64 n1) ∧ par ((0 : Int) ≤ n1) (∃ b1 o1, (p : Option Addr) = some ⟨b1, o1, none⟩ ∧ ∃ n2 : Int, h.at b1 o1 = some (.int .i64 n2) ∧ ∃ b2 o2, (p : Option Addr) = some ⟨b2, o2, none⟩ ∧ h.canW b2 o2 1 ∧ ∃ b3 o3, (p : Option Addr) = some ⟨b3, o3, none⟩ ∧ ∃ n3 : Int, (h.wr b2 o2 [.int .i64 (IntKind.wrap .i64 (n2 - n))]).at b3 o3 = some (.int .i64 n3) ∧ par ((0 : Int) ≤ n3) (Q (.bool true) (h.wr b2 o2 [.int .i64 (IntKind.wrap .i64 (n2 - n))])) (Q (.bool false) (h.wr b2 o2 [.int .i64 (IntKind.wrap .i64 (n2 - n))]))) (∃ b4 o4, (p : Option Addr) = some ⟨b4, o4, none⟩ ∧ ∃ n4 : Int, h.at b4 o4 = some (.int .i64 n4) ∧ par ((0 : Int) ≤ n4) (Q (.bool true) h) (Q (.bool false) h))
theorem F115.den (V : Value → List Value → PT) (p : Option Addr) (n : Int) : denF Tryd.prog [] [] V [] Tryd.f115 [.v (.pointer p), .v (.int .i64 n)] = F115.T p n := by kernel_rfl
def F115.W (T115 : Option Addr → Int → PT) (args : List Value) : PT := match args with
  | [.pointer p, .int .i64 n] => T115 p n
  | _ => fun _ _ => False
def F115.V : List Value → PT := F115.W F115.T
theorem F115.ok : FOk Tryd.prog 115 F115.V := by
  refine ⟨⟨_, Tryd.func115, rfl, rfl⟩, fun args => ?_⟩
  have hG : GOk Tryd.prog [] := GOk.nil
  have hV : VOk Tryd.prog noV := noV_ok
  unfold F115.V F115.W
  split
  · exact denF_okV hG hV Tryd.func115 (fun h Q hq => (F115.den _ _ _) ▸ hq)
  · exact fun h Q hq => hq.elim
def F116.T (p : Option Addr) (s : ByteArray) : PT := fun h Q =>
  F115.T p (IntKind.wrap .i64 (1 + (s.size : Int))) h fun r h1 => ∃ b : Bool, r = .bool b ∧ parB b (Q (.tuple ⟨[]⟩) h1) (Q (.tuple ⟨[]⟩) h1)
theorem F116.gen (V : Value → List Value → PT) (T115 : Option Addr → Int → PT) (p : Option Addr) (s : ByteArray) : denF Tryd.prog [] [(115, F115.W T115)] V [] Tryd.f116 [.v (.pointer p), .v (.string s)] = fun h Q =>
  T115 p (IntKind.wrap .i64 (1 + (s.size : Int))) h fun r h1 => ∃ b : Bool, r = .bool b ∧ parB b (Q (.tuple ⟨[]⟩) h1) (Q (.tuple ⟨[]⟩) h1) := by kernel_rfl
theorem F116.den (V : Value → List Value → PT) (p : Option Addr) (s : ByteArray) : denF Tryd.prog [] [(115, F115.V)] V [] Tryd.f116 [.v (.pointer p), .v (.string s)] = F116.T p s := F116.gen V F115.T p s
def F116.W (T116 : Option Addr → ByteArray → PT) (args : List Value) : PT := match args with
  | [.pointer p, .string s] => T116 p s
  | _ => fun _ _ => False
def F116.V : List Value → PT := F116.W F116.T
theorem F116.ok : FOk Tryd.prog 116 F116.V := by
  refine ⟨⟨_, Tryd.func116, rfl, rfl⟩, fun args => ?_⟩
  have hG : GOk Tryd.prog [(115, F115.V)] := GOk.cons F115.ok (GOk.nil)
  have hV : VOk Tryd.prog noV := noV_ok
  unfold F116.V F116.W
  split
  · exact denF_okV hG hV Tryd.func116 (fun h Q hq => (F116.den _ _ _) ▸ hq)
  · exact fun h Q hq => hq.elim
def F91.T (p : Option Addr) (n : Int) (n1 : Int) (n2 : Int) (l : Sl) (l1 : Sl) (l2 : Sl) : PT := fun h Q =>
  F115.T p (IntKind.wrap .i64 (1 + (l.n : Int))) h fun r h1 => ∃ b : Bool, r = .bool b ∧ parB b (∃ J : Hp → Prop, (∀ h2 : Hp, J h2 → ∃ (I : Int → Hp → Prop) (m : Int → Hp → Nat), I 0 h2 ∧ (∀ n3 : Int, ∀ h3 : Hp, I n3 h3 → par (n3 < (l2.n : Int)) (F60.T p h3 fun r1 h4 => ∃ b1 : Bool, r1 = .bool b1 ∧ parB b1 (∃ b2 o, (l2.a : Option Addr) = some ⟨b2, o, none⟩ ∧ ((0 : Int) ≤ n3 ∧ n3 < (l2.n : Int)) ∧ ∃ s : ByteArray, h4.at b2 (o + n3.toNat) = some (.string s) ∧ F116.T p s h4 fun r2 h5 => I (IntKind.wrap .i64 (n3 + 1)) h5 ∧ m (IntKind.wrap .i64 (n3 + 1)) h5 < m n3 h3) (Q (.tuple ⟨[]⟩) h4)) (Q (.tuple ⟨[]⟩) h3))) ∧ (∃ (I1 : Int → Hp → Prop) (m1 : Int → Hp → Nat), I1 0 h1 ∧ (∀ n4 : Int, ∀ h6 : Hp, I1 n4 h6 → par (n4 < (l1.n : Int)) (F60.T p h6 fun r3 h7 => ∃ b3 : Bool, r3 = .bool b3 ∧ parB b3 (∃ b4 o1, (l1.a : Option Addr) = some ⟨b4, o1, none⟩ ∧ ((0 : Int) ≤ n4 ∧ n4 < (l1.n : Int)) ∧ ∃ s1 : ByteArray, h7.at b4 (((o1 + n4.toNat * 7) + 1) + 4) = some (.string s1) ∧ F116.T p s1 h7 fun r4 h8 => ∃ b5 o2, (l1.a : Option Addr) = some ⟨b5, o2, none⟩ ∧ ((0 : Int) ≤ n4 ∧ n4 < (l1.n : Int)) ∧ ∃ s2 : ByteArray, h8.at b5 (((o2 + n4.toNat * 7) + 1) + 5) = some (.string s2) ∧ F115.T p (s2.size : Int) h8 fun r5 h9 => ∃ b6 : Bool, r5 = .bool b6 ∧ parB b6 (I1 (IntKind.wrap .i64 (n4 + 1)) h9 ∧ m1 (IntKind.wrap .i64 (n4 + 1)) h9 < m1 n4 h6) (I1 (IntKind.wrap .i64 (n4 + 1)) h9 ∧ m1 (IntKind.wrap .i64 (n4 + 1)) h9 < m1 n4 h6)) (J h7)) (J h6)))) (∃ J1 : Hp → Prop, (∀ h10 : Hp, J1 h10 → ∃ (I2 : Int → Hp → Prop) (m2 : Int → Hp → Nat), I2 0 h10 ∧ (∀ n5 : Int, ∀ h11 : Hp, I2 n5 h11 → par (n5 < (l2.n : Int)) (F60.T p h11 fun r6 h12 => ∃ b7 : Bool, r6 = .bool b7 ∧ parB b7 (∃ b8 o3, (l2.a : Option Addr) = some ⟨b8, o3, none⟩ ∧ ((0 : Int) ≤ n5 ∧ n5 < (l2.n : Int)) ∧ ∃ s3 : ByteArray, h12.at b8 (o3 + n5.toNat) = some (.string s3) ∧ F116.T p s3 h12 fun r7 h13 => I2 (IntKind.wrap .i64 (n5 + 1)) h13 ∧ m2 (IntKind.wrap .i64 (n5 + 1)) h13 < m2 n5 h11) (Q (.tuple ⟨[]⟩) h12)) (Q (.tuple ⟨[]⟩) h11))) ∧ (∃ (I3 : Int → Hp → Prop) (m3 : Int → Hp → Nat), I3 0 h1 ∧ (∀ n6 : Int, ∀ h14 : Hp, I3 n6 h14 → par (n6 < (l1.n : Int)) (F60.T p h14 fun r8 h15 => ∃ b9 : Bool, r8 = .bool b9 ∧ parB b9 (∃ b10 o4, (l1.a : Option Addr) = some ⟨b10, o4, none⟩ ∧ ((0 : Int) ≤ n6 ∧ n6 < (l1.n : Int)) ∧ ∃ s4 : ByteArray, h15.at b10 (((o4 + n6.toNat * 7) + 1) + 4) = some (.string s4) ∧ F116.T p s4 h15 fun r9 h16 => ∃ b11 o5, (l1.a : Option Addr) = some ⟨b11, o5, none⟩ ∧ ((0 : Int) ≤ n6 ∧ n6 < (l1.n : Int)) ∧ ∃ s5 : ByteArray, h16.at b11 (((o5 + n6.toNat * 7) + 1) + 5) = some (.string s5) ∧ F115.T p (s5.size : Int) h16 fun r10 h17 => ∃ b12 : Bool, r10 = .bool b12 ∧ parB b12 (I3 (IntKind.wrap .i64 (n6 + 1)) h17 ∧ m3 (IntKind.wrap .i64 (n6 + 1)) h17 < m3 n6 h14) (I3 (IntKind.wrap .i64 (n6 + 1)) h17 ∧ m3 (IntKind.wrap .i64 (n6 + 1)) h17 < m3 n6 h14)) (J1 h15)) (J1 h14))))
theorem F91.gen (V : Value → List Value → PT) (T60 : Option Addr → PT) (T115 : Option Addr → Int → PT) (T116 : Option Addr → ByteArray → PT) (p : Option Addr) (n : Int) (n1 : Int) (n2 : Int) (l : Sl) (l1 : Sl) (l2 : Sl) : denF Tryd.prog [3] [(60, F60.W T60), (115, F115.W T115), (116, F116.W T116)] V [(7, .join [] []), (58, .loop [(4, .int .i64)] []), (62, .loop [(5, .int .i64)] [])] Tryd.f91 [.v (.pointer p), .v (.agg ⟨[.int .u64 n, .int .u64 n1, .int .u64 n2, .slice l.a l.n l.c, .slice l1.a l1.n l1.c, .slice l2.a l2.n l2.c]⟩)] = fun h Q =>
  T115 p (IntKind.wrap .i64 (1 + (l.n : Int))) h fun r h1 => ∃ b : Bool, r = .bool b ∧ parB b (∃ J : Hp → Prop, (∀ h2 : Hp, J h2 → ∃ (I : Int → Hp → Prop) (m : Int → Hp → Nat), I 0 h2 ∧ (∀ n3 : Int, ∀ h3 : Hp, I n3 h3 → par (n3 < (l2.n : Int)) (T60 p h3 fun r1 h4 => ∃ b1 : Bool, r1 = .bool b1 ∧ parB b1 (∃ b2 o, (l2.a : Option Addr) = some ⟨b2, o, none⟩ ∧ ((0 : Int) ≤ n3 ∧ n3 < (l2.n : Int)) ∧ ∃ s : ByteArray, h4.at b2 (o + n3.toNat) = some (.string s) ∧ T116 p s h4 fun r2 h5 => I (IntKind.wrap .i64 (n3 + 1)) h5 ∧ m (IntKind.wrap .i64 (n3 + 1)) h5 < m n3 h3) (Q (.tuple ⟨[]⟩) h4)) (Q (.tuple ⟨[]⟩) h3))) ∧ (∃ (I1 : Int → Hp → Prop) (m1 : Int → Hp → Nat), I1 0 h1 ∧ (∀ n4 : Int, ∀ h6 : Hp, I1 n4 h6 → par (n4 < (l1.n : Int)) (T60 p h6 fun r3 h7 => ∃ b3 : Bool, r3 = .bool b3 ∧ parB b3 (∃ b4 o1, (l1.a : Option Addr) = some ⟨b4, o1, none⟩ ∧ ((0 : Int) ≤ n4 ∧ n4 < (l1.n : Int)) ∧ ∃ s1 : ByteArray, h7.at b4 (((o1 + n4.toNat * 7) + 1) + 4) = some (.string s1) ∧ T116 p s1 h7 fun r4 h8 => ∃ b5 o2, (l1.a : Option Addr) = some ⟨b5, o2, none⟩ ∧ ((0 : Int) ≤ n4 ∧ n4 < (l1.n : Int)) ∧ ∃ s2 : ByteArray, h8.at b5 (((o2 + n4.toNat * 7) + 1) + 5) = some (.string s2) ∧ T115 p (s2.size : Int) h8 fun r5 h9 => ∃ b6 : Bool, r5 = .bool b6 ∧ parB b6 (I1 (IntKind.wrap .i64 (n4 + 1)) h9 ∧ m1 (IntKind.wrap .i64 (n4 + 1)) h9 < m1 n4 h6) (I1 (IntKind.wrap .i64 (n4 + 1)) h9 ∧ m1 (IntKind.wrap .i64 (n4 + 1)) h9 < m1 n4 h6)) (J h7)) (J h6)))) (∃ J1 : Hp → Prop, (∀ h10 : Hp, J1 h10 → ∃ (I2 : Int → Hp → Prop) (m2 : Int → Hp → Nat), I2 0 h10 ∧ (∀ n5 : Int, ∀ h11 : Hp, I2 n5 h11 → par (n5 < (l2.n : Int)) (T60 p h11 fun r6 h12 => ∃ b7 : Bool, r6 = .bool b7 ∧ parB b7 (∃ b8 o3, (l2.a : Option Addr) = some ⟨b8, o3, none⟩ ∧ ((0 : Int) ≤ n5 ∧ n5 < (l2.n : Int)) ∧ ∃ s3 : ByteArray, h12.at b8 (o3 + n5.toNat) = some (.string s3) ∧ T116 p s3 h12 fun r7 h13 => I2 (IntKind.wrap .i64 (n5 + 1)) h13 ∧ m2 (IntKind.wrap .i64 (n5 + 1)) h13 < m2 n5 h11) (Q (.tuple ⟨[]⟩) h12)) (Q (.tuple ⟨[]⟩) h11))) ∧ (∃ (I3 : Int → Hp → Prop) (m3 : Int → Hp → Nat), I3 0 h1 ∧ (∀ n6 : Int, ∀ h14 : Hp, I3 n6 h14 → par (n6 < (l1.n : Int)) (T60 p h14 fun r8 h15 => ∃ b9 : Bool, r8 = .bool b9 ∧ parB b9 (∃ b10 o4, (l1.a : Option Addr) = some ⟨b10, o4, none⟩ ∧ ((0 : Int) ≤ n6 ∧ n6 < (l1.n : Int)) ∧ ∃ s4 : ByteArray, h15.at b10 (((o4 + n6.toNat * 7) + 1) + 4) = some (.string s4) ∧ T116 p s4 h15 fun r9 h16 => ∃ b11 o5, (l1.a : Option Addr) = some ⟨b11, o5, none⟩ ∧ ((0 : Int) ≤ n6 ∧ n6 < (l1.n : Int)) ∧ ∃ s5 : ByteArray, h16.at b11 (((o5 + n6.toNat * 7) + 1) + 5) = some (.string s5) ∧ T115 p (s5.size : Int) h16 fun r10 h17 => ∃ b12 : Bool, r10 = .bool b12 ∧ parB b12 (I3 (IntKind.wrap .i64 (n6 + 1)) h17 ∧ m3 (IntKind.wrap .i64 (n6 + 1)) h17 < m3 n6 h14) (I3 (IntKind.wrap .i64 (n6 + 1)) h17 ∧ m3 (IntKind.wrap .i64 (n6 + 1)) h17 < m3 n6 h14)) (J1 h15)) (J1 h14)))) := by kernel_rfl
theorem F91.den (V : Value → List Value → PT) (p : Option Addr) (n : Int) (n1 : Int) (n2 : Int) (l : Sl) (l1 : Sl) (l2 : Sl) : denF Tryd.prog [3] [(60, F60.V), (115, F115.V), (116, F116.V)] V [(7, .join [] []), (58, .loop [(4, .int .i64)] []), (62, .loop [(5, .int .i64)] [])] Tryd.f91 [.v (.pointer p), .v (.agg ⟨[.int .u64 n, .int .u64 n1, .int .u64 n2, .slice l.a l.n l.c, .slice l1.a l1.n l1.c, .slice l2.a l2.n l2.c]⟩)] = F91.T p n n1 n2 l l1 l2 := F91.gen V F60.T F115.T F116.T p n n1 n2 l l1 l2
def F91.W (T91 : Option Addr → Int → Int → Int → Sl → Sl → Sl → PT) (args : List Value) : PT := match args with
  | [.pointer p, .agg ⟨[.int .u64 n, .int .u64 n1, .int .u64 n2, .slice l_a l_n l_c, .slice l1_a l1_n l1_c, .slice l2_a l2_n l2_c]⟩] => T91 p n n1 n2 ⟨l_a, l_n, l_c⟩ ⟨l1_a, l1_n, l1_c⟩ ⟨l2_a, l2_n, l2_c⟩
  | _ => fun _ _ => False
def F91.V : List Value → PT := F91.W F91.T
theorem F91.ok : FOk Tryd.prog 91 F91.V := by
  refine ⟨⟨_, Tryd.func91, rfl, rfl⟩, fun args => ?_⟩
  have hG : GOk Tryd.prog [(60, F60.V), (115, F115.V), (116, F116.V)] := GOk.cons F60.ok (GOk.cons F115.ok (GOk.cons F116.ok (GOk.nil)))
  have hV : VOk Tryd.prog noV := noV_ok
  unfold F91.V F91.W
  split
  · exact denF_okV hG hV Tryd.func91 (fun h Q hq => (F91.den _ _ _ _ _ _ _ _) ▸ hq)
  · exact fun h Q hq => hq.elim
def F59.T (p : Option Addr) (l : Sl) : PT := fun h Q =>
  ∃ (I : Int → Hp → Prop) (m : Int → Hp → Nat), I 0 h ∧ (∀ n : Int, ∀ h1 : Hp, I n h1 → par (n < (l.n : Int)) (F60.T p h1 fun r h2 => ∃ b : Bool, r = .bool b ∧ parB b (∃ b1 o, (l.a : Option Addr) = some ⟨b1, o, none⟩ ∧ ((0 : Int) ≤ n ∧ n < (l.n : Int)) ∧ ∃ n1 : Int, h2.at b1 (o + n.toNat * 6) = some (.int .u64 n1) ∧ ∃ n2 : Int, h2.at b1 ((o + n.toNat * 6) + 1) = some (.int .u64 n2) ∧ ∃ n3 : Int, h2.at b1 ((o + n.toNat * 6) + 2) = some (.int .u64 n3) ∧ ∃ l1 : Sl, h2.at b1 ((o + n.toNat * 6) + 3) = some (.slice l1.a l1.n l1.c) ∧ ∃ l2 : Sl, h2.at b1 ((o + n.toNat * 6) + 4) = some (.slice l2.a l2.n l2.c) ∧ ∃ l3 : Sl, h2.at b1 ((o + n.toNat * 6) + 5) = some (.slice l3.a l3.n l3.c) ∧ F91.T p n1 n2 n3 l1 l2 l3 h2 fun r1 h3 => I (IntKind.wrap .i64 (n + 1)) h3 ∧ m (IntKind.wrap .i64 (n + 1)) h3 < m n h1) (Q (.tuple ⟨[]⟩) h2)) (Q (.tuple ⟨[]⟩) h1))
theorem F59.gen (V : Value → List Value → PT) (T60 : Option Addr → PT) (T91 : Option Addr → Int → Int → Int → Sl → Sl → Sl → PT) (p : Option Addr) (l : Sl) : denF Tryd.prog [] [(60, F60.W T60), (91, F91.W T91)] V [(6, .loop [(4, .int .i64)] [])] Tryd.f59 [.v (.pointer p), .v (.slice l.a l.n l.c)] = fun h Q =>
  ∃ (I : Int → Hp → Prop) (m : Int → Hp → Nat), I 0 h ∧ (∀ n : Int, ∀ h1 : Hp, I n h1 → par (n < (l.n : Int)) (T60 p h1 fun r h2 => ∃ b : Bool, r = .bool b ∧ parB b (∃ b1 o, (l.a : Option Addr) = some ⟨b1, o, none⟩ ∧ ((0 : Int) ≤ n ∧ n < (l.n : Int)) ∧ ∃ n1 : Int, h2.at b1 (o + n.toNat * 6) = some (.int .u64 n1) ∧ ∃ n2 : Int, h2.at b1 ((o + n.toNat * 6) + 1) = some (.int .u64 n2) ∧ ∃ n3 : Int, h2.at b1 ((o + n.toNat * 6) + 2) = some (.int .u64 n3) ∧ ∃ l1 : Sl, h2.at b1 ((o + n.toNat * 6) + 3) = some (.slice l1.a l1.n l1.c) ∧ ∃ l2 : Sl, h2.at b1 ((o + n.toNat * 6) + 4) = some (.slice l2.a l2.n l2.c) ∧ ∃ l3 : Sl, h2.at b1 ((o + n.toNat * 6) + 5) = some (.slice l3.a l3.n l3.c) ∧ T91 p n1 n2 n3 l1 l2 l3 h2 fun r1 h3 => I (IntKind.wrap .i64 (n + 1)) h3 ∧ m (IntKind.wrap .i64 (n + 1)) h3 < m n h1) (Q (.tuple ⟨[]⟩) h2)) (Q (.tuple ⟨[]⟩) h1)) := by kernel_rfl
theorem F59.den (V : Value → List Value → PT) (p : Option Addr) (l : Sl) : denF Tryd.prog [] [(60, F60.V), (91, F91.V)] V [(6, .loop [(4, .int .i64)] [])] Tryd.f59 [.v (.pointer p), .v (.slice l.a l.n l.c)] = F59.T p l := F59.gen V F60.T F91.T p l
def F59.W (T59 : Option Addr → Sl → PT) (args : List Value) : PT := match args with
  | [.pointer p, .slice l_a l_n l_c] => T59 p ⟨l_a, l_n, l_c⟩
  | _ => fun _ _ => False
def F59.V : List Value → PT := F59.W F59.T
theorem F59.ok : FOk Tryd.prog 59 F59.V := by
  refine ⟨⟨_, Tryd.func59, rfl, rfl⟩, fun args => ?_⟩
  have hG : GOk Tryd.prog [(60, F60.V), (91, F91.V)] := GOk.cons F60.ok (GOk.cons F91.ok (GOk.nil))
  have hV : VOk Tryd.prog noV := noV_ok
  unfold F59.V F59.W
  split
  · exact denF_okV hG hV Tryd.func59 (fun h Q hq => (F59.den _ _ _) ▸ hq)
  · exact fun h Q hq => hq.elim
def F17.T (l : Sl) : PT := fun h Q =>
  F58.T 10000 h fun r h1 => ∃ p : Option Addr, r = .pointer p ∧ F59.T p l h1 fun r1 h2 => F60.T p h2 fun r2 h3 => ∃ b : Bool, r2 = .bool b ∧ parB b (Q (.bool true) h3) (Q (.bool false) h3)
theorem F17.gen (V : Value → List Value → PT) (T58 : Int → PT) (T59 : Option Addr → Sl → PT) (T60 : Option Addr → PT) (l : Sl) : denF Tryd.prog [] [(58, F58.W T58), (59, F59.W T59), (60, F60.W T60)] V [] Tryd.f17 [.v (.slice l.a l.n l.c)] = fun h Q =>
  T58 10000 h fun r h1 => ∃ p : Option Addr, r = .pointer p ∧ T59 p l h1 fun r1 h2 => T60 p h2 fun r2 h3 => ∃ b : Bool, r2 = .bool b ∧ parB b (Q (.bool true) h3) (Q (.bool false) h3) := by kernel_rfl
theorem F17.den (V : Value → List Value → PT) (l : Sl) : denF Tryd.prog [] [(58, F58.V), (59, F59.V), (60, F60.V)] V [] Tryd.f17 [.v (.slice l.a l.n l.c)] = F17.T l := F17.gen V F58.T F59.T F60.T l
def F17.W (T17 : Sl → PT) (args : List Value) : PT := match args with
  | [.slice l_a l_n l_c] => T17 ⟨l_a, l_n, l_c⟩
  | _ => fun _ _ => False
def F17.V : List Value → PT := F17.W F17.T
theorem F17.ok : FOk Tryd.prog 17 F17.V := by
  refine ⟨⟨_, Tryd.func17, rfl, rfl⟩, fun args => ?_⟩
  have hG : GOk Tryd.prog [(58, F58.V), (59, F59.V), (60, F60.V)] := GOk.cons F58.ok (GOk.cons F59.ok (GOk.cons F60.ok (GOk.nil)))
  have hV : VOk Tryd.prog noV := noV_ok
  unfold F17.V F17.W
  split
  · exact denF_okV hG hV Tryd.func17 (fun h Q hq => (F17.den _ _) ▸ hq)
  · exact fun h Q hq => hq.elim
def F18.T (l : Sl) : PT := fun h Q =>
  ∃ (I : Sl → Int → Hp → Prop) (m : Sl → Int → Hp → Nat), I ⟨none, 0, 0⟩ 0 h ∧ (∀ l1 : Sl, ∀ n : Int, ∀ h1 : Hp, I l1 n h1 → par (n < (l.n : Int)) (∃ b o, (l.a : Option Addr) = some ⟨b, o, none⟩ ∧ ((0 : Int) ≤ n ∧ n < (l.n : Int)) ∧ ∃ n1 : Int, h1.at b (o + n.toNat * 6) = some (.int .u64 n1) ∧ ∃ n2 : Int, h1.at b ((o + n.toNat * 6) + 1) = some (.int .u64 n2) ∧ ∃ n3 : Int, h1.at b ((o + n.toNat * 6) + 2) = some (.int .u64 n3) ∧ ∃ l2 : Sl, h1.at b ((o + n.toNat * 6) + 3) = some (.slice l2.a l2.n l2.c) ∧ ∃ l3 : Sl, h1.at b ((o + n.toNat * 6) + 4) = some (.slice l3.a l3.n l3.c) ∧ ∃ l4 : Sl, h1.at b ((o + n.toNat * 6) + 5) = some (.slice l4.a l4.n l4.c) ∧ ∃ vs, h1.row l2.a (l2.n * 2) vs ∧ (∀ v ∈ vs, Value.oneCell' v = true) ∧ appendD ⟨none, 0, 0⟩ 104 2 16 [.int .i64 0, .int .u64 0] l2.n vs h1 fun l5 h2 => ∃ vs1, h2.row l3.a (l3.n * 7) vs1 ∧ (∀ v ∈ vs1, Value.oneCell' v = true) ∧ appendD ⟨none, 0, 0⟩ 108 7 72 [.int .i64 0, .int .u64 0, .int .i64 0, .int .i64 0, .int .i64 0, .string (ByteArray.mk #[]), .string (ByteArray.mk #[])] l3.n vs1 h2 fun l6 h3 => ∃ vs2, h3.row l4.a (l4.n * 1) vs2 ∧ (∀ v ∈ vs2, Value.oneCell' v = true) ∧ appendD ⟨none, 0, 0⟩ 9 1 16 [.string (ByteArray.mk #[])] l4.n vs2 h3 fun l7 h4 => appendD l1 65 6 96 [.int .u64 0, .int .u64 0, .int .u64 0, .slice none 0 0, .slice none 0 0, .slice none 0 0] 1 [.int .u64 n1, .int .u64 n2, .int .u64 n3, .slice l5.a l5.n l5.c, .slice l6.a l6.n l6.c, .slice l7.a l7.n l7.c] h4 fun l8 h5 => I l8 (IntKind.wrap .i64 (n + 1)) h5 ∧ m l8 (IntKind.wrap .i64 (n + 1)) h5 < m l1 n h1) (Q (.slice l1.a l1.n l1.c) h1))
theorem F18.den (V : Value → List Value → PT) (l : Sl) : denF Tryd.prog [5, 30] [] V [(58, .loop [(3, .sl), (4, .int .i64)] [])] Tryd.f18 [.v (.slice l.a l.n l.c)] = F18.T l := by kernel_rfl
def F18.W (T18 : Sl → PT) (args : List Value) : PT := match args with
  | [.slice l_a l_n l_c] => T18 ⟨l_a, l_n, l_c⟩
  | _ => fun _ _ => False
def F18.V : List Value → PT := F18.W F18.T
theorem F18.ok : FOk Tryd.prog 18 F18.V := by
  refine ⟨⟨_, Tryd.func18, rfl, rfl⟩, fun args => ?_⟩
  have hG : GOk Tryd.prog [] := GOk.nil
  have hV : VOk Tryd.prog noV := noV_ok
  unfold F18.V F18.W
  split
  · exact denF_okV hG hV Tryd.func18 (fun h Q hq => (F18.den _ _) ▸ hq)
  · exact fun h Q hq => hq.elim
def F117.T (p : Option Addr) (l : Sl) (n : Int) : PT := fun h Q =>
  ∀ b, h b = none → ∃ vs, (h.new b (.cells ⟨[]⟩ 104 (0, 0))).row l.a (l.n * 2) vs ∧ (∀ v ∈ vs, Value.oneCell' v = true) ∧ appendD ⟨(some ⟨b, 0, none⟩), 0, 0⟩ 104 2 16 [.int .i64 0, .int .u64 0] l.n vs (h.new b (.cells ⟨[]⟩ 104 (0, 0))) fun l1 h1 => ∃ (I : Sl → Int → Hp → Prop) (m : Sl → Int → Hp → Nat), I l1 0 h1 ∧ (∀ l2 : Sl, ∀ n1 : Int, ∀ h2 : Hp, I l2 n1 h2 → par (n1 < n) (F85.T n1 h2 fun r h3 => ∃ n2 : Int, r = .int .i64 n2 ∧ appendD l2 104 2 16 [.int .i64 0, .int .u64 0] 1 [.int .i64 n2, .int .u64 0] h3 fun l3 h4 => I l3 (IntKind.wrap .i64 (n1 + 1)) h4 ∧ m l3 (IntKind.wrap .i64 (n1 + 1)) h4 < m l2 n1 h2) (∃ b1 o, (p : Option Addr) = some ⟨b1, o, none⟩ ∧ ∃ l4 : Sl, h2.at b1 (o + 16) = some (.slice l4.a l4.n l4.c) ∧ appendD l4 61 1 24 [.slice none 0 0] 1 [.slice l2.a l2.n l2.c] h2 fun l5 h5 => ∃ b2 o1, (p : Option Addr) = some ⟨b2, o1, none⟩ ∧ h5.canW b2 (o1 + 16) 1 ∧ ∃ b3 o2, (p : Option Addr) = some ⟨b3, o2, none⟩ ∧ ∃ l6 : Sl, (h5.wr b2 (o1 + 16) [.slice l5.a l5.n l5.c]).at b3 (o2 + 17) = some (.slice l6.a l6.n l6.c) ∧ appendD l6 3 1 8 [.int .i64 0] 1 [.int .i64 (l.n : Int)] (h5.wr b2 (o1 + 16) [.slice l5.a l5.n l5.c]) fun l7 h6 => ∃ b4 o3, (p : Option Addr) = some ⟨b4, o3, none⟩ ∧ h6.canW b4 (o3 + 17) 1 ∧ Sl.okCut l2 0 (l.n : Int) (l2.n : Int) ∧ Q (.slice (Sl.cut l2 2 0 (l.n : Int) (l2.n : Int)).a (Sl.cut l2 2 0 (l.n : Int) (l2.n : Int)).n (Sl.cut l2 2 0 (l.n : Int) (l2.n : Int)).c) (h6.wr b4 (o3 + 17) [.slice l7.a l7.n l7.c])))
theorem F117.gen (V : Value → List Value → PT) (T85 : Int → PT) (p : Option Addr) (l : Sl) (n : Int) : denF Tryd.prog [22, 30, 41] [(85, F85.W T85)] V [(122, .loop [(7, .sl), (8, .int .i64)] [])] Tryd.f117 [.v (.pointer p), .v (.slice l.a l.n l.c), .v (.int .i64 n)] = fun h Q =>
  ∀ b, h b = none → ∃ vs, (h.new b (.cells ⟨[]⟩ 104 (0, 0))).row l.a (l.n * 2) vs ∧ (∀ v ∈ vs, Value.oneCell' v = true) ∧ appendD ⟨(some ⟨b, 0, none⟩), 0, 0⟩ 104 2 16 [.int .i64 0, .int .u64 0] l.n vs (h.new b (.cells ⟨[]⟩ 104 (0, 0))) fun l1 h1 => ∃ (I : Sl → Int → Hp → Prop) (m : Sl → Int → Hp → Nat), I l1 0 h1 ∧ (∀ l2 : Sl, ∀ n1 : Int, ∀ h2 : Hp, I l2 n1 h2 → par (n1 < n) (T85 n1 h2 fun r h3 => ∃ n2 : Int, r = .int .i64 n2 ∧ appendD l2 104 2 16 [.int .i64 0, .int .u64 0] 1 [.int .i64 n2, .int .u64 0] h3 fun l3 h4 => I l3 (IntKind.wrap .i64 (n1 + 1)) h4 ∧ m l3 (IntKind.wrap .i64 (n1 + 1)) h4 < m l2 n1 h2) (∃ b1 o, (p : Option Addr) = some ⟨b1, o, none⟩ ∧ ∃ l4 : Sl, h2.at b1 (o + 16) = some (.slice l4.a l4.n l4.c) ∧ appendD l4 61 1 24 [.slice none 0 0] 1 [.slice l2.a l2.n l2.c] h2 fun l5 h5 => ∃ b2 o1, (p : Option Addr) = some ⟨b2, o1, none⟩ ∧ h5.canW b2 (o1 + 16) 1 ∧ ∃ b3 o2, (p : Option Addr) = some ⟨b3, o2, none⟩ ∧ ∃ l6 : Sl, (h5.wr b2 (o1 + 16) [.slice l5.a l5.n l5.c]).at b3 (o2 + 17) = some (.slice l6.a l6.n l6.c) ∧ appendD l6 3 1 8 [.int .i64 0] 1 [.int .i64 (l.n : Int)] (h5.wr b2 (o1 + 16) [.slice l5.a l5.n l5.c]) fun l7 h6 => ∃ b4 o3, (p : Option Addr) = some ⟨b4, o3, none⟩ ∧ h6.canW b4 (o3 + 17) 1 ∧ Sl.okCut l2 0 (l.n : Int) (l2.n : Int) ∧ Q (.slice (Sl.cut l2 2 0 (l.n : Int) (l2.n : Int)).a (Sl.cut l2 2 0 (l.n : Int) (l2.n : Int)).n (Sl.cut l2 2 0 (l.n : Int) (l2.n : Int)).c) (h6.wr b4 (o3 + 17) [.slice l7.a l7.n l7.c]))) := by kernel_rfl
theorem F117.den (V : Value → List Value → PT) (p : Option Addr) (l : Sl) (n : Int) : denF Tryd.prog [22, 30, 41] [(85, F85.V)] V [(122, .loop [(7, .sl), (8, .int .i64)] [])] Tryd.f117 [.v (.pointer p), .v (.slice l.a l.n l.c), .v (.int .i64 n)] = F117.T p l n := F117.gen V F85.T p l n
def F117.W (T117 : Option Addr → Sl → Int → PT) (args : List Value) : PT := match args with
  | [.pointer p, .slice l_a l_n l_c, .int .i64 n] => T117 p ⟨l_a, l_n, l_c⟩ n
  | _ => fun _ _ => False
def F117.V : List Value → PT := F117.W F117.T
theorem F117.ok : FOk Tryd.prog 117 F117.V := by
  refine ⟨⟨_, Tryd.func117, rfl, rfl⟩, fun args => ?_⟩
  have hG : GOk Tryd.prog [(85, F85.V)] := GOk.cons F85.ok (GOk.nil)
  have hV : VOk Tryd.prog noV := noV_ok
  unfold F117.V F117.W
  split
  · exact denF_okV hG hV Tryd.func117 (fun h Q hq => (F117.den _ _ _ _) ▸ hq)
  · exact fun h Q hq => hq.elim
def F92.T (p : Option Addr) (l : Sl) : PT := fun h Q =>
  F117.T p l 40 h fun r h1 => ∃ l1 : Sl, r = .slice l1.a l1.n l1.c ∧ Q (.slice l1.a l1.n l1.c) h1
theorem F92.gen (V : Value → List Value → PT) (T117 : Option Addr → Sl → Int → PT) (p : Option Addr) (l : Sl) : denF Tryd.prog [] [(117, F117.W T117)] V [] Tryd.f92 [.v (.pointer p), .v (.slice l.a l.n l.c)] = fun h Q =>
  T117 p l 40 h fun r h1 => ∃ l1 : Sl, r = .slice l1.a l1.n l1.c ∧ Q (.slice l1.a l1.n l1.c) h1 := by kernel_rfl
theorem F92.den (V : Value → List Value → PT) (p : Option Addr) (l : Sl) : denF Tryd.prog [] [(117, F117.V)] V [] Tryd.f92 [.v (.pointer p), .v (.slice l.a l.n l.c)] = F92.T p l := F92.gen V F117.T p l
def F92.W (T92 : Option Addr → Sl → PT) (args : List Value) : PT := match args with
  | [.pointer p, .slice l_a l_n l_c] => T92 p ⟨l_a, l_n, l_c⟩
  | _ => fun _ _ => False
def F92.V : List Value → PT := F92.W F92.T
theorem F92.ok : FOk Tryd.prog 92 F92.V := by
  refine ⟨⟨_, Tryd.func92, rfl, rfl⟩, fun args => ?_⟩
  have hG : GOk Tryd.prog [(117, F117.V)] := GOk.cons F117.ok (GOk.nil)
  have hV : VOk Tryd.prog noV := noV_ok
  unfold F92.V F92.W
  split
  · exact denF_okV hG hV Tryd.func92 (fun h Q hq => (F92.den _ _ _) ▸ hq)
  · exact fun h Q hq => hq.elim
def F118.T (p : Option Addr) (l : Sl) (n : Int) : PT := fun h Q =>
  ∀ b, h b = none → ∃ vs, (h.new b (.cells ⟨[]⟩ 108 (0, 0))).row l.a (l.n * 7) vs ∧ (∀ v ∈ vs, Value.oneCell' v = true) ∧ appendD ⟨(some ⟨b, 0, none⟩), 0, 0⟩ 108 7 72 [.int .i64 0, .int .u64 0, .int .i64 0, .int .i64 0, .int .i64 0, .string (ByteArray.mk #[]), .string (ByteArray.mk #[])] l.n vs (h.new b (.cells ⟨[]⟩ 108 (0, 0))) fun l1 h1 => ∃ (I : Sl → Int → Hp → Prop) (m : Sl → Int → Hp → Nat), I l1 0 h1 ∧ (∀ l2 : Sl, ∀ n1 : Int, ∀ h2 : Hp, I l2 n1 h2 → par (n1 < n) (F85.T n1 h2 fun r h3 => ∃ n2 : Int, r = .int .i64 n2 ∧ appendD l2 108 7 72 [.int .i64 0, .int .u64 0, .int .i64 0, .int .i64 0, .int .i64 0, .string (ByteArray.mk #[]), .string (ByteArray.mk #[])] 1 [.int .i64 n2, .int .u64 0, .int .i64 0, .int .i64 0, .int .i64 0, .string (ByteArray.mk #[]), .string (ByteArray.mk #[])] h3 fun l3 h4 => I l3 (IntKind.wrap .i64 (n1 + 1)) h4 ∧ m l3 (IntKind.wrap .i64 (n1 + 1)) h4 < m l2 n1 h2) (∃ b1 o, (p : Option Addr) = some ⟨b1, o, none⟩ ∧ ∃ l4 : Sl, h2.at b1 (o + 18) = some (.slice l4.a l4.n l4.c) ∧ appendD l4 62 1 24 [.slice none 0 0] 1 [.slice l2.a l2.n l2.c] h2 fun l5 h5 => ∃ b2 o1, (p : Option Addr) = some ⟨b2, o1, none⟩ ∧ h5.canW b2 (o1 + 18) 1 ∧ ∃ b3 o2, (p : Option Addr) = some ⟨b3, o2, none⟩ ∧ ∃ l6 : Sl, (h5.wr b2 (o1 + 18) [.slice l5.a l5.n l5.c]).at b3 (o2 + 19) = some (.slice l6.a l6.n l6.c) ∧ appendD l6 3 1 8 [.int .i64 0] 1 [.int .i64 (l.n : Int)] (h5.wr b2 (o1 + 18) [.slice l5.a l5.n l5.c]) fun l7 h6 => ∃ b4 o3, (p : Option Addr) = some ⟨b4, o3, none⟩ ∧ h6.canW b4 (o3 + 19) 1 ∧ Sl.okCut l2 0 (l.n : Int) (l2.n : Int) ∧ Q (.slice (Sl.cut l2 7 0 (l.n : Int) (l2.n : Int)).a (Sl.cut l2 7 0 (l.n : Int) (l2.n : Int)).n (Sl.cut l2 7 0 (l.n : Int) (l2.n : Int)).c) (h6.wr b4 (o3 + 19) [.slice l7.a l7.n l7.c])))
theorem F118.gen (V : Value → List Value → PT) (T85 : Int → PT) (p : Option Addr) (l : Sl) (n : Int) : denF Tryd.prog [22, 30, 41] [(85, F85.W T85)] V [(122, .loop [(7, .sl), (8, .int .i64)] [])] Tryd.f118 [.v (.pointer p), .v (.slice l.a l.n l.c), .v (.int .i64 n)] = fun h Q =>
  ∀ b, h b = none → ∃ vs, (h.new b (.cells ⟨[]⟩ 108 (0, 0))).row l.a (l.n * 7) vs ∧ (∀ v ∈ vs, Value.oneCell' v = true) ∧ appendD ⟨(some ⟨b, 0, none⟩), 0, 0⟩ 108 7 72 [.int .i64 0, .int .u64 0, .int .i64 0, .int .i64 0, .int .i64 0, .string (ByteArray.mk #[]), .string (ByteArray.mk #[])] l.n vs (h.new b (.cells ⟨[]⟩ 108 (0, 0))) fun l1 h1 => ∃ (I : Sl → Int → Hp → Prop) (m : Sl → Int → Hp → Nat), I l1 0 h1 ∧ (∀ l2 : Sl, ∀ n1 : Int, ∀ h2 : Hp, I l2 n1 h2 → par (n1 < n) (T85 n1 h2 fun r h3 => ∃ n2 : Int, r = .int .i64 n2 ∧ appendD l2 108 7 72 [.int .i64 0, .int .u64 0, .int .i64 0, .int .i64 0, .int .i64 0, .string (ByteArray.mk #[]), .string (ByteArray.mk #[])] 1 [.int .i64 n2, .int .u64 0, .int .i64 0, .int .i64 0, .int .i64 0, .string (ByteArray.mk #[]), .string (ByteArray.mk #[])] h3 fun l3 h4 => I l3 (IntKind.wrap .i64 (n1 + 1)) h4 ∧ m l3 (IntKind.wrap .i64 (n1 + 1)) h4 < m l2 n1 h2) (∃ b1 o, (p : Option Addr) = some ⟨b1, o, none⟩ ∧ ∃ l4 : Sl, h2.at b1 (o + 18) = some (.slice l4.a l4.n l4.c) ∧ appendD l4 62 1 24 [.slice none 0 0] 1 [.slice l2.a l2.n l2.c] h2 fun l5 h5 => ∃ b2 o1, (p : Option Addr) = some ⟨b2, o1, none⟩ ∧ h5.canW b2 (o1 + 18) 1 ∧ ∃ b3 o2, (p : Option Addr) = some ⟨b3, o2, none⟩ ∧ ∃ l6 : Sl, (h5.wr b2 (o1 + 18) [.slice l5.a l5.n l5.c]).at b3 (o2 + 19) = some (.slice l6.a l6.n l6.c) ∧ appendD l6 3 1 8 [.int .i64 0] 1 [.int .i64 (l.n : Int)] (h5.wr b2 (o1 + 18) [.slice l5.a l5.n l5.c]) fun l7 h6 => ∃ b4 o3, (p : Option Addr) = some ⟨b4, o3, none⟩ ∧ h6.canW b4 (o3 + 19) 1 ∧ Sl.okCut l2 0 (l.n : Int) (l2.n : Int) ∧ Q (.slice (Sl.cut l2 7 0 (l.n : Int) (l2.n : Int)).a (Sl.cut l2 7 0 (l.n : Int) (l2.n : Int)).n (Sl.cut l2 7 0 (l.n : Int) (l2.n : Int)).c) (h6.wr b4 (o3 + 19) [.slice l7.a l7.n l7.c]))) := by kernel_rfl
theorem F118.den (V : Value → List Value → PT) (p : Option Addr) (l : Sl) (n : Int) : denF Tryd.prog [22, 30, 41] [(85, F85.V)] V [(122, .loop [(7, .sl), (8, .int .i64)] [])] Tryd.f118 [.v (.pointer p), .v (.slice l.a l.n l.c), .v (.int .i64 n)] = F118.T p l n := F118.gen V F85.T p l n
def F118.W (T118 : Option Addr → Sl → Int → PT) (args : List Value) : PT := match args with
  | [.pointer p, .slice l_a l_n l_c, .int .i64 n] => T118 p ⟨l_a, l_n, l_c⟩ n
  | _ => fun _ _ => False
def F118.V : List Value → PT := F118.W F118.T
theorem F118.ok : FOk Tryd.prog 118 F118.V := by
  refine ⟨⟨_, Tryd.func118, rfl, rfl⟩, fun args => ?_⟩
  have hG : GOk Tryd.prog [(85, F85.V)] := GOk.cons F85.ok (GOk.nil)
  have hV : VOk Tryd.prog noV := noV_ok
  unfold F118.V F118.W
  split
  · exact denF_okV hG hV Tryd.func118 (fun h Q hq => (F118.den _ _ _ _) ▸ hq)
  · exact fun h Q hq => hq.elim
def F93.T (p : Option Addr) (l : Sl) : PT := fun h Q =>
  F118.T p l 40 h fun r h1 => ∃ l1 : Sl, r = .slice l1.a l1.n l1.c ∧ Q (.slice l1.a l1.n l1.c) h1
theorem F93.gen (V : Value → List Value → PT) (T118 : Option Addr → Sl → Int → PT) (p : Option Addr) (l : Sl) : denF Tryd.prog [] [(118, F118.W T118)] V [] Tryd.f93 [.v (.pointer p), .v (.slice l.a l.n l.c)] = fun h Q =>
  T118 p l 40 h fun r h1 => ∃ l1 : Sl, r = .slice l1.a l1.n l1.c ∧ Q (.slice l1.a l1.n l1.c) h1 := by kernel_rfl
theorem F93.den (V : Value → List Value → PT) (p : Option Addr) (l : Sl) : denF Tryd.prog [] [(118, F118.V)] V [] Tryd.f93 [.v (.pointer p), .v (.slice l.a l.n l.c)] = F93.T p l := F93.gen V F118.T p l
def F93.W (T93 : Option Addr → Sl → PT) (args : List Value) : PT := match args with
  | [.pointer p, .slice l_a l_n l_c] => T93 p ⟨l_a, l_n, l_c⟩
  | _ => fun _ _ => False
def F93.V : List Value → PT := F93.W F93.T
theorem F93.ok : FOk Tryd.prog 93 F93.V := by
  refine ⟨⟨_, Tryd.func93, rfl, rfl⟩, fun args => ?_⟩
  have hG : GOk Tryd.prog [(118, F118.V)] := GOk.cons F118.ok (GOk.nil)
  have hV : VOk Tryd.prog noV := noV_ok
  unfold F93.V F93.W
  split
  · exact denF_okV hG hV Tryd.func93 (fun h Q hq => (F93.den _ _ _) ▸ hq)
  · exact fun h Q hq => hq.elim
def F119.T (p : Option Addr) (l : Sl) (n : Int) : PT := fun h Q =>
  ∀ b, h b = none → ∃ vs, (h.new b (.cells ⟨[]⟩ 9 (0, 0))).row l.a (l.n * 1) vs ∧ (∀ v ∈ vs, Value.oneCell' v = true) ∧ appendD ⟨(some ⟨b, 0, none⟩), 0, 0⟩ 9 1 16 [.string (ByteArray.mk #[])] l.n vs (h.new b (.cells ⟨[]⟩ 9 (0, 0))) fun l1 h1 => ∃ (I : Sl → Int → Hp → Prop) (m : Sl → Int → Hp → Nat), I l1 0 h1 ∧ (∀ l2 : Sl, ∀ n1 : Int, ∀ h2 : Hp, I l2 n1 h2 → par (n1 < n) (F90.T n1 h2 fun r h3 => ∃ s : ByteArray, r = .string s ∧ appendD l2 9 1 16 [.string (ByteArray.mk #[])] 1 [.string s] h3 fun l3 h4 => I l3 (IntKind.wrap .i64 (n1 + 1)) h4 ∧ m l3 (IntKind.wrap .i64 (n1 + 1)) h4 < m l2 n1 h2) (∃ b1 o, (p : Option Addr) = some ⟨b1, o, none⟩ ∧ ∃ l4 : Sl, h2.at b1 (o + 6) = some (.slice l4.a l4.n l4.c) ∧ appendD l4 63 1 24 [.slice none 0 0] 1 [.slice l2.a l2.n l2.c] h2 fun l5 h5 => ∃ b2 o1, (p : Option Addr) = some ⟨b2, o1, none⟩ ∧ h5.canW b2 (o1 + 6) 1 ∧ ∃ b3 o2, (p : Option Addr) = some ⟨b3, o2, none⟩ ∧ ∃ l6 : Sl, (h5.wr b2 (o1 + 6) [.slice l5.a l5.n l5.c]).at b3 (o2 + 7) = some (.slice l6.a l6.n l6.c) ∧ appendD l6 3 1 8 [.int .i64 0] 1 [.int .i64 (l.n : Int)] (h5.wr b2 (o1 + 6) [.slice l5.a l5.n l5.c]) fun l7 h6 => ∃ b4 o3, (p : Option Addr) = some ⟨b4, o3, none⟩ ∧ h6.canW b4 (o3 + 7) 1 ∧ Sl.okCut l2 0 (l.n : Int) (l2.n : Int) ∧ Q (.slice (Sl.cut l2 1 0 (l.n : Int) (l2.n : Int)).a (Sl.cut l2 1 0 (l.n : Int) (l2.n : Int)).n (Sl.cut l2 1 0 (l.n : Int) (l2.n : Int)).c) (h6.wr b4 (o3 + 7) [.slice l7.a l7.n l7.c])))
theorem F119.gen (V : Value → List Value → PT) (T90 : Int → PT) (p : Option Addr) (l : Sl) (n : Int) : denF Tryd.prog [21, 29, 40] [(90, F90.W T90)] V [(122, .loop [(7, .sl), (8, .int .i64)] [])] Tryd.f119 [.v (.pointer p), .v (.slice l.a l.n l.c), .v (.int .i64 n)] = fun h Q =>
  ∀ b, h b = none → ∃ vs, (h.new b (.cells ⟨[]⟩ 9 (0, 0))).row l.a (l.n * 1) vs ∧ (∀ v ∈ vs, Value.oneCell' v = true) ∧ appendD ⟨(some ⟨b, 0, none⟩), 0, 0⟩ 9 1 16 [.string (ByteArray.mk #[])] l.n vs (h.new b (.cells ⟨[]⟩ 9 (0, 0))) fun l1 h1 => ∃ (I : Sl → Int → Hp → Prop) (m : Sl → Int → Hp → Nat), I l1 0 h1 ∧ (∀ l2 : Sl, ∀ n1 : Int, ∀ h2 : Hp, I l2 n1 h2 → par (n1 < n) (T90 n1 h2 fun r h3 => ∃ s : ByteArray, r = .string s ∧ appendD l2 9 1 16 [.string (ByteArray.mk #[])] 1 [.string s] h3 fun l3 h4 => I l3 (IntKind.wrap .i64 (n1 + 1)) h4 ∧ m l3 (IntKind.wrap .i64 (n1 + 1)) h4 < m l2 n1 h2) (∃ b1 o, (p : Option Addr) = some ⟨b1, o, none⟩ ∧ ∃ l4 : Sl, h2.at b1 (o + 6) = some (.slice l4.a l4.n l4.c) ∧ appendD l4 63 1 24 [.slice none 0 0] 1 [.slice l2.a l2.n l2.c] h2 fun l5 h5 => ∃ b2 o1, (p : Option Addr) = some ⟨b2, o1, none⟩ ∧ h5.canW b2 (o1 + 6) 1 ∧ ∃ b3 o2, (p : Option Addr) = some ⟨b3, o2, none⟩ ∧ ∃ l6 : Sl, (h5.wr b2 (o1 + 6) [.slice l5.a l5.n l5.c]).at b3 (o2 + 7) = some (.slice l6.a l6.n l6.c) ∧ appendD l6 3 1 8 [.int .i64 0] 1 [.int .i64 (l.n : Int)] (h5.wr b2 (o1 + 6) [.slice l5.a l5.n l5.c]) fun l7 h6 => ∃ b4 o3, (p : Option Addr) = some ⟨b4, o3, none⟩ ∧ h6.canW b4 (o3 + 7) 1 ∧ Sl.okCut l2 0 (l.n : Int) (l2.n : Int) ∧ Q (.slice (Sl.cut l2 1 0 (l.n : Int) (l2.n : Int)).a (Sl.cut l2 1 0 (l.n : Int) (l2.n : Int)).n (Sl.cut l2 1 0 (l.n : Int) (l2.n : Int)).c) (h6.wr b4 (o3 + 7) [.slice l7.a l7.n l7.c]))) := by kernel_rfl
theorem F119.den (V : Value → List Value → PT) (p : Option Addr) (l : Sl) (n : Int) : denF Tryd.prog [21, 29, 40] [(90, F90.V)] V [(122, .loop [(7, .sl), (8, .int .i64)] [])] Tryd.f119 [.v (.pointer p), .v (.slice l.a l.n l.c), .v (.int .i64 n)] = F119.T p l n := F119.gen V F90.T p l n
def F119.W (T119 : Option Addr → Sl → Int → PT) (args : List Value) : PT := match args with
  | [.pointer p, .slice l_a l_n l_c, .int .i64 n] => T119 p ⟨l_a, l_n, l_c⟩ n
  | _ => fun _ _ => False
def F119.V : List Value → PT := F119.W F119.T
theorem F119.ok : FOk Tryd.prog 119 F119.V := by
  refine ⟨⟨_, Tryd.func119, rfl, rfl⟩, fun args => ?_⟩
  have hG : GOk Tryd.prog [(90, F90.V)] := GOk.cons F90.ok (GOk.nil)
  have hV : VOk Tryd.prog noV := noV_ok
  unfold F119.V F119.W
  split
  · exact denF_okV hG hV Tryd.func119 (fun h Q hq => (F119.den _ _ _ _) ▸ hq)
  · exact fun h Q hq => hq.elim
def F94.T (p : Option Addr) (l : Sl) : PT := fun h Q =>
  F119.T p l 40 h fun r h1 => ∃ l1 : Sl, r = .slice l1.a l1.n l1.c ∧ Q (.slice l1.a l1.n l1.c) h1
theorem F94.gen (V : Value → List Value → PT) (T119 : Option Addr → Sl → Int → PT) (p : Option Addr) (l : Sl) : denF Tryd.prog [] [(119, F119.W T119)] V [] Tryd.f94 [.v (.pointer p), .v (.slice l.a l.n l.c)] = fun h Q =>
  T119 p l 40 h fun r h1 => ∃ l1 : Sl, r = .slice l1.a l1.n l1.c ∧ Q (.slice l1.a l1.n l1.c) h1 := by kernel_rfl
theorem F94.den (V : Value → List Value → PT) (p : Option Addr) (l : Sl) : denF Tryd.prog [] [(119, F119.V)] V [] Tryd.f94 [.v (.pointer p), .v (.slice l.a l.n l.c)] = F94.T p l := F94.gen V F119.T p l
def F94.W (T94 : Option Addr → Sl → PT) (args : List Value) : PT := match args with
  | [.pointer p, .slice l_a l_n l_c] => T94 p ⟨l_a, l_n, l_c⟩
  | _ => fun _ _ => False
def F94.V : List Value → PT := F94.W F94.T
theorem F94.ok : FOk Tryd.prog 94 F94.V := by
  refine ⟨⟨_, Tryd.func94, rfl, rfl⟩, fun args => ?_⟩
  have hG : GOk Tryd.prog [(119, F119.V)] := GOk.cons F119.ok (GOk.nil)
  have hV : VOk Tryd.prog noV := noV_ok
  unfold F94.V F94.W
  split
  · exact denF_okV hG hV Tryd.func94 (fun h Q hq => (F94.den _ _ _) ▸ hq)
  · exact fun h Q hq => hq.elim
def F61.T (p : Option Addr) (n : Int) (n1 : Int) (n2 : Int) (l : Sl) (l1 : Sl) (l2 : Sl) : PT := fun h Q =>
  F92.T p l h fun r h1 => ∃ l3 : Sl, r = .slice l3.a l3.n l3.c ∧ F93.T p l1 h1 fun r1 h2 => ∃ l4 : Sl, r1 = .slice l4.a l4.n l4.c ∧ F94.T p l2 h2 fun r2 h3 => ∃ l5 : Sl, r2 = .slice l5.a l5.n l5.c ∧ Q (.agg ⟨[.int .u64 n, .int .u64 n1, .int .u64 n2, .slice l3.a l3.n l3.c, .slice l4.a l4.n l4.c, .slice l5.a l5.n l5.c]⟩) h3
theorem F61.gen (V : Value → List Value → PT) (T92 : Option Addr → Sl → PT) (T93 : Option Addr → Sl → PT) (T94 : Option Addr → Sl → PT) (p : Option Addr) (n : Int) (n1 : Int) (n2 : Int) (l : Sl) (l1 : Sl) (l2 : Sl) : denF Tryd.prog [3, 4] [(92, F92.W T92), (93, F93.W T93), (94, F94.W T94)] V [] Tryd.f61 [.v (.pointer p), .v (.agg ⟨[.int .u64 n, .int .u64 n1, .int .u64 n2, .slice l.a l.n l.c, .slice l1.a l1.n l1.c, .slice l2.a l2.n l2.c]⟩)] = fun h Q =>
  T92 p l h fun r h1 => ∃ l3 : Sl, r = .slice l3.a l3.n l3.c ∧ T93 p l1 h1 fun r1 h2 => ∃ l4 : Sl, r1 = .slice l4.a l4.n l4.c ∧ T94 p l2 h2 fun r2 h3 => ∃ l5 : Sl, r2 = .slice l5.a l5.n l5.c ∧ Q (.agg ⟨[.int .u64 n, .int .u64 n1, .int .u64 n2, .slice l3.a l3.n l3.c, .slice l4.a l4.n l4.c, .slice l5.a l5.n l5.c]⟩) h3 := by kernel_rfl
theorem F61.den (V : Value → List Value → PT) (p : Option Addr) (n : Int) (n1 : Int) (n2 : Int) (l : Sl) (l1 : Sl) (l2 : Sl) : denF Tryd.prog [3, 4] [(92, F92.V), (93, F93.V), (94, F94.V)] V [] Tryd.f61 [.v (.pointer p), .v (.agg ⟨[.int .u64 n, .int .u64 n1, .int .u64 n2, .slice l.a l.n l.c, .slice l1.a l1.n l1.c, .slice l2.a l2.n l2.c]⟩)] = F61.T p n n1 n2 l l1 l2 := F61.gen V F92.T F93.T F94.T p n n1 n2 l l1 l2
def F61.W (T61 : Option Addr → Int → Int → Int → Sl → Sl → Sl → PT) (args : List Value) : PT := match args with
  | [.pointer p, .agg ⟨[.int .u64 n, .int .u64 n1, .int .u64 n2, .slice l_a l_n l_c, .slice l1_a l1_n l1_c, .slice l2_a l2_n l2_c]⟩] => T61 p n n1 n2 ⟨l_a, l_n, l_c⟩ ⟨l1_a, l1_n, l1_c⟩ ⟨l2_a, l2_n, l2_c⟩
  | _ => fun _ _ => False
def F61.V : List Value → PT := F61.W F61.T
theorem F61.ok : FOk Tryd.prog 61 F61.V := by
  refine ⟨⟨_, Tryd.func61, rfl, rfl⟩, fun args => ?_⟩
  have hG : GOk Tryd.prog [(92, F92.V), (93, F93.V), (94, F94.V)] := GOk.cons F92.ok (GOk.cons F93.ok (GOk.cons F94.ok (GOk.nil)))
  have hV : VOk Tryd.prog noV := noV_ok
  unfold F61.V F61.W
  split
  · exact denF_okV hG hV Tryd.func61 (fun h Q hq => (F61.den _ _ _ _ _ _ _ _) ▸ hq)
  · exact fun h Q hq => hq.elim
def F19.T (p : Option Addr) (l : Sl) : PT := fun h Q =>
  ∃ (I : Sl → Int → Hp → Prop) (m : Sl → Int → Hp → Nat), I ⟨none, 0, 0⟩ 0 h ∧ (∀ l1 : Sl, ∀ n : Int, ∀ h1 : Hp, I l1 n h1 → par (n < (l.n : Int)) (∃ b o, (l.a : Option Addr) = some ⟨b, o, none⟩ ∧ ((0 : Int) ≤ n ∧ n < (l.n : Int)) ∧ ∃ n1 : Int, h1.at b (o + n.toNat * 6) = some (.int .u64 n1) ∧ ∃ n2 : Int, h1.at b ((o + n.toNat * 6) + 1) = some (.int .u64 n2) ∧ ∃ n3 : Int, h1.at b ((o + n.toNat * 6) + 2) = some (.int .u64 n3) ∧ ∃ l2 : Sl, h1.at b ((o + n.toNat * 6) + 3) = some (.slice l2.a l2.n l2.c) ∧ ∃ l3 : Sl, h1.at b ((o + n.toNat * 6) + 4) = some (.slice l3.a l3.n l3.c) ∧ ∃ l4 : Sl, h1.at b ((o + n.toNat * 6) + 5) = some (.slice l4.a l4.n l4.c) ∧ F61.T p n1 n2 n3 l2 l3 l4 h1 fun r h2 => ∃ n4 : Int, ∃ n5 : Int, ∃ n6 : Int, ∃ l5 : Sl, ∃ l6 : Sl, ∃ l7 : Sl, r = .agg ⟨[.int .u64 n4, .int .u64 n5, .int .u64 n6, .slice l5.a l5.n l5.c, .slice l6.a l6.n l6.c, .slice l7.a l7.n l7.c]⟩ ∧ appendD l1 65 6 96 [.int .u64 0, .int .u64 0, .int .u64 0, .slice none 0 0, .slice none 0 0, .slice none 0 0] 1 [.int .u64 n4, .int .u64 n5, .int .u64 n6, .slice l5.a l5.n l5.c, .slice l6.a l6.n l6.c, .slice l7.a l7.n l7.c] h2 fun l8 h3 => I l8 (IntKind.wrap .i64 (n + 1)) h3 ∧ m l8 (IntKind.wrap .i64 (n + 1)) h3 < m l1 n h1) (Q (.slice l1.a l1.n l1.c) h1))
theorem F19.gen (V : Value → List Value → PT) (T61 : Option Addr → Int → Int → Int → Sl → Sl → Sl → PT) (p : Option Addr) (l : Sl) : denF Tryd.prog [20] [(61, F61.W T61)] V [(58, .loop [(5, .sl), (6, .int .i64)] [])] Tryd.f19 [.v (.pointer p), .v (.slice l.a l.n l.c)] = fun h Q =>
  ∃ (I : Sl → Int → Hp → Prop) (m : Sl → Int → Hp → Nat), I ⟨none, 0, 0⟩ 0 h ∧ (∀ l1 : Sl, ∀ n : Int, ∀ h1 : Hp, I l1 n h1 → par (n < (l.n : Int)) (∃ b o, (l.a : Option Addr) = some ⟨b, o, none⟩ ∧ ((0 : Int) ≤ n ∧ n < (l.n : Int)) ∧ ∃ n1 : Int, h1.at b (o + n.toNat * 6) = some (.int .u64 n1) ∧ ∃ n2 : Int, h1.at b ((o + n.toNat * 6) + 1) = some (.int .u64 n2) ∧ ∃ n3 : Int, h1.at b ((o + n.toNat * 6) + 2) = some (.int .u64 n3) ∧ ∃ l2 : Sl, h1.at b ((o + n.toNat * 6) + 3) = some (.slice l2.a l2.n l2.c) ∧ ∃ l3 : Sl, h1.at b ((o + n.toNat * 6) + 4) = some (.slice l3.a l3.n l3.c) ∧ ∃ l4 : Sl, h1.at b ((o + n.toNat * 6) + 5) = some (.slice l4.a l4.n l4.c) ∧ T61 p n1 n2 n3 l2 l3 l4 h1 fun r h2 => ∃ n4 : Int, ∃ n5 : Int, ∃ n6 : Int, ∃ l5 : Sl, ∃ l6 : Sl, ∃ l7 : Sl, r = .agg ⟨[.int .u64 n4, .int .u64 n5, .int .u64 n6, .slice l5.a l5.n l5.c, .slice l6.a l6.n l6.c, .slice l7.a l7.n l7.c]⟩ ∧ appendD l1 65 6 96 [.int .u64 0, .int .u64 0, .int .u64 0, .slice none 0 0, .slice none 0 0, .slice none 0 0] 1 [.int .u64 n4, .int .u64 n5, .int .u64 n6, .slice l5.a l5.n l5.c, .slice l6.a l6.n l6.c, .slice l7.a l7.n l7.c] h2 fun l8 h3 => I l8 (IntKind.wrap .i64 (n + 1)) h3 ∧ m l8 (IntKind.wrap .i64 (n + 1)) h3 < m l1 n h1) (Q (.slice l1.a l1.n l1.c) h1)) := by kernel_rfl
theorem F19.den (V : Value → List Value → PT) (p : Option Addr) (l : Sl) : denF Tryd.prog [20] [(61, F61.V)] V [(58, .loop [(5, .sl), (6, .int .i64)] [])] Tryd.f19 [.v (.pointer p), .v (.slice l.a l.n l.c)] = F19.T p l := F19.gen V F61.T p l
def F19.W (T19 : Option Addr → Sl → PT) (args : List Value) : PT := match args with
  | [.pointer p, .slice l_a l_n l_c] => T19 p ⟨l_a, l_n, l_c⟩
  | _ => fun _ _ => False
def F19.V : List Value → PT := F19.W F19.T
theorem F19.ok : FOk Tryd.prog 19 F19.V := by
  refine ⟨⟨_, Tryd.func19, rfl, rfl⟩, fun args => ?_⟩
  have hG : GOk Tryd.prog [(61, F61.V)] := GOk.cons F61.ok (GOk.nil)
  have hV : VOk Tryd.prog noV := noV_ok
  unfold F19.V F19.W
  split
  · exact denF_okV hG hV Tryd.func19 (fun h Q hq => (F19.den _ _ _) ▸ hq)
  · exact fun h Q hq => hq.elim
def F20.T (l : Sl) (l1 : Sl) : PT := fun h Q =>
  par ((l.n : Int) = (l1.n : Int)) (∃ (I : Int → Hp → Prop) (m : Int → Hp → Nat), I 0 h ∧ (∀ n : Int, ∀ h1 : Hp, I n h1 → par (n < (l.n : Int)) (∃ b o, (l.a : Option Addr) = some ⟨b, o, none⟩ ∧ ((0 : Int) ≤ n ∧ n < (l.n : Int)) ∧ ∃ l2 : Sl, h1.at b (o + n.toNat) = some (.slice l2.a l2.n l2.c) ∧ ∃ b1 o1, (l1.a : Option Addr) = some ⟨b1, o1, none⟩ ∧ ((0 : Int) ≤ n ∧ n < (l1.n : Int)) ∧ ∃ l3 : Sl, h1.at b1 (o1 + n.toNat) = some (.slice l3.a l3.n l3.c) ∧ F10.T l2 l3 h1 fun r h2 => ∃ b2 : Bool, r = .bool b2 ∧ parB b2 (I (IntKind.wrap .i64 (n + 1)) h2 ∧ m (IntKind.wrap .i64 (n + 1)) h2 < m n h1) (Q (.bool false) h2)) (Q (.bool true) h1))) (Q (.bool false) h)
theorem F20.gen (V : Value → List Value → PT) (T10 : Sl → Sl → PT) (l : Sl) (l1 : Sl) : denF Tryd.prog [] [(10, F10.W T10)] V [(58, .loop [(5, .int .i64)] []), (1864, .order [0, 1, 2, 3, 4, 5, 6, 7, 8, 9])] Tryd.f20 [.v (.slice l.a l.n l.c), .v (.slice l1.a l1.n l1.c)] = fun h Q =>
  par ((l.n : Int) = (l1.n : Int)) (∃ (I : Int → Hp → Prop) (m : Int → Hp → Nat), I 0 h ∧ (∀ n : Int, ∀ h1 : Hp, I n h1 → par (n < (l.n : Int)) (∃ b o, (l.a : Option Addr) = some ⟨b, o, none⟩ ∧ ((0 : Int) ≤ n ∧ n < (l.n : Int)) ∧ ∃ l2 : Sl, h1.at b (o + n.toNat) = some (.slice l2.a l2.n l2.c) ∧ ∃ b1 o1, (l1.a : Option Addr) = some ⟨b1, o1, none⟩ ∧ ((0 : Int) ≤ n ∧ n < (l1.n : Int)) ∧ ∃ l3 : Sl, h1.at b1 (o1 + n.toNat) = some (.slice l3.a l3.n l3.c) ∧ T10 l2 l3 h1 fun r h2 => ∃ b2 : Bool, r = .bool b2 ∧ parB b2 (I (IntKind.wrap .i64 (n + 1)) h2 ∧ m (IntKind.wrap .i64 (n + 1)) h2 < m n h1) (Q (.bool false) h2)) (Q (.bool true) h1))) (Q (.bool false) h) := by kernel_rfl
theorem F20.den (V : Value → List Value → PT) (l : Sl) (l1 : Sl) : denF Tryd.prog [] [(10, F10.V)] V [(58, .loop [(5, .int .i64)] []), (1864, .order [0, 1, 2, 3, 4, 5, 6, 7, 8, 9])] Tryd.f20 [.v (.slice l.a l.n l.c), .v (.slice l1.a l1.n l1.c)] = F20.T l l1 := F20.gen V F10.T l l1
def F20.W (T20 : Sl → Sl → PT) (args : List Value) : PT := match args with
  | [.slice l_a l_n l_c, .slice l1_a l1_n l1_c] => T20 ⟨l_a, l_n, l_c⟩ ⟨l1_a, l1_n, l1_c⟩
  | _ => fun _ _ => False
def F20.V : List Value → PT := F20.W F20.T
theorem F20.ok : FOk Tryd.prog 20 F20.V := by
  refine ⟨⟨_, Tryd.func20, rfl, rfl⟩, fun args => ?_⟩
  have hG : GOk Tryd.prog [(10, F10.V)] := GOk.cons F10.ok (GOk.nil)
  have hV : VOk Tryd.prog noV := noV_ok
  unfold F20.V F20.W
  split
  · exact denF_okV hG hV Tryd.func20 (fun h Q hq => (F20.den _ _ _) ▸ hq)
  · exact fun h Q hq => hq.elim
def F62.T (n : Int) (n1 : Int) (n2 : Int) (l : Sl) (l1 : Sl) (l2 : Sl) : PT := fun h Q =>
  ∃ (I : Int → Hp → Prop) (m : Int → Hp → Nat), I 0 h ∧ (∀ n3 : Int, ∀ h1 : Hp, I n3 h1 → par (n3 < (l.n : Int)) (∃ b o, (l.a : Option Addr) = some ⟨b, o, none⟩ ∧ ((0 : Int) ≤ n3 ∧ n3 < (l.n : Int)) ∧ ∃ n4 : Int, h1.at b (o + n3.toNat * 2) = some (.int .i64 n4) ∧ ∃ n5 : Int, h1.at b ((o + n3.toNat * 2) + 1) = some (.int .u64 n5) ∧ par (n4 < 0) (Q (.bool false) h1) (par ((5 : Int) ≤ n4) (Q (.bool false) h1) (I (IntKind.wrap .i64 (n3 + 1)) h1 ∧ m (IntKind.wrap .i64 (n3 + 1)) h1 < m n3 h1))) (∃ (I1 : Int → Hp → Prop) (m1 : Int → Hp → Nat), I1 0 h1 ∧ (∀ n6 : Int, ∀ h2 : Hp, I1 n6 h2 → par (n6 < (l1.n : Int)) (∃ b1 o1, (l1.a : Option Addr) = some ⟨b1, o1, none⟩ ∧ ((0 : Int) ≤ n6 ∧ n6 < (l1.n : Int)) ∧ ∃ n7 : Int, h2.at b1 (o1 + n6.toNat * 7) = some (.int .i64 n7) ∧ ∃ n8 : Int, h2.at b1 ((o1 + n6.toNat * 7) + 1) = some (.int .u64 n8) ∧ ∃ n9 : Int, h2.at b1 ((o1 + n6.toNat * 7) + 2) = some (.int .i64 n9) ∧ ∃ n10 : Int, h2.at b1 ((o1 + n6.toNat * 7) + 3) = some (.int .i64 n10) ∧ ∃ n11 : Int, h2.at b1 ((o1 + n6.toNat * 7) + 4) = some (.int .i64 n11) ∧ ∃ s : ByteArray, h2.at b1 ((o1 + n6.toNat * 7) + 5) = some (.string s) ∧ ∃ s1 : ByteArray, h2.at b1 ((o1 + n6.toNat * 7) + 6) = some (.string s1) ∧ par (n7 < 0) (Q (.bool false) h2) (par ((5 : Int) ≤ n7) (Q (.bool false) h2) (par ((iMin (iMin n9 n10) n11) < 0) (Q (.bool false) h2) (par ((64 : Int) < (iMax (s.size : Int) (s1.size : Int))) (Q (.bool false) h2) (I1 (IntKind.wrap .i64 (n6 + 1)) h2 ∧ m1 (IntKind.wrap .i64 (n6 + 1)) h2 < m1 n6 h2))))) (∃ (I2 : Int → Hp → Prop) (m2 : Int → Hp → Nat), I2 0 h2 ∧ (∀ n12 : Int, ∀ h3 : Hp, I2 n12 h3 → par (n12 < (l2.n : Int)) (∃ b2 o2, (l2.a : Option Addr) = some ⟨b2, o2, none⟩ ∧ ((0 : Int) ≤ n12 ∧ n12 < (l2.n : Int)) ∧ ∃ s2 : ByteArray, h3.at b2 (o2 + n12.toNat) = some (.string s2) ∧ par ((64 : Int) < (s2.size : Int)) (Q (.bool false) h3) (I2 (IntKind.wrap .i64 (n12 + 1)) h3 ∧ m2 (IntKind.wrap .i64 (n12 + 1)) h3 < m2 n12 h3)) (par ((l2.n : Int) ≤ 5) (Q (.bool true) h3) (Q (.bool false) h3)))))))
theorem F62.den (V : Value → List Value → PT) (n : Int) (n1 : Int) (n2 : Int) (l : Sl) (l1 : Sl) (l2 : Sl) : denF Tryd.prog [1, 4, 6, 7] [] V [(26, .loop [(13, .int .i64)] []), (58, .loop [(29, .int .i64)] []), (122, .loop [(67, .int .i64)] [])] Tryd.f62 [.v (.agg ⟨[.int .u64 n, .int .u64 n1, .int .u64 n2, .slice l.a l.n l.c, .slice l1.a l1.n l1.c, .slice l2.a l2.n l2.c]⟩)] = F62.T n n1 n2 l l1 l2 := by kernel_rfl
def F62.W (T62 : Int → Int → Int → Sl → Sl → Sl → PT) (args : List Value) : PT := match args with
  | [.agg ⟨[.int .u64 n, .int .u64 n1, .int .u64 n2, .slice l_a l_n l_c, .slice l1_a l1_n l1_c, .slice l2_a l2_n l2_c]⟩] => T62 n n1 n2 ⟨l_a, l_n, l_c⟩ ⟨l1_a, l1_n, l1_c⟩ ⟨l2_a, l2_n, l2_c⟩
  | _ => fun _ _ => False
def F62.V : List Value → PT := F62.W F62.T
theorem F62.ok : FOk Tryd.prog 62 F62.V := by
  refine ⟨⟨_, Tryd.func62, rfl, rfl⟩, fun args => ?_⟩
  have hG : GOk Tryd.prog [] := GOk.nil
  have hV : VOk Tryd.prog noV := noV_ok
  unfold F62.V F62.W
  split
  · exact denF_okV hG hV Tryd.func62 (fun h Q hq => (F62.den _ _ _ _ _ _ _) ▸ hq)
  · exact fun h Q hq => hq.elim
def F120.T (l : Sl) (n : Int) : PT := fun h Q =>
  F88.T l 10 h fun r h1 => ∃ l1 : Sl, r = .slice l1.a l1.n l1.c ∧ F81.T l1 n h1 fun r1 h2 => ∃ l2 : Sl, r1 = .slice l2.a l2.n l2.c ∧ Q (.slice l2.a l2.n l2.c) h2
theorem F120.gen (V : Value → List Value → PT) (T81 : Sl → Int → PT) (T88 : Sl → Int → PT) (l : Sl) (n : Int) : denF Tryd.prog [] [(81, F81.W T81), (88, F88.W T88)] V [] Tryd.f120 [.v (.slice l.a l.n l.c), .v (.int .u64 n)] = fun h Q =>
  T88 l 10 h fun r h1 => ∃ l1 : Sl, r = .slice l1.a l1.n l1.c ∧ T81 l1 n h1 fun r1 h2 => ∃ l2 : Sl, r1 = .slice l2.a l2.n l2.c ∧ Q (.slice l2.a l2.n l2.c) h2 := by kernel_rfl
theorem F120.den (V : Value → List Value → PT) (l : Sl) (n : Int) : denF Tryd.prog [] [(81, F81.V), (88, F88.V)] V [] Tryd.f120 [.v (.slice l.a l.n l.c), .v (.int .u64 n)] = F120.T l n := F120.gen V F81.T F88.T l n
def F120.W (T120 : Sl → Int → PT) (args : List Value) : PT := match args with
  | [.slice l_a l_n l_c, .int .u64 n] => T120 ⟨l_a, l_n, l_c⟩ n
  | _ => fun _ _ => False
def F120.V : List Value → PT := F120.W F120.T
theorem F120.ok : FOk Tryd.prog 120 F120.V := by
  refine ⟨⟨_, Tryd.func120, rfl, rfl⟩, fun args => ?_⟩
  have hG : GOk Tryd.prog [(81, F81.V), (88, F88.V)] := GOk.cons F81.ok (GOk.cons F88.ok (GOk.nil))
  have hV : VOk Tryd.prog noV := noV_ok
  unfold F120.V F120.W
  split
  · exact denF_okV hG hV Tryd.func120 (fun h Q hq => (F120.den _ _ _) ▸ hq)
  · exact fun h Q hq => hq.elim
def F95.T (l : Sl) (l1 : Sl) : PT := fun h Q =>
  ∃ (I : Sl → Int → Hp → Prop) (m : Sl → Int → Hp → Nat), I l 0 h ∧ (∀ l2 : Sl, ∀ n : Int, ∀ h1 : Hp, I l2 n h1 → par (n < (l1.n : Int)) (∃ b o, (l1.a : Option Addr) = some ⟨b, o, none⟩ ∧ ((0 : Int) ≤ n ∧ n < (l1.n : Int)) ∧ ∃ n1 : Int, h1.at b (o + n.toNat) = some (.int .u64 n1) ∧ F120.T ⟨none, 0, 0⟩ n1 h1 fun r h2 => ∃ l3 : Sl, r = .slice l3.a l3.n l3.c ∧ ∃ vs, h2.row l3.a (l3.n * 1) vs ∧ (∀ v ∈ vs, Value.oneCell' v = true) ∧ appendD l2 5 1 1 [.int .u8 0] l3.n vs h2 fun l4 h3 => I l4 (IntKind.wrap .i64 (n + 1)) h3 ∧ m l4 (IntKind.wrap .i64 (n + 1)) h3 < m l2 n h1) (Q (.slice l2.a l2.n l2.c) h1))
theorem F95.gen (V : Value → List Value → PT) (T120 : Sl → Int → PT) (l : Sl) (l1 : Sl) : denF Tryd.prog [] [(120, F120.W T120)] V [(26, .loop [(0, .sl), (9, .int .i64)] [])] Tryd.f95 [.v (.slice l.a l.n l.c), .v (.slice l1.a l1.n l1.c)] = fun h Q =>
  ∃ (I : Sl → Int → Hp → Prop) (m : Sl → Int → Hp → Nat), I l 0 h ∧ (∀ l2 : Sl, ∀ n : Int, ∀ h1 : Hp, I l2 n h1 → par (n < (l1.n : Int)) (∃ b o, (l1.a : Option Addr) = some ⟨b, o, none⟩ ∧ ((0 : Int) ≤ n ∧ n < (l1.n : Int)) ∧ ∃ n1 : Int, h1.at b (o + n.toNat) = some (.int .u64 n1) ∧ T120 ⟨none, 0, 0⟩ n1 h1 fun r h2 => ∃ l3 : Sl, r = .slice l3.a l3.n l3.c ∧ ∃ vs, h2.row l3.a (l3.n * 1) vs ∧ (∀ v ∈ vs, Value.oneCell' v = true) ∧ appendD l2 5 1 1 [.int .u8 0] l3.n vs h2 fun l4 h3 => I l4 (IntKind.wrap .i64 (n + 1)) h3 ∧ m l4 (IntKind.wrap .i64 (n + 1)) h3 < m l2 n h1) (Q (.slice l2.a l2.n l2.c) h1)) := by kernel_rfl
theorem F95.den (V : Value → List Value → PT) (l : Sl) (l1 : Sl) : denF Tryd.prog [] [(120, F120.V)] V [(26, .loop [(0, .sl), (9, .int .i64)] [])] Tryd.f95 [.v (.slice l.a l.n l.c), .v (.slice l1.a l1.n l1.c)] = F95.T l l1 := F95.gen V F120.T l l1
def F95.W (T95 : Sl → Sl → PT) (args : List Value) : PT := match args with
  | [.slice l_a l_n l_c, .slice l1_a l1_n l1_c] => T95 ⟨l_a, l_n, l_c⟩ ⟨l1_a, l1_n, l1_c⟩
  | _ => fun _ _ => False
def F95.V : List Value → PT := F95.W F95.T
theorem F95.ok : FOk Tryd.prog 95 F95.V := by
  refine ⟨⟨_, Tryd.func95, rfl, rfl⟩, fun args => ?_⟩
  have hG : GOk Tryd.prog [(120, F120.V)] := GOk.cons F120.ok (GOk.nil)
  have hV : VOk Tryd.prog noV := noV_ok
  unfold F95.V F95.W
  split
  · exact denF_okV hG hV Tryd.func95 (fun h Q hq => (F95.den _ _ _) ▸ hq)
  · exact fun h Q hq => hq.elim
def F121.T (l : Sl) (s : ByteArray) : PT := fun h Q =>
  F88.T l (IntKind.wrap .i64 (10 + (s.size : Int))) h fun r h1 => ∃ l1 : Sl, r = .slice l1.a l1.n l1.c ∧ F81.T l1 (IntKind.wrap .u64 (s.size : Int)) h1 fun r1 h2 => ∃ l2 : Sl, r1 = .slice l2.a l2.n l2.c ∧ appendD l2 5 1 1 [.int .u8 0] s.size (bytesV s) h2 fun l3 h3 => Q (.slice l3.a l3.n l3.c) h3
theorem F121.gen (V : Value → List Value → PT) (T81 : Sl → Int → PT) (T88 : Sl → Int → PT) (l : Sl) (s : ByteArray) : denF Tryd.prog [] [(81, F81.W T81), (88, F88.W T88)] V [] Tryd.f121 [.v (.slice l.a l.n l.c), .v (.string s)] = fun h Q =>
  T88 l (IntKind.wrap .i64 (10 + (s.size : Int))) h fun r h1 => ∃ l1 : Sl, r = .slice l1.a l1.n l1.c ∧ T81 l1 (IntKind.wrap .u64 (s.size : Int)) h1 fun r1 h2 => ∃ l2 : Sl, r1 = .slice l2.a l2.n l2.c ∧ appendD l2 5 1 1 [.int .u8 0] s.size (bytesV s) h2 fun l3 h3 => Q (.slice l3.a l3.n l3.c) h3 := by kernel_rfl
theorem F121.den (V : Value → List Value → PT) (l : Sl) (s : ByteArray) : denF Tryd.prog [] [(81, F81.V), (88, F88.V)] V [] Tryd.f121 [.v (.slice l.a l.n l.c), .v (.string s)] = F121.T l s := F121.gen V F81.T F88.T l s
def F121.W (T121 : Sl → ByteArray → PT) (args : List Value) : PT := match args with
  | [.slice l_a l_n l_c, .string s] => T121 ⟨l_a, l_n, l_c⟩ s
  | _ => fun _ _ => False
def F121.V : List Value → PT := F121.W F121.T
theorem F121.ok : FOk Tryd.prog 121 F121.V := by
  refine ⟨⟨_, Tryd.func121, rfl, rfl⟩, fun args => ?_⟩
  have hG : GOk Tryd.prog [(81, F81.V), (88, F88.V)] := GOk.cons F81.ok (GOk.cons F88.ok (GOk.nil))
  have hV : VOk Tryd.prog noV := noV_ok
  unfold F121.V F121.W
  split
  · exact denF_okV hG hV Tryd.func121 (fun h Q hq => (F121.den _ _ _) ▸ hq)
  · exact fun h Q hq => hq.elim
def F96.T (l : Sl) (s : ByteArray) : PT := fun h Q =>
  F121.T ⟨none, 0, 0⟩ s h fun r h1 => ∃ l1 : Sl, r = .slice l1.a l1.n l1.c ∧ ∃ vs, h1.row l1.a (l1.n * 1) vs ∧ (∀ v ∈ vs, Value.oneCell' v = true) ∧ appendD l 5 1 1 [.int .u8 0] l1.n vs h1 fun l2 h2 => Q (.slice l2.a l2.n l2.c) h2
theorem F96.gen (V : Value → List Value → PT) (T121 : Sl → ByteArray → PT) (l : Sl) (s : ByteArray) : denF Tryd.prog [] [(121, F121.W T121)] V [] Tryd.f96 [.v (.slice l.a l.n l.c), .v (.string s)] = fun h Q =>
  T121 ⟨none, 0, 0⟩ s h fun r h1 => ∃ l1 : Sl, r = .slice l1.a l1.n l1.c ∧ ∃ vs, h1.row l1.a (l1.n * 1) vs ∧ (∀ v ∈ vs, Value.oneCell' v = true) ∧ appendD l 5 1 1 [.int .u8 0] l1.n vs h1 fun l2 h2 => Q (.slice l2.a l2.n l2.c) h2 := by kernel_rfl
theorem F96.den (V : Value → List Value → PT) (l : Sl) (s : ByteArray) : denF Tryd.prog [] [(121, F121.V)] V [] Tryd.f96 [.v (.slice l.a l.n l.c), .v (.string s)] = F96.T l s := F96.gen V F121.T l s
def F96.W (T96 : Sl → ByteArray → PT) (args : List Value) : PT := match args with
  | [.slice l_a l_n l_c, .string s] => T96 ⟨l_a, l_n, l_c⟩ s
  | _ => fun _ _ => False
def F96.V : List Value → PT := F96.W F96.T
theorem F96.ok : FOk Tryd.prog 96 F96.V := by
  refine ⟨⟨_, Tryd.func96, rfl, rfl⟩, fun args => ?_⟩
  have hG : GOk Tryd.prog [(121, F121.V)] := GOk.cons F121.ok (GOk.nil)
  have hV : VOk Tryd.prog noV := noV_ok
  unfold F96.V F96.W
  split
  · exact denF_okV hG hV Tryd.func96 (fun h Q hq => (F96.den _ _ _) ▸ hq)
  · exact fun h Q hq => hq.elim
def F63.Tt (n : Int) (n1 : Int) (n2 : Int) (l : Sl) (l1 : Sl) (l2 : Sl) : PT := fun h Q =>
  ∀ b, h b = none → ∃ b1 o, ((some ⟨b, 0, none⟩) : Option Addr) = some ⟨b1, o, none⟩ ∧ ((0 : Int) ≤ 0 ∧ 0 < (1 : Int)) ∧ (h.new b (.cells ⟨[.int .u8 0]⟩ 5 (0, 0))).canW b1 (o + (0 : Int).toNat) 1 ∧ ∀ b2, ((h.new b (.cells ⟨[.int .u8 0]⟩ 5 (0, 0))).wr b1 (o + (0 : Int).toNat) [.int .u8 1]) b2 = none → F95.T ⟨(some ⟨b, 0, none⟩), 1, 1⟩ ⟨(some ⟨b2, 0, none⟩), 4, 4⟩ (((h.new b (.cells ⟨[.int .u8 0]⟩ 5 (0, 0))).wr b1 (o + (0 : Int).toNat) [.int .u8 1]).new b2 (.cells ⟨[.int .u64 n, .int .u64 n1, .int .u64 n2, .int .u64 (IntKind.wrap .u64 (l.n : Int))]⟩ 22 (0, 0))) fun r h1 => ∃ l3 : Sl, r = .slice l3.a l3.n l3.c ∧ ∃ (I : Sl → Int → Hp → Prop) (m : Sl → Int → Hp → Nat), I l3 0 h1 ∧ (∀ l4 : Sl, ∀ n3 : Int, ∀ h2 : Hp, I l4 n3 h2 → par (n3 < (l.n : Int)) (∃ b3 o1, (l.a : Option Addr) = some ⟨b3, o1, none⟩ ∧ ((0 : Int) ≤ n3 ∧ n3 < (l.n : Int)) ∧ ∃ n4 : Int, h2.at b3 (o1 + n3.toNat * 2) = some (.int .i64 n4) ∧ ∃ n5 : Int, h2.at b3 ((o1 + n3.toNat * 2) + 1) = some (.int .u64 n5) ∧ ∀ b4, h2 b4 = none → F95.T l4 ⟨(some ⟨b4, 0, none⟩), 2, 2⟩ (h2.new b4 (.cells ⟨[.int .u64 (IntKind.wrap .u64 n4), .int .u64 n5]⟩ 22 (0, 0))) fun r1 h3 => ∃ l5 : Sl, r1 = .slice l5.a l5.n l5.c ∧ I l5 (IntKind.wrap .i64 (n3 + 1)) h3 ∧ m l5 (IntKind.wrap .i64 (n3 + 1)) h3 < m l4 n3 h2) (∀ b5, h2 b5 = none → F95.T l4 ⟨(some ⟨b5, 0, none⟩), 1, 1⟩ (h2.new b5 (.cells ⟨[.int .u64 (IntKind.wrap .u64 (l1.n : Int))]⟩ 22 (0, 0))) fun r2 h4 => ∃ l6 : Sl, r2 = .slice l6.a l6.n l6.c ∧ ∃ (I1 : Sl → Int → Hp → Prop) (m1 : Sl → Int → Hp → Nat), I1 l6 0 h4 ∧ (∀ l7 : Sl, ∀ n6 : Int, ∀ h5 : Hp, I1 l7 n6 h5 → par (n6 < (l1.n : Int)) (∃ b6 o2, (l1.a : Option Addr) = some ⟨b6, o2, none⟩ ∧ ((0 : Int) ≤ n6 ∧ n6 < (l1.n : Int)) ∧ ∃ n7 : Int, h5.at b6 (o2 + n6.toNat * 7) = some (.int .i64 n7) ∧ ∃ n8 : Int, h5.at b6 ((o2 + n6.toNat * 7) + 1) = some (.int .u64 n8) ∧ ∃ n9 : Int, h5.at b6 ((o2 + n6.toNat * 7) + 2) = some (.int .i64 n9) ∧ ∃ n10 : Int, h5.at b6 ((o2 + n6.toNat * 7) + 3) = some (.int .i64 n10) ∧ ∃ n11 : Int, h5.at b6 ((o2 + n6.toNat * 7) + 4) = some (.int .i64 n11) ∧ ∃ s : ByteArray, h5.at b6 ((o2 + n6.toNat * 7) + 5) = some (.string s) ∧ ∃ s1 : ByteArray, h5.at b6 ((o2 + n6.toNat * 7) + 6) = some (.string s1) ∧ ∀ b7, h5 b7 = none → F95.T l7 ⟨(some ⟨b7, 0, none⟩), 5, 5⟩ (h5.new b7 (.cells ⟨[.int .u64 (IntKind.wrap .u64 n7), .int .u64 n8, .int .u64 (IntKind.wrap .u64 n9), .int .u64 (IntKind.wrap .u64 n10), .int .u64 (IntKind.wrap .u64 n11)]⟩ 22 (0, 0))) fun r3 h6 => ∃ l8 : Sl, r3 = .slice l8.a l8.n l8.c ∧ F96.T l8 s h6 fun r4 h7 => ∃ l9 : Sl, r4 = .slice l9.a l9.n l9.c ∧ F96.T l9 s1 h7 fun r5 h8 => ∃ l10 : Sl, r5 = .slice l10.a l10.n l10.c ∧ I1 l10 (IntKind.wrap .i64 (n6 + 1)) h8 ∧ m1 l10 (IntKind.wrap .i64 (n6 + 1)) h8 < m1 l7 n6 h5) (∀ b8, h5 b8 = none → F95.T l7 ⟨(some ⟨b8, 0, none⟩), 1, 1⟩ (h5.new b8 (.cells ⟨[.int .u64 (IntKind.wrap .u64 (l2.n : Int))]⟩ 22 (0, 0))) fun r6 h9 => ∃ l11 : Sl, r6 = .slice l11.a l11.n l11.c ∧ ∃ (I2 : Sl → Int → Hp → Prop) (m2 : Sl → Int → Hp → Nat), I2 l11 0 h9 ∧ (∀ l12 : Sl, ∀ n12 : Int, ∀ h10 : Hp, I2 l12 n12 h10 → par (n12 < (l2.n : Int)) (∃ b9 o3, (l2.a : Option Addr) = some ⟨b9, o3, none⟩ ∧ ((0 : Int) ≤ n12 ∧ n12 < (l2.n : Int)) ∧ ∃ s2 : ByteArray, h10.at b9 (o3 + n12.toNat) = some (.string s2) ∧ F96.T l12 s2 h10 fun r7 h11 => ∃ l13 : Sl, r7 = .slice l13.a l13.n l13.c ∧ I2 l13 (IntKind.wrap .i64 (n12 + 1)) h11 ∧ m2 l13 (IntKind.wrap .i64 (n12 + 1)) h11 < m2 l12 n12 h10) (Q (.slice l12.a l12.n l12.c) h10))))))
theorem F63.gent (V : Value → List Value → PT) (T95 : Sl → Sl → PT) (T96 : Sl → ByteArray → PT) (n : Int) (n1 : Int) (n2 : Int) (l : Sl) (l1 : Sl) (l2 : Sl) : denF Tryd.prog [2, 7, 9, 10] [(95, F95.W T95), (96, F96.W T96)] V [(250, .loop [(5, .sl), (33, .int .i64)] []), (1018, .loop [(5, .sl), (56, .int .i64)] []), (4090, .loop [(5, .sl), (97, .int .i64)] []), (260711, .order [0, 1, 2, 4, 5, 3, 6, 7])] Tryd.f63 [.v (.agg ⟨[.int .u64 n, .int .u64 n1, .int .u64 n2, .slice l.a l.n l.c, .slice l1.a l1.n l1.c, .slice l2.a l2.n l2.c]⟩), .v (.bool true)] = fun h Q =>
  ∀ b, h b = none → ∃ b1 o, ((some ⟨b, 0, none⟩) : Option Addr) = some ⟨b1, o, none⟩ ∧ ((0 : Int) ≤ 0 ∧ 0 < (1 : Int)) ∧ (h.new b (.cells ⟨[.int .u8 0]⟩ 5 (0, 0))).canW b1 (o + (0 : Int).toNat) 1 ∧ ∀ b2, ((h.new b (.cells ⟨[.int .u8 0]⟩ 5 (0, 0))).wr b1 (o + (0 : Int).toNat) [.int .u8 1]) b2 = none → T95 ⟨(some ⟨b, 0, none⟩), 1, 1⟩ ⟨(some ⟨b2, 0, none⟩), 4, 4⟩ (((h.new b (.cells ⟨[.int .u8 0]⟩ 5 (0, 0))).wr b1 (o + (0 : Int).toNat) [.int .u8 1]).new b2 (.cells ⟨[.int .u64 n, .int .u64 n1, .int .u64 n2, .int .u64 (IntKind.wrap .u64 (l.n : Int))]⟩ 22 (0, 0))) fun r h1 => ∃ l3 : Sl, r = .slice l3.a l3.n l3.c ∧ ∃ (I : Sl → Int → Hp → Prop) (m : Sl → Int → Hp → Nat), I l3 0 h1 ∧ (∀ l4 : Sl, ∀ n3 : Int, ∀ h2 : Hp, I l4 n3 h2 → par (n3 < (l.n : Int)) (∃ b3 o1, (l.a : Option Addr) = some ⟨b3, o1, none⟩ ∧ ((0 : Int) ≤ n3 ∧ n3 < (l.n : Int)) ∧ ∃ n4 : Int, h2.at b3 (o1 + n3.toNat * 2) = some (.int .i64 n4) ∧ ∃ n5 : Int, h2.at b3 ((o1 + n3.toNat * 2) + 1) = some (.int .u64 n5) ∧ ∀ b4, h2 b4 = none → T95 l4 ⟨(some ⟨b4, 0, none⟩), 2, 2⟩ (h2.new b4 (.cells ⟨[.int .u64 (IntKind.wrap .u64 n4), .int .u64 n5]⟩ 22 (0, 0))) fun r1 h3 => ∃ l5 : Sl, r1 = .slice l5.a l5.n l5.c ∧ I l5 (IntKind.wrap .i64 (n3 + 1)) h3 ∧ m l5 (IntKind.wrap .i64 (n3 + 1)) h3 < m l4 n3 h2) (∀ b5, h2 b5 = none → T95 l4 ⟨(some ⟨b5, 0, none⟩), 1, 1⟩ (h2.new b5 (.cells ⟨[.int .u64 (IntKind.wrap .u64 (l1.n : Int))]⟩ 22 (0, 0))) fun r2 h4 => ∃ l6 : Sl, r2 = .slice l6.a l6.n l6.c ∧ ∃ (I1 : Sl → Int → Hp → Prop) (m1 : Sl → Int → Hp → Nat), I1 l6 0 h4 ∧ (∀ l7 : Sl, ∀ n6 : Int, ∀ h5 : Hp, I1 l7 n6 h5 → par (n6 < (l1.n : Int)) (∃ b6 o2, (l1.a : Option Addr) = some ⟨b6, o2, none⟩ ∧ ((0 : Int) ≤ n6 ∧ n6 < (l1.n : Int)) ∧ ∃ n7 : Int, h5.at b6 (o2 + n6.toNat * 7) = some (.int .i64 n7) ∧ ∃ n8 : Int, h5.at b6 ((o2 + n6.toNat * 7) + 1) = some (.int .u64 n8) ∧ ∃ n9 : Int, h5.at b6 ((o2 + n6.toNat * 7) + 2) = some (.int .i64 n9) ∧ ∃ n10 : Int, h5.at b6 ((o2 + n6.toNat * 7) + 3) = some (.int .i64 n10) ∧ ∃ n11 : Int, h5.at b6 ((o2 + n6.toNat * 7) + 4) = some (.int .i64 n11) ∧ ∃ s : ByteArray, h5.at b6 ((o2 + n6.toNat * 7) + 5) = some (.string s) ∧ ∃ s1 : ByteArray, h5.at b6 ((o2 + n6.toNat * 7) + 6) = some (.string s1) ∧ ∀ b7, h5 b7 = none → T95 l7 ⟨(some ⟨b7, 0, none⟩), 5, 5⟩ (h5.new b7 (.cells ⟨[.int .u64 (IntKind.wrap .u64 n7), .int .u64 n8, .int .u64 (IntKind.wrap .u64 n9), .int .u64 (IntKind.wrap .u64 n10), .int .u64 (IntKind.wrap .u64 n11)]⟩ 22 (0, 0))) fun r3 h6 => ∃ l8 : Sl, r3 = .slice l8.a l8.n l8.c ∧ T96 l8 s h6 fun r4 h7 => ∃ l9 : Sl, r4 = .slice l9.a l9.n l9.c ∧ T96 l9 s1 h7 fun r5 h8 => ∃ l10 : Sl, r5 = .slice l10.a l10.n l10.c ∧ I1 l10 (IntKind.wrap .i64 (n6 + 1)) h8 ∧ m1 l10 (IntKind.wrap .i64 (n6 + 1)) h8 < m1 l7 n6 h5) (∀ b8, h5 b8 = none → T95 l7 ⟨(some ⟨b8, 0, none⟩), 1, 1⟩ (h5.new b8 (.cells ⟨[.int .u64 (IntKind.wrap .u64 (l2.n : Int))]⟩ 22 (0, 0))) fun r6 h9 => ∃ l11 : Sl, r6 = .slice l11.a l11.n l11.c ∧ ∃ (I2 : Sl → Int → Hp → Prop) (m2 : Sl → Int → Hp → Nat), I2 l11 0 h9 ∧ (∀ l12 : Sl, ∀ n12 : Int, ∀ h10 : Hp, I2 l12 n12 h10 → par (n12 < (l2.n : Int)) (∃ b9 o3, (l2.a : Option Addr) = some ⟨b9, o3, none⟩ ∧ ((0 : Int) ≤ n12 ∧ n12 < (l2.n : Int)) ∧ ∃ s2 : ByteArray, h10.at b9 (o3 + n12.toNat) = some (.string s2) ∧ T96 l12 s2 h10 fun r7 h11 => ∃ l13 : Sl, r7 = .slice l13.a l13.n l13.c ∧ I2 l13 (IntKind.wrap .i64 (n12 + 1)) h11 ∧ m2 l13 (IntKind.wrap .i64 (n12 + 1)) h11 < m2 l12 n12 h10) (Q (.slice l12.a l12.n l12.c) h10)))))) := by kernel_rfl
theorem F63.dent (V : Value → List Value → PT) (n : Int) (n1 : Int) (n2 : Int) (l : Sl) (l1 : Sl) (l2 : Sl) : denF Tryd.prog [2, 7, 9, 10] [(95, F95.V), (96, F96.V)] V [(250, .loop [(5, .sl), (33, .int .i64)] []), (1018, .loop [(5, .sl), (56, .int .i64)] []), (4090, .loop [(5, .sl), (97, .int .i64)] []), (260711, .order [0, 1, 2, 4, 5, 3, 6, 7])] Tryd.f63 [.v (.agg ⟨[.int .u64 n, .int .u64 n1, .int .u64 n2, .slice l.a l.n l.c, .slice l1.a l1.n l1.c, .slice l2.a l2.n l2.c]⟩), .v (.bool true)] = F63.Tt n n1 n2 l l1 l2 := F63.gent V F95.T F96.T n n1 n2 l l1 l2
def F63.Tf (n : Int) (n1 : Int) (n2 : Int) (l : Sl) (l1 : Sl) (l2 : Sl) : PT := fun h Q =>
  ∀ b, h b = none → ∀ b1, (h.new b (.cells ⟨[.int .u8 0]⟩ 5 (0, 0))) b1 = none → F95.T ⟨(some ⟨b, 0, none⟩), 1, 1⟩ ⟨(some ⟨b1, 0, none⟩), 4, 4⟩ ((h.new b (.cells ⟨[.int .u8 0]⟩ 5 (0, 0))).new b1 (.cells ⟨[.int .u64 n, .int .u64 n1, .int .u64 n2, .int .u64 (IntKind.wrap .u64 (l.n : Int))]⟩ 22 (0, 0))) fun r h1 => ∃ l3 : Sl, r = .slice l3.a l3.n l3.c ∧ ∃ (I : Sl → Int → Hp → Prop) (m : Sl → Int → Hp → Nat), I l3 0 h1 ∧ (∀ l4 : Sl, ∀ n3 : Int, ∀ h2 : Hp, I l4 n3 h2 → par (n3 < (l.n : Int)) (∃ b2 o, (l.a : Option Addr) = some ⟨b2, o, none⟩ ∧ ((0 : Int) ≤ n3 ∧ n3 < (l.n : Int)) ∧ ∃ n4 : Int, h2.at b2 (o + n3.toNat * 2) = some (.int .i64 n4) ∧ ∃ n5 : Int, h2.at b2 ((o + n3.toNat * 2) + 1) = some (.int .u64 n5) ∧ ∀ b3, h2 b3 = none → F95.T l4 ⟨(some ⟨b3, 0, none⟩), 2, 2⟩ (h2.new b3 (.cells ⟨[.int .u64 (IntKind.wrap .u64 n4), .int .u64 n5]⟩ 22 (0, 0))) fun r1 h3 => ∃ l5 : Sl, r1 = .slice l5.a l5.n l5.c ∧ I l5 (IntKind.wrap .i64 (n3 + 1)) h3 ∧ m l5 (IntKind.wrap .i64 (n3 + 1)) h3 < m l4 n3 h2) (∀ b4, h2 b4 = none → F95.T l4 ⟨(some ⟨b4, 0, none⟩), 1, 1⟩ (h2.new b4 (.cells ⟨[.int .u64 (IntKind.wrap .u64 (l1.n : Int))]⟩ 22 (0, 0))) fun r2 h4 => ∃ l6 : Sl, r2 = .slice l6.a l6.n l6.c ∧ ∃ (I1 : Sl → Int → Hp → Prop) (m1 : Sl → Int → Hp → Nat), I1 l6 0 h4 ∧ (∀ l7 : Sl, ∀ n6 : Int, ∀ h5 : Hp, I1 l7 n6 h5 → par (n6 < (l1.n : Int)) (∃ b5 o1, (l1.a : Option Addr) = some ⟨b5, o1, none⟩ ∧ ((0 : Int) ≤ n6 ∧ n6 < (l1.n : Int)) ∧ ∃ n7 : Int, h5.at b5 (o1 + n6.toNat * 7) = some (.int .i64 n7) ∧ ∃ n8 : Int, h5.at b5 ((o1 + n6.toNat * 7) + 1) = some (.int .u64 n8) ∧ ∃ n9 : Int, h5.at b5 ((o1 + n6.toNat * 7) + 2) = some (.int .i64 n9) ∧ ∃ n10 : Int, h5.at b5 ((o1 + n6.toNat * 7) + 3) = some (.int .i64 n10) ∧ ∃ n11 : Int, h5.at b5 ((o1 + n6.toNat * 7) + 4) = some (.int .i64 n11) ∧ ∃ s : ByteArray, h5.at b5 ((o1 + n6.toNat * 7) + 5) = some (.string s) ∧ ∃ s1 : ByteArray, h5.at b5 ((o1 + n6.toNat * 7) + 6) = some (.string s1) ∧ ∀ b6, h5 b6 = none → F95.T l7 ⟨(some ⟨b6, 0, none⟩), 5, 5⟩ (h5.new b6 (.cells ⟨[.int .u64 (IntKind.wrap .u64 n7), .int .u64 n8, .int .u64 (IntKind.wrap .u64 n9), .int .u64 (IntKind.wrap .u64 n10), .int .u64 (IntKind.wrap .u64 n11)]⟩ 22 (0, 0))) fun r3 h6 => ∃ l8 : Sl, r3 = .slice l8.a l8.n l8.c ∧ F96.T l8 s h6 fun r4 h7 => ∃ l9 : Sl, r4 = .slice l9.a l9.n l9.c ∧ F96.T l9 s1 h7 fun r5 h8 => ∃ l10 : Sl, r5 = .slice l10.a l10.n l10.c ∧ I1 l10 (IntKind.wrap .i64 (n6 + 1)) h8 ∧ m1 l10 (IntKind.wrap .i64 (n6 + 1)) h8 < m1 l7 n6 h5) (∀ b7, h5 b7 = none → F95.T l7 ⟨(some ⟨b7, 0, none⟩), 1, 1⟩ (h5.new b7 (.cells ⟨[.int .u64 (IntKind.wrap .u64 (l2.n : Int))]⟩ 22 (0, 0))) fun r6 h9 => ∃ l11 : Sl, r6 = .slice l11.a l11.n l11.c ∧ ∃ (I2 : Sl → Int → Hp → Prop) (m2 : Sl → Int → Hp → Nat), I2 l11 0 h9 ∧ (∀ l12 : Sl, ∀ n12 : Int, ∀ h10 : Hp, I2 l12 n12 h10 → par (n12 < (l2.n : Int)) (∃ b8 o2, (l2.a : Option Addr) = some ⟨b8, o2, none⟩ ∧ ((0 : Int) ≤ n12 ∧ n12 < (l2.n : Int)) ∧ ∃ s2 : ByteArray, h10.at b8 (o2 + n12.toNat) = some (.string s2) ∧ F96.T l12 s2 h10 fun r7 h11 => ∃ l13 : Sl, r7 = .slice l13.a l13.n l13.c ∧ I2 l13 (IntKind.wrap .i64 (n12 + 1)) h11 ∧ m2 l13 (IntKind.wrap .i64 (n12 + 1)) h11 < m2 l12 n12 h10) (Q (.slice l12.a l12.n l12.c) h10))))))
theorem F63.genf (V : Value → List Value → PT) (T95 : Sl → Sl → PT) (T96 : Sl → ByteArray → PT) (n : Int) (n1 : Int) (n2 : Int) (l : Sl) (l1 : Sl) (l2 : Sl) : denF Tryd.prog [2, 7, 9, 10] [(95, F95.W T95), (96, F96.W T96)] V [(250, .loop [(5, .sl), (33, .int .i64)] []), (1018, .loop [(5, .sl), (56, .int .i64)] []), (4090, .loop [(5, .sl), (97, .int .i64)] []), (260711, .order [0, 1, 2, 4, 5, 3, 6, 7])] Tryd.f63 [.v (.agg ⟨[.int .u64 n, .int .u64 n1, .int .u64 n2, .slice l.a l.n l.c, .slice l1.a l1.n l1.c, .slice l2.a l2.n l2.c]⟩), .v (.bool false)] = fun h Q =>
  ∀ b, h b = none → ∀ b1, (h.new b (.cells ⟨[.int .u8 0]⟩ 5 (0, 0))) b1 = none → T95 ⟨(some ⟨b, 0, none⟩), 1, 1⟩ ⟨(some ⟨b1, 0, none⟩), 4, 4⟩ ((h.new b (.cells ⟨[.int .u8 0]⟩ 5 (0, 0))).new b1 (.cells ⟨[.int .u64 n, .int .u64 n1, .int .u64 n2, .int .u64 (IntKind.wrap .u64 (l.n : Int))]⟩ 22 (0, 0))) fun r h1 => ∃ l3 : Sl, r = .slice l3.a l3.n l3.c ∧ ∃ (I : Sl → Int → Hp → Prop) (m : Sl → Int → Hp → Nat), I l3 0 h1 ∧ (∀ l4 : Sl, ∀ n3 : Int, ∀ h2 : Hp, I l4 n3 h2 → par (n3 < (l.n : Int)) (∃ b2 o, (l.a : Option Addr) = some ⟨b2, o, none⟩ ∧ ((0 : Int) ≤ n3 ∧ n3 < (l.n : Int)) ∧ ∃ n4 : Int, h2.at b2 (o + n3.toNat * 2) = some (.int .i64 n4) ∧ ∃ n5 : Int, h2.at b2 ((o + n3.toNat * 2) + 1) = some (.int .u64 n5) ∧ ∀ b3, h2 b3 = none → T95 l4 ⟨(some ⟨b3, 0, none⟩), 2, 2⟩ (h2.new b3 (.cells ⟨[.int .u64 (IntKind.wrap .u64 n4), .int .u64 n5]⟩ 22 (0, 0))) fun r1 h3 => ∃ l5 : Sl, r1 = .slice l5.a l5.n l5.c ∧ I l5 (IntKind.wrap .i64 (n3 + 1)) h3 ∧ m l5 (IntKind.wrap .i64 (n3 + 1)) h3 < m l4 n3 h2) (∀ b4, h2 b4 = none → T95 l4 ⟨(some ⟨b4, 0, none⟩), 1, 1⟩ (h2.new b4 (.cells ⟨[.int .u64 (IntKind.wrap .u64 (l1.n : Int))]⟩ 22 (0, 0))) fun r2 h4 => ∃ l6 : Sl, r2 = .slice l6.a l6.n l6.c ∧ ∃ (I1 : Sl → Int → Hp → Prop) (m1 : Sl → Int → Hp → Nat), I1 l6 0 h4 ∧ (∀ l7 : Sl, ∀ n6 : Int, ∀ h5 : Hp, I1 l7 n6 h5 → par (n6 < (l1.n : Int)) (∃ b5 o1, (l1.a : Option Addr) = some ⟨b5, o1, none⟩ ∧ ((0 : Int) ≤ n6 ∧ n6 < (l1.n : Int)) ∧ ∃ n7 : Int, h5.at b5 (o1 + n6.toNat * 7) = some (.int .i64 n7) ∧ ∃ n8 : Int, h5.at b5 ((o1 + n6.toNat * 7) + 1) = some (.int .u64 n8) ∧ ∃ n9 : Int, h5.at b5 ((o1 + n6.toNat * 7) + 2) = some (.int .i64 n9) ∧ ∃ n10 : Int, h5.at b5 ((o1 + n6.toNat * 7) + 3) = some (.int .i64 n10) ∧ ∃ n11 : Int, h5.at b5 ((o1 + n6.toNat * 7) + 4) = some (.int .i64 n11) ∧ ∃ s : ByteArray, h5.at b5 ((o1 + n6.toNat * 7) + 5) = some (.string s) ∧ ∃ s1 : ByteArray, h5.at b5 ((o1 + n6.toNat * 7) + 6) = some (.string s1) ∧ ∀ b6, h5 b6 = none → T95 l7 ⟨(some ⟨b6, 0, none⟩), 5, 5⟩ (h5.new b6 (.cells ⟨[.int .u64 (IntKind.wrap .u64 n7), .int .u64 n8, .int .u64 (IntKind.wrap .u64 n9), .int .u64 (IntKind.wrap .u64 n10), .int .u64 (IntKind.wrap .u64 n11)]⟩ 22 (0, 0))) fun r3 h6 => ∃ l8 : Sl, r3 = .slice l8.a l8.n l8.c ∧ T96 l8 s h6 fun r4 h7 => ∃ l9 : Sl, r4 = .slice l9.a l9.n l9.c ∧ T96 l9 s1 h7 fun r5 h8 => ∃ l10 : Sl, r5 = .slice l10.a l10.n l10.c ∧ I1 l10 (IntKind.wrap .i64 (n6 + 1)) h8 ∧ m1 l10 (IntKind.wrap .i64 (n6 + 1)) h8 < m1 l7 n6 h5) (∀ b7, h5 b7 = none → T95 l7 ⟨(some ⟨b7, 0, none⟩), 1, 1⟩ (h5.new b7 (.cells ⟨[.int .u64 (IntKind.wrap .u64 (l2.n : Int))]⟩ 22 (0, 0))) fun r6 h9 => ∃ l11 : Sl, r6 = .slice l11.a l11.n l11.c ∧ ∃ (I2 : Sl → Int → Hp → Prop) (m2 : Sl → Int → Hp → Nat), I2 l11 0 h9 ∧ (∀ l12 : Sl, ∀ n12 : Int, ∀ h10 : Hp, I2 l12 n12 h10 → par (n12 < (l2.n : Int)) (∃ b8 o2, (l2.a : Option Addr) = some ⟨b8, o2, none⟩ ∧ ((0 : Int) ≤ n12 ∧ n12 < (l2.n : Int)) ∧ ∃ s2 : ByteArray, h10.at b8 (o2 + n12.toNat) = some (.string s2) ∧ T96 l12 s2 h10 fun r7 h11 => ∃ l13 : Sl, r7 = .slice l13.a l13.n l13.c ∧ I2 l13 (IntKind.wrap .i64 (n12 + 1)) h11 ∧ m2 l13 (IntKind.wrap .i64 (n12 + 1)) h11 < m2 l12 n12 h10) (Q (.slice l12.a l12.n l12.c) h10)))))) := by kernel_rfl
theorem F63.denf (V : Value → List Value → PT) (n : Int) (n1 : Int) (n2 : Int) (l : Sl) (l1 : Sl) (l2 : Sl) : denF Tryd.prog [2, 7, 9, 10] [(95, F95.V), (96, F96.V)] V [(250, .loop [(5, .sl), (33, .int .i64)] []), (1018, .loop [(5, .sl), (56, .int .i64)] []), (4090, .loop [(5, .sl), (97, .int .i64)] []), (260711, .order [0, 1, 2, 4, 5, 3, 6, 7])] Tryd.f63 [.v (.agg ⟨[.int .u64 n, .int .u64 n1, .int .u64 n2, .slice l.a l.n l.c, .slice l1.a l1.n l1.c, .slice l2.a l2.n l2.c]⟩), .v (.bool false)] = F63.Tf n n1 n2 l l1 l2 := F63.genf V F95.T F96.T n n1 n2 l l1 l2
def F63.W (T63t : Int → Int → Int → Sl → Sl → Sl → PT) (T63f : Int → Int → Int → Sl → Sl → Sl → PT) (args : List Value) : PT := match args with
  | [.agg ⟨[.int .u64 n, .int .u64 n1, .int .u64 n2, .slice l_a l_n l_c, .slice l1_a l1_n l1_c, .slice l2_a l2_n l2_c]⟩, .bool true] => T63t n n1 n2 ⟨l_a, l_n, l_c⟩ ⟨l1_a, l1_n, l1_c⟩ ⟨l2_a, l2_n, l2_c⟩
  | [.agg ⟨[.int .u64 n, .int .u64 n1, .int .u64 n2, .slice l_a l_n l_c, .slice l1_a l1_n l1_c, .slice l2_a l2_n l2_c]⟩, .bool false] => T63f n n1 n2 ⟨l_a, l_n, l_c⟩ ⟨l1_a, l1_n, l1_c⟩ ⟨l2_a, l2_n, l2_c⟩
  | _ => fun _ _ => False
def F63.V : List Value → PT := F63.W F63.Tt F63.Tf
theorem F63.ok : FOk Tryd.prog 63 F63.V := by
  refine ⟨⟨_, Tryd.func63, rfl, rfl⟩, fun args => ?_⟩
  have hG : GOk Tryd.prog [(95, F95.V), (96, F96.V)] := GOk.cons F95.ok (GOk.cons F96.ok (GOk.nil))
  have hV : VOk Tryd.prog noV := noV_ok
  unfold F63.V F63.W
  split
  · exact denF_okV hG hV Tryd.func63 (fun h Q hq => (F63.dent _ _ _ _ _ _ _) ▸ hq)
  · exact denF_okV hG hV Tryd.func63 (fun h Q hq => (F63.denf _ _ _ _ _ _ _) ▸ hq)
  · exact fun h Q hq => hq.elim
def F21.T (n : Int) (n1 : Int) (n2 : Int) (l : Sl) (l1 : Sl) (l2 : Sl) : PT := fun h Q =>
  F62.T n n1 n2 l l1 l2 h fun r h1 => ∃ b : Bool, r = .bool b ∧ parB b (∃ (I : Sl → Int → Int → Int → Sl → Sl → Sl → Hp → Prop) (m : Sl → Int → Int → Int → Sl → Sl → Sl → Hp → Nat), I ⟨none, 0, 0⟩ n n1 n2 l l1 l2 h1 ∧ (∀ l3 : Sl, ∀ n3 : Int, ∀ n4 : Int, ∀ n5 : Int, ∀ l4 : Sl, ∀ l5 : Sl, ∀ l6 : Sl, ∀ h2 : Hp, I l3 n3 n4 n5 l4 l5 l6 h2 → Sl.okCut l4 0 (iMin (l4.n : Int) 256) (iMin (l4.n : Int) 256) ∧ Sl.okCut l5 0 (iMin (l5.n : Int) (IntKind.wrap .i64 (256 - (iMin (l4.n : Int) 256)))) (iMin (l5.n : Int) (IntKind.wrap .i64 (256 - (iMin (l4.n : Int) 256)))) ∧ Sl.okCut l4 (iMin (l4.n : Int) 256) (l4.n : Int) (l4.c : Int) ∧ Sl.okCut l5 (iMin (l5.n : Int) (IntKind.wrap .i64 (256 - (iMin (l4.n : Int) 256)))) (l5.n : Int) (l5.c : Int) ∧ par ((IntKind.wrap .i64 (((Sl.cut l4 2 (iMin (l4.n : Int) 256) (l4.n : Int) (l4.c : Int)).n : Int) + ((Sl.cut l5 7 (iMin (l5.n : Int) (IntKind.wrap .i64 (256 - (iMin (l4.n : Int) 256)))) (l5.n : Int) (l5.c : Int)).n : Int))) = 0) (F63.Tt n3 n4 n5 (Sl.cut l4 2 0 (iMin (l4.n : Int) 256) (iMin (l4.n : Int) 256)) (Sl.cut l5 7 0 (iMin (l5.n : Int) (IntKind.wrap .i64 (256 - (iMin (l4.n : Int) 256)))) (iMin (l5.n : Int) (IntKind.wrap .i64 (256 - (iMin (l4.n : Int) 256))))) l6 h2 fun r1 h3 => ∃ l7 : Sl, r1 = .slice l7.a l7.n l7.c ∧ appendD l3 23 1 24 [.slice none 0 0] 1 [.slice l7.a l7.n l7.c] h3 fun l8 h4 => Q (.slice l8.a l8.n l8.c) h4) (F63.Tf n3 n4 n5 (Sl.cut l4 2 0 (iMin (l4.n : Int) 256) (iMin (l4.n : Int) 256)) (Sl.cut l5 7 0 (iMin (l5.n : Int) (IntKind.wrap .i64 (256 - (iMin (l4.n : Int) 256)))) (iMin (l5.n : Int) (IntKind.wrap .i64 (256 - (iMin (l4.n : Int) 256))))) ⟨none, 0, 0⟩ h2 fun r2 h5 => ∃ l9 : Sl, r2 = .slice l9.a l9.n l9.c ∧ appendD l3 23 1 24 [.slice none 0 0] 1 [.slice l9.a l9.n l9.c] h5 fun l10 h6 => I l10 n3 n4 n5 (Sl.cut l4 2 (iMin (l4.n : Int) 256) (l4.n : Int) (l4.c : Int)) (Sl.cut l5 7 (iMin (l5.n : Int) (IntKind.wrap .i64 (256 - (iMin (l4.n : Int) 256)))) (l5.n : Int) (l5.c : Int)) l6 h6 ∧ m l10 n3 n4 n5 (Sl.cut l4 2 (iMin (l4.n : Int) 256) (l4.n : Int) (l4.c : Int)) (Sl.cut l5 7 (iMin (l5.n : Int) (IntKind.wrap .i64 (256 - (iMin (l4.n : Int) 256)))) (l5.n : Int) (l5.c : Int)) l6 h6 < m l3 n3 n4 n5 l4 l5 l6 h2))) (Q (.slice none 0 0) h1)
theorem F21.gen (V : Value → List Value → PT) (T62 : Int → Int → Int → Sl → Sl → Sl → PT) (T63t : Int → Int → Int → Sl → Sl → Sl → PT) (T63f : Int → Int → Int → Sl → Sl → Sl → PT) (n : Int) (n1 : Int) (n2 : Int) (l : Sl) (l1 : Sl) (l2 : Sl) : denF Tryd.prog [1, 4, 54, 60] [(62, F62.W T62), (63, F63.W T63t T63f)] V [(30, .loop [(3, .sl)] [(1, [.int .u64, .int .u64, .int .u64, .sl, .sl, .sl])]), (1934, .order [0, 1, 2, 3, 4, 5, 6, 7, 8, 9, 10, 11, 12, 13]), (3870, .order [0, 1, 2, 3, 4, 5, 6, 7, 8, 9, 10, 11])] Tryd.f21 [.v (.agg ⟨[.int .u64 n, .int .u64 n1, .int .u64 n2, .slice l.a l.n l.c, .slice l1.a l1.n l1.c, .slice l2.a l2.n l2.c]⟩)] = fun h Q =>
  T62 n n1 n2 l l1 l2 h fun r h1 => ∃ b : Bool, r = .bool b ∧ parB b (∃ (I : Sl → Int → Int → Int → Sl → Sl → Sl → Hp → Prop) (m : Sl → Int → Int → Int → Sl → Sl → Sl → Hp → Nat), I ⟨none, 0, 0⟩ n n1 n2 l l1 l2 h1 ∧ (∀ l3 : Sl, ∀ n3 : Int, ∀ n4 : Int, ∀ n5 : Int, ∀ l4 : Sl, ∀ l5 : Sl, ∀ l6 : Sl, ∀ h2 : Hp, I l3 n3 n4 n5 l4 l5 l6 h2 → Sl.okCut l4 0 (iMin (l4.n : Int) 256) (iMin (l4.n : Int) 256) ∧ Sl.okCut l5 0 (iMin (l5.n : Int) (IntKind.wrap .i64 (256 - (iMin (l4.n : Int) 256)))) (iMin (l5.n : Int) (IntKind.wrap .i64 (256 - (iMin (l4.n : Int) 256)))) ∧ Sl.okCut l4 (iMin (l4.n : Int) 256) (l4.n : Int) (l4.c : Int) ∧ Sl.okCut l5 (iMin (l5.n : Int) (IntKind.wrap .i64 (256 - (iMin (l4.n : Int) 256)))) (l5.n : Int) (l5.c : Int) ∧ par ((IntKind.wrap .i64 (((Sl.cut l4 2 (iMin (l4.n : Int) 256) (l4.n : Int) (l4.c : Int)).n : Int) + ((Sl.cut l5 7 (iMin (l5.n : Int) (IntKind.wrap .i64 (256 - (iMin (l4.n : Int) 256)))) (l5.n : Int) (l5.c : Int)).n : Int))) = 0) (T63t n3 n4 n5 (Sl.cut l4 2 0 (iMin (l4.n : Int) 256) (iMin (l4.n : Int) 256)) (Sl.cut l5 7 0 (iMin (l5.n : Int) (IntKind.wrap .i64 (256 - (iMin (l4.n : Int) 256)))) (iMin (l5.n : Int) (IntKind.wrap .i64 (256 - (iMin (l4.n : Int) 256))))) l6 h2 fun r1 h3 => ∃ l7 : Sl, r1 = .slice l7.a l7.n l7.c ∧ appendD l3 23 1 24 [.slice none 0 0] 1 [.slice l7.a l7.n l7.c] h3 fun l8 h4 => Q (.slice l8.a l8.n l8.c) h4) (T63f n3 n4 n5 (Sl.cut l4 2 0 (iMin (l4.n : Int) 256) (iMin (l4.n : Int) 256)) (Sl.cut l5 7 0 (iMin (l5.n : Int) (IntKind.wrap .i64 (256 - (iMin (l4.n : Int) 256)))) (iMin (l5.n : Int) (IntKind.wrap .i64 (256 - (iMin (l4.n : Int) 256))))) ⟨none, 0, 0⟩ h2 fun r2 h5 => ∃ l9 : Sl, r2 = .slice l9.a l9.n l9.c ∧ appendD l3 23 1 24 [.slice none 0 0] 1 [.slice l9.a l9.n l9.c] h5 fun l10 h6 => I l10 n3 n4 n5 (Sl.cut l4 2 (iMin (l4.n : Int) 256) (l4.n : Int) (l4.c : Int)) (Sl.cut l5 7 (iMin (l5.n : Int) (IntKind.wrap .i64 (256 - (iMin (l4.n : Int) 256)))) (l5.n : Int) (l5.c : Int)) l6 h6 ∧ m l10 n3 n4 n5 (Sl.cut l4 2 (iMin (l4.n : Int) 256) (l4.n : Int) (l4.c : Int)) (Sl.cut l5 7 (iMin (l5.n : Int) (IntKind.wrap .i64 (256 - (iMin (l4.n : Int) 256)))) (l5.n : Int) (l5.c : Int)) l6 h6 < m l3 n3 n4 n5 l4 l5 l6 h2))) (Q (.slice none 0 0) h1) := by kernel_rfl
theorem F21.den (V : Value → List Value → PT) (n : Int) (n1 : Int) (n2 : Int) (l : Sl) (l1 : Sl) (l2 : Sl) : denF Tryd.prog [1, 4, 54, 60] [(62, F62.V), (63, F63.V)] V [(30, .loop [(3, .sl)] [(1, [.int .u64, .int .u64, .int .u64, .sl, .sl, .sl])]), (1934, .order [0, 1, 2, 3, 4, 5, 6, 7, 8, 9, 10, 11, 12, 13]), (3870, .order [0, 1, 2, 3, 4, 5, 6, 7, 8, 9, 10, 11])] Tryd.f21 [.v (.agg ⟨[.int .u64 n, .int .u64 n1, .int .u64 n2, .slice l.a l.n l.c, .slice l1.a l1.n l1.c, .slice l2.a l2.n l2.c]⟩)] = F21.T n n1 n2 l l1 l2 := F21.gen V F62.T F63.Tt F63.Tf n n1 n2 l l1 l2
def F21.W (T21 : Int → Int → Int → Sl → Sl → Sl → PT) (args : List Value) : PT := match args with
  | [.agg ⟨[.int .u64 n, .int .u64 n1, .int .u64 n2, .slice l_a l_n l_c, .slice l1_a l1_n l1_c, .slice l2_a l2_n l2_c]⟩] => T21 n n1 n2 ⟨l_a, l_n, l_c⟩ ⟨l1_a, l1_n, l1_c⟩ ⟨l2_a, l2_n, l2_c⟩
  | _ => fun _ _ => False
def F21.V : List Value → PT := F21.W F21.T
theorem F21.ok : FOk Tryd.prog 21 F21.V := by
  refine ⟨⟨_, Tryd.func21, rfl, rfl⟩, fun args => ?_⟩
  have hG : GOk Tryd.prog [(62, F62.V), (63, F63.V)] := GOk.cons F62.ok (GOk.cons F63.ok (GOk.nil))
  have hV : VOk Tryd.prog noV := noV_ok
  unfold F21.V F21.W
  split
  · exact denF_okV hG hV Tryd.func21 (fun h Q hq => (F21.den _ _ _ _ _ _ _) ▸ hq)
  · exact fun h Q hq => hq.elim
def F64.T (n : Int) (n1 : Int) (n2 : Int) (l : Sl) (l1 : Sl) (l2 : Sl) : PT := fun h Q =>
  ∃ (I : Int → Hp → Prop) (m : Int → Hp → Nat), I 0 h ∧ (∀ n3 : Int, ∀ h1 : Hp, I n3 h1 → par (n3 < (l.n : Int)) (∃ b o, (l.a : Option Addr) = some ⟨b, o, none⟩ ∧ ((0 : Int) ≤ n3 ∧ n3 < (l.n : Int)) ∧ ∃ n4 : Int, h1.at b (o + n3.toNat * 2) = some (.int .i64 n4) ∧ par (n4 < 0) (Q (.bool false) h1) (∃ b1 o1, (l.a : Option Addr) = some ⟨b1, o1, none⟩ ∧ ((0 : Int) ≤ n3 ∧ n3 < (l.n : Int)) ∧ ∃ n5 : Int, h1.at b1 (o1 + n3.toNat * 2) = some (.int .i64 n5) ∧ par ((4 : Int) < n5) (Q (.bool false) h1) (I (IntKind.wrap .i64 (n3 + 1)) h1 ∧ m (IntKind.wrap .i64 (n3 + 1)) h1 < m n3 h1))) (∃ (I1 : Int → Hp → Prop) (m1 : Int → Hp → Nat), I1 0 h1 ∧ (∀ n6 : Int, ∀ h2 : Hp, I1 n6 h2 → par (n6 < (l1.n : Int)) (∃ b2 o2, (l1.a : Option Addr) = some ⟨b2, o2, none⟩ ∧ ((0 : Int) ≤ n6 ∧ n6 < (l1.n : Int)) ∧ ∃ n7 : Int, h2.at b2 (o2 + n6.toNat * 7) = some (.int .i64 n7) ∧ ∃ n8 : Int, h2.at b2 ((o2 + n6.toNat * 7) + 1) = some (.int .u64 n8) ∧ ∃ n9 : Int, h2.at b2 ((o2 + n6.toNat * 7) + 2) = some (.int .i64 n9) ∧ ∃ n10 : Int, h2.at b2 ((o2 + n6.toNat * 7) + 3) = some (.int .i64 n10) ∧ ∃ n11 : Int, h2.at b2 ((o2 + n6.toNat * 7) + 4) = some (.int .i64 n11) ∧ ∃ s : ByteArray, h2.at b2 ((o2 + n6.toNat * 7) + 5) = some (.string s) ∧ ∃ s1 : ByteArray, h2.at b2 ((o2 + n6.toNat * 7) + 6) = some (.string s1) ∧ par (n7 < 0) (Q (.bool false) h2) (par ((4 : Int) < n7) (Q (.bool false) h2) (par (n9 < 0) (Q (.bool false) h2) (par (n10 < 0) (Q (.bool false) h2) (par (n11 < 0) (Q (.bool false) h2) (par ((64 : Int) < (s.size : Int)) (Q (.bool false) h2) (par ((64 : Int) < (s1.size : Int)) (Q (.bool false) h2) (I1 (IntKind.wrap .i64 (n6 + 1)) h2 ∧ m1 (IntKind.wrap .i64 (n6 + 1)) h2 < m1 n6 h2)))))))) (∃ (I2 : Int → Hp → Prop) (m2 : Int → Hp → Nat), I2 0 h2 ∧ (∀ n12 : Int, ∀ h3 : Hp, I2 n12 h3 → par (n12 < (l2.n : Int)) (∃ b3 o3, (l2.a : Option Addr) = some ⟨b3, o3, none⟩ ∧ ((0 : Int) ≤ n12 ∧ n12 < (l2.n : Int)) ∧ ∃ s2 : ByteArray, h3.at b3 (o3 + n12.toNat) = some (.string s2) ∧ par ((64 : Int) < (s2.size : Int)) (Q (.bool false) h3) (I2 (IntKind.wrap .i64 (n12 + 1)) h3 ∧ m2 (IntKind.wrap .i64 (n12 + 1)) h3 < m2 n12 h3)) (par ((l2.n : Int) ≤ 5) (Q (.bool true) h3) (Q (.bool false) h3)))))))
theorem F64.den (V : Value → List Value → PT) (n : Int) (n1 : Int) (n2 : Int) (l : Sl) (l1 : Sl) (l2 : Sl) : denF Tryd.prog [1, 5] [] V [(26, .loop [(3, .int .i64)] []), (58, .loop [(4, .int .i64)] []), (122, .loop [(6, .int .i64)] [])] Tryd.f64 [.v (.agg ⟨[.int .u64 n, .int .u64 n1, .int .u64 n2, .slice l.a l.n l.c, .slice l1.a l1.n l1.c, .slice l2.a l2.n l2.c]⟩)] = F64.T n n1 n2 l l1 l2 := by kernel_rfl
def F64.W (T64 : Int → Int → Int → Sl → Sl → Sl → PT) (args : List Value) : PT := match args with
  | [.agg ⟨[.int .u64 n, .int .u64 n1, .int .u64 n2, .slice l_a l_n l_c, .slice l1_a l1_n l1_c, .slice l2_a l2_n l2_c]⟩] => T64 n n1 n2 ⟨l_a, l_n, l_c⟩ ⟨l1_a, l1_n, l1_c⟩ ⟨l2_a, l2_n, l2_c⟩
  | _ => fun _ _ => False
def F64.V : List Value → PT := F64.W F64.T
theorem F64.ok : FOk Tryd.prog 64 F64.V := by
  refine ⟨⟨_, Tryd.func64, rfl, rfl⟩, fun args => ?_⟩
  have hG : GOk Tryd.prog [] := GOk.nil
  have hV : VOk Tryd.prog noV := noV_ok
  unfold F64.V F64.W
  split
  · exact denF_okV hG hV Tryd.func64 (fun h Q hq => (F64.den _ _ _ _ _ _ _) ▸ hq)
  · exact fun h Q hq => hq.elim
def F98.T (n : Int) : PT := fun h Q =>
  F82.T (IntKind.wrap .u64 n) h fun r h1 => ∃ l : Sl, r = .slice l.a l.n l.c ∧ Q (.slice l.a l.n l.c) h1
theorem F98.gen (V : Value → List Value → PT) (T82 : Int → PT) (n : Int) : denF Tryd.prog [] [(82, F82.W T82)] V [] Tryd.f98 [.v (.int .i64 n)] = fun h Q =>
  T82 (IntKind.wrap .u64 n) h fun r h1 => ∃ l : Sl, r = .slice l.a l.n l.c ∧ Q (.slice l.a l.n l.c) h1 := by kernel_rfl
theorem F98.den (V : Value → List Value → PT) (n : Int) : denF Tryd.prog [] [(82, F82.V)] V [] Tryd.f98 [.v (.int .i64 n)] = F98.T n := F98.gen V F82.T n
def F98.W (T98 : Int → PT) (args : List Value) : PT := match args with
  | [.int .i64 n] => T98 n
  | _ => fun _ _ => False
def F98.V : List Value → PT := F98.W F98.T
theorem F98.ok : FOk Tryd.prog 98 F98.V := by
  refine ⟨⟨_, Tryd.func98, rfl, rfl⟩, fun args => ?_⟩
  have hG : GOk Tryd.prog [(82, F82.V)] := GOk.cons F82.ok (GOk.nil)
  have hV : VOk Tryd.prog noV := noV_ok
  unfold F98.V F98.W
  split
  · exact denF_okV hG hV Tryd.func98 (fun h Q hq => (F98.den _ _) ▸ hq)
  · exact fun h Q hq => hq.elim
def F97.T (l : Sl) : PT := fun h Q =>
  ∃ (I : Sl → Int → Hp → Prop) (m : Sl → Int → Hp → Nat), I ⟨none, 0, 0⟩ 0 h ∧ (∀ l1 : Sl, ∀ n : Int, ∀ h1 : Hp, I l1 n h1 → par (n < (l.n : Int)) (∃ b o, (l.a : Option Addr) = some ⟨b, o, none⟩ ∧ ((0 : Int) ≤ n ∧ n < (l.n : Int)) ∧ ∃ l2 : Sl, h1.at b (o + n.toNat) = some (.slice l2.a l2.n l2.c) ∧ ∃ vs, h1.row l2.a (l2.n * 1) vs ∧ (∀ v ∈ vs, Value.oneCell' v = true) ∧ appendD l1 5 1 1 [.int .u8 0] l2.n vs h1 fun l3 h2 => I l3 (IntKind.wrap .i64 (n + 1)) h2 ∧ m l3 (IntKind.wrap .i64 (n + 1)) h2 < m l1 n h1) (Q (.slice l1.a l1.n l1.c) h1))
theorem F97.den (V : Value → List Value → PT) (l : Sl) : denF Tryd.prog [] [] V [(58, .loop [(3, .sl), (4, .int .i64)] [])] Tryd.f97 [.v (.slice l.a l.n l.c)] = F97.T l := by kernel_rfl
def F97.W (T97 : Sl → PT) (args : List Value) : PT := match args with
  | [.slice l_a l_n l_c] => T97 ⟨l_a, l_n, l_c⟩
  | _ => fun _ _ => False
def F97.V : List Value → PT := F97.W F97.T
theorem F97.ok : FOk Tryd.prog 97 F97.V := by
  refine ⟨⟨_, Tryd.func97, rfl, rfl⟩, fun args => ?_⟩
  have hG : GOk Tryd.prog [] := GOk.nil
  have hV : VOk Tryd.prog noV := noV_ok
  unfold F97.V F97.W
  split
  · exact denF_okV hG hV Tryd.func97 (fun h Q hq => (F97.den _ _) ▸ hq)
  · exact fun h Q hq => hq.elim
def F99.T (s : ByteArray) : PT := fun h Q =>
  F82.T (IntKind.wrap .u64 (s.size : Int)) h fun r h1 => ∃ l : Sl, r = .slice l.a l.n l.c ∧ ∃ (I : Sl → Int → Hp → Prop) (m : Sl → Int → Hp → Nat), I l 0 h1 ∧ (∀ l1 : Sl, ∀ n : Int, ∀ h2 : Hp, I l1 n h2 → par (n < (s.size : Int)) (((0 : Int) ≤ n ∧ n < (s.size : Int)) ∧ appendD l1 5 1 1 [.int .u8 0] 1 [.int .u8 (bt s n)] h2 fun l2 h3 => I l2 (IntKind.wrap .i64 (n + 1)) h3 ∧ m l2 (IntKind.wrap .i64 (n + 1)) h3 < m l1 n h2) (Q (.slice l1.a l1.n l1.c) h2))
theorem F99.gen (V : Value → List Value → PT) (T82 : Int → PT) (s : ByteArray) : denF Tryd.prog [19] [(82, F82.W T82)] V [(58, .loop [(3, .sl), (4, .int .i64)] [])] Tryd.f99 [.v (.string s)] = fun h Q =>
  T82 (IntKind.wrap .u64 (s.size : Int)) h fun r h1 => ∃ l : Sl, r = .slice l.a l.n l.c ∧ ∃ (I : Sl → Int → Hp → Prop) (m : Sl → Int → Hp → Nat), I l 0 h1 ∧ (∀ l1 : Sl, ∀ n : Int, ∀ h2 : Hp, I l1 n h2 → par (n < (s.size : Int)) (((0 : Int) ≤ n ∧ n < (s.size : Int)) ∧ appendD l1 5 1 1 [.int .u8 0] 1 [.int .u8 (bt s n)] h2 fun l2 h3 => I l2 (IntKind.wrap .i64 (n + 1)) h3 ∧ m l2 (IntKind.wrap .i64 (n + 1)) h3 < m l1 n h2) (Q (.slice l1.a l1.n l1.c) h2)) := by kernel_rfl
theorem F99.den (V : Value → List Value → PT) (s : ByteArray) : denF Tryd.prog [19] [(82, F82.V)] V [(58, .loop [(3, .sl), (4, .int .i64)] [])] Tryd.f99 [.v (.string s)] = F99.T s := F99.gen V F82.T s
def F99.W (T99 : ByteArray → PT) (args : List Value) : PT := match args with
  | [.string s] => T99 s
  | _ => fun _ _ => False
def F99.V : List Value → PT := F99.W F99.T
theorem F99.ok : FOk Tryd.prog 99 F99.V := by
  refine ⟨⟨_, Tryd.func99, rfl, rfl⟩, fun args => ?_⟩
  have hG : GOk Tryd.prog [(82, F82.V)] := GOk.cons F82.ok (GOk.nil)
  have hV : VOk Tryd.prog noV := noV_ok
  unfold F99.V F99.W
  split
  · exact denF_okV hG hV Tryd.func99 (fun h Q hq => (F99.den _ _) ▸ hq)
  · exact fun h Q hq => hq.elim
def F100.T (n : Int) : PT := fun h Q =>
  (512 : Int) ≠ 0 ∧ Q (.int .i64 (IntKind.wrap .i64 (512 - (Int.tmod n 512)))) h
theorem F100.den (V : Value → List Value → PT) (n : Int) : denF Tryd.prog [] [] V [] Tryd.f100 [.v (.int .i64 n)] = F100.T n := by kernel_rfl
def F100.W (T100 : Int → PT) (args : List Value) : PT := match args with
  | [.int .i64 n] => T100 n
  | _ => fun _ _ => False
def F100.V : List Value → PT := F100.W F100.T
theorem F100.ok : FOk Tryd.prog 100 F100.V := by
  refine ⟨⟨_, Tryd.func100, rfl, rfl⟩, fun args => ?_⟩
  have hG : GOk Tryd.prog [] := GOk.nil
  have hV : VOk Tryd.prog noV := noV_ok
  unfold F100.V F100.W
  split
  · exact denF_okV hG hV Tryd.func100 (fun h Q hq => (F100.den _ _) ▸ hq)
  · exact fun h Q hq => hq.elim
def F122.T (n : Int) : PT := fun h Q =>
  (0 : Int) ≤ 8 ∧ (0 : Int) ≤ 16 ∧ (0 : Int) ≤ 24 ∧ ∀ b, h b = none → Q (.slice (some ⟨b, 0, none⟩) 4 4) (h.new b (.cells ⟨[.int .u8 (IntKind.wrap .u8 n), .int .u8 (IntKind.wrap .u8 (shrI .u32 n 8)), .int .u8 (IntKind.wrap .u8 (shrI .u32 n 16)), .int .u8 (IntKind.wrap .u8 (shrI .u32 n 24))]⟩ 5 (0, 0)))
theorem F122.den (V : Value → List Value → PT) (n : Int) : denF Tryd.prog [] [] V [] Tryd.f122 [.v (.int .u32 n)] = F122.T n := by kernel_rfl
def F122.W (T122 : Int → PT) (args : List Value) : PT := match args with
  | [.int .u32 n] => T122 n
  | _ => fun _ _ => False
def F122.V : List Value → PT := F122.W F122.T
theorem F122.ok : FOk Tryd.prog 122 F122.V := by
  refine ⟨⟨_, Tryd.func122, rfl, rfl⟩, fun args => ?_⟩
  have hG : GOk Tryd.prog [] := GOk.nil
  have hV : VOk Tryd.prog noV := noV_ok
  unfold F122.V F122.W
  split
  · exact denF_okV hG hV Tryd.func122 (fun h Q hq => (F122.den _ _) ▸ hq)
  · exact fun h Q hq => hq.elim
def F101.T (n : Int) (l : Sl) : PT := fun h Q =>
  (0 : Int) ≤ 8 ∧ ∀ b, h b = none → ∃ vs, (h.new b (.cells ⟨[.int .u8 (IntKind.wrap .u8 (l.n : Int)), .int .u8 (IntKind.wrap .u8 (shrI .i64 (l.n : Int) 8)), .int .u8 (IntKind.wrap .u8 n)]⟩ 5 (0, 0))).row l.a (l.n * 1) vs ∧ (∀ v ∈ vs, Value.oneCell' v = true) ∧ appendD ⟨(some ⟨b, 0, none⟩), 3, 3⟩ 5 1 1 [.int .u8 0] l.n vs (h.new b (.cells ⟨[.int .u8 (IntKind.wrap .u8 (l.n : Int)), .int .u8 (IntKind.wrap .u8 (shrI .i64 (l.n : Int) 8)), .int .u8 (IntKind.wrap .u8 n)]⟩ 5 (0, 0))) fun l1 h1 => F114.T l1 h1 fun r h2 => ∃ n1 : Int, r = .int .u32 n1 ∧ F122.T n1 h2 fun r1 h3 => ∃ l2 : Sl, r1 = .slice l2.a l2.n l2.c ∧ ∃ vs1, h3.row l1.a (l1.n * 1) vs1 ∧ (∀ v ∈ vs1, Value.oneCell' v = true) ∧ appendD l2 5 1 1 [.int .u8 0] l1.n vs1 h3 fun l3 h4 => Q (.slice l3.a l3.n l3.c) h4
theorem F101.gen (V : Value → List Value → PT) (T114 : Sl → PT) (T122 : Int → PT) (n : Int) (l : Sl) : denF Tryd.prog [] [(114, F114.W T114), (122, F122.W T122)] V [] Tryd.f101 [.v (.int .i64 n), .v (.slice l.a l.n l.c)] = fun h Q =>
  (0 : Int) ≤ 8 ∧ ∀ b, h b = none → ∃ vs, (h.new b (.cells ⟨[.int .u8 (IntKind.wrap .u8 (l.n : Int)), .int .u8 (IntKind.wrap .u8 (shrI .i64 (l.n : Int) 8)), .int .u8 (IntKind.wrap .u8 n)]⟩ 5 (0, 0))).row l.a (l.n * 1) vs ∧ (∀ v ∈ vs, Value.oneCell' v = true) ∧ appendD ⟨(some ⟨b, 0, none⟩), 3, 3⟩ 5 1 1 [.int .u8 0] l.n vs (h.new b (.cells ⟨[.int .u8 (IntKind.wrap .u8 (l.n : Int)), .int .u8 (IntKind.wrap .u8 (shrI .i64 (l.n : Int) 8)), .int .u8 (IntKind.wrap .u8 n)]⟩ 5 (0, 0))) fun l1 h1 => T114 l1 h1 fun r h2 => ∃ n1 : Int, r = .int .u32 n1 ∧ T122 n1 h2 fun r1 h3 => ∃ l2 : Sl, r1 = .slice l2.a l2.n l2.c ∧ ∃ vs1, h3.row l1.a (l1.n * 1) vs1 ∧ (∀ v ∈ vs1, Value.oneCell' v = true) ∧ appendD l2 5 1 1 [.int .u8 0] l1.n vs1 h3 fun l3 h4 => Q (.slice l3.a l3.n l3.c) h4 := by kernel_rfl
theorem F101.den (V : Value → List Value → PT) (n : Int) (l : Sl) : denF Tryd.prog [] [(114, F114.V), (122, F122.V)] V [] Tryd.f101 [.v (.int .i64 n), .v (.slice l.a l.n l.c)] = F101.T n l := F101.gen V F114.T F122.T n l
def F101.W (T101 : Int → Sl → PT) (args : List Value) : PT := match args with
  | [.int .i64 n, .slice l_a l_n l_c] => T101 n ⟨l_a, l_n, l_c⟩
  | _ => fun _ _ => False
def F101.V : List Value → PT := F101.W F101.T
theorem F101.ok : FOk Tryd.prog 101 F101.V := by
  refine ⟨⟨_, Tryd.func101, rfl, rfl⟩, fun args => ?_⟩
  have hG : GOk Tryd.prog [(114, F114.V), (122, F122.V)] := GOk.cons F114.ok (GOk.cons F122.ok (GOk.nil))
  have hV : VOk Tryd.prog noV := noV_ok
  unfold F101.V F101.W
  split
  · exact denF_okV hG hV Tryd.func101 (fun h Q hq => (F101.den _ _ _) ▸ hq)
  · exact fun h Q hq => hq.elim
def F66.T (n : Int) (l : Sl) : PT := fun h Q =>
  ∃ J : Sl → Hp → Prop, (∀ l1 : Sl, ∀ h1 : Hp, J l1 h1 → ∃ (I : Sl → Sl → Int → Hp → Prop) (m : Sl → Sl → Int → Hp → Nat), I l l1 1 h1 ∧ (∀ l2 : Sl, ∀ l3 : Sl, ∀ n1 : Int, ∀ h2 : Hp, I l2 l3 n1 h2 → F100.T (IntKind.wrap .i64 ((iMax n 0) + (l3.n : Int))) h2 fun r h3 => ∃ n2 : Int, r = .int .i64 n2 ∧ par ((iMin (l2.n : Int) (IntKind.wrap .i64 (n2 - 7))) = (l2.n : Int)) (par (n1 = 1) (F101.T n1 l2 h3 fun r1 h4 => ∃ l4 : Sl, r1 = .slice l4.a l4.n l4.c ∧ ∃ vs, h4.row l4.a (l4.n * 1) vs ∧ (∀ v ∈ vs, Value.oneCell' v = true) ∧ appendD l3 5 1 1 [.int .u8 0] l4.n vs h4 fun l5 h5 => Q (.slice l5.a l5.n l5.c) h5) (F101.T 4 l2 h3 fun r2 h6 => ∃ l6 : Sl, r2 = .slice l6.a l6.n l6.c ∧ ∃ vs1, h6.row l6.a (l6.n * 1) vs1 ∧ (∀ v ∈ vs1, Value.oneCell' v = true) ∧ appendD l3 5 1 1 [.int .u8 0] l6.n vs1 h6 fun l7 h7 => Q (.slice l7.a l7.n l7.c) h7)) (par (n1 = 1) (Sl.okCut l2 0 (iMin (l2.n : Int) (IntKind.wrap .i64 (n2 - 7))) (l2.c : Int) ∧ F101.T 2 (Sl.cut l2 1 0 (iMin (l2.n : Int) (IntKind.wrap .i64 (n2 - 7))) (l2.c : Int)) h3 fun r3 h8 => ∃ l8 : Sl, r3 = .slice l8.a l8.n l8.c ∧ ∃ vs2, h8.row l8.a (l8.n * 1) vs2 ∧ (∀ v ∈ vs2, Value.oneCell' v = true) ∧ appendD l3 5 1 1 [.int .u8 0] l8.n vs2 h8 fun l9 h9 => Sl.okCut l2 (iMin (l2.n : Int) (IntKind.wrap .i64 (n2 - 7))) (l2.n : Int) (l2.c : Int) ∧ I (Sl.cut l2 1 (iMin (l2.n : Int) (IntKind.wrap .i64 (n2 - 7))) (l2.n : Int) (l2.c : Int)) l9 3 h9 ∧ m (Sl.cut l2 1 (iMin (l2.n : Int) (IntKind.wrap .i64 (n2 - 7))) (l2.n : Int) (l2.c : Int)) l9 3 h9 < m l2 l3 n1 h2) (Sl.okCut l2 0 (iMin (l2.n : Int) (IntKind.wrap .i64 (n2 - 7))) (l2.c : Int) ∧ F101.T n1 (Sl.cut l2 1 0 (iMin (l2.n : Int) (IntKind.wrap .i64 (n2 - 7))) (l2.c : Int)) h3 fun r4 h10 => ∃ l10 : Sl, r4 = .slice l10.a l10.n l10.c ∧ ∃ vs3, h10.row l10.a (l10.n * 1) vs3 ∧ (∀ v ∈ vs3, Value.oneCell' v = true) ∧ appendD l3 5 1 1 [.int .u8 0] l10.n vs3 h10 fun l11 h11 => Sl.okCut l2 (iMin (l2.n : Int) (IntKind.wrap .i64 (n2 - 7))) (l2.n : Int) (l2.c : Int) ∧ I (Sl.cut l2 1 (iMin (l2.n : Int) (IntKind.wrap .i64 (n2 - 7))) (l2.n : Int) (l2.c : Int)) l11 3 h11 ∧ m (Sl.cut l2 1 (iMin (l2.n : Int) (IntKind.wrap .i64 (n2 - 7))) (l2.n : Int) (l2.c : Int)) l11 3 h11 < m l2 l3 n1 h2)))) ∧ (F100.T (iMax n 0) h fun r5 h12 => ∃ n3 : Int, r5 = .int .i64 n3 ∧ par (n3 ≤ 7) (((0 : Int) ≤ n3 ∧ n3 ≤ n3 ∧ 1 * n3 ≤ 281474976710656) ∧ ∀ b, h12 b = none → J ⟨(some ⟨b, 0, none⟩), (n3 : Int).toNat, (n3 : Int).toNat⟩ (h12.new b (.cells (Builtin.zeroCells (List.toArray [.int .u8 0]) (n3 : Int).toNat) 5 (0, 0)))) (J ⟨none, 0, 0⟩ h12))
theorem F66.gen (V : Value → List Value → PT) (T100 : Int → PT) (T101 : Int → Sl → PT) (n : Int) (l : Sl) : denF Tryd.prog [] [(100, F100.W T100), (101, F101.W T101)] V [(15, .join [(5, .sl)] []), (126, .loop [(1, .sl), (5, .sl), (7, .int .i64)] []), (8079, .order [0, 1, 2, 3, 4])] Tryd.f66 [.v (.int .i64 n), .v (.slice l.a l.n l.c)] = fun h Q =>
  ∃ J : Sl → Hp → Prop, (∀ l1 : Sl, ∀ h1 : Hp, J l1 h1 → ∃ (I : Sl → Sl → Int → Hp → Prop) (m : Sl → Sl → Int → Hp → Nat), I l l1 1 h1 ∧ (∀ l2 : Sl, ∀ l3 : Sl, ∀ n1 : Int, ∀ h2 : Hp, I l2 l3 n1 h2 → T100 (IntKind.wrap .i64 ((iMax n 0) + (l3.n : Int))) h2 fun r h3 => ∃ n2 : Int, r = .int .i64 n2 ∧ par ((iMin (l2.n : Int) (IntKind.wrap .i64 (n2 - 7))) = (l2.n : Int)) (par (n1 = 1) (T101 n1 l2 h3 fun r1 h4 => ∃ l4 : Sl, r1 = .slice l4.a l4.n l4.c ∧ ∃ vs, h4.row l4.a (l4.n * 1) vs ∧ (∀ v ∈ vs, Value.oneCell' v = true) ∧ appendD l3 5 1 1 [.int .u8 0] l4.n vs h4 fun l5 h5 => Q (.slice l5.a l5.n l5.c) h5) (T101 4 l2 h3 fun r2 h6 => ∃ l6 : Sl, r2 = .slice l6.a l6.n l6.c ∧ ∃ vs1, h6.row l6.a (l6.n * 1) vs1 ∧ (∀ v ∈ vs1, Value.oneCell' v = true) ∧ appendD l3 5 1 1 [.int .u8 0] l6.n vs1 h6 fun l7 h7 => Q (.slice l7.a l7.n l7.c) h7)) (par (n1 = 1) (Sl.okCut l2 0 (iMin (l2.n : Int) (IntKind.wrap .i64 (n2 - 7))) (l2.c : Int) ∧ T101 2 (Sl.cut l2 1 0 (iMin (l2.n : Int) (IntKind.wrap .i64 (n2 - 7))) (l2.c : Int)) h3 fun r3 h8 => ∃ l8 : Sl, r3 = .slice l8.a l8.n l8.c ∧ ∃ vs2, h8.row l8.a (l8.n * 1) vs2 ∧ (∀ v ∈ vs2, Value.oneCell' v = true) ∧ appendD l3 5 1 1 [.int .u8 0] l8.n vs2 h8 fun l9 h9 => Sl.okCut l2 (iMin (l2.n : Int) (IntKind.wrap .i64 (n2 - 7))) (l2.n : Int) (l2.c : Int) ∧ I (Sl.cut l2 1 (iMin (l2.n : Int) (IntKind.wrap .i64 (n2 - 7))) (l2.n : Int) (l2.c : Int)) l9 3 h9 ∧ m (Sl.cut l2 1 (iMin (l2.n : Int) (IntKind.wrap .i64 (n2 - 7))) (l2.n : Int) (l2.c : Int)) l9 3 h9 < m l2 l3 n1 h2) (Sl.okCut l2 0 (iMin (l2.n : Int) (IntKind.wrap .i64 (n2 - 7))) (l2.c : Int) ∧ T101 n1 (Sl.cut l2 1 0 (iMin (l2.n : Int) (IntKind.wrap .i64 (n2 - 7))) (l2.c : Int)) h3 fun r4 h10 => ∃ l10 : Sl, r4 = .slice l10.a l10.n l10.c ∧ ∃ vs3, h10.row l10.a (l10.n * 1) vs3 ∧ (∀ v ∈ vs3, Value.oneCell' v = true) ∧ appendD l3 5 1 1 [.int .u8 0] l10.n vs3 h10 fun l11 h11 => Sl.okCut l2 (iMin (l2.n : Int) (IntKind.wrap .i64 (n2 - 7))) (l2.n : Int) (l2.c : Int) ∧ I (Sl.cut l2 1 (iMin (l2.n : Int) (IntKind.wrap .i64 (n2 - 7))) (l2.n : Int) (l2.c : Int)) l11 3 h11 ∧ m (Sl.cut l2 1 (iMin (l2.n : Int) (IntKind.wrap .i64 (n2 - 7))) (l2.n : Int) (l2.c : Int)) l11 3 h11 < m l2 l3 n1 h2)))) ∧ (T100 (iMax n 0) h fun r5 h12 => ∃ n3 : Int, r5 = .int .i64 n3 ∧ par (n3 ≤ 7) (((0 : Int) ≤ n3 ∧ n3 ≤ n3 ∧ 1 * n3 ≤ 281474976710656) ∧ ∀ b, h12 b = none → J ⟨(some ⟨b, 0, none⟩), (n3 : Int).toNat, (n3 : Int).toNat⟩ (h12.new b (.cells (Builtin.zeroCells (List.toArray [.int .u8 0]) (n3 : Int).toNat) 5 (0, 0)))) (J ⟨none, 0, 0⟩ h12)) := by kernel_rfl
theorem F66.den (V : Value → List Value → PT) (n : Int) (l : Sl) : denF Tryd.prog [] [(100, F100.V), (101, F101.V)] V [(15, .join [(5, .sl)] []), (126, .loop [(1, .sl), (5, .sl), (7, .int .i64)] []), (8079, .order [0, 1, 2, 3, 4])] Tryd.f66 [.v (.int .i64 n), .v (.slice l.a l.n l.c)] = F66.T n l := F66.gen V F100.T F101.T n l
def F66.W (T66 : Int → Sl → PT) (args : List Value) : PT := match args with
  | [.int .i64 n, .slice l_a l_n l_c] => T66 n ⟨l_a, l_n, l_c⟩
  | _ => fun _ _ => False
def F66.V : List Value → PT := F66.W F66.T
theorem F66.ok : FOk Tryd.prog 66 F66.V := by
  refine ⟨⟨_, Tryd.func66, rfl, rfl⟩, fun args => ?_⟩
  have hG : GOk Tryd.prog [(100, F100.V), (101, F101.V)] := GOk.cons F100.ok (GOk.cons F101.ok (GOk.nil))
  have hV : VOk Tryd.prog noV := noV_ok
  unfold F66.V F66.W
  split
  · exact denF_okV hG hV Tryd.func66 (fun h Q hq => (F66.den _ _ _) ▸ hq)
  · exact fun h Q hq => hq.elim
def F23.T (n : Int) (l : Sl) : PT := fun h Q =>
  ∃ (I : Sl → Int → Hp → Prop) (m : Sl → Int → Hp → Nat), I ⟨none, 0, 0⟩ 0 h ∧ (∀ l1 : Sl, ∀ n1 : Int, ∀ h1 : Hp, I l1 n1 h1 → par (n1 < (l.n : Int)) (∃ b o, (l.a : Option Addr) = some ⟨b, o, none⟩ ∧ ((0 : Int) ≤ n1 ∧ n1 < (l.n : Int)) ∧ ∃ n2 : Int, h1.at b (o + n1.toNat * 6) = some (.int .u64 n2) ∧ ∃ n3 : Int, h1.at b ((o + n1.toNat * 6) + 1) = some (.int .u64 n3) ∧ ∃ n4 : Int, h1.at b ((o + n1.toNat * 6) + 2) = some (.int .u64 n4) ∧ ∃ l2 : Sl, h1.at b ((o + n1.toNat * 6) + 3) = some (.slice l2.a l2.n l2.c) ∧ ∃ l3 : Sl, h1.at b ((o + n1.toNat * 6) + 4) = some (.slice l3.a l3.n l3.c) ∧ ∃ l4 : Sl, h1.at b ((o + n1.toNat * 6) + 5) = some (.slice l4.a l4.n l4.c) ∧ F21.T n2 n3 n4 l2 l3 l4 h1 fun r h2 => ∃ l5 : Sl, r = .slice l5.a l5.n l5.c ∧ ∃ (I1 : Sl → Int → Hp → Prop) (m1 : Sl → Int → Hp → Nat), I1 l1 0 h2 ∧ (∀ l6 : Sl, ∀ n5 : Int, ∀ h3 : Hp, I1 l6 n5 h3 → par (n5 < (l5.n : Int)) (∃ b1 o1, (l5.a : Option Addr) = some ⟨b1, o1, none⟩ ∧ ((0 : Int) ≤ n5 ∧ n5 < (l5.n : Int)) ∧ ∃ l7 : Sl, h3.at b1 (o1 + n5.toNat) = some (.slice l7.a l7.n l7.c) ∧ F66.T (IntKind.wrap .i64 ((iMax n 0) + (l6.n : Int))) l7 h3 fun r1 h4 => ∃ l8 : Sl, r1 = .slice l8.a l8.n l8.c ∧ ∃ vs, h4.row l8.a (l8.n * 1) vs ∧ (∀ v ∈ vs, Value.oneCell' v = true) ∧ appendD l6 5 1 1 [.int .u8 0] l8.n vs h4 fun l9 h5 => I1 l9 (IntKind.wrap .i64 (n5 + 1)) h5 ∧ m1 l9 (IntKind.wrap .i64 (n5 + 1)) h5 < m1 l6 n5 h3) (I l6 (IntKind.wrap .i64 (n1 + 1)) h3 ∧ m l6 (IntKind.wrap .i64 (n1 + 1)) h3 < m l1 n1 h1))) (Q (.slice l1.a l1.n l1.c) h1))
theorem F23.gen (V : Value → List Value → PT) (T21 : Int → Int → Int → Sl → Sl → Sl → PT) (T66 : Int → Sl → PT) (n : Int) (l : Sl) : denF Tryd.prog [7] [(21, F21.W T21), (66, F66.W T66)] V [(58, .loop [(5, .sl), (12, .int .i64)] []), (14950, .loop [(5, .sl), (19, .int .i64)] [])] Tryd.f23 [.v (.int .i64 n), .v (.slice l.a l.n l.c)] = fun h Q =>
  ∃ (I : Sl → Int → Hp → Prop) (m : Sl → Int → Hp → Nat), I ⟨none, 0, 0⟩ 0 h ∧ (∀ l1 : Sl, ∀ n1 : Int, ∀ h1 : Hp, I l1 n1 h1 → par (n1 < (l.n : Int)) (∃ b o, (l.a : Option Addr) = some ⟨b, o, none⟩ ∧ ((0 : Int) ≤ n1 ∧ n1 < (l.n : Int)) ∧ ∃ n2 : Int, h1.at b (o + n1.toNat * 6) = some (.int .u64 n2) ∧ ∃ n3 : Int, h1.at b ((o + n1.toNat * 6) + 1) = some (.int .u64 n3) ∧ ∃ n4 : Int, h1.at b ((o + n1.toNat * 6) + 2) = some (.int .u64 n4) ∧ ∃ l2 : Sl, h1.at b ((o + n1.toNat * 6) + 3) = some (.slice l2.a l2.n l2.c) ∧ ∃ l3 : Sl, h1.at b ((o + n1.toNat * 6) + 4) = some (.slice l3.a l3.n l3.c) ∧ ∃ l4 : Sl, h1.at b ((o + n1.toNat * 6) + 5) = some (.slice l4.a l4.n l4.c) ∧ T21 n2 n3 n4 l2 l3 l4 h1 fun r h2 => ∃ l5 : Sl, r = .slice l5.a l5.n l5.c ∧ ∃ (I1 : Sl → Int → Hp → Prop) (m1 : Sl → Int → Hp → Nat), I1 l1 0 h2 ∧ (∀ l6 : Sl, ∀ n5 : Int, ∀ h3 : Hp, I1 l6 n5 h3 → par (n5 < (l5.n : Int)) (∃ b1 o1, (l5.a : Option Addr) = some ⟨b1, o1, none⟩ ∧ ((0 : Int) ≤ n5 ∧ n5 < (l5.n : Int)) ∧ ∃ l7 : Sl, h3.at b1 (o1 + n5.toNat) = some (.slice l7.a l7.n l7.c) ∧ T66 (IntKind.wrap .i64 ((iMax n 0) + (l6.n : Int))) l7 h3 fun r1 h4 => ∃ l8 : Sl, r1 = .slice l8.a l8.n l8.c ∧ ∃ vs, h4.row l8.a (l8.n * 1) vs ∧ (∀ v ∈ vs, Value.oneCell' v = true) ∧ appendD l6 5 1 1 [.int .u8 0] l8.n vs h4 fun l9 h5 => I1 l9 (IntKind.wrap .i64 (n5 + 1)) h5 ∧ m1 l9 (IntKind.wrap .i64 (n5 + 1)) h5 < m1 l6 n5 h3) (I l6 (IntKind.wrap .i64 (n1 + 1)) h3 ∧ m l6 (IntKind.wrap .i64 (n1 + 1)) h3 < m l1 n1 h1))) (Q (.slice l1.a l1.n l1.c) h1)) := by kernel_rfl
theorem F23.den (V : Value → List Value → PT) (n : Int) (l : Sl) : denF Tryd.prog [7] [(21, F21.V), (66, F66.V)] V [(58, .loop [(5, .sl), (12, .int .i64)] []), (14950, .loop [(5, .sl), (19, .int .i64)] [])] Tryd.f23 [.v (.int .i64 n), .v (.slice l.a l.n l.c)] = F23.T n l := F23.gen V F21.T F66.T n l
def F23.W (T23 : Int → Sl → PT) (args : List Value) : PT := match args with
  | [.int .i64 n, .slice l_a l_n l_c] => T23 n ⟨l_a, l_n, l_c⟩
  | _ => fun _ _ => False
def F23.V : List Value → PT := F23.W F23.T
theorem F23.ok : FOk Tryd.prog 23 F23.V := by
  refine ⟨⟨_, Tryd.func23, rfl, rfl⟩, fun args => ?_⟩
  have hG : GOk Tryd.prog [(21, F21.V), (66, F66.V)] := GOk.cons F21.ok (GOk.cons F66.ok (GOk.nil))
  have hV : VOk Tryd.prog noV := noV_ok
  unfold F23.V F23.W
  split
  · exact denF_okV hG hV Tryd.func23 (fun h Q hq => (F23.den _ _ _) ▸ hq)
  · exact fun h Q hq => hq.elim
def F37.T (l : Sl) (l1 : Sl) : PT := fun h Q =>
  par ((l.n : Int) = (l1.n : Int)) (∃ (I : Int → Hp → Prop) (m : Int → Hp → Nat), I 0 h ∧ (∀ n : Int, ∀ h1 : Hp, I n h1 → par (n < (l.n : Int)) (∃ b o, (l.a : Option Addr) = some ⟨b, o, none⟩ ∧ ((0 : Int) ≤ n ∧ n < (l.n : Int)) ∧ ∃ s : ByteArray, h1.at b (o + n.toNat) = some (.string s) ∧ ∃ b1 o1, (l1.a : Option Addr) = some ⟨b1, o1, none⟩ ∧ ((0 : Int) ≤ n ∧ n < (l1.n : Int)) ∧ ∃ s1 : ByteArray, h1.at b1 (o1 + n.toNat) = some (.string s1) ∧ par (s = s1) (I (IntKind.wrap .i64 (n + 1)) h1 ∧ m (IntKind.wrap .i64 (n + 1)) h1 < m n h1) (Q (.bool false) h1)) (Q (.bool true) h1))) (Q (.bool false) h)
theorem F37.den (V : Value → List Value → PT) (l : Sl) (l1 : Sl) : denF Tryd.prog [] [] V [(58, .loop [(5, .int .i64)] []), (1864, .order [0, 1, 2, 3, 4, 5, 6, 7, 8])] Tryd.f37 [.v (.slice l.a l.n l.c), .v (.slice l1.a l1.n l1.c)] = F37.T l l1 := by kernel_rfl
def F37.W (T37 : Sl → Sl → PT) (args : List Value) : PT := match args with
  | [.slice l_a l_n l_c, .slice l1_a l1_n l1_c] => T37 ⟨l_a, l_n, l_c⟩ ⟨l1_a, l1_n, l1_c⟩
  | _ => fun _ _ => False
def F37.V : List Value → PT := F37.W F37.T
theorem F37.ok : FOk Tryd.prog 37 F37.V := by
  refine ⟨⟨_, Tryd.func37, rfl, rfl⟩, fun args => ?_⟩
  have hG : GOk Tryd.prog [] := GOk.nil
  have hV : VOk Tryd.prog noV := noV_ok
  unfold F37.V F37.W
  split
  · exact denF_okV hG hV Tryd.func37 (fun h Q hq => (F37.den _ _ _) ▸ hq)
  · exact fun h Q hq => hq.elim
def F68.T (n : Int) (n1 : Int) (n2 : Int) (l : Sl) (l1 : Sl) (l2 : Sl) (n3 : Int) (n4 : Int) (n5 : Int) (l3 : Sl) (l4 : Sl) (l5 : Sl) : PT := fun h Q =>
  par (n = n3) (par (n1 = n4) (par (n2 = n5) (par ((l.n : Int) = (l3.n : Int)) (par ((l1.n : Int) = (l4.n : Int)) (F37.T l2 l5 h fun r h1 => ∃ b : Bool, r = .bool b ∧ parB b (∃ (I : Int → Hp → Prop) (m : Int → Hp → Nat), I 0 h1 ∧ (∀ n6 : Int, ∀ h2 : Hp, I n6 h2 → par (n6 < (l.n : Int)) (∃ b1 o, (l.a : Option Addr) = some ⟨b1, o, none⟩ ∧ ((0 : Int) ≤ n6 ∧ n6 < (l.n : Int)) ∧ ∃ n7 : Int, h2.at b1 (o + n6.toNat * 2) = some (.int .i64 n7) ∧ ∃ n8 : Int, h2.at b1 ((o + n6.toNat * 2) + 1) = some (.int .u64 n8) ∧ ∃ b2 o1, (l3.a : Option Addr) = some ⟨b2, o1, none⟩ ∧ ((0 : Int) ≤ n6 ∧ n6 < (l3.n : Int)) ∧ ∃ n9 : Int, h2.at b2 (o1 + n6.toNat * 2) = some (.int .i64 n9) ∧ ∃ n10 : Int, h2.at b2 ((o1 + n6.toNat * 2) + 1) = some (.int .u64 n10) ∧ par (([.int .i64 n7, .int .u64 n8] : List Value) = [.int .i64 n9, .int .u64 n10]) (I (IntKind.wrap .i64 (n6 + 1)) h2 ∧ m (IntKind.wrap .i64 (n6 + 1)) h2 < m n6 h2) (Q (.bool false) h2)) (∃ (I1 : Int → Hp → Prop) (m1 : Int → Hp → Nat), I1 0 h2 ∧ (∀ n11 : Int, ∀ h3 : Hp, I1 n11 h3 → par (n11 < (l1.n : Int)) (∃ b3 o2, (l1.a : Option Addr) = some ⟨b3, o2, none⟩ ∧ ((0 : Int) ≤ n11 ∧ n11 < (l1.n : Int)) ∧ ∃ n12 : Int, h3.at b3 (o2 + n11.toNat * 7) = some (.int .i64 n12) ∧ ∃ n13 : Int, h3.at b3 ((o2 + n11.toNat * 7) + 1) = some (.int .u64 n13) ∧ ∃ n14 : Int, h3.at b3 ((o2 + n11.toNat * 7) + 2) = some (.int .i64 n14) ∧ ∃ n15 : Int, h3.at b3 ((o2 + n11.toNat * 7) + 3) = some (.int .i64 n15) ∧ ∃ n16 : Int, h3.at b3 ((o2 + n11.toNat * 7) + 4) = some (.int .i64 n16) ∧ ∃ s : ByteArray, h3.at b3 ((o2 + n11.toNat * 7) + 5) = some (.string s) ∧ ∃ s1 : ByteArray, h3.at b3 ((o2 + n11.toNat * 7) + 6) = some (.string s1) ∧ ∃ b4 o3, (l4.a : Option Addr) = some ⟨b4, o3, none⟩ ∧ ((0 : Int) ≤ n11 ∧ n11 < (l4.n : Int)) ∧ ∃ n17 : Int, h3.at b4 (o3 + n11.toNat * 7) = some (.int .i64 n17) ∧ ∃ n18 : Int, h3.at b4 ((o3 + n11.toNat * 7) + 1) = some (.int .u64 n18) ∧ ∃ n19 : Int, h3.at b4 ((o3 + n11.toNat * 7) + 2) = some (.int .i64 n19) ∧ ∃ n20 : Int, h3.at b4 ((o3 + n11.toNat * 7) + 3) = some (.int .i64 n20) ∧ ∃ n21 : Int, h3.at b4 ((o3 + n11.toNat * 7) + 4) = some (.int .i64 n21) ∧ ∃ s2 : ByteArray, h3.at b4 ((o3 + n11.toNat * 7) + 5) = some (.string s2) ∧ ∃ s3 : ByteArray, h3.at b4 ((o3 + n11.toNat * 7) + 6) = some (.string s3) ∧ par (([.int .i64 n12, .int .u64 n13, .int .i64 n14, .int .i64 n15, .int .i64 n16, .string s, .string s1] : List Value) = [.int .i64 n17, .int .u64 n18, .int .i64 n19, .int .i64 n20, .int .i64 n21, .string s2, .string s3]) (I1 (IntKind.wrap .i64 (n11 + 1)) h3 ∧ m1 (IntKind.wrap .i64 (n11 + 1)) h3 < m1 n11 h3) (Q (.bool false) h3)) (Q (.bool true) h3))))) (Q (.bool false) h1)) (Q (.bool false) h)) (Q (.bool false) h)) (Q (.bool false) h)) (Q (.bool false) h)) (Q (.bool false) h)
theorem F68.gen (V : Value → List Value → PT) (T37 : Sl → Sl → PT) (n : Int) (n1 : Int) (n2 : Int) (l : Sl) (l1 : Sl) (l2 : Sl) (n3 : Int) (n4 : Int) (n5 : Int) (l3 : Sl) (l4 : Sl) (l5 : Sl) : denF Tryd.prog [2, 3] [(37, F37.W T37)] V [(58, .loop [(5, .int .i64)] []), (122, .loop [(6, .int .i64)] []), (1864, .order [0, 1, 2, 3, 4, 5, 6, 7, 8, 9, 10]), (3912, .order [0, 1, 2, 3, 4, 5, 6, 7, 8, 9, 10])] Tryd.f68 [.v (.agg ⟨[.int .u64 n, .int .u64 n1, .int .u64 n2, .slice l.a l.n l.c, .slice l1.a l1.n l1.c, .slice l2.a l2.n l2.c]⟩), .v (.agg ⟨[.int .u64 n3, .int .u64 n4, .int .u64 n5, .slice l3.a l3.n l3.c, .slice l4.a l4.n l4.c, .slice l5.a l5.n l5.c]⟩)] = fun h Q =>
  par (n = n3) (par (n1 = n4) (par (n2 = n5) (par ((l.n : Int) = (l3.n : Int)) (par ((l1.n : Int) = (l4.n : Int)) (T37 l2 l5 h fun r h1 => ∃ b : Bool, r = .bool b ∧ parB b (∃ (I : Int → Hp → Prop) (m : Int → Hp → Nat), I 0 h1 ∧ (∀ n6 : Int, ∀ h2 : Hp, I n6 h2 → par (n6 < (l.n : Int)) (∃ b1 o, (l.a : Option Addr) = some ⟨b1, o, none⟩ ∧ ((0 : Int) ≤ n6 ∧ n6 < (l.n : Int)) ∧ ∃ n7 : Int, h2.at b1 (o + n6.toNat * 2) = some (.int .i64 n7) ∧ ∃ n8 : Int, h2.at b1 ((o + n6.toNat * 2) + 1) = some (.int .u64 n8) ∧ ∃ b2 o1, (l3.a : Option Addr) = some ⟨b2, o1, none⟩ ∧ ((0 : Int) ≤ n6 ∧ n6 < (l3.n : Int)) ∧ ∃ n9 : Int, h2.at b2 (o1 + n6.toNat * 2) = some (.int .i64 n9) ∧ ∃ n10 : Int, h2.at b2 ((o1 + n6.toNat * 2) + 1) = some (.int .u64 n10) ∧ par (([.int .i64 n7, .int .u64 n8] : List Value) = [.int .i64 n9, .int .u64 n10]) (I (IntKind.wrap .i64 (n6 + 1)) h2 ∧ m (IntKind.wrap .i64 (n6 + 1)) h2 < m n6 h2) (Q (.bool false) h2)) (∃ (I1 : Int → Hp → Prop) (m1 : Int → Hp → Nat), I1 0 h2 ∧ (∀ n11 : Int, ∀ h3 : Hp, I1 n11 h3 → par (n11 < (l1.n : Int)) (∃ b3 o2, (l1.a : Option Addr) = some ⟨b3, o2, none⟩ ∧ ((0 : Int) ≤ n11 ∧ n11 < (l1.n : Int)) ∧ ∃ n12 : Int, h3.at b3 (o2 + n11.toNat * 7) = some (.int .i64 n12) ∧ ∃ n13 : Int, h3.at b3 ((o2 + n11.toNat * 7) + 1) = some (.int .u64 n13) ∧ ∃ n14 : Int, h3.at b3 ((o2 + n11.toNat * 7) + 2) = some (.int .i64 n14) ∧ ∃ n15 : Int, h3.at b3 ((o2 + n11.toNat * 7) + 3) = some (.int .i64 n15) ∧ ∃ n16 : Int, h3.at b3 ((o2 + n11.toNat * 7) + 4) = some (.int .i64 n16) ∧ ∃ s : ByteArray, h3.at b3 ((o2 + n11.toNat * 7) + 5) = some (.string s) ∧ ∃ s1 : ByteArray, h3.at b3 ((o2 + n11.toNat * 7) + 6) = some (.string s1) ∧ ∃ b4 o3, (l4.a : Option Addr) = some ⟨b4, o3, none⟩ ∧ ((0 : Int) ≤ n11 ∧ n11 < (l4.n : Int)) ∧ ∃ n17 : Int, h3.at b4 (o3 + n11.toNat * 7) = some (.int .i64 n17) ∧ ∃ n18 : Int, h3.at b4 ((o3 + n11.toNat * 7) + 1) = some (.int .u64 n18) ∧ ∃ n19 : Int, h3.at b4 ((o3 + n11.toNat * 7) + 2) = some (.int .i64 n19) ∧ ∃ n20 : Int, h3.at b4 ((o3 + n11.toNat * 7) + 3) = some (.int .i64 n20) ∧ ∃ n21 : Int, h3.at b4 ((o3 + n11.toNat * 7) + 4) = some (.int .i64 n21) ∧ ∃ s2 : ByteArray, h3.at b4 ((o3 + n11.toNat * 7) + 5) = some (.string s2) ∧ ∃ s3 : ByteArray, h3.at b4 ((o3 + n11.toNat * 7) + 6) = some (.string s3) ∧ par (([.int .i64 n12, .int .u64 n13, .int .i64 n14, .int .i64 n15, .int .i64 n16, .string s, .string s1] : List Value) = [.int .i64 n17, .int .u64 n18, .int .i64 n19, .int .i64 n20, .int .i64 n21, .string s2, .string s3]) (I1 (IntKind.wrap .i64 (n11 + 1)) h3 ∧ m1 (IntKind.wrap .i64 (n11 + 1)) h3 < m1 n11 h3) (Q (.bool false) h3)) (Q (.bool true) h3))))) (Q (.bool false) h1)) (Q (.bool false) h)) (Q (.bool false) h)) (Q (.bool false) h)) (Q (.bool false) h)) (Q (.bool false) h) := by kernel_rfl
theorem F68.den (V : Value → List Value → PT) (n : Int) (n1 : Int) (n2 : Int) (l : Sl) (l1 : Sl) (l2 : Sl) (n3 : Int) (n4 : Int) (n5 : Int) (l3 : Sl) (l4 : Sl) (l5 : Sl) : denF Tryd.prog [2, 3] [(37, F37.V)] V [(58, .loop [(5, .int .i64)] []), (122, .loop [(6, .int .i64)] []), (1864, .order [0, 1, 2, 3, 4, 5, 6, 7, 8, 9, 10]), (3912, .order [0, 1, 2, 3, 4, 5, 6, 7, 8, 9, 10])] Tryd.f68 [.v (.agg ⟨[.int .u64 n, .int .u64 n1, .int .u64 n2, .slice l.a l.n l.c, .slice l1.a l1.n l1.c, .slice l2.a l2.n l2.c]⟩), .v (.agg ⟨[.int .u64 n3, .int .u64 n4, .int .u64 n5, .slice l3.a l3.n l3.c, .slice l4.a l4.n l4.c, .slice l5.a l5.n l5.c]⟩)] = F68.T n n1 n2 l l1 l2 n3 n4 n5 l3 l4 l5 := F68.gen V F37.T n n1 n2 l l1 l2 n3 n4 n5 l3 l4 l5
def F68.W (T68 : Int → Int → Int → Sl → Sl → Sl → Int → Int → Int → Sl → Sl → Sl → PT) (args : List Value) : PT := match args with
  | [.agg ⟨[.int .u64 n, .int .u64 n1, .int .u64 n2, .slice l_a l_n l_c, .slice l1_a l1_n l1_c, .slice l2_a l2_n l2_c]⟩, .agg ⟨[.int .u64 n3, .int .u64 n4, .int .u64 n5, .slice l3_a l3_n l3_c, .slice l4_a l4_n l4_c, .slice l5_a l5_n l5_c]⟩] => T68 n n1 n2 ⟨l_a, l_n, l_c⟩ ⟨l1_a, l1_n, l1_c⟩ ⟨l2_a, l2_n, l2_c⟩ n3 n4 n5 ⟨l3_a, l3_n, l3_c⟩ ⟨l4_a, l4_n, l4_c⟩ ⟨l5_a, l5_n, l5_c⟩
  | _ => fun _ _ => False
def F68.V : List Value → PT := F68.W F68.T
theorem F68.ok : FOk Tryd.prog 68 F68.V := by
  refine ⟨⟨_, Tryd.func68, rfl, rfl⟩, fun args => ?_⟩
  have hG : GOk Tryd.prog [(37, F37.V)] := GOk.cons F37.ok (GOk.nil)
  have hV : VOk Tryd.prog noV := noV_ok
  unfold F68.V F68.W
  split
  · exact denF_okV hG hV Tryd.func68 (fun h Q hq => (F68.den _ _ _ _ _ _ _ _ _ _ _ _ _) ▸ hq)
  · exact fun h Q hq => hq.elim
def F25.T (l : Sl) (l1 : Sl) : PT := fun h Q =>
  par ((l.n : Int) = (l1.n : Int)) (∃ (I : Int → Hp → Prop) (m : Int → Hp → Nat), I 0 h ∧ (∀ n : Int, ∀ h1 : Hp, I n h1 → par (n < (l.n : Int)) (∃ b o, (l.a : Option Addr) = some ⟨b, o, none⟩ ∧ ((0 : Int) ≤ n ∧ n < (l.n : Int)) ∧ ∃ n1 : Int, h1.at b (o + n.toNat * 6) = some (.int .u64 n1) ∧ ∃ n2 : Int, h1.at b ((o + n.toNat * 6) + 1) = some (.int .u64 n2) ∧ ∃ n3 : Int, h1.at b ((o + n.toNat * 6) + 2) = some (.int .u64 n3) ∧ ∃ l2 : Sl, h1.at b ((o + n.toNat * 6) + 3) = some (.slice l2.a l2.n l2.c) ∧ ∃ l3 : Sl, h1.at b ((o + n.toNat * 6) + 4) = some (.slice l3.a l3.n l3.c) ∧ ∃ l4 : Sl, h1.at b ((o + n.toNat * 6) + 5) = some (.slice l4.a l4.n l4.c) ∧ ∃ b1 o1, (l1.a : Option Addr) = some ⟨b1, o1, none⟩ ∧ ((0 : Int) ≤ n ∧ n < (l1.n : Int)) ∧ ∃ n4 : Int, h1.at b1 (o1 + n.toNat * 6) = some (.int .u64 n4) ∧ ∃ n5 : Int, h1.at b1 ((o1 + n.toNat * 6) + 1) = some (.int .u64 n5) ∧ ∃ n6 : Int, h1.at b1 ((o1 + n.toNat * 6) + 2) = some (.int .u64 n6) ∧ ∃ l5 : Sl, h1.at b1 ((o1 + n.toNat * 6) + 3) = some (.slice l5.a l5.n l5.c) ∧ ∃ l6 : Sl, h1.at b1 ((o1 + n.toNat * 6) + 4) = some (.slice l6.a l6.n l6.c) ∧ ∃ l7 : Sl, h1.at b1 ((o1 + n.toNat * 6) + 5) = some (.slice l7.a l7.n l7.c) ∧ F68.T n1 n2 n3 l2 l3 l4 n4 n5 n6 l5 l6 l7 h1 fun r h2 => ∃ b2 : Bool, r = .bool b2 ∧ parB b2 (I (IntKind.wrap .i64 (n + 1)) h2 ∧ m (IntKind.wrap .i64 (n + 1)) h2 < m n h1) (Q (.bool false) h2)) (Q (.bool true) h1))) (Q (.bool false) h)
theorem F25.gen (V : Value → List Value → PT) (T68 : Int → Int → Int → Sl → Sl → Sl → Int → Int → Int → Sl → Sl → Sl → PT) (l : Sl) (l1 : Sl) : denF Tryd.prog [] [(68, F68.W T68)] V [(58, .loop [(5, .int .i64)] []), (1864, .order [0, 1, 2, 3, 4, 5, 6, 7, 8, 9])] Tryd.f25 [.v (.slice l.a l.n l.c), .v (.slice l1.a l1.n l1.c)] = fun h Q =>
  par ((l.n : Int) = (l1.n : Int)) (∃ (I : Int → Hp → Prop) (m : Int → Hp → Nat), I 0 h ∧ (∀ n : Int, ∀ h1 : Hp, I n h1 → par (n < (l.n : Int)) (∃ b o, (l.a : Option Addr) = some ⟨b, o, none⟩ ∧ ((0 : Int) ≤ n ∧ n < (l.n : Int)) ∧ ∃ n1 : Int, h1.at b (o + n.toNat * 6) = some (.int .u64 n1) ∧ ∃ n2 : Int, h1.at b ((o + n.toNat * 6) + 1) = some (.int .u64 n2) ∧ ∃ n3 : Int, h1.at b ((o + n.toNat * 6) + 2) = some (.int .u64 n3) ∧ ∃ l2 : Sl, h1.at b ((o + n.toNat * 6) + 3) = some (.slice l2.a l2.n l2.c) ∧ ∃ l3 : Sl, h1.at b ((o + n.toNat * 6) + 4) = some (.slice l3.a l3.n l3.c) ∧ ∃ l4 : Sl, h1.at b ((o + n.toNat * 6) + 5) = some (.slice l4.a l4.n l4.c) ∧ ∃ b1 o1, (l1.a : Option Addr) = some ⟨b1, o1, none⟩ ∧ ((0 : Int) ≤ n ∧ n < (l1.n : Int)) ∧ ∃ n4 : Int, h1.at b1 (o1 + n.toNat * 6) = some (.int .u64 n4) ∧ ∃ n5 : Int, h1.at b1 ((o1 + n.toNat * 6) + 1) = some (.int .u64 n5) ∧ ∃ n6 : Int, h1.at b1 ((o1 + n.toNat * 6) + 2) = some (.int .u64 n6) ∧ ∃ l5 : Sl, h1.at b1 ((o1 + n.toNat * 6) + 3) = some (.slice l5.a l5.n l5.c) ∧ ∃ l6 : Sl, h1.at b1 ((o1 + n.toNat * 6) + 4) = some (.slice l6.a l6.n l6.c) ∧ ∃ l7 : Sl, h1.at b1 ((o1 + n.toNat * 6) + 5) = some (.slice l7.a l7.n l7.c) ∧ T68 n1 n2 n3 l2 l3 l4 n4 n5 n6 l5 l6 l7 h1 fun r h2 => ∃ b2 : Bool, r = .bool b2 ∧ parB b2 (I (IntKind.wrap .i64 (n + 1)) h2 ∧ m (IntKind.wrap .i64 (n + 1)) h2 < m n h1) (Q (.bool false) h2)) (Q (.bool true) h1))) (Q (.bool false) h) := by kernel_rfl
theorem F25.den (V : Value → List Value → PT) (l : Sl) (l1 : Sl) : denF Tryd.prog [] [(68, F68.V)] V [(58, .loop [(5, .int .i64)] []), (1864, .order [0, 1, 2, 3, 4, 5, 6, 7, 8, 9])] Tryd.f25 [.v (.slice l.a l.n l.c), .v (.slice l1.a l1.n l1.c)] = F25.T l l1 := F25.gen V F68.T l l1
def F25.W (T25 : Sl → Sl → PT) (args : List Value) : PT := match args with
  | [.slice l_a l_n l_c, .slice l1_a l1_n l1_c] => T25 ⟨l_a, l_n, l_c⟩ ⟨l1_a, l1_n, l1_c⟩
  | _ => fun _ _ => False
def F25.V : List Value → PT := F25.W F25.T
theorem F25.ok : FOk Tryd.prog 25 F25.V := by
  refine ⟨⟨_, Tryd.func25, rfl, rfl⟩, fun args => ?_⟩
  have hG : GOk Tryd.prog [(68, F68.V)] := GOk.cons F68.ok (GOk.nil)
  have hV : VOk Tryd.prog noV := noV_ok
  unfold F25.V F25.W
  split
  · exact denF_okV hG hV Tryd.func25 (fun h Q hq => (F25.den _ _ _) ▸ hq)
  · exact fun h Q hq => hq.elim
def F26.T (l : Sl) : PT := fun h Q =>
  ∃ (I : Int → Hp → Prop) (m : Int → Hp → Nat), I 0 h ∧ (∀ n : Int, ∀ h1 : Hp, I n h1 → par (n < (l.n : Int)) (∃ (I1 : Int → Hp → Prop) (m1 : Int → Hp → Nat), I1 0 h1 ∧ (∀ n1 : Int, ∀ h2 : Hp, I1 n1 h2 → ∃ b o, (l.a : Option Addr) = some ⟨b, o, none⟩ ∧ ((0 : Int) ≤ n ∧ n < (l.n : Int)) ∧ ∃ l1 : Sl, h2.at b ((o + n.toNat * 6) + 3) = some (.slice l1.a l1.n l1.c) ∧ par (n1 < (l1.n : Int)) (∃ b1 o1, (l.a : Option Addr) = some ⟨b1, o1, none⟩ ∧ ((0 : Int) ≤ n ∧ n < (l.n : Int)) ∧ ∃ l2 : Sl, h2.at b1 ((o1 + n.toNat * 6) + 3) = some (.slice l2.a l2.n l2.c) ∧ ∃ b2 o2, (l2.a : Option Addr) = some ⟨b2, o2, none⟩ ∧ ((0 : Int) ≤ n1 ∧ n1 < (l2.n : Int)) ∧ h2.canW b2 (o2 + n1.toNat * 2) 2 ∧ I1 (IntKind.wrap .i64 (n1 + 1)) (h2.wr b2 (o2 + n1.toNat * 2) [.int .i64 3, .int .u64 77]) ∧ m1 (IntKind.wrap .i64 (n1 + 1)) (h2.wr b2 (o2 + n1.toNat * 2) [.int .i64 3, .int .u64 77]) < m1 n1 h2) (∃ (I2 : Int → Hp → Prop) (m2 : Int → Hp → Nat), I2 0 h2 ∧ (∀ n2 : Int, ∀ h3 : Hp, I2 n2 h3 → ∃ b3 o3, (l.a : Option Addr) = some ⟨b3, o3, none⟩ ∧ ((0 : Int) ≤ n ∧ n < (l.n : Int)) ∧ ∃ l3 : Sl, h3.at b3 ((o3 + n.toNat * 6) + 4) = some (.slice l3.a l3.n l3.c) ∧ par (n2 < (l3.n : Int)) (∃ b4 o4, (l.a : Option Addr) = some ⟨b4, o4, none⟩ ∧ ((0 : Int) ≤ n ∧ n < (l.n : Int)) ∧ ∃ l4 : Sl, h3.at b4 ((o4 + n.toNat * 6) + 4) = some (.slice l4.a l4.n l4.c) ∧ ∃ b5 o5, (l4.a : Option Addr) = some ⟨b5, o5, none⟩ ∧ ((0 : Int) ≤ n2 ∧ n2 < (l4.n : Int)) ∧ h3.canW b5 (o5 + n2.toNat * 7) 7 ∧ I2 (IntKind.wrap .i64 (n2 + 1)) (h3.wr b5 (o5 + n2.toNat * 7) [.int .i64 2, .int .u64 78, .int .i64 0, .int .i64 0, .int .i64 0, .string (ByteArray.mk #[115]), .string (ByteArray.mk #[116])]) ∧ m2 (IntKind.wrap .i64 (n2 + 1)) (h3.wr b5 (o5 + n2.toNat * 7) [.int .i64 2, .int .u64 78, .int .i64 0, .int .i64 0, .int .i64 0, .string (ByteArray.mk #[115]), .string (ByteArray.mk #[116])]) < m2 n2 h3) (∃ (I3 : Int → Hp → Prop) (m3 : Int → Hp → Nat), I3 0 h3 ∧ (∀ n3 : Int, ∀ h4 : Hp, I3 n3 h4 → ∃ b6 o6, (l.a : Option Addr) = some ⟨b6, o6, none⟩ ∧ ((0 : Int) ≤ n ∧ n < (l.n : Int)) ∧ ∃ l5 : Sl, h4.at b6 ((o6 + n.toNat * 6) + 5) = some (.slice l5.a l5.n l5.c) ∧ par (n3 < (l5.n : Int)) (∃ b7 o7, (l.a : Option Addr) = some ⟨b7, o7, none⟩ ∧ ((0 : Int) ≤ n ∧ n < (l.n : Int)) ∧ ∃ l6 : Sl, h4.at b7 ((o7 + n.toNat * 6) + 5) = some (.slice l6.a l6.n l6.c) ∧ ∃ b8 o8, (l6.a : Option Addr) = some ⟨b8, o8, none⟩ ∧ ((0 : Int) ≤ n3 ∧ n3 < (l6.n : Int)) ∧ h4.canW b8 (o8 + n3.toNat) 1 ∧ I3 (IntKind.wrap .i64 (n3 + 1)) (h4.wr b8 (o8 + n3.toNat) [.string (ByteArray.mk #[115, 112, 111, 105, 108, 116])]) ∧ m3 (IntKind.wrap .i64 (n3 + 1)) (h4.wr b8 (o8 + n3.toNat) [.string (ByteArray.mk #[115, 112, 111, 105, 108, 116])]) < m3 n3 h4) (I (IntKind.wrap .i64 (n + 1)) h4 ∧ m (IntKind.wrap .i64 (n + 1)) h4 < m n h1))))))) (Q (.tuple ⟨[]⟩) h1))
theorem F26.den (V : Value → List Value → PT) (l : Sl) : denF Tryd.prog [] [] V [(6, .loop [(2, .int .i64)] []), (802, .loop [(3, .int .i64)] []), (1610, .loop [(4, .int .i64)] []), (1614, .loop [(5, .int .i64)] [])] Tryd.f26 [.v (.slice l.a l.n l.c)] = F26.T l := by kernel_rfl
def F26.W (T26 : Sl → PT) (args : List Value) : PT := match args with
  | [.slice l_a l_n l_c] => T26 ⟨l_a, l_n, l_c⟩
  | _ => fun _ _ => False
def F26.V : List Value → PT := F26.W F26.T
theorem F26.ok : FOk Tryd.prog 26 F26.V := by
  refine ⟨⟨_, Tryd.func26, rfl, rfl⟩, fun args => ?_⟩
  have hG : GOk Tryd.prog [] := GOk.nil
  have hV : VOk Tryd.prog noV := noV_ok
  unfold F26.V F26.W
  split
  · exact denF_okV hG hV Tryd.func26 (fun h Q hq => (F26.den _ _) ▸ hq)
  · exact fun h Q hq => hq.elim
end Go.Eng.YtblghgacokoklaaDoor
