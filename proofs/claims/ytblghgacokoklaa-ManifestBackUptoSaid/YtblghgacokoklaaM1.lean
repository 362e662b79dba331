import Derived.Test.YtblghgacokoklaaM0
import Derived.Test.YtblghgacokoklaaProg
set_option maxRecDepth 100000
set_option linter.unusedVariables false
open Go.Proofs
namespace Go.Eng.Ytblghgacokoklaa
def F95.T (p : Option Addr) (s : ByteArray) : PT := fun h Q =>
  F66.T p (IntKind.wrap .i64 (1 + (s.size : Int))) h fun r h1 => ∃ b : Bool, r = .bool b ∧ parB b (Q (.tuple ⟨[]⟩) h1) (Q (.tuple ⟨[]⟩) h1)
theorem F95.den (V : Value → List Value → PT) (p : Option Addr) (s : ByteArray) : denF Try.prog [] [(66, F66.V)] V [] Try.f95 [.v (.pointer p), .v (.string s)] = F95.T p s := by kernel_rfl
def F95.V (args : List Value) : PT := match args with
  | [.pointer p, .string s] => F95.T p s
  | _ => fun _ _ => False
theorem F95.ok : FOk Try.prog 95 F95.V := by
  refine ⟨⟨_, Try.func95, rfl, rfl⟩, fun args => ?_⟩
  have hG : GOk Try.prog [(66, F66.V)] := GOk.cons F66.ok (GOk.nil)
  have hV : VOk Try.prog noV := noV_ok
  unfold F95.V
  split
  · exact denF_okV hG hV Try.func95 (fun h Q hq => (F95.den _ _ _) ▸ hq)
  · exact fun h Q hq => hq.elim
def F79.T (p : Option Addr) (n : Int) (n1 : Int) (n2 : Int) (l : Sl) (l1 : Sl) (l2 : Sl) : PT := fun h Q =>
  F66.T p (IntKind.wrap .i64 (1 + (l.n : Int))) h fun r h1 => ∃ b : Bool, r = .bool b ∧ parB b (∃ J : Hp → Prop, (∀ h2 : Hp, J h2 → ∃ (I : Int → Hp → Prop) (m : Int → Hp → Nat), I 0 h2 ∧ (∀ n3 : Int, ∀ h3 : Hp, I n3 h3 → par (n3 < (l2.n : Int)) (F28.T p h3 fun r1 h4 => ∃ b1 : Bool, r1 = .bool b1 ∧ parB b1 (∃ b2 o, (l2.a : Option Addr) = some ⟨b2, o, none⟩ ∧ ((0 : Int) ≤ n3 ∧ n3 < (l2.n : Int)) ∧ ∃ s : ByteArray, h4.at b2 (o + n3.toNat) = some (.string s) ∧ F95.T p s h4 fun r2 h5 => I (IntKind.wrap .i64 (n3 + 1)) h5 ∧ m (IntKind.wrap .i64 (n3 + 1)) h5 < m n3 h3) (Q (.tuple ⟨[]⟩) h4)) (Q (.tuple ⟨[]⟩) h3))) ∧ (∃ (I1 : Int → Hp → Prop) (m1 : Int → Hp → Nat), I1 0 h1 ∧ (∀ n4 : Int, ∀ h6 : Hp, I1 n4 h6 → par (n4 < (l1.n : Int)) (F28.T p h6 fun r3 h7 => ∃ b3 : Bool, r3 = .bool b3 ∧ parB b3 (∃ b4 o1, (l1.a : Option Addr) = some ⟨b4, o1, none⟩ ∧ ((0 : Int) ≤ n4 ∧ n4 < (l1.n : Int)) ∧ ∃ s1 : ByteArray, h7.at b4 (((o1 + n4.toNat * 7) + 1) + 4) = some (.string s1) ∧ F95.T p s1 h7 fun r4 h8 => ∃ b5 o2, (l1.a : Option Addr) = some ⟨b5, o2, none⟩ ∧ ((0 : Int) ≤ n4 ∧ n4 < (l1.n : Int)) ∧ ∃ s2 : ByteArray, h8.at b5 (((o2 + n4.toNat * 7) + 1) + 5) = some (.string s2) ∧ F66.T p (s2.size : Int) h8 fun r5 h9 => ∃ b6 : Bool, r5 = .bool b6 ∧ parB b6 (I1 (IntKind.wrap .i64 (n4 + 1)) h9 ∧ m1 (IntKind.wrap .i64 (n4 + 1)) h9 < m1 n4 h6) (I1 (IntKind.wrap .i64 (n4 + 1)) h9 ∧ m1 (IntKind.wrap .i64 (n4 + 1)) h9 < m1 n4 h6)) (J h7)) (J h6)))) (∃ J1 : Hp → Prop, (∀ h10 : Hp, J1 h10 → ∃ (I2 : Int → Hp → Prop) (m2 : Int → Hp → Nat), I2 0 h10 ∧ (∀ n5 : Int, ∀ h11 : Hp, I2 n5 h11 → par (n5 < (l2.n : Int)) (F28.T p h11 fun r6 h12 => ∃ b7 : Bool, r6 = .bool b7 ∧ parB b7 (∃ b8 o3, (l2.a : Option Addr) = some ⟨b8, o3, none⟩ ∧ ((0 : Int) ≤ n5 ∧ n5 < (l2.n : Int)) ∧ ∃ s3 : ByteArray, h12.at b8 (o3 + n5.toNat) = some (.string s3) ∧ F95.T p s3 h12 fun r7 h13 => I2 (IntKind.wrap .i64 (n5 + 1)) h13 ∧ m2 (IntKind.wrap .i64 (n5 + 1)) h13 < m2 n5 h11) (Q (.tuple ⟨[]⟩) h12)) (Q (.tuple ⟨[]⟩) h11))) ∧ (∃ (I3 : Int → Hp → Prop) (m3 : Int → Hp → Nat), I3 0 h1 ∧ (∀ n6 : Int, ∀ h14 : Hp, I3 n6 h14 → par (n6 < (l1.n : Int)) (F28.T p h14 fun r8 h15 => ∃ b9 : Bool, r8 = .bool b9 ∧ parB b9 (∃ b10 o4, (l1.a : Option Addr) = some ⟨b10, o4, none⟩ ∧ ((0 : Int) ≤ n6 ∧ n6 < (l1.n : Int)) ∧ ∃ s4 : ByteArray, h15.at b10 (((o4 + n6.toNat * 7) + 1) + 4) = some (.string s4) ∧ F95.T p s4 h15 fun r9 h16 => ∃ b11 o5, (l1.a : Option Addr) = some ⟨b11, o5, none⟩ ∧ ((0 : Int) ≤ n6 ∧ n6 < (l1.n : Int)) ∧ ∃ s5 : ByteArray, h16.at b11 (((o5 + n6.toNat * 7) + 1) + 5) = some (.string s5) ∧ F66.T p (s5.size : Int) h16 fun r10 h17 => ∃ b12 : Bool, r10 = .bool b12 ∧ parB b12 (I3 (IntKind.wrap .i64 (n6 + 1)) h17 ∧ m3 (IntKind.wrap .i64 (n6 + 1)) h17 < m3 n6 h14) (I3 (IntKind.wrap .i64 (n6 + 1)) h17 ∧ m3 (IntKind.wrap .i64 (n6 + 1)) h17 < m3 n6 h14)) (J1 h15)) (J1 h14))))
theorem F79.den (V : Value → List Value → PT) (p : Option Addr) (n : Int) (n1 : Int) (n2 : Int) (l : Sl) (l1 : Sl) (l2 : Sl) : denF Try.prog [3] [(28, F28.V), (66, F66.V), (95, F95.V)] V [(7, .join [] []), (58, .loop [(4, .int .i64)] []), (62, .loop [(5, .int .i64)] [])] Try.f79 [.v (.pointer p), .v (.agg ⟨[.int .u64 n, .int .u64 n1, .int .u64 n2, .slice l.a l.n l.c, .slice l1.a l1.n l1.c, .slice l2.a l2.n l2.c]⟩)] = F79.T p n n1 n2 l l1 l2 := by kernel_rfl
def F79.V (args : List Value) : PT := match args with
  | [.pointer p, .agg ⟨[.int .u64 n, .int .u64 n1, .int .u64 n2, .slice l_a l_n l_c, .slice l1_a l1_n l1_c, .slice l2_a l2_n l2_c]⟩] => F79.T p n n1 n2 ⟨l_a, l_n, l_c⟩ ⟨l1_a, l1_n, l1_c⟩ ⟨l2_a, l2_n, l2_c⟩
  | _ => fun _ _ => False
theorem F79.ok : FOk Try.prog 79 F79.V := by
  refine ⟨⟨_, Try.func79, rfl, rfl⟩, fun args => ?_⟩
  have hG : GOk Try.prog [(28, F28.V), (66, F66.V), (95, F95.V)] := GOk.cons F28.ok (GOk.cons F66.ok (GOk.cons F95.ok (GOk.nil)))
  have hV : VOk Try.prog noV := noV_ok
  unfold F79.V
  split
  · exact denF_okV hG hV Try.func79 (fun h Q hq => (F79.den _ _ _ _ _ _ _ _) ▸ hq)
  · exact fun h Q hq => hq.elim
def F48.T (p : Option Addr) (l : Sl) : PT := fun h Q =>
  ∃ (I : Int → Hp → Prop) (m : Int → Hp → Nat), I 0 h ∧ (∀ n : Int, ∀ h1 : Hp, I n h1 → par (n < (l.n : Int)) (F28.T p h1 fun r h2 => ∃ b : Bool, r = .bool b ∧ parB b (∃ b1 o, (l.a : Option Addr) = some ⟨b1, o, none⟩ ∧ ((0 : Int) ≤ n ∧ n < (l.n : Int)) ∧ ∃ n1 : Int, h2.at b1 (o + n.toNat * 6) = some (.int .u64 n1) ∧ ∃ n2 : Int, h2.at b1 ((o + n.toNat * 6) + 1) = some (.int .u64 n2) ∧ ∃ n3 : Int, h2.at b1 ((o + n.toNat * 6) + 2) = some (.int .u64 n3) ∧ ∃ l1 : Sl, h2.at b1 ((o + n.toNat * 6) + 3) = some (.slice l1.a l1.n l1.c) ∧ ∃ l2 : Sl, h2.at b1 ((o + n.toNat * 6) + 4) = some (.slice l2.a l2.n l2.c) ∧ ∃ l3 : Sl, h2.at b1 ((o + n.toNat * 6) + 5) = some (.slice l3.a l3.n l3.c) ∧ F79.T p n1 n2 n3 l1 l2 l3 h2 fun r1 h3 => I (IntKind.wrap .i64 (n + 1)) h3 ∧ m (IntKind.wrap .i64 (n + 1)) h3 < m n h1) (Q (.tuple ⟨[]⟩) h2)) (Q (.tuple ⟨[]⟩) h1))
theorem F48.den (V : Value → List Value → PT) (p : Option Addr) (l : Sl) : denF Try.prog [] [(28, F28.V), (79, F79.V)] V [(6, .loop [(4, .int .i64)] [])] Try.f48 [.v (.pointer p), .v (.slice l.a l.n l.c)] = F48.T p l := by kernel_rfl
def F48.V (args : List Value) : PT := match args with
  | [.pointer p, .slice l_a l_n l_c] => F48.T p ⟨l_a, l_n, l_c⟩
  | _ => fun _ _ => False
theorem F48.ok : FOk Try.prog 48 F48.V := by
  refine ⟨⟨_, Try.func48, rfl, rfl⟩, fun args => ?_⟩
  have hG : GOk Try.prog [(28, F28.V), (79, F79.V)] := GOk.cons F28.ok (GOk.cons F79.ok (GOk.nil))
  have hV : VOk Try.prog noV := noV_ok
  unfold F48.V
  split
  · exact denF_okV hG hV Try.func48 (fun h Q hq => (F48.den _ _ _) ▸ hq)
  · exact fun h Q hq => hq.elim
def F16.T (l : Sl) : PT := fun h Q =>
  F26.T 10000 h fun r h1 => ∃ p : Option Addr, r = .pointer p ∧ F48.T p l h1 fun r1 h2 => F28.T p h2 fun r2 h3 => ∃ b : Bool, r2 = .bool b ∧ parB b (Q (.bool true) h3) (Q (.bool false) h3)
theorem F16.den (V : Value → List Value → PT) (l : Sl) : denF Try.prog [] [(26, F26.V), (28, F28.V), (48, F48.V)] V [] Try.f16 [.v (.slice l.a l.n l.c)] = F16.T l := by kernel_rfl
def F16.V (args : List Value) : PT := match args with
  | [.slice l_a l_n l_c] => F16.T ⟨l_a, l_n, l_c⟩
  | _ => fun _ _ => False
theorem F16.ok : FOk Try.prog 16 F16.V := by
  refine ⟨⟨_, Try.func16, rfl, rfl⟩, fun args => ?_⟩
  have hG : GOk Try.prog [(26, F26.V), (28, F28.V), (48, F48.V)] := GOk.cons F26.ok (GOk.cons F28.ok (GOk.cons F48.ok (GOk.nil)))
  have hV : VOk Try.prog noV := noV_ok
  unfold F16.V
  split
  · exact denF_okV hG hV Try.func16 (fun h Q hq => (F16.den _ _) ▸ hq)
  · exact fun h Q hq => hq.elim
def F19.T (n : Int) (n1 : Int) : PT := fun h Q =>
  par (n < 0) (n1 ≠ 0 ∧ Q (.int .i64 (Int.tmod (IntKind.wrap .i64 (0 - (IntKind.wrap .i64 (n + 1)))) n1)) h) (n1 ≠ 0 ∧ Q (.int .i64 (Int.tmod n n1)) h)
theorem F19.den (V : Value → List Value → PT) (n : Int) (n1 : Int) : denF Try.prog [] [] V [] Try.f19 [.v (.int .i64 n), .v (.int .i64 n1)] = F19.T n n1 := by kernel_rfl
def F19.V (args : List Value) : PT := match args with
  | [.int .i64 n, .int .i64 n1] => F19.T n n1
  | _ => fun _ _ => False
theorem F19.ok : FOk Try.prog 19 F19.V := by
  refine ⟨⟨_, Try.func19, rfl, rfl⟩, fun args => ?_⟩
  have hG : GOk Try.prog [] := GOk.nil
  have hV : VOk Try.prog noV := noV_ok
  unfold F19.V
  split
  · exact denF_okV hG hV Try.func19 (fun h Q hq => (F19.den _ _ _) ▸ hq)
  · exact fun h Q hq => hq.elim
def F49.T (l : Sl) : PT := fun h Q =>
  ∃ (I : Sl → Int → Hp → Prop) (m : Sl → Int → Hp → Nat), I ⟨none, 0, 0⟩ 0 h ∧ (∀ l1 : Sl, ∀ n : Int, ∀ h1 : Hp, I l1 n h1 → par (n < (l.n : Int)) (∃ b o, (l.a : Option Addr) = some ⟨b, o, none⟩ ∧ ((0 : Int) ≤ n ∧ n < (l.n : Int)) ∧ ∃ n1 : Int, h1.at b (o + n.toNat * 6) = some (.int .u64 n1) ∧ ∃ n2 : Int, h1.at b ((o + n.toNat * 6) + 1) = some (.int .u64 n2) ∧ ∃ n3 : Int, h1.at b ((o + n.toNat * 6) + 2) = some (.int .u64 n3) ∧ ∃ l2 : Sl, h1.at b ((o + n.toNat * 6) + 3) = some (.slice l2.a l2.n l2.c) ∧ ∃ l3 : Sl, h1.at b ((o + n.toNat * 6) + 4) = some (.slice l3.a l3.n l3.c) ∧ ∃ l4 : Sl, h1.at b ((o + n.toNat * 6) + 5) = some (.slice l4.a l4.n l4.c) ∧ ∃ vs, h1.row l2.a (l2.n * 2) vs ∧ (∀ v ∈ vs, Value.oneCell' v = true) ∧ appendD ⟨none, 0, 0⟩ 89 2 16 [.int .i64 0, .int .u64 0] l2.n vs h1 fun l5 h2 => ∃ vs1, h2.row l3.a (l3.n * 7) vs1 ∧ (∀ v ∈ vs1, Value.oneCell' v = true) ∧ appendD ⟨none, 0, 0⟩ 87 7 72 [.int .i64 0, .int .u64 0, .int .i64 0, .int .i64 0, .int .i64 0, .string (ByteArray.mk #[]), .string (ByteArray.mk #[])] l3.n vs1 h2 fun l6 h3 => ∃ vs2, h3.row l4.a (l4.n * 1) vs2 ∧ (∀ v ∈ vs2, Value.oneCell' v = true) ∧ appendD ⟨none, 0, 0⟩ 9 1 16 [.string (ByteArray.mk #[])] l4.n vs2 h3 fun l7 h4 => appendD l1 60 6 96 [.int .u64 0, .int .u64 0, .int .u64 0, .slice none 0 0, .slice none 0 0, .slice none 0 0] 1 [.int .u64 n1, .int .u64 n2, .int .u64 n3, .slice l5.a l5.n l5.c, .slice l6.a l6.n l6.c, .slice l7.a l7.n l7.c] h4 fun l8 h5 => I l8 (IntKind.wrap .i64 (n + 1)) h5 ∧ m l8 (IntKind.wrap .i64 (n + 1)) h5 < m l1 n h1) (Q (.slice l1.a l1.n l1.c) h1))
theorem F49.den (V : Value → List Value → PT) (l : Sl) : denF Try.prog [5, 30] [] V [(58, .loop [(3, .sl), (4, .int .i64)] [])] Try.f49 [.v (.slice l.a l.n l.c)] = F49.T l := by kernel_rfl
def F49.V (args : List Value) : PT := match args with
  | [.slice l_a l_n l_c] => F49.T ⟨l_a, l_n, l_c⟩
  | _ => fun _ _ => False
theorem F49.ok : FOk Try.prog 49 F49.V := by
  refine ⟨⟨_, Try.func49, rfl, rfl⟩, fun args => ?_⟩
  have hG : GOk Try.prog [] := GOk.nil
  have hV : VOk Try.prog noV := noV_ok
  unfold F49.V
  split
  · exact denF_okV hG hV Try.func49 (fun h Q hq => (F49.den _ _) ▸ hq)
  · exact fun h Q hq => hq.elim
def F12.T (l : Sl) (l1 : Sl) : PT := fun h Q =>
  par ((l.n : Int) = (l1.n : Int)) (∃ (I : Int → Hp → Prop) (m : Int → Hp → Nat), I 0 h ∧ (∀ n : Int, ∀ h1 : Hp, I n h1 → par (n < (l.n : Int)) (∃ b o, (l.a : Option Addr) = some ⟨b, o, none⟩ ∧ ((0 : Int) ≤ n ∧ n < (l.n : Int)) ∧ ∃ n1 : Int, h1.at b (o + n.toNat * 6) = some (.int .u64 n1) ∧ ∃ n2 : Int, h1.at b ((o + n.toNat * 6) + 1) = some (.int .u64 n2) ∧ ∃ n3 : Int, h1.at b ((o + n.toNat * 6) + 2) = some (.int .u64 n3) ∧ ∃ l2 : Sl, h1.at b ((o + n.toNat * 6) + 3) = some (.slice l2.a l2.n l2.c) ∧ ∃ l3 : Sl, h1.at b ((o + n.toNat * 6) + 4) = some (.slice l3.a l3.n l3.c) ∧ ∃ l4 : Sl, h1.at b ((o + n.toNat * 6) + 5) = some (.slice l4.a l4.n l4.c) ∧ ∃ b1 o1, (l1.a : Option Addr) = some ⟨b1, o1, none⟩ ∧ ((0 : Int) ≤ n ∧ n < (l1.n : Int)) ∧ ∃ n4 : Int, h1.at b1 (o1 + n.toNat * 6) = some (.int .u64 n4) ∧ ∃ n5 : Int, h1.at b1 ((o1 + n.toNat * 6) + 1) = some (.int .u64 n5) ∧ ∃ n6 : Int, h1.at b1 ((o1 + n.toNat * 6) + 2) = some (.int .u64 n6) ∧ ∃ l5 : Sl, h1.at b1 ((o1 + n.toNat * 6) + 3) = some (.slice l5.a l5.n l5.c) ∧ ∃ l6 : Sl, h1.at b1 ((o1 + n.toNat * 6) + 4) = some (.slice l6.a l6.n l6.c) ∧ ∃ l7 : Sl, h1.at b1 ((o1 + n.toNat * 6) + 5) = some (.slice l7.a l7.n l7.c) ∧ F23.T n1 n2 n3 l2 l3 l4 n4 n5 n6 l5 l6 l7 h1 fun r h2 => ∃ b2 : Bool, r = .bool b2 ∧ parB b2 (I (IntKind.wrap .i64 (n + 1)) h2 ∧ m (IntKind.wrap .i64 (n + 1)) h2 < m n h1) (Q (.bool false) h2)) (Q (.bool true) h1))) (Q (.bool false) h)
theorem F12.den (V : Value → List Value → PT) (l : Sl) (l1 : Sl) : denF Try.prog [] [(23, F23.V)] V [(58, .loop [(5, .int .i64)] []), (1864, .order [0, 1, 2, 3, 4, 5, 6, 7, 8, 9])] Try.f12 [.v (.slice l.a l.n l.c), .v (.slice l1.a l1.n l1.c)] = F12.T l l1 := by kernel_rfl
def F12.V (args : List Value) : PT := match args with
  | [.slice l_a l_n l_c, .slice l1_a l1_n l1_c] => F12.T ⟨l_a, l_n, l_c⟩ ⟨l1_a, l1_n, l1_c⟩
  | _ => fun _ _ => False
theorem F12.ok : FOk Try.prog 12 F12.V := by
  refine ⟨⟨_, Try.func12, rfl, rfl⟩, fun args => ?_⟩
  have hG : GOk Try.prog [(23, F23.V)] := GOk.cons F23.ok (GOk.nil)
  have hV : VOk Try.prog noV := noV_ok
  unfold F12.V
  split
  · exact denF_okV hG hV Try.func12 (fun h Q hq => (F12.den _ _ _) ▸ hq)
  · exact fun h Q hq => hq.elim
end Go.Eng.Ytblghgacokoklaa
