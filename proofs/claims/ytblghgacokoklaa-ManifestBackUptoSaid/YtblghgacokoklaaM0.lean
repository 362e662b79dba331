import Derived.Test.YtblghgacokoklaaE17
import Derived.Test.YtblghgacokoklaaProg
set_option maxRecDepth 100000
set_option linter.unusedVariables false
open Go.Proofs
namespace Go.Eng.Ytblghgacokoklaa
def F26.T (n : Int) : PT := fun h Q =>
  ∀ b, h b = none → Q (.pointer (some ⟨b, 0, none⟩)) (h.new b (.cells ⟨[.int .i64 n]⟩ 113 (0, 0)))
theorem F26.den (V : Value → List Value → PT) (n : Int) : denF Try.prog [] [] V [] Try.f26 [.v (.int .i64 n)] = F26.T n := by kernel_rfl
def F26.V (args : List Value) : PT := match args with
  | [.int .i64 n] => F26.T n
  | _ => fun _ _ => False
theorem F26.ok : FOk Try.prog 26 F26.V := by
  refine ⟨⟨_, Try.func26, rfl, rfl⟩, fun args => ?_⟩
  have hG : GOk Try.prog [] := GOk.nil
  have hV : VOk Try.prog noV := noV_ok
  unfold F26.V
  split
  · exact denF_okV hG hV Try.func26 (fun h Q hq => (F26.den _ _) ▸ hq)
  · exact fun h Q hq => hq.elim
def F28.T (p : Option Addr) : PT := fun h Q =>
  ∃ b o, (p : Option Addr) = some ⟨b, o, none⟩ ∧ ∃ n : Int, h.at b o = some (.int .i64 n) ∧ par ((0 : Int) ≤ n) (Q (.bool true) h) (Q (.bool false) h)
theorem F28.den (V : Value → List Value → PT) (p : Option Addr) : denF Try.prog [] [] V [] Try.f28 [.v (.pointer p)] = F28.T p := by kernel_rfl
def F28.V (args : List Value) : PT := match args with
  | [.pointer p] => F28.T p
  | _ => fun _ _ => False
theorem F28.ok : FOk Try.prog 28 F28.V := by
  refine ⟨⟨_, Try.func28, rfl, rfl⟩, fun args => ?_⟩
  have hG : GOk Try.prog [] := GOk.nil
  have hV : VOk Try.prog noV := noV_ok
  unfold F28.V
  split
  · exact denF_okV hG hV Try.func28 (fun h Q hq => (F28.den _ _) ▸ hq)
  · exact fun h Q hq => hq.elim
def F66.T (p : Option Addr) (n : Int) : PT := fun h Q =>
  ∃ b o, (p : Option Addr) = some ⟨b, o, none⟩ ∧ ∃ n1 : Int, h.at b o = some (.int .i64 n1) ∧ par ((0 : Int) ≤ n1) (∃ b1 o1, (p : Option Addr) = some ⟨b1, o1, none⟩ ∧ ∃ n2 : Int, h.at b1 o1 = some (.int .i64 n2) ∧ ∃ b2 o2, (p : Option Addr) = some ⟨b2, o2, none⟩ ∧ h.canW b2 o2 1 ∧ ∃ b3 o3, (p : Option Addr) = some ⟨b3, o3, none⟩ ∧ ∃ n3 : Int, (h.wr b2 o2 [.int .i64 (IntKind.wrap .i64 (n2 - n))]).at b3 o3 = some (.int .i64 n3) ∧ par ((0 : Int) ≤ n3) (Q (.bool true) (h.wr b2 o2 [.int .i64 (IntKind.wrap .i64 (n2 - n))])) (Q (.bool false) (h.wr b2 o2 [.int .i64 (IntKind.wrap .i64 (n2 - n))]))) (∃ b4 o4, (p : Option Addr) = some ⟨b4, o4, none⟩ ∧ ∃ n4 : Int, h.at b4 o4 = some (.int .i64 n4) ∧ par ((0 : Int) ≤ n4) (Q (.bool true) h) (Q (.bool false) h))
theorem F66.den (V : Value → List Value → PT) (p : Option Addr) (n : Int) : denF Try.prog [] [] V [] Try.f66 [.v (.pointer p), .v (.int .i64 n)] = F66.T p n := by kernel_rfl
def F66.V (args : List Value) : PT := match args with
  | [.pointer p, .int .i64 n] => F66.T p n
  | _ => fun _ _ => False
theorem F66.ok : FOk Try.prog 66 F66.V := by
  refine ⟨⟨_, Try.func66, rfl, rfl⟩, fun args => ?_⟩
  have hG : GOk Try.prog [] := GOk.nil
  have hV : VOk Try.prog noV := noV_ok
  unfold F66.V
  split
  · exact denF_okV hG hV Try.func66 (fun h Q hq => (F66.den _ _ _) ▸ hq)
  · exact fun h Q hq => hq.elim
def F27.T (p : Option Addr) (l : Sl) : PT := fun h Q =>
  ∃ (I : Int → Hp → Prop) (m : Int → Hp → Nat), I 0 h ∧ (∀ n : Int, ∀ h1 : Hp, I n h1 → par (n < (l.n : Int)) (F28.T p h1 fun r h2 => ∃ b : Bool, r = .bool b ∧ parB b (∃ b1 o, (l.a : Option Addr) = some ⟨b1, o, none⟩ ∧ ((0 : Int) ≤ n ∧ n < (l.n : Int)) ∧ ∃ l1 : Sl, h2.at b1 (o + n.toNat) = some (.slice l1.a l1.n l1.c) ∧ F66.T p (IntKind.wrap .i64 (1 + (l1.n : Int))) h2 fun r1 h3 => ∃ b2 : Bool, r1 = .bool b2 ∧ parB b2 (I (IntKind.wrap .i64 (n + 1)) h3 ∧ m (IntKind.wrap .i64 (n + 1)) h3 < m n h1) (I (IntKind.wrap .i64 (n + 1)) h3 ∧ m (IntKind.wrap .i64 (n + 1)) h3 < m n h1)) (Q (.tuple ⟨[]⟩) h2)) (Q (.tuple ⟨[]⟩) h1))
theorem F27.den (V : Value → List Value → PT) (p : Option Addr) (l : Sl) : denF Try.prog [] [(28, F28.V), (66, F66.V)] V [(6, .loop [(4, .int .i64)] [])] Try.f27 [.v (.pointer p), .v (.slice l.a l.n l.c)] = F27.T p l := by kernel_rfl
def F27.V (args : List Value) : PT := match args with
  | [.pointer p, .slice l_a l_n l_c] => F27.T p ⟨l_a, l_n, l_c⟩
  | _ => fun _ _ => False
theorem F27.ok : FOk Try.prog 27 F27.V := by
  refine ⟨⟨_, Try.func27, rfl, rfl⟩, fun args => ?_⟩
  have hG : GOk Try.prog [(28, F28.V), (66, F66.V)] := GOk.cons F28.ok (GOk.cons F66.ok (GOk.nil))
  have hV : VOk Try.prog noV := noV_ok
  unfold F27.V
  split
  · exact denF_okV hG hV Try.func27 (fun h Q hq => (F27.den _ _ _) ▸ hq)
  · exact fun h Q hq => hq.elim
def F8.T (l : Sl) : PT := fun h Q =>
  F26.T 400000 h fun r h1 => ∃ p : Option Addr, r = .pointer p ∧ F27.T p l h1 fun r1 h2 => F28.T p h2 fun r2 h3 => ∃ b : Bool, r2 = .bool b ∧ parB b (Q (.bool true) h3) (Q (.bool false) h3)
theorem F8.den (V : Value → List Value → PT) (l : Sl) : denF Try.prog [] [(26, F26.V), (27, F27.V), (28, F28.V)] V [] Try.f8 [.v (.slice l.a l.n l.c)] = F8.T l := by kernel_rfl
def F8.V (args : List Value) : PT := match args with
  | [.slice l_a l_n l_c] => F8.T ⟨l_a, l_n, l_c⟩
  | _ => fun _ _ => False
theorem F8.ok : FOk Try.prog 8 F8.V := by
  refine ⟨⟨_, Try.func8, rfl, rfl⟩, fun args => ?_⟩
  have hG : GOk Try.prog [(26, F26.V), (27, F27.V), (28, F28.V)] := GOk.cons F26.ok (GOk.cons F27.ok (GOk.cons F28.ok (GOk.nil)))
  have hV : VOk Try.prog noV := noV_ok
  unfold F8.V
  split
  · exact denF_okV hG hV Try.func8 (fun h Q hq => (F8.den _ _) ▸ hq)
  · exact fun h Q hq => hq.elim
def F92.T (l : Sl) : PT := fun h Q =>
  ∃ (I : Int → Int → Hp → Prop) (m : Int → Int → Hp → Nat), I 0 0 h ∧ (∀ n : Int, ∀ n1 : Int, ∀ h1 : Hp, I n n1 h1 → par (n1 < (l.n : Int)) (∃ b o, (l.a : Option Addr) = some ⟨b, o, none⟩ ∧ ((0 : Int) ≤ n1 ∧ n1 < (l.n : Int)) ∧ ∃ n2 : Int, h1.at b (o + n1.toNat) = some (.int .u8 n2) ∧ ∃ J : Hp → Prop, (∀ h2 : Hp, J h2 → (0 : Int) ≤ (IntKind.wrap .i64 (7 * n1)) ∧ par (n2 < 128) (Q (.tuple ⟨[.int .u64 (bitsI .or .u64 n (shlI .u64 (IntKind.wrap .u64 (bitsI .and .u8 n2 127)) (IntKind.wrap .i64 (7 * n1)))), .int .i64 (IntKind.wrap .i64 (n1 + 1)), .int .i64 0]⟩) h2) (I (bitsI .or .u64 n (shlI .u64 (IntKind.wrap .u64 (bitsI .and .u8 n2 127)) (IntKind.wrap .i64 (7 * n1)))) (IntKind.wrap .i64 (n1 + 1)) h2 ∧ m (bitsI .or .u64 n (shlI .u64 (IntKind.wrap .u64 (bitsI .and .u8 n2 127)) (IntKind.wrap .i64 (7 * n1)))) (IntKind.wrap .i64 (n1 + 1)) h2 < m n n1 h1)) ∧ (par (n2 = 0) (par ((0 : Int) < n1) (Q (.tuple ⟨[.int .u64 0, .int .i64 0, .int .i64 21]⟩) h1) (par (n1 = 9) (par (n2 = 1) (J h1) (Q (.tuple ⟨[.int .u64 0, .int .i64 0, .int .i64 21]⟩) h1)) (J h1))) (par (n1 = 9) (par (n2 = 1) (J h1) (Q (.tuple ⟨[.int .u64 0, .int .i64 0, .int .i64 21]⟩) h1)) (J h1)))) (Q (.tuple ⟨[.int .u64 0, .int .i64 0, .int .i64 20]⟩) h1))
theorem F92.den (V : Value → List Value → PT) (l : Sl) : denF Try.prog [] [] V [(58, .loop [(5, .int .u64), (10, .int .i64)] []), (3737, .join [] [])] Try.f92 [.v (.slice l.a l.n l.c)] = F92.T l := by kernel_rfl
def F92.V (args : List Value) : PT := match args with
  | [.slice l_a l_n l_c] => F92.T ⟨l_a, l_n, l_c⟩
  | _ => fun _ _ => False
theorem F92.ok : FOk Try.prog 92 F92.V := by
  refine ⟨⟨_, Try.func92, rfl, rfl⟩, fun args => ?_⟩
  have hG : GOk Try.prog [] := GOk.nil
  have hV : VOk Try.prog noV := noV_ok
  unfold F92.V
  split
  · exact denF_okV hG hV Try.func92 (fun h Q hq => (F92.den _ _) ▸ hq)
  · exact fun h Q hq => hq.elim
def F93.T (p : Option Addr) (n : Int) (n1 : Int) : PT := fun h Q =>
  par (n1 = 0) (∃ b o, (p : Option Addr) = some ⟨b, o, none⟩ ∧ ∃ l : Sl, h.at b o = some (.slice l.a l.n l.c) ∧ ∃ b1 o1, (p : Option Addr) = some ⟨b1, o1, none⟩ ∧ ∃ l1 : Sl, h.at b1 o1 = some (.slice l1.a l1.n l1.c) ∧ ∃ b2 o2, (p : Option Addr) = some ⟨b2, o2, none⟩ ∧ ∃ l2 : Sl, h.at b2 o2 = some (.slice l2.a l2.n l2.c) ∧ Sl.okCut l n (l1.n : Int) (l2.n : Int) ∧ ∃ b3 o3, (p : Option Addr) = some ⟨b3, o3, none⟩ ∧ h.canW b3 o3 1 ∧ Q (.tuple ⟨[]⟩) (h.wr b3 o3 [.slice (Sl.cut l 1 n (l1.n : Int) (l2.n : Int)).a (Sl.cut l 1 n (l1.n : Int) (l2.n : Int)).n (Sl.cut l 1 n (l1.n : Int) (l2.n : Int)).c])) (∃ b4 o4, (p : Option Addr) = some ⟨b4, o4, none⟩ ∧ ∃ l3 : Sl, h.at b4 o4 = some (.slice l3.a l3.n l3.c) ∧ ∃ b5 o5, (p : Option Addr) = some ⟨b5, o5, none⟩ ∧ h.canW b5 (o5 + 1) 1 ∧ ∃ b6 o6, (p : Option Addr) = some ⟨b6, o6, none⟩ ∧ ∃ l4 : Sl, (h.wr b5 (o5 + 1) [.bool true]).at b6 o6 = some (.slice l4.a l4.n l4.c) ∧ ∃ b7 o7, (p : Option Addr) = some ⟨b7, o7, none⟩ ∧ ∃ l5 : Sl, (h.wr b5 (o5 + 1) [.bool true]).at b7 o7 = some (.slice l5.a l5.n l5.c) ∧ ∃ b8 o8, (p : Option Addr) = some ⟨b8, o8, none⟩ ∧ ∃ l6 : Sl, (h.wr b5 (o5 + 1) [.bool true]).at b8 o8 = some (.slice l6.a l6.n l6.c) ∧ Sl.okCut l4 (l3.n : Int) (l5.n : Int) (l6.n : Int) ∧ ∃ b9 o9, (p : Option Addr) = some ⟨b9, o9, none⟩ ∧ (h.wr b5 (o5 + 1) [.bool true]).canW b9 o9 1 ∧ Q (.tuple ⟨[]⟩) ((h.wr b5 (o5 + 1) [.bool true]).wr b9 o9 [.slice (Sl.cut l4 1 (l3.n : Int) (l5.n : Int) (l6.n : Int)).a (Sl.cut l4 1 (l3.n : Int) (l5.n : Int) (l6.n : Int)).n (Sl.cut l4 1 (l3.n : Int) (l5.n : Int) (l6.n : Int)).c]))
theorem F93.den (V : Value → List Value → PT) (p : Option Addr) (n : Int) (n1 : Int) : denF Try.prog [] [] V [(3, .order [0, 1, 2, 3, 4, 5, 6, 7, 8, 9, 10, 11, 12, 13, 14, 15, 16, 17, 18, 19])] Try.f93 [.v (.pointer p), .v (.int .i64 n), .v (.int .i64 n1)] = F93.T p n n1 := by kernel_rfl
def F93.V (args : List Value) : PT := match args with
  | [.pointer p, .int .i64 n, .int .i64 n1] => F93.T p n n1
  | _ => fun _ _ => False
theorem F93.ok : FOk Try.prog 93 F93.V := by
  refine ⟨⟨_, Try.func93, rfl, rfl⟩, fun args => ?_⟩
  have hG : GOk Try.prog [] := GOk.nil
  have hV : VOk Try.prog noV := noV_ok
  unfold F93.V
  split
  · exact denF_okV hG hV Try.func93 (fun h Q hq => (F93.den _ _ _ _) ▸ hq)
  · exact fun h Q hq => hq.elim
def F72.T (p : Option Addr) : PT := fun h Q =>
  ∃ b o, (p : Option Addr) = some ⟨b, o, none⟩ ∧ ∃ l : Sl, h.at b o = some (.slice l.a l.n l.c) ∧ F92.T l h fun r h1 => ∃ n : Int, ∃ n1 : Int, ∃ n2 : Int, r = .tuple ⟨[.int .u64 n, .int .i64 n1, .int .i64 n2]⟩ ∧ F93.T p n1 n2 h1 fun r1 h2 => Q (.int .u64 n) h2
theorem F72.den (V : Value → List Value → PT) (p : Option Addr) : denF Try.prog [] [(92, F92.V), (93, F93.V)] V [] Try.f72 [.v (.pointer p)] = F72.T p := by kernel_rfl
def F72.V (args : List Value) : PT := match args with
  | [.pointer p] => F72.T p
  | _ => fun _ _ => False
theorem F72.ok : FOk Try.prog 72 F72.V := by
  refine ⟨⟨_, Try.func72, rfl, rfl⟩, fun args => ?_⟩
  have hG : GOk Try.prog [(92, F92.V), (93, F93.V)] := GOk.cons F92.ok (GOk.cons F93.ok (GOk.nil))
  have hV : VOk Try.prog noV := noV_ok
  unfold F72.V
  split
  · exact denF_okV hG hV Try.func72 (fun h Q hq => (F72.den _ _) ▸ hq)
  · exact fun h Q hq => hq.elim
def F73.T (p : Option Addr) (n : Int) : PT := fun h Q =>
  F72.T p h fun r h1 => ∃ n1 : Int, r = .int .u64 n1 ∧ par (n < n1) (∃ b o, (p : Option Addr) = some ⟨b, o, none⟩ ∧ h1.canW b (o + 1) 1 ∧ Q (.int .i64 0) (h1.wr b (o + 1) [.bool true])) (Q (.int .i64 (IntKind.wrap .i64 n1)) h1)
theorem F73.den (V : Value → List Value → PT) (p : Option Addr) (n : Int) : denF Try.prog [] [(72, F72.V)] V [] Try.f73 [.v (.pointer p), .v (.int .u64 n)] = F73.T p n := by kernel_rfl
def F73.V (args : List Value) : PT := match args with
  | [.pointer p, .int .u64 n] => F73.T p n
  | _ => fun _ _ => False
theorem F73.ok : FOk Try.prog 73 F73.V := by
  refine ⟨⟨_, Try.func73, rfl, rfl⟩, fun args => ?_⟩
  have hG : GOk Try.prog [(72, F72.V)] := GOk.cons F72.ok (GOk.nil)
  have hV : VOk Try.prog noV := noV_ok
  unfold F73.V
  split
  · exact denF_okV hG hV Try.func73 (fun h Q hq => (F73.den _ _ _) ▸ hq)
  · exact fun h Q hq => hq.elim
def F94.T (l : Sl) (n : Int) : PT := fun h Q =>
  F92.T l h fun r h1 => ∃ n1 : Int, ∃ n2 : Int, ∃ n3 : Int, r = .tuple ⟨[.int .u64 n1, .int .i64 n2, .int .i64 n3]⟩ ∧ par (n3 = 0) (par (n < 0) (Q (.tuple ⟨[.string (ByteArray.mk #[]), .int .i64 0, .int .i64 22]⟩) h1) (par ((IntKind.wrap .u64 n) < n1) (Q (.tuple ⟨[.string (ByteArray.mk #[]), .int .i64 0, .int .i64 22]⟩) h1) (par ((IntKind.wrap .u64 (IntKind.wrap .i64 ((l.n : Int) - n2))) < n1) (Q (.tuple ⟨[.string (ByteArray.mk #[]), .int .i64 0, .int .i64 20]⟩) h1) (Sl.okCut l n2 (IntKind.wrap .i64 (n2 + (IntKind.wrap .i64 n1))) (l.c : Int) ∧ ∃ s : ByteArray, h1.row ((Sl.cut l 1 n2 (IntKind.wrap .i64 (n2 + (IntKind.wrap .i64 n1))) (l.c : Int)).a) ((Sl.cut l 1 n2 (IntKind.wrap .i64 (n2 + (IntKind.wrap .i64 n1))) (l.c : Int)).n) (bytesV s) ∧ Q (.tuple ⟨[.string s, .int .i64 (IntKind.wrap .i64 (n2 + (IntKind.wrap .i64 n1))), .int .i64 0]⟩) h1)))) (Q (.tuple ⟨[.string (ByteArray.mk #[]), .int .i64 0, .int .i64 n3]⟩) h1)
theorem F94.den (V : Value → List Value → PT) (l : Sl) (n : Int) : denF Try.prog [] [(92, F92.V)] V [] Try.f94 [.v (.slice l.a l.n l.c), .v (.int .i64 n)] = F94.T l n := by kernel_rfl
def F94.V (args : List Value) : PT := match args with
  | [.slice l_a l_n l_c, .int .i64 n] => F94.T ⟨l_a, l_n, l_c⟩ n
  | _ => fun _ _ => False
theorem F94.ok : FOk Try.prog 94 F94.V := by
  refine ⟨⟨_, Try.func94, rfl, rfl⟩, fun args => ?_⟩
  have hG : GOk Try.prog [(92, F92.V)] := GOk.cons F92.ok (GOk.nil)
  have hV : VOk Try.prog noV := noV_ok
  unfold F94.V
  split
  · exact denF_okV hG hV Try.func94 (fun h Q hq => (F94.den _ _ _) ▸ hq)
  · exact fun h Q hq => hq.elim
def F74.T (p : Option Addr) : PT := fun h Q =>
  ∃ b o, (p : Option Addr) = some ⟨b, o, none⟩ ∧ ∃ l : Sl, h.at b o = some (.slice l.a l.n l.c) ∧ F94.T l 64 h fun r h1 => ∃ s : ByteArray, ∃ n : Int, ∃ n1 : Int, r = .tuple ⟨[.string s, .int .i64 n, .int .i64 n1]⟩ ∧ F93.T p n n1 h1 fun r1 h2 => Q (.string s) h2
theorem F74.den (V : Value → List Value → PT) (p : Option Addr) : denF Try.prog [] [(93, F93.V), (94, F94.V)] V [] Try.f74 [.v (.pointer p)] = F74.T p := by kernel_rfl
def F74.V (args : List Value) : PT := match args with
  | [.pointer p] => F74.T p
  | _ => fun _ _ => False
theorem F74.ok : FOk Try.prog 74 F74.V := by
  refine ⟨⟨_, Try.func74, rfl, rfl⟩, fun args => ?_⟩
  have hG : GOk Try.prog [(93, F93.V), (94, F94.V)] := GOk.cons F93.ok (GOk.cons F94.ok (GOk.nil))
  have hV : VOk Try.prog noV := noV_ok
  unfold F74.V
  split
  · exact denF_okV hG hV Try.func74 (fun h Q hq => (F74.den _ _) ▸ hq)
  · exact fun h Q hq => hq.elim
def F112.T (l : Sl) (n : Int) : PT := fun h Q =>
  ∃ (I : Sl → Int → Hp → Prop) (m : Sl → Int → Hp → Nat), I l n h ∧ (∀ l1 : Sl, ∀ n1 : Int, ∀ h1 : Hp, I l1 n1 h1 → par ((128 : Int) ≤ n1) (appendD l1 5 1 1 [.int .u8 0] 1 [.int .u8 (bitsI .or .u8 (IntKind.wrap .u8 n1) 128)] h1 fun l2 h2 => (0 : Int) ≤ 7 ∧ I l2 (shrI .u64 n1 7) h2 ∧ m l2 (shrI .u64 n1 7) h2 < m l1 n1 h1) (appendD l1 5 1 1 [.int .u8 0] 1 [.int .u8 (IntKind.wrap .u8 n1)] h1 fun l3 h3 => Q (.slice l3.a l3.n l3.c) h3))
theorem F112.den (V : Value → List Value → PT) (l : Sl) (n : Int) : denF Try.prog [11, 18] [] V [(12, .loop [(0, .sl), (1, .int .u64)] [])] Try.f112 [.v (.slice l.a l.n l.c), .v (.int .u64 n)] = F112.T l n := by kernel_rfl
def F112.V (args : List Value) : PT := match args with
  | [.slice l_a l_n l_c, .int .u64 n] => F112.T ⟨l_a, l_n, l_c⟩ n
  | _ => fun _ _ => False
theorem F112.ok : FOk Try.prog 112 F112.V := by
  refine ⟨⟨_, Try.func112, rfl, rfl⟩, fun args => ?_⟩
  have hG : GOk Try.prog [] := GOk.nil
  have hV : VOk Try.prog noV := noV_ok
  unfold F112.V
  split
  · exact denF_okV hG hV Try.func112 (fun h Q hq => (F112.den _ _ _) ▸ hq)
  · exact fun h Q hq => hq.elim
def F113.T (l : Sl) (n : Int) : PT := fun h Q =>
  ((0 : Int) ≤ (l.n : Int) ∧ (l.n : Int) ≤ (IntKind.wrap .i64 ((l.n : Int) + n)) ∧ 1 * (IntKind.wrap .i64 ((l.n : Int) + n)) ≤ 281474976710656) ∧ ∀ b, h b = none → ∃ vs, (h.new b (.cells (Builtin.zeroCells (List.toArray [.int .u8 0]) ((IntKind.wrap .i64 ((l.n : Int) + n)) : Int).toNat) 5 (0, 0))).row l.a ((Nat.min l.n (((l.n : Int) : Int).toNat)) * 1) vs ∧ (∀ v ∈ vs, Value.oneCell' v = true) ∧ (h.new b (.cells (Builtin.zeroCells (List.toArray [.int .u8 0]) ((IntKind.wrap .i64 ((l.n : Int) + n)) : Int).toNat) 5 (0, 0))).canWA (some ⟨b, 0, none⟩) vs.length ∧ Q (.slice (some ⟨b, 0, none⟩) ((l.n : Int) : Int).toNat ((IntKind.wrap .i64 ((l.n : Int) + n)) : Int).toNat) ((h.new b (.cells (Builtin.zeroCells (List.toArray [.int .u8 0]) ((IntKind.wrap .i64 ((l.n : Int) + n)) : Int).toNat) 5 (0, 0))).wrA (some ⟨b, 0, none⟩) vs)
theorem F113.den (V : Value → List Value → PT) (l : Sl) (n : Int) : denF Try.prog [] [] V [] Try.f113 [.v (.slice l.a l.n l.c), .v (.int .i64 n)] = F113.T l n := by kernel_rfl
def F113.V (args : List Value) : PT := match args with
  | [.slice l_a l_n l_c, .int .i64 n] => F113.T ⟨l_a, l_n, l_c⟩ n
  | _ => fun _ _ => False
theorem F113.ok : FOk Try.prog 113 F113.V := by
  refine ⟨⟨_, Try.func113, rfl, rfl⟩, fun args => ?_⟩
  have hG : GOk Try.prog [] := GOk.nil
  have hV : VOk Try.prog noV := noV_ok
  unfold F113.V
  split
  · exact denF_okV hG hV Try.func113 (fun h Q hq => (F113.den _ _ _) ▸ hq)
  · exact fun h Q hq => hq.elim
def F96.T (l : Sl) (n : Int) : PT := fun h Q =>
  F113.T l 10 h fun r h1 => ∃ l1 : Sl, r = .slice l1.a l1.n l1.c ∧ F112.T l1 n h1 fun r1 h2 => ∃ l2 : Sl, r1 = .slice l2.a l2.n l2.c ∧ Q (.slice l2.a l2.n l2.c) h2
theorem F96.den (V : Value → List Value → PT) (l : Sl) (n : Int) : denF Try.prog [] [(112, F112.V), (113, F113.V)] V [] Try.f96 [.v (.slice l.a l.n l.c), .v (.int .u64 n)] = F96.T l n := by kernel_rfl
def F96.V (args : List Value) : PT := match args with
  | [.slice l_a l_n l_c, .int .u64 n] => F96.T ⟨l_a, l_n, l_c⟩ n
  | _ => fun _ _ => False
theorem F96.ok : FOk Try.prog 96 F96.V := by
  refine ⟨⟨_, Try.func96, rfl, rfl⟩, fun args => ?_⟩
  have hG : GOk Try.prog [(112, F112.V), (113, F113.V)] := GOk.cons F112.ok (GOk.cons F113.ok (GOk.nil))
  have hV : VOk Try.prog noV := noV_ok
  unfold F96.V
  split
  · exact denF_okV hG hV Try.func96 (fun h Q hq => (F96.den _ _ _) ▸ hq)
  · exact fun h Q hq => hq.elim
def F80.T (l : Sl) (l1 : Sl) : PT := fun h Q =>
  ∃ (I : Sl → Int → Hp → Prop) (m : Sl → Int → Hp → Nat), I l 0 h ∧ (∀ l2 : Sl, ∀ n : Int, ∀ h1 : Hp, I l2 n h1 → par (n < (l1.n : Int)) (∃ b o, (l1.a : Option Addr) = some ⟨b, o, none⟩ ∧ ((0 : Int) ≤ n ∧ n < (l1.n : Int)) ∧ ∃ n1 : Int, h1.at b (o + n.toNat) = some (.int .u64 n1) ∧ F96.T ⟨none, 0, 0⟩ n1 h1 fun r h2 => ∃ l3 : Sl, r = .slice l3.a l3.n l3.c ∧ ∃ vs, h2.row l3.a (l3.n * 1) vs ∧ (∀ v ∈ vs, Value.oneCell' v = true) ∧ appendD l2 5 1 1 [.int .u8 0] l3.n vs h2 fun l4 h3 => I l4 (IntKind.wrap .i64 (n + 1)) h3 ∧ m l4 (IntKind.wrap .i64 (n + 1)) h3 < m l2 n h1) (Q (.slice l2.a l2.n l2.c) h1))
theorem F80.den (V : Value → List Value → PT) (l : Sl) (l1 : Sl) : denF Try.prog [] [(96, F96.V)] V [(26, .loop [(0, .sl), (9, .int .i64)] [])] Try.f80 [.v (.slice l.a l.n l.c), .v (.slice l1.a l1.n l1.c)] = F80.T l l1 := by kernel_rfl
def F80.V (args : List Value) : PT := match args with
  | [.slice l_a l_n l_c, .slice l1_a l1_n l1_c] => F80.T ⟨l_a, l_n, l_c⟩ ⟨l1_a, l1_n, l1_c⟩
  | _ => fun _ _ => False
theorem F80.ok : FOk Try.prog 80 F80.V := by
  refine ⟨⟨_, Try.func80, rfl, rfl⟩, fun args => ?_⟩
  have hG : GOk Try.prog [(96, F96.V)] := GOk.cons F96.ok (GOk.nil)
  have hV : VOk Try.prog noV := noV_ok
  unfold F80.V
  split
  · exact denF_okV hG hV Try.func80 (fun h Q hq => (F80.den _ _ _) ▸ hq)
  · exact fun h Q hq => hq.elim
def F97.T (l : Sl) (s : ByteArray) : PT := fun h Q =>
  F113.T l (IntKind.wrap .i64 (10 + (s.size : Int))) h fun r h1 => ∃ l1 : Sl, r = .slice l1.a l1.n l1.c ∧ F112.T l1 (IntKind.wrap .u64 (s.size : Int)) h1 fun r1 h2 => ∃ l2 : Sl, r1 = .slice l2.a l2.n l2.c ∧ appendD l2 5 1 1 [.int .u8 0] s.size (bytesV s) h2 fun l3 h3 => Q (.slice l3.a l3.n l3.c) h3
theorem F97.den (V : Value → List Value → PT) (l : Sl) (s : ByteArray) : denF Try.prog [] [(112, F112.V), (113, F113.V)] V [] Try.f97 [.v (.slice l.a l.n l.c), .v (.string s)] = F97.T l s := by kernel_rfl
def F97.V (args : List Value) : PT := match args with
  | [.slice l_a l_n l_c, .string s] => F97.T ⟨l_a, l_n, l_c⟩ s
  | _ => fun _ _ => False
theorem F97.ok : FOk Try.prog 97 F97.V := by
  refine ⟨⟨_, Try.func97, rfl, rfl⟩, fun args => ?_⟩
  have hG : GOk Try.prog [(112, F112.V), (113, F113.V)] := GOk.cons F112.ok (GOk.cons F113.ok (GOk.nil))
  have hV : VOk Try.prog noV := noV_ok
  unfold F97.V
  split
  · exact denF_okV hG hV Try.func97 (fun h Q hq => (F97.den _ _ _) ▸ hq)
  · exact fun h Q hq => hq.elim
def F81.T (l : Sl) (s : ByteArray) : PT := fun h Q =>
  F97.T ⟨none, 0, 0⟩ s h fun r h1 => ∃ l1 : Sl, r = .slice l1.a l1.n l1.c ∧ ∃ vs, h1.row l1.a (l1.n * 1) vs ∧ (∀ v ∈ vs, Value.oneCell' v = true) ∧ appendD l 5 1 1 [.int .u8 0] l1.n vs h1 fun l2 h2 => Q (.slice l2.a l2.n l2.c) h2
theorem F81.den (V : Value → List Value → PT) (l : Sl) (s : ByteArray) : denF Try.prog [] [(97, F97.V)] V [] Try.f81 [.v (.slice l.a l.n l.c), .v (.string s)] = F81.T l s := by kernel_rfl
def F81.V (args : List Value) : PT := match args with
  | [.slice l_a l_n l_c, .string s] => F81.T ⟨l_a, l_n, l_c⟩ s
  | _ => fun _ _ => False
theorem F81.ok : FOk Try.prog 81 F81.V := by
  refine ⟨⟨_, Try.func81, rfl, rfl⟩, fun args => ?_⟩
  have hG : GOk Try.prog [(97, F97.V)] := GOk.cons F97.ok (GOk.nil)
  have hV : VOk Try.prog noV := noV_ok
  unfold F81.V
  split
  · exact denF_okV hG hV Try.func81 (fun h Q hq => (F81.den _ _ _) ▸ hq)
  · exact fun h Q hq => hq.elim
def F20.T (l : Sl) (l1 : Sl) : PT := fun h Q =>
  par ((l.n : Int) = (l1.n : Int)) (∃ (I : Int → Hp → Prop) (m : Int → Hp → Nat), I 0 h ∧ (∀ n : Int, ∀ h1 : Hp, I n h1 → par (n < (l.n : Int)) (∃ b o, (l.a : Option Addr) = some ⟨b, o, none⟩ ∧ ((0 : Int) ≤ n ∧ n < (l.n : Int)) ∧ ∃ n1 : Int, h1.at b (o + n.toNat) = some (.int .u8 n1) ∧ ∃ b1 o1, (l1.a : Option Addr) = some ⟨b1, o1, none⟩ ∧ ((0 : Int) ≤ n ∧ n < (l1.n : Int)) ∧ ∃ n2 : Int, h1.at b1 (o1 + n.toNat) = some (.int .u8 n2) ∧ par (n1 = n2) (I (IntKind.wrap .i64 (n + 1)) h1 ∧ m (IntKind.wrap .i64 (n + 1)) h1 < m n h1) (Q (.bool false) h1)) (Q (.bool true) h1))) (Q (.bool false) h)
theorem F20.den (V : Value → List Value → PT) (l : Sl) (l1 : Sl) : denF Try.prog [] [] V [(58, .loop [(5, .int .i64)] []), (1864, .order [0, 1, 2, 3, 4, 5, 6, 7, 8])] Try.f20 [.v (.slice l.a l.n l.c), .v (.slice l1.a l1.n l1.c)] = F20.T l l1 := by kernel_rfl
def F20.V (args : List Value) : PT := match args with
  | [.slice l_a l_n l_c, .slice l1_a l1_n l1_c] => F20.T ⟨l_a, l_n, l_c⟩ ⟨l1_a, l1_n, l1_c⟩
  | _ => fun _ _ => False
theorem F20.ok : FOk Try.prog 20 F20.V := by
  refine ⟨⟨_, Try.func20, rfl, rfl⟩, fun args => ?_⟩
  have hG : GOk Try.prog [] := GOk.nil
  have hV : VOk Try.prog noV := noV_ok
  unfold F20.V
  split
  · exact denF_okV hG hV Try.func20 (fun h Q hq => (F20.den _ _ _) ▸ hq)
  · exact fun h Q hq => hq.elim
def F60.T (l : Sl) (l1 : Sl) : PT := fun h Q =>
  par ((l.n : Int) = (l1.n : Int)) (∃ (I : Int → Hp → Prop) (m : Int → Hp → Nat), I 0 h ∧ (∀ n : Int, ∀ h1 : Hp, I n h1 → par (n < (l.n : Int)) (∃ b o, (l.a : Option Addr) = some ⟨b, o, none⟩ ∧ ((0 : Int) ≤ n ∧ n < (l.n : Int)) ∧ ∃ s : ByteArray, h1.at b (o + n.toNat) = some (.string s) ∧ ∃ b1 o1, (l1.a : Option Addr) = some ⟨b1, o1, none⟩ ∧ ((0 : Int) ≤ n ∧ n < (l1.n : Int)) ∧ ∃ s1 : ByteArray, h1.at b1 (o1 + n.toNat) = some (.string s1) ∧ par (s = s1) (I (IntKind.wrap .i64 (n + 1)) h1 ∧ m (IntKind.wrap .i64 (n + 1)) h1 < m n h1) (Q (.bool false) h1)) (Q (.bool true) h1))) (Q (.bool false) h)
theorem F60.den (V : Value → List Value → PT) (l : Sl) (l1 : Sl) : denF Try.prog [] [] V [(58, .loop [(5, .int .i64)] []), (1864, .order [0, 1, 2, 3, 4, 5, 6, 7, 8])] Try.f60 [.v (.slice l.a l.n l.c), .v (.slice l1.a l1.n l1.c)] = F60.T l l1 := by kernel_rfl
def F60.V (args : List Value) : PT := match args with
  | [.slice l_a l_n l_c, .slice l1_a l1_n l1_c] => F60.T ⟨l_a, l_n, l_c⟩ ⟨l1_a, l1_n, l1_c⟩
  | _ => fun _ _ => False
theorem F60.ok : FOk Try.prog 60 F60.V := by
  refine ⟨⟨_, Try.func60, rfl, rfl⟩, fun args => ?_⟩
  have hG : GOk Try.prog [] := GOk.nil
  have hV : VOk Try.prog noV := noV_ok
  unfold F60.V
  split
  · exact denF_okV hG hV Try.func60 (fun h Q hq => (F60.den _ _ _) ▸ hq)
  · exact fun h Q hq => hq.elim
def F23.T (n : Int) (n1 : Int) (n2 : Int) (l : Sl) (l1 : Sl) (l2 : Sl) (n3 : Int) (n4 : Int) (n5 : Int) (l3 : Sl) (l4 : Sl) (l5 : Sl) : PT := fun h Q =>
  par (n = n3) (par (n1 = n4) (par (n2 = n5) (par ((l.n : Int) = (l3.n : Int)) (par ((l1.n : Int) = (l4.n : Int)) (F60.T l2 l5 h fun r h1 => ∃ b : Bool, r = .bool b ∧ parB b (∃ (I : Int → Hp → Prop) (m : Int → Hp → Nat), I 0 h1 ∧ (∀ n6 : Int, ∀ h2 : Hp, I n6 h2 → par (n6 < (l.n : Int)) (∃ b1 o, (l.a : Option Addr) = some ⟨b1, o, none⟩ ∧ ((0 : Int) ≤ n6 ∧ n6 < (l.n : Int)) ∧ ∃ n7 : Int, h2.at b1 (o + n6.toNat * 2) = some (.int .i64 n7) ∧ ∃ n8 : Int, h2.at b1 ((o + n6.toNat * 2) + 1) = some (.int .u64 n8) ∧ ∃ b2 o1, (l3.a : Option Addr) = some ⟨b2, o1, none⟩ ∧ ((0 : Int) ≤ n6 ∧ n6 < (l3.n : Int)) ∧ ∃ n9 : Int, h2.at b2 (o1 + n6.toNat * 2) = some (.int .i64 n9) ∧ ∃ n10 : Int, h2.at b2 ((o1 + n6.toNat * 2) + 1) = some (.int .u64 n10) ∧ par (([.int .i64 n7, .int .u64 n8] : List Value) = [.int .i64 n9, .int .u64 n10]) (I (IntKind.wrap .i64 (n6 + 1)) h2 ∧ m (IntKind.wrap .i64 (n6 + 1)) h2 < m n6 h2) (Q (.bool false) h2)) (∃ (I1 : Int → Hp → Prop) (m1 : Int → Hp → Nat), I1 0 h2 ∧ (∀ n11 : Int, ∀ h3 : Hp, I1 n11 h3 → par (n11 < (l1.n : Int)) (∃ b3 o2, (l1.a : Option Addr) = some ⟨b3, o2, none⟩ ∧ ((0 : Int) ≤ n11 ∧ n11 < (l1.n : Int)) ∧ ∃ n12 : Int, h3.at b3 (o2 + n11.toNat * 7) = some (.int .i64 n12) ∧ ∃ n13 : Int, h3.at b3 ((o2 + n11.toNat * 7) + 1) = some (.int .u64 n13) ∧ ∃ n14 : Int, h3.at b3 ((o2 + n11.toNat * 7) + 2) = some (.int .i64 n14) ∧ ∃ n15 : Int, h3.at b3 ((o2 + n11.toNat * 7) + 3) = some (.int .i64 n15) ∧ ∃ n16 : Int, h3.at b3 ((o2 + n11.toNat * 7) + 4) = some (.int .i64 n16) ∧ ∃ s : ByteArray, h3.at b3 ((o2 + n11.toNat * 7) + 5) = some (.string s) ∧ ∃ s1 : ByteArray, h3.at b3 ((o2 + n11.toNat * 7) + 6) = some (.string s1) ∧ ∃ b4 o3, (l4.a : Option Addr) = some ⟨b4, o3, none⟩ ∧ ((0 : Int) ≤ n11 ∧ n11 < (l4.n : Int)) ∧ ∃ n17 : Int, h3.at b4 (o3 + n11.toNat * 7) = some (.int .i64 n17) ∧ ∃ n18 : Int, h3.at b4 ((o3 + n11.toNat * 7) + 1) = some (.int .u64 n18) ∧ ∃ n19 : Int, h3.at b4 ((o3 + n11.toNat * 7) + 2) = some (.int .i64 n19) ∧ ∃ n20 : Int, h3.at b4 ((o3 + n11.toNat * 7) + 3) = some (.int .i64 n20) ∧ ∃ n21 : Int, h3.at b4 ((o3 + n11.toNat * 7) + 4) = some (.int .i64 n21) ∧ ∃ s2 : ByteArray, h3.at b4 ((o3 + n11.toNat * 7) + 5) = some (.string s2) ∧ ∃ s3 : ByteArray, h3.at b4 ((o3 + n11.toNat * 7) + 6) = some (.string s3) ∧ par (([.int .i64 n12, .int .u64 n13, .int .i64 n14, .int .i64 n15, .int .i64 n16, .string s, .string s1] : List Value) = [.int .i64 n17, .int .u64 n18, .int .i64 n19, .int .i64 n20, .int .i64 n21, .string s2, .string s3]) (I1 (IntKind.wrap .i64 (n11 + 1)) h3 ∧ m1 (IntKind.wrap .i64 (n11 + 1)) h3 < m1 n11 h3) (Q (.bool false) h3)) (Q (.bool true) h3))))) (Q (.bool false) h1)) (Q (.bool false) h)) (Q (.bool false) h)) (Q (.bool false) h)) (Q (.bool false) h)) (Q (.bool false) h)
theorem F23.den (V : Value → List Value → PT) (n : Int) (n1 : Int) (n2 : Int) (l : Sl) (l1 : Sl) (l2 : Sl) (n3 : Int) (n4 : Int) (n5 : Int) (l3 : Sl) (l4 : Sl) (l5 : Sl) : denF Try.prog [2, 3] [(60, F60.V)] V [(58, .loop [(5, .int .i64)] []), (122, .loop [(6, .int .i64)] []), (1864, .order [0, 1, 2, 3, 4, 5, 6, 7, 8, 9, 10]), (3912, .order [0, 1, 2, 3, 4, 5, 6, 7, 8, 9, 10])] Try.f23 [.v (.agg ⟨[.int .u64 n, .int .u64 n1, .int .u64 n2, .slice l.a l.n l.c, .slice l1.a l1.n l1.c, .slice l2.a l2.n l2.c]⟩), .v (.agg ⟨[.int .u64 n3, .int .u64 n4, .int .u64 n5, .slice l3.a l3.n l3.c, .slice l4.a l4.n l4.c, .slice l5.a l5.n l5.c]⟩)] = F23.T n n1 n2 l l1 l2 n3 n4 n5 l3 l4 l5 := by kernel_rfl
def F23.V (args : List Value) : PT := match args with
  | [.agg ⟨[.int .u64 n, .int .u64 n1, .int .u64 n2, .slice l_a l_n l_c, .slice l1_a l1_n l1_c, .slice l2_a l2_n l2_c]⟩, .agg ⟨[.int .u64 n3, .int .u64 n4, .int .u64 n5, .slice l3_a l3_n l3_c, .slice l4_a l4_n l4_c, .slice l5_a l5_n l5_c]⟩] => F23.T n n1 n2 ⟨l_a, l_n, l_c⟩ ⟨l1_a, l1_n, l1_c⟩ ⟨l2_a, l2_n, l2_c⟩ n3 n4 n5 ⟨l3_a, l3_n, l3_c⟩ ⟨l4_a, l4_n, l4_c⟩ ⟨l5_a, l5_n, l5_c⟩
  | _ => fun _ _ => False
theorem F23.ok : FOk Try.prog 23 F23.V := by
  refine ⟨⟨_, Try.func23, rfl, rfl⟩, fun args => ?_⟩
  have hG : GOk Try.prog [(60, F60.V)] := GOk.cons F60.ok (GOk.nil)
  have hV : VOk Try.prog noV := noV_ok
  unfold F23.V
  split
  · exact denF_okV hG hV Try.func23 (fun h Q hq => (F23.den _ _ _ _ _ _ _ _ _ _ _ _ _) ▸ hq)
  · exact fun h Q hq => hq.elim
def F78.T (n : Int) : PT := fun h Q =>
  par (n = 108) (Q (.bool true) h) (par (n = 109) (Q (.bool true) h) (par (n = 116) (Q (.bool true) h) (Q (.bool false) h)))
theorem F78.den (V : Value → List Value → PT) (n : Int) : denF Try.prog [] [] V [] Try.f78 [.v (.int .u8 n)] = F78.T n := by kernel_rfl
def F78.V (args : List Value) : PT := match args with
  | [.int .u8 n] => F78.T n
  | _ => fun _ _ => False
theorem F78.ok : FOk Try.prog 78 F78.V := by
  refine ⟨⟨_, Try.func78, rfl, rfl⟩, fun args => ?_⟩
  have hG : GOk Try.prog [] := GOk.nil
  have hV : VOk Try.prog noV := noV_ok
  unfold F78.V
  split
  · exact denF_okV hG hV Try.func78 (fun h Q hq => (F78.den _ _) ▸ hq)
  · exact fun h Q hq => hq.elim
def F47.T (n : Int) (n1 : Int) : PT := fun h Q =>
  F78.T n h fun r h1 => ∃ b : Bool, r = .bool b ∧ parB b (par ((1000000000000 : Int) ≤ n1) (Q (.string (ByteArray.mk #[])) h1) (∀ b1, h1 b1 = none → ∃ cs t, (h1.new b1 (.cells ⟨[.int .u8 63, .int .u8 45, .int .u8 48, .int .u8 48, .int .u8 48, .int .u8 48, .int .u8 48, .int .u8 48, .int .u8 48, .int .u8 48, .int .u8 48, .int .u8 48, .int .u8 48, .int .u8 48]⟩ 5 (0, 0))) b1 = some (.cells cs t (0, 0)) ∧ ∃ b2 o, ((some ⟨b1, 0, none⟩) : Option Addr) = some ⟨b2, o, none⟩ ∧ ((0 : Int) ≤ 0 ∧ 0 < (14 : Int)) ∧ ((h1.new b1 (.cells ⟨[.int .u8 63, .int .u8 45, .int .u8 48, .int .u8 48, .int .u8 48, .int .u8 48, .int .u8 48, .int .u8 48, .int .u8 48, .int .u8 48, .int .u8 48, .int .u8 48, .int .u8 48, .int .u8 48]⟩ 5 (0, 0))).new b1 (.cells cs t (cs.size, cs.size + 1))).canW b2 (o + (0 : Int).toNat) 1 ∧ ∃ (I : Int → Int → Hp → Prop) (m : Int → Int → Hp → Nat), I n1 (IntKind.wrap .i64 ((14 : Int) - 1)) (((h1.new b1 (.cells ⟨[.int .u8 63, .int .u8 45, .int .u8 48, .int .u8 48, .int .u8 48, .int .u8 48, .int .u8 48, .int .u8 48, .int .u8 48, .int .u8 48, .int .u8 48, .int .u8 48, .int .u8 48, .int .u8 48]⟩ 5 (0, 0))).new b1 (.cells cs t (cs.size, cs.size + 1))).wr b2 (o + (0 : Int).toNat) [.int .u8 n]) ∧ (∀ n2 : Int, ∀ n3 : Int, ∀ h2 : Hp, I n2 n3 h2 → par ((0 : Int) < n2) (∃ b3 o1, ((some ⟨b1, 0, none⟩) : Option Addr) = some ⟨b3, o1, none⟩ ∧ ((0 : Int) ≤ n3 ∧ n3 < (14 : Int)) ∧ ∃ n4 : Int, h2.at b3 (o1 + n3.toNat) = some (.int .u8 n4) ∧ (10 : Int) ≠ 0 ∧ ∃ b4 o2, ((some ⟨b1, 0, none⟩) : Option Addr) = some ⟨b4, o2, none⟩ ∧ ((0 : Int) ≤ n3 ∧ n3 < (14 : Int)) ∧ h2.canW b4 (o2 + n3.toNat) 1 ∧ (10 : Int) ≠ 0 ∧ I (IntKind.wrap .u64 (Int.tdiv n2 10)) (IntKind.wrap .i64 (n3 - 1)) (h2.wr b4 (o2 + n3.toNat) [.int .u8 (IntKind.wrap .u8 (n4 + (IntKind.wrap .u8 (Int.tmod n2 10))))]) ∧ m (IntKind.wrap .u64 (Int.tdiv n2 10)) (IntKind.wrap .i64 (n3 - 1)) (h2.wr b4 (o2 + n3.toNat) [.int .u8 (IntKind.wrap .u8 (n4 + (IntKind.wrap .u8 (Int.tmod n2 10))))]) < m n2 n3 h2) (∃ s : ByteArray, h2.row (some ⟨b1, 0, none⟩) 14 (bytesV s) ∧ Q (.string s) h2)))) (Q (.string (ByteArray.mk #[])) h1)
theorem F47.den (V : Value → List Value → PT) (n : Int) (n1 : Int) : denF Try.prog [] [(78, F78.V)] V [(250, .loop [(1, .int .u64), (6, .int .i64)] [])] Try.f47 [.v (.int .u8 n), .v (.int .u64 n1)] = F47.T n n1 := by kernel_rfl
def F47.V (args : List Value) : PT := match args with
  | [.int .u8 n, .int .u64 n1] => F47.T n n1
  | _ => fun _ _ => False
theorem F47.ok : FOk Try.prog 47 F47.V := by
  refine ⟨⟨_, Try.func47, rfl, rfl⟩, fun args => ?_⟩
  have hG : GOk Try.prog [(78, F78.V)] := GOk.cons F78.ok (GOk.nil)
  have hV : VOk Try.prog noV := noV_ok
  unfold F47.V
  split
  · exact denF_okV hG hV Try.func47 (fun h Q hq => (F47.den _ _ _) ▸ hq)
  · exact fun h Q hq => hq.elim
def F50.T (n : Int) (n1 : Int) (n2 : Int) (l : Sl) (l1 : Sl) (l2 : Sl) : PT := fun h Q =>
  ∃ (I : Int → Hp → Prop) (m : Int → Hp → Nat), I 0 h ∧ (∀ n3 : Int, ∀ h1 : Hp, I n3 h1 → par (n3 < (l.n : Int)) (∃ b o, (l.a : Option Addr) = some ⟨b, o, none⟩ ∧ ((0 : Int) ≤ n3 ∧ n3 < (l.n : Int)) ∧ ∃ n4 : Int, h1.at b (o + n3.toNat * 2) = some (.int .i64 n4) ∧ ∃ n5 : Int, h1.at b ((o + n3.toNat * 2) + 1) = some (.int .u64 n5) ∧ par (n4 < 0) (Q (.bool false) h1) (par ((5 : Int) ≤ n4) (Q (.bool false) h1) (I (IntKind.wrap .i64 (n3 + 1)) h1 ∧ m (IntKind.wrap .i64 (n3 + 1)) h1 < m n3 h1))) (∃ (I1 : Int → Hp → Prop) (m1 : Int → Hp → Nat), I1 0 h1 ∧ (∀ n6 : Int, ∀ h2 : Hp, I1 n6 h2 → par (n6 < (l1.n : Int)) (∃ b1 o1, (l1.a : Option Addr) = some ⟨b1, o1, none⟩ ∧ ((0 : Int) ≤ n6 ∧ n6 < (l1.n : Int)) ∧ ∃ n7 : Int, h2.at b1 (o1 + n6.toNat * 7) = some (.int .i64 n7) ∧ ∃ n8 : Int, h2.at b1 ((o1 + n6.toNat * 7) + 1) = some (.int .u64 n8) ∧ ∃ n9 : Int, h2.at b1 ((o1 + n6.toNat * 7) + 2) = some (.int .i64 n9) ∧ ∃ n10 : Int, h2.at b1 ((o1 + n6.toNat * 7) + 3) = some (.int .i64 n10) ∧ ∃ n11 : Int, h2.at b1 ((o1 + n6.toNat * 7) + 4) = some (.int .i64 n11) ∧ ∃ s : ByteArray, h2.at b1 ((o1 + n6.toNat * 7) + 5) = some (.string s) ∧ ∃ s1 : ByteArray, h2.at b1 ((o1 + n6.toNat * 7) + 6) = some (.string s1) ∧ par (n7 < 0) (Q (.bool false) h2) (par ((5 : Int) ≤ n7) (Q (.bool false) h2) (par ((iMin (iMin n9 n10) n11) < 0) (Q (.bool false) h2) (par ((64 : Int) < (iMax (s.size : Int) (s1.size : Int))) (Q (.bool false) h2) (I1 (IntKind.wrap .i64 (n6 + 1)) h2 ∧ m1 (IntKind.wrap .i64 (n6 + 1)) h2 < m1 n6 h2))))) (∃ (I2 : Int → Hp → Prop) (m2 : Int → Hp → Nat), I2 0 h2 ∧ (∀ n12 : Int, ∀ h3 : Hp, I2 n12 h3 → par (n12 < (l2.n : Int)) (∃ b2 o2, (l2.a : Option Addr) = some ⟨b2, o2, none⟩ ∧ ((0 : Int) ≤ n12 ∧ n12 < (l2.n : Int)) ∧ ∃ s2 : ByteArray, h3.at b2 (o2 + n12.toNat) = some (.string s2) ∧ par ((64 : Int) < (s2.size : Int)) (Q (.bool false) h3) (I2 (IntKind.wrap .i64 (n12 + 1)) h3 ∧ m2 (IntKind.wrap .i64 (n12 + 1)) h3 < m2 n12 h3)) (par ((l2.n : Int) ≤ 5) (Q (.bool true) h3) (Q (.bool false) h3)))))))
theorem F50.den (V : Value → List Value → PT) (n : Int) (n1 : Int) (n2 : Int) (l : Sl) (l1 : Sl) (l2 : Sl) : denF Try.prog [1, 4, 6, 7] [] V [(26, .loop [(13, .int .i64)] []), (58, .loop [(29, .int .i64)] []), (122, .loop [(67, .int .i64)] [])] Try.f50 [.v (.agg ⟨[.int .u64 n, .int .u64 n1, .int .u64 n2, .slice l.a l.n l.c, .slice l1.a l1.n l1.c, .slice l2.a l2.n l2.c]⟩)] = F50.T n n1 n2 l l1 l2 := by kernel_rfl
def F50.V (args : List Value) : PT := match args with
  | [.agg ⟨[.int .u64 n, .int .u64 n1, .int .u64 n2, .slice l_a l_n l_c, .slice l1_a l1_n l1_c, .slice l2_a l2_n l2_c]⟩] => F50.T n n1 n2 ⟨l_a, l_n, l_c⟩ ⟨l1_a, l1_n, l1_c⟩ ⟨l2_a, l2_n, l2_c⟩
  | _ => fun _ _ => False
theorem F50.ok : FOk Try.prog 50 F50.V := by
  refine ⟨⟨_, Try.func50, rfl, rfl⟩, fun args => ?_⟩
  have hG : GOk Try.prog [] := GOk.nil
  have hV : VOk Try.prog noV := noV_ok
  unfold F50.V
  split
  · exact denF_okV hG hV Try.func50 (fun h Q hq => (F50.den _ _ _ _ _ _ _) ▸ hq)
  · exact fun h Q hq => hq.elim
def F51.Tt (n : Int) (n1 : Int) (n2 : Int) (l : Sl) (l1 : Sl) (l2 : Sl) : PT := fun h Q =>
  ∀ b, h b = none → ∃ b1 o, ((some ⟨b, 0, none⟩) : Option Addr) = some ⟨b1, o, none⟩ ∧ ((0 : Int) ≤ 0 ∧ 0 < (1 : Int)) ∧ (h.new b (.cells ⟨[.int .u8 0]⟩ 5 (0, 0))).canW b1 (o + (0 : Int).toNat) 1 ∧ ∀ b2, ((h.new b (.cells ⟨[.int .u8 0]⟩ 5 (0, 0))).wr b1 (o + (0 : Int).toNat) [.int .u8 1]) b2 = none → F80.T ⟨(some ⟨b, 0, none⟩), 1, 1⟩ ⟨(some ⟨b2, 0, none⟩), 4, 4⟩ (((h.new b (.cells ⟨[.int .u8 0]⟩ 5 (0, 0))).wr b1 (o + (0 : Int).toNat) [.int .u8 1]).new b2 (.cells ⟨[.int .u64 n, .int .u64 n1, .int .u64 n2, .int .u64 (IntKind.wrap .u64 (l.n : Int))]⟩ 55 (0, 0))) fun r h1 => ∃ l3 : Sl, r = .slice l3.a l3.n l3.c ∧ ∃ (I : Sl → Int → Hp → Prop) (m : Sl → Int → Hp → Nat), I l3 0 h1 ∧ (∀ l4 : Sl, ∀ n3 : Int, ∀ h2 : Hp, I l4 n3 h2 → par (n3 < (l.n : Int)) (∃ b3 o1, (l.a : Option Addr) = some ⟨b3, o1, none⟩ ∧ ((0 : Int) ≤ n3 ∧ n3 < (l.n : Int)) ∧ ∃ n4 : Int, h2.at b3 (o1 + n3.toNat * 2) = some (.int .i64 n4) ∧ ∃ n5 : Int, h2.at b3 ((o1 + n3.toNat * 2) + 1) = some (.int .u64 n5) ∧ ∀ b4, h2 b4 = none → F80.T l4 ⟨(some ⟨b4, 0, none⟩), 2, 2⟩ (h2.new b4 (.cells ⟨[.int .u64 (IntKind.wrap .u64 n4), .int .u64 n5]⟩ 55 (0, 0))) fun r1 h3 => ∃ l5 : Sl, r1 = .slice l5.a l5.n l5.c ∧ I l5 (IntKind.wrap .i64 (n3 + 1)) h3 ∧ m l5 (IntKind.wrap .i64 (n3 + 1)) h3 < m l4 n3 h2) (∀ b5, h2 b5 = none → F80.T l4 ⟨(some ⟨b5, 0, none⟩), 1, 1⟩ (h2.new b5 (.cells ⟨[.int .u64 (IntKind.wrap .u64 (l1.n : Int))]⟩ 55 (0, 0))) fun r2 h4 => ∃ l6 : Sl, r2 = .slice l6.a l6.n l6.c ∧ ∃ (I1 : Sl → Int → Hp → Prop) (m1 : Sl → Int → Hp → Nat), I1 l6 0 h4 ∧ (∀ l7 : Sl, ∀ n6 : Int, ∀ h5 : Hp, I1 l7 n6 h5 → par (n6 < (l1.n : Int)) (∃ b6 o2, (l1.a : Option Addr) = some ⟨b6, o2, none⟩ ∧ ((0 : Int) ≤ n6 ∧ n6 < (l1.n : Int)) ∧ ∃ n7 : Int, h5.at b6 (o2 + n6.toNat * 7) = some (.int .i64 n7) ∧ ∃ n8 : Int, h5.at b6 ((o2 + n6.toNat * 7) + 1) = some (.int .u64 n8) ∧ ∃ n9 : Int, h5.at b6 ((o2 + n6.toNat * 7) + 2) = some (.int .i64 n9) ∧ ∃ n10 : Int, h5.at b6 ((o2 + n6.toNat * 7) + 3) = some (.int .i64 n10) ∧ ∃ n11 : Int, h5.at b6 ((o2 + n6.toNat * 7) + 4) = some (.int .i64 n11) ∧ ∃ s : ByteArray, h5.at b6 ((o2 + n6.toNat * 7) + 5) = some (.string s) ∧ ∃ s1 : ByteArray, h5.at b6 ((o2 + n6.toNat * 7) + 6) = some (.string s1) ∧ ∀ b7, h5 b7 = none → F80.T l7 ⟨(some ⟨b7, 0, none⟩), 5, 5⟩ (h5.new b7 (.cells ⟨[.int .u64 (IntKind.wrap .u64 n7), .int .u64 n8, .int .u64 (IntKind.wrap .u64 n9), .int .u64 (IntKind.wrap .u64 n10), .int .u64 (IntKind.wrap .u64 n11)]⟩ 55 (0, 0))) fun r3 h6 => ∃ l8 : Sl, r3 = .slice l8.a l8.n l8.c ∧ F81.T l8 s h6 fun r4 h7 => ∃ l9 : Sl, r4 = .slice l9.a l9.n l9.c ∧ F81.T l9 s1 h7 fun r5 h8 => ∃ l10 : Sl, r5 = .slice l10.a l10.n l10.c ∧ I1 l10 (IntKind.wrap .i64 (n6 + 1)) h8 ∧ m1 l10 (IntKind.wrap .i64 (n6 + 1)) h8 < m1 l7 n6 h5) (∀ b8, h5 b8 = none → F80.T l7 ⟨(some ⟨b8, 0, none⟩), 1, 1⟩ (h5.new b8 (.cells ⟨[.int .u64 (IntKind.wrap .u64 (l2.n : Int))]⟩ 55 (0, 0))) fun r6 h9 => ∃ l11 : Sl, r6 = .slice l11.a l11.n l11.c ∧ ∃ (I2 : Sl → Int → Hp → Prop) (m2 : Sl → Int → Hp → Nat), I2 l11 0 h9 ∧ (∀ l12 : Sl, ∀ n12 : Int, ∀ h10 : Hp, I2 l12 n12 h10 → par (n12 < (l2.n : Int)) (∃ b9 o3, (l2.a : Option Addr) = some ⟨b9, o3, none⟩ ∧ ((0 : Int) ≤ n12 ∧ n12 < (l2.n : Int)) ∧ ∃ s2 : ByteArray, h10.at b9 (o3 + n12.toNat) = some (.string s2) ∧ F81.T l12 s2 h10 fun r7 h11 => ∃ l13 : Sl, r7 = .slice l13.a l13.n l13.c ∧ I2 l13 (IntKind.wrap .i64 (n12 + 1)) h11 ∧ m2 l13 (IntKind.wrap .i64 (n12 + 1)) h11 < m2 l12 n12 h10) (Q (.slice l12.a l12.n l12.c) h10))))))
theorem F51.dent (V : Value → List Value → PT) (n : Int) (n1 : Int) (n2 : Int) (l : Sl) (l1 : Sl) (l2 : Sl) : denF Try.prog [2, 7, 9, 10] [(80, F80.V), (81, F81.V)] V [(250, .loop [(5, .sl), (33, .int .i64)] []), (1018, .loop [(5, .sl), (56, .int .i64)] []), (4090, .loop [(5, .sl), (97, .int .i64)] []), (260711, .order [0, 1, 2, 4, 5, 3, 6, 7])] Try.f51 [.v (.agg ⟨[.int .u64 n, .int .u64 n1, .int .u64 n2, .slice l.a l.n l.c, .slice l1.a l1.n l1.c, .slice l2.a l2.n l2.c]⟩), .v (.bool true)] = F51.Tt n n1 n2 l l1 l2 := by kernel_rfl
def F51.Tf (n : Int) (n1 : Int) (n2 : Int) (l : Sl) (l1 : Sl) (l2 : Sl) : PT := fun h Q =>
  ∀ b, h b = none → ∀ b1, (h.new b (.cells ⟨[.int .u8 0]⟩ 5 (0, 0))) b1 = none → F80.T ⟨(some ⟨b, 0, none⟩), 1, 1⟩ ⟨(some ⟨b1, 0, none⟩), 4, 4⟩ ((h.new b (.cells ⟨[.int .u8 0]⟩ 5 (0, 0))).new b1 (.cells ⟨[.int .u64 n, .int .u64 n1, .int .u64 n2, .int .u64 (IntKind.wrap .u64 (l.n : Int))]⟩ 55 (0, 0))) fun r h1 => ∃ l3 : Sl, r = .slice l3.a l3.n l3.c ∧ ∃ (I : Sl → Int → Hp → Prop) (m : Sl → Int → Hp → Nat), I l3 0 h1 ∧ (∀ l4 : Sl, ∀ n3 : Int, ∀ h2 : Hp, I l4 n3 h2 → par (n3 < (l.n : Int)) (∃ b2 o, (l.a : Option Addr) = some ⟨b2, o, none⟩ ∧ ((0 : Int) ≤ n3 ∧ n3 < (l.n : Int)) ∧ ∃ n4 : Int, h2.at b2 (o + n3.toNat * 2) = some (.int .i64 n4) ∧ ∃ n5 : Int, h2.at b2 ((o + n3.toNat * 2) + 1) = some (.int .u64 n5) ∧ ∀ b3, h2 b3 = none → F80.T l4 ⟨(some ⟨b3, 0, none⟩), 2, 2⟩ (h2.new b3 (.cells ⟨[.int .u64 (IntKind.wrap .u64 n4), .int .u64 n5]⟩ 55 (0, 0))) fun r1 h3 => ∃ l5 : Sl, r1 = .slice l5.a l5.n l5.c ∧ I l5 (IntKind.wrap .i64 (n3 + 1)) h3 ∧ m l5 (IntKind.wrap .i64 (n3 + 1)) h3 < m l4 n3 h2) (∀ b4, h2 b4 = none → F80.T l4 ⟨(some ⟨b4, 0, none⟩), 1, 1⟩ (h2.new b4 (.cells ⟨[.int .u64 (IntKind.wrap .u64 (l1.n : Int))]⟩ 55 (0, 0))) fun r2 h4 => ∃ l6 : Sl, r2 = .slice l6.a l6.n l6.c ∧ ∃ (I1 : Sl → Int → Hp → Prop) (m1 : Sl → Int → Hp → Nat), I1 l6 0 h4 ∧ (∀ l7 : Sl, ∀ n6 : Int, ∀ h5 : Hp, I1 l7 n6 h5 → par (n6 < (l1.n : Int)) (∃ b5 o1, (l1.a : Option Addr) = some ⟨b5, o1, none⟩ ∧ ((0 : Int) ≤ n6 ∧ n6 < (l1.n : Int)) ∧ ∃ n7 : Int, h5.at b5 (o1 + n6.toNat * 7) = some (.int .i64 n7) ∧ ∃ n8 : Int, h5.at b5 ((o1 + n6.toNat * 7) + 1) = some (.int .u64 n8) ∧ ∃ n9 : Int, h5.at b5 ((o1 + n6.toNat * 7) + 2) = some (.int .i64 n9) ∧ ∃ n10 : Int, h5.at b5 ((o1 + n6.toNat * 7) + 3) = some (.int .i64 n10) ∧ ∃ n11 : Int, h5.at b5 ((o1 + n6.toNat * 7) + 4) = some (.int .i64 n11) ∧ ∃ s : ByteArray, h5.at b5 ((o1 + n6.toNat * 7) + 5) = some (.string s) ∧ ∃ s1 : ByteArray, h5.at b5 ((o1 + n6.toNat * 7) + 6) = some (.string s1) ∧ ∀ b6, h5 b6 = none → F80.T l7 ⟨(some ⟨b6, 0, none⟩), 5, 5⟩ (h5.new b6 (.cells ⟨[.int .u64 (IntKind.wrap .u64 n7), .int .u64 n8, .int .u64 (IntKind.wrap .u64 n9), .int .u64 (IntKind.wrap .u64 n10), .int .u64 (IntKind.wrap .u64 n11)]⟩ 55 (0, 0))) fun r3 h6 => ∃ l8 : Sl, r3 = .slice l8.a l8.n l8.c ∧ F81.T l8 s h6 fun r4 h7 => ∃ l9 : Sl, r4 = .slice l9.a l9.n l9.c ∧ F81.T l9 s1 h7 fun r5 h8 => ∃ l10 : Sl, r5 = .slice l10.a l10.n l10.c ∧ I1 l10 (IntKind.wrap .i64 (n6 + 1)) h8 ∧ m1 l10 (IntKind.wrap .i64 (n6 + 1)) h8 < m1 l7 n6 h5) (∀ b7, h5 b7 = none → F80.T l7 ⟨(some ⟨b7, 0, none⟩), 1, 1⟩ (h5.new b7 (.cells ⟨[.int .u64 (IntKind.wrap .u64 (l2.n : Int))]⟩ 55 (0, 0))) fun r6 h9 => ∃ l11 : Sl, r6 = .slice l11.a l11.n l11.c ∧ ∃ (I2 : Sl → Int → Hp → Prop) (m2 : Sl → Int → Hp → Nat), I2 l11 0 h9 ∧ (∀ l12 : Sl, ∀ n12 : Int, ∀ h10 : Hp, I2 l12 n12 h10 → par (n12 < (l2.n : Int)) (∃ b8 o2, (l2.a : Option Addr) = some ⟨b8, o2, none⟩ ∧ ((0 : Int) ≤ n12 ∧ n12 < (l2.n : Int)) ∧ ∃ s2 : ByteArray, h10.at b8 (o2 + n12.toNat) = some (.string s2) ∧ F81.T l12 s2 h10 fun r7 h11 => ∃ l13 : Sl, r7 = .slice l13.a l13.n l13.c ∧ I2 l13 (IntKind.wrap .i64 (n12 + 1)) h11 ∧ m2 l13 (IntKind.wrap .i64 (n12 + 1)) h11 < m2 l12 n12 h10) (Q (.slice l12.a l12.n l12.c) h10))))))
theorem F51.denf (V : Value → List Value → PT) (n : Int) (n1 : Int) (n2 : Int) (l : Sl) (l1 : Sl) (l2 : Sl) : denF Try.prog [2, 7, 9, 10] [(80, F80.V), (81, F81.V)] V [(250, .loop [(5, .sl), (33, .int .i64)] []), (1018, .loop [(5, .sl), (56, .int .i64)] []), (4090, .loop [(5, .sl), (97, .int .i64)] []), (260711, .order [0, 1, 2, 4, 5, 3, 6, 7])] Try.f51 [.v (.agg ⟨[.int .u64 n, .int .u64 n1, .int .u64 n2, .slice l.a l.n l.c, .slice l1.a l1.n l1.c, .slice l2.a l2.n l2.c]⟩), .v (.bool false)] = F51.Tf n n1 n2 l l1 l2 := by kernel_rfl
def F51.V (args : List Value) : PT := match args with
  | [.agg ⟨[.int .u64 n, .int .u64 n1, .int .u64 n2, .slice l_a l_n l_c, .slice l1_a l1_n l1_c, .slice l2_a l2_n l2_c]⟩, .bool true] => F51.Tt n n1 n2 ⟨l_a, l_n, l_c⟩ ⟨l1_a, l1_n, l1_c⟩ ⟨l2_a, l2_n, l2_c⟩
  | [.agg ⟨[.int .u64 n, .int .u64 n1, .int .u64 n2, .slice l_a l_n l_c, .slice l1_a l1_n l1_c, .slice l2_a l2_n l2_c]⟩, .bool false] => F51.Tf n n1 n2 ⟨l_a, l_n, l_c⟩ ⟨l1_a, l1_n, l1_c⟩ ⟨l2_a, l2_n, l2_c⟩
  | _ => fun _ _ => False
theorem F51.ok : FOk Try.prog 51 F51.V := by
  refine ⟨⟨_, Try.func51, rfl, rfl⟩, fun args => ?_⟩
  have hG : GOk Try.prog [(80, F80.V), (81, F81.V)] := GOk.cons F80.ok (GOk.cons F81.ok (GOk.nil))
  have hV : VOk Try.prog noV := noV_ok
  unfold F51.V
  split
  · exact denF_okV hG hV Try.func51 (fun h Q hq => (F51.dent _ _ _ _ _ _ _) ▸ hq)
  · exact denF_okV hG hV Try.func51 (fun h Q hq => (F51.denf _ _ _ _ _ _ _) ▸ hq)
  · exact fun h Q hq => hq.elim
def F18.T (n : Int) (n1 : Int) (n2 : Int) (l : Sl) (l1 : Sl) (l2 : Sl) : PT := fun h Q =>
  F50.T n n1 n2 l l1 l2 h fun r h1 => ∃ b : Bool, r = .bool b ∧ parB b (∃ (I : Sl → Int → Int → Int → Sl → Sl → Sl → Hp → Prop) (m : Sl → Int → Int → Int → Sl → Sl → Sl → Hp → Nat), I ⟨none, 0, 0⟩ n n1 n2 l l1 l2 h1 ∧ (∀ l3 : Sl, ∀ n3 : Int, ∀ n4 : Int, ∀ n5 : Int, ∀ l4 : Sl, ∀ l5 : Sl, ∀ l6 : Sl, ∀ h2 : Hp, I l3 n3 n4 n5 l4 l5 l6 h2 → Sl.okCut l4 0 (iMin (l4.n : Int) 256) (iMin (l4.n : Int) 256) ∧ Sl.okCut l5 0 (iMin (l5.n : Int) (IntKind.wrap .i64 (256 - (iMin (l4.n : Int) 256)))) (iMin (l5.n : Int) (IntKind.wrap .i64 (256 - (iMin (l4.n : Int) 256)))) ∧ Sl.okCut l4 (iMin (l4.n : Int) 256) (l4.n : Int) (l4.c : Int) ∧ Sl.okCut l5 (iMin (l5.n : Int) (IntKind.wrap .i64 (256 - (iMin (l4.n : Int) 256)))) (l5.n : Int) (l5.c : Int) ∧ par ((IntKind.wrap .i64 (((Sl.cut l4 2 (iMin (l4.n : Int) 256) (l4.n : Int) (l4.c : Int)).n : Int) + ((Sl.cut l5 7 (iMin (l5.n : Int) (IntKind.wrap .i64 (256 - (iMin (l4.n : Int) 256)))) (l5.n : Int) (l5.c : Int)).n : Int))) = 0) (F51.Tt n3 n4 n5 (Sl.cut l4 2 0 (iMin (l4.n : Int) 256) (iMin (l4.n : Int) 256)) (Sl.cut l5 7 0 (iMin (l5.n : Int) (IntKind.wrap .i64 (256 - (iMin (l4.n : Int) 256)))) (iMin (l5.n : Int) (IntKind.wrap .i64 (256 - (iMin (l4.n : Int) 256))))) l6 h2 fun r1 h3 => ∃ l7 : Sl, r1 = .slice l7.a l7.n l7.c ∧ appendD l3 25 1 24 [.slice none 0 0] 1 [.slice l7.a l7.n l7.c] h3 fun l8 h4 => Q (.slice l8.a l8.n l8.c) h4) (F51.Tf n3 n4 n5 (Sl.cut l4 2 0 (iMin (l4.n : Int) 256) (iMin (l4.n : Int) 256)) (Sl.cut l5 7 0 (iMin (l5.n : Int) (IntKind.wrap .i64 (256 - (iMin (l4.n : Int) 256)))) (iMin (l5.n : Int) (IntKind.wrap .i64 (256 - (iMin (l4.n : Int) 256))))) ⟨none, 0, 0⟩ h2 fun r2 h5 => ∃ l9 : Sl, r2 = .slice l9.a l9.n l9.c ∧ appendD l3 25 1 24 [.slice none 0 0] 1 [.slice l9.a l9.n l9.c] h5 fun l10 h6 => I l10 n3 n4 n5 (Sl.cut l4 2 (iMin (l4.n : Int) 256) (l4.n : Int) (l4.c : Int)) (Sl.cut l5 7 (iMin (l5.n : Int) (IntKind.wrap .i64 (256 - (iMin (l4.n : Int) 256)))) (l5.n : Int) (l5.c : Int)) l6 h6 ∧ m l10 n3 n4 n5 (Sl.cut l4 2 (iMin (l4.n : Int) 256) (l4.n : Int) (l4.c : Int)) (Sl.cut l5 7 (iMin (l5.n : Int) (IntKind.wrap .i64 (256 - (iMin (l4.n : Int) 256)))) (l5.n : Int) (l5.c : Int)) l6 h6 < m l3 n3 n4 n5 l4 l5 l6 h2))) (Q (.slice none 0 0) h1)
theorem F18.den (V : Value → List Value → PT) (n : Int) (n1 : Int) (n2 : Int) (l : Sl) (l1 : Sl) (l2 : Sl) : denF Try.prog [1, 4, 54, 60] [(50, F50.V), (51, F51.V)] V [(30, .loop [(3, .sl)] [(1, [.int .u64, .int .u64, .int .u64, .sl, .sl, .sl])]), (1934, .order [0, 1, 2, 3, 4, 5, 6, 7, 8, 9, 10, 11, 12, 13]), (3870, .order [0, 1, 2, 3, 4, 5, 6, 7, 8, 9, 10, 11])] Try.f18 [.v (.agg ⟨[.int .u64 n, .int .u64 n1, .int .u64 n2, .slice l.a l.n l.c, .slice l1.a l1.n l1.c, .slice l2.a l2.n l2.c]⟩)] = F18.T n n1 n2 l l1 l2 := by kernel_rfl
def F18.V (args : List Value) : PT := match args with
  | [.agg ⟨[.int .u64 n, .int .u64 n1, .int .u64 n2, .slice l_a l_n l_c, .slice l1_a l1_n l1_c, .slice l2_a l2_n l2_c]⟩] => F18.T n n1 n2 ⟨l_a, l_n, l_c⟩ ⟨l1_a, l1_n, l1_c⟩ ⟨l2_a, l2_n, l2_c⟩
  | _ => fun _ _ => False
theorem F18.ok : FOk Try.prog 18 F18.V := by
  refine ⟨⟨_, Try.func18, rfl, rfl⟩, fun args => ?_⟩
  have hG : GOk Try.prog [(50, F50.V), (51, F51.V)] := GOk.cons F50.ok (GOk.cons F51.ok (GOk.nil))
  have hV : VOk Try.prog noV := noV_ok
  unfold F18.V
  split
  · exact denF_okV hG hV Try.func18 (fun h Q hq => (F18.den _ _ _ _ _ _ _) ▸ hq)
  · exact fun h Q hq => hq.elim
def F31.T (l : Sl) : PT := fun h Q =>
  par ((l.n : Int) = 0) (Q (.tuple ⟨[.agg ⟨[.int .u64 0, .int .u64 0, .int .u64 0, .slice none 0 0, .slice none 0 0, .slice none 0 0]⟩, .bool false, .bool false]⟩) h) (∃ b o, (l.a : Option Addr) = some ⟨b, o, none⟩ ∧ ((0 : Int) ≤ 0 ∧ 0 < (l.n : Int)) ∧ ∃ n : Int, h.at b (o + (0 : Int).toNat) = some (.int .u8 n) ∧ par ((1 : Int) < n) (Q (.tuple ⟨[.agg ⟨[.int .u64 0, .int .u64 0, .int .u64 0, .slice none 0 0, .slice none 0 0, .slice none 0 0]⟩, .bool false, .bool false]⟩) h) (Sl.okCut l 1 (l.n : Int) (l.c : Int) ∧ ∀ b1, h b1 = none → F72.T (some ⟨b1, 0, none⟩) (h.new b1 (.cells ⟨[.slice (Sl.cut l 1 1 (l.n : Int) (l.c : Int)).a (Sl.cut l 1 1 (l.n : Int) (l.c : Int)).n (Sl.cut l 1 1 (l.n : Int) (l.c : Int)).c, .bool false]⟩ 125 (0, 0))) fun r h1 => ∃ n1 : Int, r = .int .u64 n1 ∧ F72.T (some ⟨b1, 0, none⟩) h1 fun r1 h2 => ∃ n2 : Int, r1 = .int .u64 n2 ∧ F72.T (some ⟨b1, 0, none⟩) h2 fun r2 h3 => ∃ n3 : Int, r2 = .int .u64 n3 ∧ F72.T (some ⟨b1, 0, none⟩) h3 fun r3 h4 => ∃ n4 : Int, r3 = .int .u64 n4 ∧ ∃ (I : Int → Int → Int → Int → Sl → Sl → Sl → Hp → Prop) (m : Int → Int → Int → Int → Sl → Sl → Sl → Hp → Nat), I n4 n1 n2 n3 ⟨none, 0, 0⟩ ⟨none, 0, 0⟩ ⟨none, 0, 0⟩ h4 ∧ (∀ n5 : Int, ∀ n6 : Int, ∀ n7 : Int, ∀ n8 : Int, ∀ l1 : Sl, ∀ l2 : Sl, ∀ l3 : Sl, ∀ h5 : Hp, I n5 n6 n7 n8 l1 l2 l3 h5 → par ((0 : Int) < n5) (F73.T (some ⟨b1, 0, none⟩) 4 h5 fun r4 h6 => ∃ n9 : Int, r4 = .int .i64 n9 ∧ F72.T (some ⟨b1, 0, none⟩) h6 fun r5 h7 => ∃ n10 : Int, r5 = .int .u64 n10 ∧ appendD l1 89 2 16 [.int .i64 0, .int .u64 0] 1 [.int .i64 n9, .int .u64 n10] h7 fun l4 h8 => ∃ b2 : Bool, h8.at b1 1 = some (.bool b2) ∧ parB b2 (Q (.tuple ⟨[.agg ⟨[.int .u64 0, .int .u64 0, .int .u64 0, .slice none 0 0, .slice none 0 0, .slice none 0 0]⟩, .bool false, .bool false]⟩) h8) (I (IntKind.wrap .u64 (n5 - 1)) n6 n7 n8 l4 l2 l3 h8 ∧ m (IntKind.wrap .u64 (n5 - 1)) n6 n7 n8 l4 l2 l3 h8 < m n5 n6 n7 n8 l1 l2 l3 h5)) (F72.T (some ⟨b1, 0, none⟩) h5 fun r6 h9 => ∃ n11 : Int, r6 = .int .u64 n11 ∧ ∃ (I1 : Int → Int → Int → Int → Sl → Sl → Sl → Hp → Prop) (m1 : Int → Int → Int → Int → Sl → Sl → Sl → Hp → Nat), I1 n11 n6 n7 n8 l1 l2 l3 h9 ∧ (∀ n12 : Int, ∀ n13 : Int, ∀ n14 : Int, ∀ n15 : Int, ∀ l5 : Sl, ∀ l6 : Sl, ∀ l7 : Sl, ∀ h10 : Hp, I1 n12 n13 n14 n15 l5 l6 l7 h10 → par ((0 : Int) < n12) (F73.T (some ⟨b1, 0, none⟩) 4 h10 fun r7 h11 => ∃ n16 : Int, r7 = .int .i64 n16 ∧ F72.T (some ⟨b1, 0, none⟩) h11 fun r8 h12 => ∃ n17 : Int, r8 = .int .u64 n17 ∧ F73.T (some ⟨b1, 0, none⟩) 9223372036854775807 h12 fun r9 h13 => ∃ n18 : Int, r9 = .int .i64 n18 ∧ F73.T (some ⟨b1, 0, none⟩) 9223372036854775807 h13 fun r10 h14 => ∃ n19 : Int, r10 = .int .i64 n19 ∧ F73.T (some ⟨b1, 0, none⟩) 9223372036854775807 h14 fun r11 h15 => ∃ n20 : Int, r11 = .int .i64 n20 ∧ F74.T (some ⟨b1, 0, none⟩) h15 fun r12 h16 => ∃ s : ByteArray, r12 = .string s ∧ F74.T (some ⟨b1, 0, none⟩) h16 fun r13 h17 => ∃ s1 : ByteArray, r13 = .string s1 ∧ appendD l6 87 7 72 [.int .i64 0, .int .u64 0, .int .i64 0, .int .i64 0, .int .i64 0, .string (ByteArray.mk #[]), .string (ByteArray.mk #[])] 1 [.int .i64 n16, .int .u64 n17, .int .i64 n18, .int .i64 n19, .int .i64 n20, .string s, .string s1] h17 fun l8 h18 => ∃ b3 : Bool, h18.at b1 1 = some (.bool b3) ∧ parB b3 (Q (.tuple ⟨[.agg ⟨[.int .u64 0, .int .u64 0, .int .u64 0, .slice none 0 0, .slice none 0 0, .slice none 0 0]⟩, .bool false, .bool false]⟩) h18) (I1 (IntKind.wrap .u64 (n12 - 1)) n13 n14 n15 l5 l8 l7 h18 ∧ m1 (IntKind.wrap .u64 (n12 - 1)) n13 n14 n15 l5 l8 l7 h18 < m1 n12 n13 n14 n15 l5 l6 l7 h10)) (F72.T (some ⟨b1, 0, none⟩) h10 fun r14 h19 => ∃ n21 : Int, r14 = .int .u64 n21 ∧ ∃ (I2 : Int → Int → Int → Int → Sl → Sl → Sl → Hp → Prop) (m2 : Int → Int → Int → Int → Sl → Sl → Sl → Hp → Nat), I2 n21 n13 n14 n15 l5 l6 l7 h19 ∧ (∀ n22 : Int, ∀ n23 : Int, ∀ n24 : Int, ∀ n25 : Int, ∀ l9 : Sl, ∀ l10 : Sl, ∀ l11 : Sl, ∀ h20 : Hp, I2 n22 n23 n24 n25 l9 l10 l11 h20 → par ((0 : Int) < n22) (F74.T (some ⟨b1, 0, none⟩) h20 fun r15 h21 => ∃ s2 : ByteArray, r15 = .string s2 ∧ appendD l11 9 1 16 [.string (ByteArray.mk #[])] 1 [.string s2] h21 fun l12 h22 => ∃ b4 : Bool, h22.at b1 1 = some (.bool b4) ∧ parB b4 (Q (.tuple ⟨[.agg ⟨[.int .u64 0, .int .u64 0, .int .u64 0, .slice none 0 0, .slice none 0 0, .slice none 0 0]⟩, .bool false, .bool false]⟩) h22) (I2 (IntKind.wrap .u64 (n22 - 1)) n23 n24 n25 l9 l10 l12 h22 ∧ m2 (IntKind.wrap .u64 (n22 - 1)) n23 n24 n25 l9 l10 l12 h22 < m2 n22 n23 n24 n25 l9 l10 l11 h20)) (∃ b5 : Bool, h20.at b1 1 = some (.bool b5) ∧ parB b5 (Q (.tuple ⟨[.agg ⟨[.int .u64 0, .int .u64 0, .int .u64 0, .slice none 0 0, .slice none 0 0, .slice none 0 0]⟩, .bool false, .bool false]⟩) h20) (∃ l13 : Sl, h20.at b1 0 = some (.slice l13.a l13.n l13.c) ∧ par ((l13.n : Int) = 0) (∃ b6 o1, (l.a : Option Addr) = some ⟨b6, o1, none⟩ ∧ ((0 : Int) ≤ 0 ∧ 0 < (l.n : Int)) ∧ ∃ n26 : Int, h20.at b6 (o1 + (0 : Int).toNat) = some (.int .u8 n26) ∧ par (n26 = 1) (h20.at b6 (o1 + (0 : Int).toNat) = some (.int .u8 n26) ∧ Q (.tuple ⟨[.agg ⟨[.int .u64 n23, .int .u64 n24, .int .u64 n25, .slice l9.a l9.n l9.c, .slice l10.a l10.n l10.c, .slice l11.a l11.n l11.c]⟩, .bool true, .bool true]⟩) h20) (h20.at b6 (o1 + (0 : Int).toNat) = some (.int .u8 n26) ∧ Q (.tuple ⟨[.agg ⟨[.int .u64 n23, .int .u64 n24, .int .u64 n25, .slice l9.a l9.n l9.c, .slice l10.a l10.n l10.c, .slice l11.a l11.n l11.c]⟩, .bool false, .bool true]⟩) h20)) (Q (.tuple ⟨[.agg ⟨[.int .u64 0, .int .u64 0, .int .u64 0, .slice none 0 0, .slice none 0 0, .slice none 0 0]⟩, .bool false, .bool false]⟩) h20))))))))))
theorem F31.den (V : Value → List Value → PT) (l : Sl) : denF Try.prog [2, 5, 9, 47, 90, 107] [(72, F72.V), (73, F73.V), (74, F74.V)] V [(3, .jump 0), (890, .loop [(7, .int .u64)] [(5, [.int .u64, .int .u64, .int .u64, .sl, .sl, .sl])]), (1786, .loop [(8, .int .u64)] [(5, [.int .u64, .int .u64, .int .u64, .sl, .sl, .sl])]), (3578, .loop [(10, .int .u64)] [(5, [.int .u64, .int .u64, .int .u64, .sl, .sl, .sl])]), (14324, .order [0, 1, 2, 3, 4, 5, 6, 7]), (28488, .order [0, 1, 2, 4, 3, 5, 6, 7, 8, 9, 10]), (114504, .order [0, 1, 2, 3, 4, 5, 6, 7])] Try.f31 [.v (.slice l.a l.n l.c)] = F31.T l := by kernel_rfl
def F31.V (args : List Value) : PT := match args with
  | [.slice l_a l_n l_c] => F31.T ⟨l_a, l_n, l_c⟩
  | _ => fun _ _ => False
theorem F31.ok : FOk Try.prog 31 F31.V := by
  refine ⟨⟨_, Try.func31, rfl, rfl⟩, fun args => ?_⟩
  have hG : GOk Try.prog [(72, F72.V), (73, F73.V), (74, F74.V)] := GOk.cons F72.ok (GOk.cons F73.ok (GOk.cons F74.ok (GOk.nil)))
  have hV : VOk Try.prog noV := noV_ok
  unfold F31.V
  split
  · exact denF_okV hG hV Try.func31 (fun h Q hq => (F31.den _ _) ▸ hq)
  · exact fun h Q hq => hq.elim
def F76.T (l : Sl) (l1 : Sl) : PT := fun h Q =>
  par ((l.n : Int) = (l1.n : Int)) (∃ (I : Int → Hp → Prop) (m : Int → Hp → Nat), I 0 h ∧ (∀ n : Int, ∀ h1 : Hp, I n h1 → par (n < (l.n : Int)) (∃ b o, (l.a : Option Addr) = some ⟨b, o, none⟩ ∧ ((0 : Int) ≤ n ∧ n < (l.n : Int)) ∧ ∃ n1 : Int, h1.at b (o + n.toNat) = some (.int .u8 n1) ∧ ∃ b1 o1, (l1.a : Option Addr) = some ⟨b1, o1, none⟩ ∧ ((0 : Int) ≤ n ∧ n < (l1.n : Int)) ∧ ∃ n2 : Int, h1.at b1 (o1 + n.toNat) = some (.int .u8 n2) ∧ par (n1 = n2) (I (IntKind.wrap .i64 (n + 1)) h1 ∧ m (IntKind.wrap .i64 (n + 1)) h1 < m n h1) (Q (.bool false) h1)) (Q (.bool true) h1))) (Q (.bool false) h)
theorem F76.den (V : Value → List Value → PT) (l : Sl) (l1 : Sl) : denF Try.prog [] [] V [(58, .loop [(13, .int .i64)] []), (7474, .order [0, 1, 2, 3, 4, 5, 6, 7, 8])] Try.f76 [.v (.slice l.a l.n l.c), .v (.slice l1.a l1.n l1.c)] = F76.T l l1 := by kernel_rfl
def F76.V (args : List Value) : PT := match args with
  | [.slice l_a l_n l_c, .slice l1_a l1_n l1_c] => F76.T ⟨l_a, l_n, l_c⟩ ⟨l1_a, l1_n, l1_c⟩
  | _ => fun _ _ => False
theorem F76.ok : FOk Try.prog 76 F76.V := by
  refine ⟨⟨_, Try.func76, rfl, rfl⟩, fun args => ?_⟩
  have hG : GOk Try.prog [] := GOk.nil
  have hV : VOk Try.prog noV := noV_ok
  unfold F76.V
  split
  · exact denF_okV hG hV Try.func76 (fun h Q hq => (F76.den _ _ _) ▸ hq)
  · exact fun h Q hq => hq.elim
def F75.T (l : Sl) (l1 : Sl) : PT := fun h Q =>
  par ((l.n : Int) = (l1.n : Int)) (∃ (I : Int → Hp → Prop) (m : Int → Hp → Nat), I 0 h ∧ (∀ n : Int, ∀ h1 : Hp, I n h1 → par (n < (l.n : Int)) (∃ b o, (l.a : Option Addr) = some ⟨b, o, none⟩ ∧ ((0 : Int) ≤ n ∧ n < (l.n : Int)) ∧ ∃ l2 : Sl, h1.at b (o + n.toNat) = some (.slice l2.a l2.n l2.c) ∧ ∃ b1 o1, (l1.a : Option Addr) = some ⟨b1, o1, none⟩ ∧ ((0 : Int) ≤ n ∧ n < (l1.n : Int)) ∧ ∃ l3 : Sl, h1.at b1 (o1 + n.toNat) = some (.slice l3.a l3.n l3.c) ∧ F76.T l2 l3 h1 fun r h2 => ∃ b2 : Bool, r = .bool b2 ∧ parB b2 (I (IntKind.wrap .i64 (n + 1)) h2 ∧ m (IntKind.wrap .i64 (n + 1)) h2 < m n h1) (Q (.bool false) h2)) (Q (.bool true) h1))) (Q (.bool false) h)
theorem F75.den (V : Value → List Value → PT) (l : Sl) (l1 : Sl) : denF Try.prog [] [(76, F76.V)] V [(58, .loop [(17, .int .i64)] [])] Try.f75 [.v (.slice l.a l.n l.c), .v (.slice l1.a l1.n l1.c), .v (.func (.func 76) ⟨[]⟩ ⟨[]⟩)] = F75.T l l1 := by kernel_rfl
def F75.V (args : List Value) : PT := match args with
  | [.slice l_a l_n l_c, .slice l1_a l1_n l1_c, .func (.func 76) ⟨[]⟩ ⟨[]⟩] => F75.T ⟨l_a, l_n, l_c⟩ ⟨l1_a, l1_n, l1_c⟩
  | _ => fun _ _ => False
theorem F75.ok : FOk Try.prog 75 F75.V := by
  refine ⟨⟨_, Try.func75, rfl, rfl⟩, fun args => ?_⟩
  have hG : GOk Try.prog [(76, F76.V)] := GOk.cons F76.ok (GOk.nil)
  have hV : VOk Try.prog noV := noV_ok
  unfold F75.V
  split
  · exact denF_okV hG hV Try.func75 (fun h Q hq => (F75.den _ _ _) ▸ hq)
  · exact fun h Q hq => hq.elim
def F32.Tt (n : Int) (n1 : Int) (n2 : Int) (l : Sl) (l1 : Sl) (l2 : Sl) (l3 : Sl) : PT := fun h Q =>
  F18.T n n1 n2 l l1 l2 h fun r h1 => ∃ l4 : Sl, r = .slice l4.a l4.n l4.c ∧ par ((l4.n : Int) < (l3.n : Int)) (Q (.bool false) h1) (par ((l4.n : Int) = (l3.n : Int)) (Sl.okCut l4 0 (l3.n : Int) (l4.c : Int) ∧ F75.T (Sl.cut l4 1 0 (l3.n : Int) (l4.c : Int)) l3 h1 fun r1 h2 => ∃ b : Bool, r1 = .bool b ∧ parB b (Q (.bool true) h2) (Q (.bool false) h2)) (Q (.bool false) h1))
theorem F32.dent (V : Value → List Value → PT) (n : Int) (n1 : Int) (n2 : Int) (l : Sl) (l1 : Sl) (l2 : Sl) (l3 : Sl) : denF Try.prog [3] [(18, F18.V), (75, F75.V)] V [] Try.f32 [.v (.agg ⟨[.int .u64 n, .int .u64 n1, .int .u64 n2, .slice l.a l.n l.c, .slice l1.a l1.n l1.c, .slice l2.a l2.n l2.c]⟩), .v (.slice l3.a l3.n l3.c), .v (.bool true)] = F32.Tt n n1 n2 l l1 l2 l3 := by kernel_rfl
def F32.Tf (n : Int) (n1 : Int) (n2 : Int) (l : Sl) (l1 : Sl) (l2 : Sl) (l3 : Sl) : PT := fun h Q =>
  F18.T n n1 n2 l l1 l2 h fun r h1 => ∃ l4 : Sl, r = .slice l4.a l4.n l4.c ∧ par ((l4.n : Int) < (l3.n : Int)) (Q (.bool false) h1) (Sl.okCut l4 0 (l3.n : Int) (l4.c : Int) ∧ F75.T (Sl.cut l4 1 0 (l3.n : Int) (l4.c : Int)) l3 h1 fun r1 h2 => ∃ b : Bool, r1 = .bool b ∧ parB b (Q (.bool true) h2) (Q (.bool false) h2))
theorem F32.denf (V : Value → List Value → PT) (n : Int) (n1 : Int) (n2 : Int) (l : Sl) (l1 : Sl) (l2 : Sl) (l3 : Sl) : denF Try.prog [3] [(18, F18.V), (75, F75.V)] V [] Try.f32 [.v (.agg ⟨[.int .u64 n, .int .u64 n1, .int .u64 n2, .slice l.a l.n l.c, .slice l1.a l1.n l1.c, .slice l2.a l2.n l2.c]⟩), .v (.slice l3.a l3.n l3.c), .v (.bool false)] = F32.Tf n n1 n2 l l1 l2 l3 := by kernel_rfl
def F32.V (args : List Value) : PT := match args with
  | [.agg ⟨[.int .u64 n, .int .u64 n1, .int .u64 n2, .slice l_a l_n l_c, .slice l1_a l1_n l1_c, .slice l2_a l2_n l2_c]⟩, .slice l3_a l3_n l3_c, .bool true] => F32.Tt n n1 n2 ⟨l_a, l_n, l_c⟩ ⟨l1_a, l1_n, l1_c⟩ ⟨l2_a, l2_n, l2_c⟩ ⟨l3_a, l3_n, l3_c⟩
  | [.agg ⟨[.int .u64 n, .int .u64 n1, .int .u64 n2, .slice l_a l_n l_c, .slice l1_a l1_n l1_c, .slice l2_a l2_n l2_c]⟩, .slice l3_a l3_n l3_c, .bool false] => F32.Tf n n1 n2 ⟨l_a, l_n, l_c⟩ ⟨l1_a, l1_n, l1_c⟩ ⟨l2_a, l2_n, l2_c⟩ ⟨l3_a, l3_n, l3_c⟩
  | _ => fun _ _ => False
theorem F32.ok : FOk Try.prog 32 F32.V := by
  refine ⟨⟨_, Try.func32, rfl, rfl⟩, fun args => ?_⟩
  have hG : GOk Try.prog [(18, F18.V), (75, F75.V)] := GOk.cons F18.ok (GOk.cons F75.ok (GOk.nil))
  have hV : VOk Try.prog noV := noV_ok
  unfold F32.V
  split
  · exact denF_okV hG hV Try.func32 (fun h Q hq => (F32.dent _ _ _ _ _ _ _ _) ▸ hq)
  · exact denF_okV hG hV Try.func32 (fun h Q hq => (F32.denf _ _ _ _ _ _ _ _) ▸ hq)
  · exact fun h Q hq => hq.elim
def F11.T (l : Sl) : PT := fun h Q =>
  ∃ (I : Sl → Int → Int → Int → Int → Int → Sl → Sl → Sl → Hp → Prop) (m : Sl → Int → Int → Int → Int → Int → Sl → Sl → Sl → Hp → Nat), I ⟨none, 0, 0⟩ 0 0 0 0 0 ⟨none, 0, 0⟩ ⟨none, 0, 0⟩ ⟨none, 0, 0⟩ h ∧ (∀ l1 : Sl, ∀ n : Int, ∀ n1 : Int, ∀ n2 : Int, ∀ n3 : Int, ∀ n4 : Int, ∀ l2 : Sl, ∀ l3 : Sl, ∀ l4 : Sl, ∀ h1 : Hp, I l1 n n1 n2 n3 n4 l2 l3 l4 h1 → par (n1 < (l.n : Int)) (∃ b o, (l.a : Option Addr) = some ⟨b, o, none⟩ ∧ ((0 : Int) ≤ n1 ∧ n1 < (l.n : Int)) ∧ ∃ l5 : Sl, h1.at b (o + n1.toNat) = some (.slice l5.a l5.n l5.c) ∧ F31.T l5 h1 fun r h2 => ∃ n5 : Int, ∃ n6 : Int, ∃ n7 : Int, ∃ l6 : Sl, ∃ l7 : Sl, ∃ l8 : Sl, ∃ b1 : Bool, parB b1 (∃ b2 : Bool, parB b2 (r = .tuple ⟨[.agg ⟨[.int .u64 n5, .int .u64 n6, .int .u64 n7, .slice l6.a l6.n l6.c, .slice l7.a l7.n l7.c, .slice l8.a l8.n l8.c]⟩, .bool true, .bool true]⟩ ∧ par (n < n1) (∃ vs, h2.row l6.a (l6.n * 2) vs ∧ (∀ v ∈ vs, Value.oneCell' v = true) ∧ appendD l2 89 2 16 [.int .i64 0, .int .u64 0] l6.n vs h2 fun l9 h3 => ∃ vs1, h3.row l7.a (l7.n * 7) vs1 ∧ (∀ v ∈ vs1, Value.oneCell' v = true) ∧ appendD l3 87 7 72 [.int .i64 0, .int .u64 0, .int .i64 0, .int .i64 0, .int .i64 0, .string (ByteArray.mk #[]), .string (ByteArray.mk #[])] l7.n vs1 h3 fun l10 h4 => Sl.okCut l n (IntKind.wrap .i64 (n1 + 1)) (l.c : Int) ∧ F32.Tt n5 n6 n7 l9 l10 l8 (Sl.cut l 1 n (IntKind.wrap .i64 (n1 + 1)) (l.c : Int)) h4 fun r1 h5 => ∃ b3 : Bool, r1 = .bool b3 ∧ parB b3 (appendD l1 60 6 96 [.int .u64 0, .int .u64 0, .int .u64 0, .slice none 0 0, .slice none 0 0, .slice none 0 0] 1 [.int .u64 n5, .int .u64 n6, .int .u64 n7, .slice l9.a l9.n l9.c, .slice l10.a l10.n l10.c, .slice l8.a l8.n l8.c] h5 fun l11 h6 => I l11 (IntKind.wrap .i64 (n1 + 1)) (IntKind.wrap .i64 (n1 + 1)) 0 0 0 ⟨none, 0, 0⟩ ⟨none, 0, 0⟩ ⟨none, 0, 0⟩ h6 ∧ m l11 (IntKind.wrap .i64 (n1 + 1)) (IntKind.wrap .i64 (n1 + 1)) 0 0 0 ⟨none, 0, 0⟩ ⟨none, 0, 0⟩ ⟨none, 0, 0⟩ h6 < m l1 n n1 n2 n3 n4 l2 l3 l4 h1) (Q (.tuple ⟨[.slice none 0 0, .int .i64 140]⟩) h5)) (Sl.okCut l n (IntKind.wrap .i64 (n1 + 1)) (l.c : Int) ∧ F32.Tt n5 n6 n7 l6 l7 l8 (Sl.cut l 1 n (IntKind.wrap .i64 (n1 + 1)) (l.c : Int)) h2 fun r2 h7 => ∃ b4 : Bool, r2 = .bool b4 ∧ parB b4 (appendD l1 60 6 96 [.int .u64 0, .int .u64 0, .int .u64 0, .slice none 0 0, .slice none 0 0, .slice none 0 0] 1 [.int .u64 n5, .int .u64 n6, .int .u64 n7, .slice l6.a l6.n l6.c, .slice l7.a l7.n l7.c, .slice l8.a l8.n l8.c] h7 fun l12 h8 => I l12 (IntKind.wrap .i64 (n1 + 1)) (IntKind.wrap .i64 (n1 + 1)) 0 0 0 ⟨none, 0, 0⟩ ⟨none, 0, 0⟩ ⟨none, 0, 0⟩ h8 ∧ m l12 (IntKind.wrap .i64 (n1 + 1)) (IntKind.wrap .i64 (n1 + 1)) 0 0 0 ⟨none, 0, 0⟩ ⟨none, 0, 0⟩ ⟨none, 0, 0⟩ h8 < m l1 n n1 n2 n3 n4 l2 l3 l4 h1) (Q (.tuple ⟨[.slice none 0 0, .int .i64 140]⟩) h7))) (r = .tuple ⟨[.agg ⟨[.int .u64 n5, .int .u64 n6, .int .u64 n7, .slice l6.a l6.n l6.c, .slice l7.a l7.n l7.c, .slice l8.a l8.n l8.c]⟩, .bool true, .bool false]⟩ ∧ Q (.tuple ⟨[.slice none 0 0, .int .i64 140]⟩) h2)) (∃ b5 : Bool, parB b5 (r = .tuple ⟨[.agg ⟨[.int .u64 n5, .int .u64 n6, .int .u64 n7, .slice l6.a l6.n l6.c, .slice l7.a l7.n l7.c, .slice l8.a l8.n l8.c]⟩, .bool false, .bool true]⟩ ∧ par (n < n1) (∃ vs2, h2.row l6.a (l6.n * 2) vs2 ∧ (∀ v ∈ vs2, Value.oneCell' v = true) ∧ appendD l2 89 2 16 [.int .i64 0, .int .u64 0] l6.n vs2 h2 fun l13 h9 => ∃ vs3, h9.row l7.a (l7.n * 7) vs3 ∧ (∀ v ∈ vs3, Value.oneCell' v = true) ∧ appendD l3 87 7 72 [.int .i64 0, .int .u64 0, .int .i64 0, .int .i64 0, .int .i64 0, .string (ByteArray.mk #[]), .string (ByteArray.mk #[])] l7.n vs3 h9 fun l14 h10 => I l1 n (IntKind.wrap .i64 (n1 + 1)) n5 n6 n7 l13 l14 l8 h10 ∧ m l1 n (IntKind.wrap .i64 (n1 + 1)) n5 n6 n7 l13 l14 l8 h10 < m l1 n n1 n2 n3 n4 l2 l3 l4 h1) (I l1 n (IntKind.wrap .i64 (n1 + 1)) n5 n6 n7 l6 l7 l8 h2 ∧ m l1 n (IntKind.wrap .i64 (n1 + 1)) n5 n6 n7 l6 l7 l8 h2 < m l1 n n1 n2 n3 n4 l2 l3 l4 h1)) (r = .tuple ⟨[.agg ⟨[.int .u64 n5, .int .u64 n6, .int .u64 n7, .slice l6.a l6.n l6.c, .slice l7.a l7.n l7.c, .slice l8.a l8.n l8.c]⟩, .bool false, .bool false]⟩ ∧ Q (.tuple ⟨[.slice none 0 0, .int .i64 140]⟩) h2))) (appendD l3 87 7 72 [.int .i64 0, .int .u64 0, .int .i64 0, .int .i64 0, .int .i64 0, .string (ByteArray.mk #[]), .string (ByteArray.mk #[])] 1 [.int .i64 0, .int .u64 0, .int .i64 0, .int .i64 0, .int .i64 0, .string (ByteArray.mk #[]), .string (ByteArray.mk #[])] h1 fun l15 h11 => par (n < (l.n : Int)) (Sl.okCut l n (l.n : Int) (l.c : Int) ∧ F32.Tf n2 n3 n4 l2 l15 l4 (Sl.cut l 1 n (l.n : Int) (l.c : Int)) h11 fun r3 h12 => ∃ b6 : Bool, r3 = .bool b6 ∧ parB b6 (Q (.tuple ⟨[.slice l1.a l1.n l1.c, .int .i64 0]⟩) h12) (Q (.tuple ⟨[.slice none 0 0, .int .i64 140]⟩) h12)) (Q (.tuple ⟨[.slice l1.a l1.n l1.c, .int .i64 0]⟩) h11)))
theorem F11.den (V : Value → List Value → PT) (l : Sl) : denF Try.prog [5, 9, 55, 64] [(31, F31.V), (32, F32.V)] V [(250, .loop [(4, .sl), (6, .int .i64), (14, .int .i64)] [(5, [.int .u64, .int .u64, .int .u64, .sl, .sl, .sl])]), (506, .order [0, 1, 2, 3, 4, 5, 6, 7, 8, 9, 10, 11]), (512826, .order [0, 1, 2, 3, 5, 6, 7, 8, 4, 10, 9, 11, 12, 13]), (2051324, .order [0, 1, 2, 3, 4, 5, 6, 7])] Try.f11 [.v (.slice l.a l.n l.c)] = F11.T l := by kernel_rfl
def F11.V (args : List Value) : PT := match args with
  | [.slice l_a l_n l_c] => F11.T ⟨l_a, l_n, l_c⟩
  | _ => fun _ _ => False
theorem F11.ok : FOk Try.prog 11 F11.V := by
  refine ⟨⟨_, Try.func11, rfl, rfl⟩, fun args => ?_⟩
  have hG : GOk Try.prog [(31, F31.V), (32, F32.V)] := GOk.cons F31.ok (GOk.cons F32.ok (GOk.nil))
  have hV : VOk Try.prog noV := noV_ok
  unfold F11.V
  split
  · exact denF_okV hG hV Try.func11 (fun h Q hq => (F11.den _ _) ▸ hq)
  · exact fun h Q hq => hq.elim
def F15.T  : PT := fun h Q =>
  ∀ b, h b = none → ∀ b1, (h.new b (.cells ⟨[.int .i64 0, .int .u64 4]⟩ 89 (0, 0))) b1 = none → F18.T 2 9 300 ⟨(some ⟨b, 0, none⟩), 1, 1⟩ ⟨(some ⟨b1, 0, none⟩), 1, 1⟩ ⟨none, 0, 0⟩ ((h.new b (.cells ⟨[.int .i64 0, .int .u64 4]⟩ 89 (0, 0))).new b1 (.cells ⟨[.int .i64 1, .int .u64 8, .int .i64 455, .int .i64 90, .int .i64 1, .string (ByteArray.mk #[97]), .string (ByteArray.mk #[97])]⟩ 87 (0, 0))) fun r h1 => ∃ l : Sl, r = .slice l.a l.n l.c ∧ F11.T l h1 fun r1 h2 => ∃ l1 : Sl, ∃ n : Int, r1 = .tuple ⟨[.slice l1.a l1.n l1.c, .int .i64 n]⟩ ∧ par ((l.n : Int) = 1) (∃ b2 o, (l.a : Option Addr) = some ⟨b2, o, none⟩ ∧ ((0 : Int) ≤ 0 ∧ 0 < (l.n : Int)) ∧ ∃ l2 : Sl, h2.at b2 (o + (0 : Int).toNat) = some (.slice l2.a l2.n l2.c) ∧ ∀ b3, h2 b3 = none → (h2.new b3 (.cells ⟨[.int .u8 1, .int .u8 2, .int .u8 9, .int .u8 172, .int .u8 2, .int .u8 1, .int .u8 0, .int .u8 4, .int .u8 1, .int .u8 1, .int .u8 8, .int .u8 199, .int .u8 3, .int .u8 90, .int .u8 1, .int .u8 1, .int .u8 97, .int .u8 1, .int .u8 97, .int .u8 0]⟩ 5 (0, 0))).at b2 (o + (0 : Int).toNat) = some (.slice l2.a l2.n l2.c) ∧ F20.T l2 ⟨(some ⟨b3, 0, none⟩), 20, 20⟩ (h2.new b3 (.cells ⟨[.int .u8 1, .int .u8 2, .int .u8 9, .int .u8 172, .int .u8 2, .int .u8 1, .int .u8 0, .int .u8 4, .int .u8 1, .int .u8 1, .int .u8 8, .int .u8 199, .int .u8 3, .int .u8 90, .int .u8 1, .int .u8 1, .int .u8 97, .int .u8 1, .int .u8 97, .int .u8 0]⟩ 5 (0, 0))) fun r2 h3 => ∃ b4 : Bool, r2 = .bool b4 ∧ parB b4 (par (n = 0) (par ((l1.n : Int) = 1) (∃ b5 o1, (l1.a : Option Addr) = some ⟨b5, o1, none⟩ ∧ ((0 : Int) ≤ 0 ∧ 0 < (l1.n : Int)) ∧ ∃ n1 : Int, h3.at b5 (o1 + (0 : Int).toNat * 6) = some (.int .u64 n1) ∧ ∃ n2 : Int, h3.at b5 ((o1 + (0 : Int).toNat * 6) + 1) = some (.int .u64 n2) ∧ ∃ n3 : Int, h3.at b5 ((o1 + (0 : Int).toNat * 6) + 2) = some (.int .u64 n3) ∧ ∃ l3 : Sl, h3.at b5 ((o1 + (0 : Int).toNat * 6) + 3) = some (.slice l3.a l3.n l3.c) ∧ ∃ l4 : Sl, h3.at b5 ((o1 + (0 : Int).toNat * 6) + 4) = some (.slice l4.a l4.n l4.c) ∧ ∃ l5 : Sl, h3.at b5 ((o1 + (0 : Int).toNat * 6) + 5) = some (.slice l5.a l5.n l5.c) ∧ F23.T n1 n2 n3 l3 l4 l5 2 9 300 ⟨(some ⟨b, 0, none⟩), 1, 1⟩ ⟨(some ⟨b1, 0, none⟩), 1, 1⟩ ⟨none, 0, 0⟩ h3 fun r3 h4 => ∃ b6 : Bool, r3 = .bool b6 ∧ parB b6 (F47.T 116 7 h4 fun r4 h5 => ∃ s : ByteArray, r4 = .string s ∧ par (s = (ByteArray.mk #[116, 45, 48, 48, 48, 48, 48, 48, 48, 48, 48, 48, 48, 55])) (Q (.bool true) h5) (Q (.bool false) h5)) (Q (.bool false) h4)) (Q (.bool false) h3)) (Q (.bool false) h3)) (Q (.bool false) h3)) (Q (.bool false) h2)
theorem F15.den (V : Value → List Value → PT)  : denF Try.prog [1] [(11, F11.V), (18, F18.V), (20, F20.V), (23, F23.V), (47, F47.V)] V [(62, .order [0, 1, 2, 3, 4, 5, 6, 7, 8, 9, 10, 11, 12, 13, 14, 15, 16, 17, 18, 19, 20, 21, 22, 23, 24, 25, 26, 27, 28, 29, 30])] Try.f15 [] = F15.T  := by kernel_rfl
def F15.V (args : List Value) : PT := match args with
  | [] => F15.T 
  | _ => fun _ _ => False
theorem F15.ok : FOk Try.prog 15 F15.V := by
  refine ⟨⟨_, Try.func15, rfl, rfl⟩, fun args => ?_⟩
  have hG : GOk Try.prog [(11, F11.V), (18, F18.V), (20, F20.V), (23, F23.V), (47, F47.V)] := GOk.cons F11.ok (GOk.cons F18.ok (GOk.cons F20.ok (GOk.cons F23.ok (GOk.cons F47.ok (GOk.nil)))))
  have hV : VOk Try.prog noV := noV_ok
  unfold F15.V
  split
  · exact denF_okV hG hV Try.func15 (fun h Q hq => (F15.den _ ) ▸ hq)
  · exact fun h Q hq => hq.elim
def F6.T (l : Sl) : PT := fun h Q =>
  F15.T h fun r h1 => ∃ b : Bool, r = .bool b ∧ parB b (F8.T l h1 fun r1 h2 => ∃ b1 : Bool, r1 = .bool b1 ∧ parB b1 (F11.T l h2 fun r2 h3 => ∃ l1 : Sl, ∃ n : Int, r2 = .tuple ⟨[.slice l1.a l1.n l1.c, .int .i64 n]⟩ ∧ par (n = 0) (∃ (I : Int → Int → Hp → Prop) (m : Int → Int → Hp → Nat), I 0 0 h3 ∧ (∀ n1 : Int, ∀ n2 : Int, ∀ h4 : Hp, I n1 n2 h4 → par (n2 < (l1.n : Int)) (∃ b2 o, (l1.a : Option Addr) = some ⟨b2, o, none⟩ ∧ ((0 : Int) ≤ n2 ∧ n2 < (l1.n : Int)) ∧ ∃ n3 : Int, h4.at b2 (o + n2.toNat * 6) = some (.int .u64 n3) ∧ ∃ n4 : Int, h4.at b2 ((o + n2.toNat * 6) + 1) = some (.int .u64 n4) ∧ ∃ n5 : Int, h4.at b2 ((o + n2.toNat * 6) + 2) = some (.int .u64 n5) ∧ ∃ l2 : Sl, h4.at b2 ((o + n2.toNat * 6) + 3) = some (.slice l2.a l2.n l2.c) ∧ ∃ l3 : Sl, h4.at b2 ((o + n2.toNat * 6) + 4) = some (.slice l3.a l3.n l3.c) ∧ ∃ l4 : Sl, h4.at b2 ((o + n2.toNat * 6) + 5) = some (.slice l4.a l4.n l4.c) ∧ F18.T n3 n4 n5 l2 l3 l4 h4 fun r3 h5 => ∃ l5 : Sl, r3 = .slice l5.a l5.n l5.c ∧ ∃ (I1 : Int → Int → Hp → Prop) (m1 : Int → Int → Hp → Nat), I1 n1 0 h5 ∧ (∀ n6 : Int, ∀ n7 : Int, ∀ h6 : Hp, I1 n6 n7 h6 → par (n7 < (l5.n : Int)) (par ((l.n : Int) ≤ n6) (Q (.bool false) h6) (∃ b3 o1, (l.a : Option Addr) = some ⟨b3, o1, none⟩ ∧ ((0 : Int) ≤ n6 ∧ n6 < (l.n : Int)) ∧ ∃ l6 : Sl, h6.at b3 (o1 + n6.toNat) = some (.slice l6.a l6.n l6.c) ∧ ∃ b4 o2, (l5.a : Option Addr) = some ⟨b4, o2, none⟩ ∧ ((0 : Int) ≤ n7 ∧ n7 < (l5.n : Int)) ∧ ∃ l7 : Sl, h6.at b4 (o2 + n7.toNat) = some (.slice l7.a l7.n l7.c) ∧ F20.T l6 l7 h6 fun r4 h7 => ∃ b5 : Bool, r4 = .bool b5 ∧ parB b5 (I1 (IntKind.wrap .i64 (n6 + 1)) (IntKind.wrap .i64 (n7 + 1)) h7 ∧ m1 (IntKind.wrap .i64 (n6 + 1)) (IntKind.wrap .i64 (n7 + 1)) h7 < m1 n6 n7 h6) (Q (.bool false) h7))) (I n6 (IntKind.wrap .i64 (n2 + 1)) h6 ∧ m n6 (IntKind.wrap .i64 (n2 + 1)) h6 < m n1 n2 h4))) (par (n1 ≤ (l.n : Int)) (Q (.bool true) h4) (Q (.bool false) h4)))) (par (n = 140) (par ((l1.n : Int) = 0) (Q (.bool true) h3) (Q (.bool false) h3)) (Q (.bool false) h3))) (Q (.bool true) h2)) (Q (.bool false) h1)
theorem F6.den (V : Value → List Value → PT) (l : Sl) : denF Try.prog [] [(8, F8.V), (11, F11.V), (15, F15.V), (18, F18.V), (20, F20.V)] V [(1018, .loop [(5, .int .i64), (6, .int .i64)] []), (130342, .loop [(5, .int .i64), (8, .int .i64)] []), (8341904, .order [0, 1, 2, 3, 4, 5, 6, 7, 8, 9, 10, 11, 12, 13, 14, 15])] Try.f6 [.v (.slice l.a l.n l.c)] = F6.T l := by kernel_rfl
def F6.V (args : List Value) : PT := match args with
  | [.slice l_a l_n l_c] => F6.T ⟨l_a, l_n, l_c⟩
  | _ => fun _ _ => False
theorem F6.ok : FOk Try.prog 6 F6.V := by
  refine ⟨⟨_, Try.func6, rfl, rfl⟩, fun args => ?_⟩
  have hG : GOk Try.prog [(8, F8.V), (11, F11.V), (15, F15.V), (18, F18.V), (20, F20.V)] := GOk.cons F8.ok (GOk.cons F11.ok (GOk.cons F15.ok (GOk.cons F18.ok (GOk.cons F20.ok (GOk.nil)))))
  have hV : VOk Try.prog noV := noV_ok
  unfold F6.V
  split
  · exact denF_okV hG hV Try.func6 (fun h Q hq => (F6.den _ _) ▸ hq)
  · exact fun h Q hq => hq.elim
end Go.Eng.Ytblghgacokoklaa
