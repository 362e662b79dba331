/-
  TEXTS OF MINE, JOINED: M0 S1 S2 S3 S4 S5 S6.
-/
import Derived.Test.YtblghgacokoklaaK1
import Derived.Test.YtblghgacokoklaaProg
section
set_option maxRecDepth 100000
set_option linter.unusedVariables false
open Go.Proofs
namespace Go.Eng.Ytblghgacokoklaa
def F26.T (n : Int) : PT := fun h Q =>
  ∀ b, h b = none → Q (.pointer (some ⟨b, 0, none⟩)) (h.new b (.cells ⟨[.int .i64 n]⟩ 113 (0, 0)))
theorem F26.den (V : Value → List Value → PT) (n : Int) : denF Try.prog [] [] V [] Try.f26 [.v (.int .i64 n)] = F26.T n := by kernel_rfl
def F26.W (T26 : Int → PT) (args : List Value) : PT := match args with
  | [.int .i64 n] => T26 n
  | _ => fun _ _ => False
def F26.V : List Value → PT := F26.W F26.T
theorem F26.ok : FOk Try.prog 26 F26.V := by
  refine ⟨⟨_, Try.func26, rfl, rfl⟩, fun args => ?_⟩
  have hG : GOk Try.prog [] := GOk.nil
  have hV : VOk Try.prog noV := noV_ok
  unfold F26.V F26.W
  split
  · exact denF_okV hG hV Try.func26 (fun h Q hq => (F26.den _ _) ▸ hq)
  · exact fun h Q hq => hq.elim
def F28.T (p : Option Addr) : PT := fun h Q =>
  ∃ b o, (p : Option Addr) = some ⟨b, o, none⟩ ∧ ∃ n : Int, h.at b o = some (.int .i64 n) ∧ par ((0 : Int) ≤ n) (Q (.bool true) h) (Q (.bool false) h)
theorem F28.den (V : Value → List Value → PT) (p : Option Addr) : denF Try.prog [] [] V [] Try.f28 [.v (.pointer p)] = F28.T p := by kernel_rfl
def F28.W (T28 : Option Addr → PT) (args : List Value) : PT := match args with
  | [.pointer p] => T28 p
  | _ => fun _ _ => False
def F28.V : List Value → PT := F28.W F28.T
theorem F28.ok : FOk Try.prog 28 F28.V := by
  refine ⟨⟨_, Try.func28, rfl, rfl⟩, fun args => ?_⟩
  have hG : GOk Try.prog [] := GOk.nil
  have hV : VOk Try.prog noV := noV_ok
  unfold F28.V F28.W
  split
  · exact denF_okV hG hV Try.func28 (fun h Q hq => (F28.den _ _) ▸ hq)
  · exact fun h Q hq => hq.elim
def F66.T (p : Option Addr) (n : Int) : PT := fun h Q =>
  ∃ b o, (p : Option Addr) = some ⟨b, o, none⟩ ∧ ∃ n1 : Int, h.at b o = some (.int .i64 n1) ∧ par ((0 : Int) ≤ n1) (∃ b1 o1, (p : Option Addr) = some ⟨b1, o1, none⟩ ∧ ∃ n2 : Int, h.at b1 o1 = some (.int .i64 n2) ∧ ∃ b2 o2, (p : Option Addr) = some ⟨b2, o2, none⟩ ∧ h.canW b2 o2 1 ∧ ∃ b3 o3, (p : Option Addr) = some ⟨b3, o3, none⟩ ∧ ∃ n3 : Int, (h.wr b2 o2 [.int .i64 (IntKind.wrap .i64 (n2 - n))]).at b3 o3 = some (.int .i64 n3) ∧ par ((0 : Int) ≤ n3) (Q (.bool true) (h.wr b2 o2 [.int .i64 (IntKind.wrap .i64 (n2 - n))])) (Q (.bool false) (h.wr b2 o2 [.int .i64 (IntKind.wrap .i64 (n2 - n))]))) (∃ b4 o4, (p : Option Addr) = some ⟨b4, o4, none⟩ ∧ ∃ n4 : Int, h.at b4 o4 = some (.int .i64 n4) ∧ par ((0 : Int) ≤ n4) (Q (.bool true) h) (Q (.bool false) h))
theorem F66.den (V : Value → List Value → PT) (p : Option Addr) (n : Int) : denF Try.prog [] [] V [] Try.f66 [.v (.pointer p), .v (.int .i64 n)] = F66.T p n := by kernel_rfl
def F66.W (T66 : Option Addr → Int → PT) (args : List Value) : PT := match args with
  | [.pointer p, .int .i64 n] => T66 p n
  | _ => fun _ _ => False
def F66.V : List Value → PT := F66.W F66.T
theorem F66.ok : FOk Try.prog 66 F66.V := by
  refine ⟨⟨_, Try.func66, rfl, rfl⟩, fun args => ?_⟩
  have hG : GOk Try.prog [] := GOk.nil
  have hV : VOk Try.prog noV := noV_ok
  unfold F66.V F66.W
  split
  · exact denF_okV hG hV Try.func66 (fun h Q hq => (F66.den _ _ _) ▸ hq)
  · exact fun h Q hq => hq.elim
def F27.T (p : Option Addr) (l : Sl) : PT := fun h Q =>
  ∃ (I : Int → Hp → Prop) (m : Int → Hp → Nat), I 0 h ∧ (∀ n : Int, ∀ h1 : Hp, I n h1 → par (n < (l.n : Int)) (F28.T p h1 fun r h2 => ∃ b : Bool, r = .bool b ∧ parB b (∃ b1 o, (l.a : Option Addr) = some ⟨b1, o, none⟩ ∧ ((0 : Int) ≤ n ∧ n < (l.n : Int)) ∧ ∃ l1 : Sl, h2.at b1 (o + n.toNat) = some (.slice l1.a l1.n l1.c) ∧ F66.T p (IntKind.wrap .i64 (1 + (l1.n : Int))) h2 fun r1 h3 => ∃ b2 : Bool, r1 = .bool b2 ∧ parB b2 (I (IntKind.wrap .i64 (n + 1)) h3 ∧ m (IntKind.wrap .i64 (n + 1)) h3 < m n h1) (I (IntKind.wrap .i64 (n + 1)) h3 ∧ m (IntKind.wrap .i64 (n + 1)) h3 < m n h1)) (Q (.tuple ⟨[]⟩) h2)) (Q (.tuple ⟨[]⟩) h1))
theorem F27.gen (V : Value → List Value → PT) (T28 : Option Addr → PT) (T66 : Option Addr → Int → PT) (p : Option Addr) (l : Sl) : denF Try.prog [] [(28, F28.W T28), (66, F66.W T66)] V [(6, .loop [(4, .int .i64)] [])] Try.f27 [.v (.pointer p), .v (.slice l.a l.n l.c)] = fun h Q =>
  ∃ (I : Int → Hp → Prop) (m : Int → Hp → Nat), I 0 h ∧ (∀ n : Int, ∀ h1 : Hp, I n h1 → par (n < (l.n : Int)) (T28 p h1 fun r h2 => ∃ b : Bool, r = .bool b ∧ parB b (∃ b1 o, (l.a : Option Addr) = some ⟨b1, o, none⟩ ∧ ((0 : Int) ≤ n ∧ n < (l.n : Int)) ∧ ∃ l1 : Sl, h2.at b1 (o + n.toNat) = some (.slice l1.a l1.n l1.c) ∧ T66 p (IntKind.wrap .i64 (1 + (l1.n : Int))) h2 fun r1 h3 => ∃ b2 : Bool, r1 = .bool b2 ∧ parB b2 (I (IntKind.wrap .i64 (n + 1)) h3 ∧ m (IntKind.wrap .i64 (n + 1)) h3 < m n h1) (I (IntKind.wrap .i64 (n + 1)) h3 ∧ m (IntKind.wrap .i64 (n + 1)) h3 < m n h1)) (Q (.tuple ⟨[]⟩) h2)) (Q (.tuple ⟨[]⟩) h1)) := by kernel_rfl
theorem F27.den (V : Value → List Value → PT) (p : Option Addr) (l : Sl) : denF Try.prog [] [(28, F28.V), (66, F66.V)] V [(6, .loop [(4, .int .i64)] [])] Try.f27 [.v (.pointer p), .v (.slice l.a l.n l.c)] = F27.T p l := F27.gen V F28.T F66.T p l
def F27.W (T27 : Option Addr → Sl → PT) (args : List Value) : PT := match args with
  | [.pointer p, .slice l_a l_n l_c] => T27 p ⟨l_a, l_n, l_c⟩
  | _ => fun _ _ => False
def F27.V : List Value → PT := F27.W F27.T
theorem F27.ok : FOk Try.prog 27 F27.V := by
  refine ⟨⟨_, Try.func27, rfl, rfl⟩, fun args => ?_⟩
  have hG : GOk Try.prog [(28, F28.V), (66, F66.V)] := GOk.cons F28.ok (GOk.cons F66.ok (GOk.nil))
  have hV : VOk Try.prog noV := noV_ok
  unfold F27.V F27.W
  split
  · exact denF_okV hG hV Try.func27 (fun h Q hq => (F27.den _ _ _) ▸ hq)
  · exact fun h Q hq => hq.elim
def F8.T (l : Sl) : PT := fun h Q =>
  F26.T 400000 h fun r h1 => ∃ p : Option Addr, r = .pointer p ∧ F27.T p l h1 fun r1 h2 => F28.T p h2 fun r2 h3 => ∃ b : Bool, r2 = .bool b ∧ parB b (Q (.bool true) h3) (Q (.bool false) h3)
theorem F8.gen (V : Value → List Value → PT) (T26 : Int → PT) (T27 : Option Addr → Sl → PT) (T28 : Option Addr → PT) (l : Sl) : denF Try.prog [] [(26, F26.W T26), (27, F27.W T27), (28, F28.W T28)] V [] Try.f8 [.v (.slice l.a l.n l.c)] = fun h Q =>
  T26 400000 h fun r h1 => ∃ p : Option Addr, r = .pointer p ∧ T27 p l h1 fun r1 h2 => T28 p h2 fun r2 h3 => ∃ b : Bool, r2 = .bool b ∧ parB b (Q (.bool true) h3) (Q (.bool false) h3) := by kernel_rfl
theorem F8.den (V : Value → List Value → PT) (l : Sl) : denF Try.prog [] [(26, F26.V), (27, F27.V), (28, F28.V)] V [] Try.f8 [.v (.slice l.a l.n l.c)] = F8.T l := F8.gen V F26.T F27.T F28.T l
def F8.W (T8 : Sl → PT) (args : List Value) : PT := match args with
  | [.slice l_a l_n l_c] => T8 ⟨l_a, l_n, l_c⟩
  | _ => fun _ _ => False
def F8.V : List Value → PT := F8.W F8.T
theorem F8.ok : FOk Try.prog 8 F8.V := by
  refine ⟨⟨_, Try.func8, rfl, rfl⟩, fun args => ?_⟩
  have hG : GOk Try.prog [(26, F26.V), (27, F27.V), (28, F28.V)] := GOk.cons F26.ok (GOk.cons F27.ok (GOk.cons F28.ok (GOk.nil)))
  have hV : VOk Try.prog noV := noV_ok
  unfold F8.V F8.W
  split
  · exact denF_okV hG hV Try.func8 (fun h Q hq => (F8.den _ _) ▸ hq)
  · exact fun h Q hq => hq.elim
def F92.T (l : Sl) : PT := fun h Q =>
  ∃ (I : Int → Int → Hp → Prop) (m : Int → Int → Hp → Nat), I 0 0 h ∧ (∀ n : Int, ∀ n1 : Int, ∀ h1 : Hp, I n n1 h1 → par (n1 < (l.n : Int)) (∃ b o, (l.a : Option Addr) = some ⟨b, o, none⟩ ∧ ((0 : Int) ≤ n1 ∧ n1 < (l.n : Int)) ∧ ∃ n2 : Int, h1.at b (o + n1.toNat) = some (.int .u8 n2) ∧ ∃ J : Hp → Prop, (∀ h2 : Hp, J h2 → (0 : Int) ≤ (IntKind.wrap .i64 (7 * n1)) ∧ par (n2 < 128) (Q (.tuple ⟨[.int .u64 (bitsI .or .u64 n (shlI .u64 (IntKind.wrap .u64 (bitsI .and .u8 n2 127)) (IntKind.wrap .i64 (7 * n1)))), .int .i64 (IntKind.wrap .i64 (n1 + 1)), .int .i64 0]⟩) h2) (I (bitsI .or .u64 n (shlI .u64 (IntKind.wrap .u64 (bitsI .and .u8 n2 127)) (IntKind.wrap .i64 (7 * n1)))) (IntKind.wrap .i64 (n1 + 1)) h2 ∧ m (bitsI .or .u64 n (shlI .u64 (IntKind.wrap .u64 (bitsI .and .u8 n2 127)) (IntKind.wrap .i64 (7 * n1)))) (IntKind.wrap .i64 (n1 + 1)) h2 < m n n1 h1)) ∧ (par (n2 = 0) (par ((0 : Int) < n1) (Q (.tuple ⟨[.int .u64 0, .int .i64 0, .int .i64 21]⟩) h1) (par (n1 = 9) (par (n2 = 1) (J h1) (Q (.tuple ⟨[.int .u64 0, .int .i64 0, .int .i64 21]⟩) h1)) (J h1))) (par (n1 = 9) (par (n2 = 1) (J h1) (Q (.tuple ⟨[.int .u64 0, .int .i64 0, .int .i64 21]⟩) h1)) (J h1)))) (Q (.tuple ⟨[.int .u64 0, .int .i64 0, .int .i64 20]⟩) h1))
theorem F92.den (V : Value → List Value → PT) (l : Sl) : denF Try.prog [] [] V [(58, .loop [(5, .int .u64), (10, .int .i64)] []), (3737, .join [] [])] Try.f92 [.v (.slice l.a l.n l.c)] = F92.T l := by kernel_rfl
def F92.W (T92 : Sl → PT) (args : List Value) : PT := match args with
  | [.slice l_a l_n l_c] => T92 ⟨l_a, l_n, l_c⟩
  | _ => fun _ _ => False
def F92.V : List Value → PT := F92.W F92.T
theorem F92.ok : FOk Try.prog 92 F92.V := by
  refine ⟨⟨_, Try.func92, rfl, rfl⟩, fun args => ?_⟩
  have hG : GOk Try.prog [] := GOk.nil
  have hV : VOk Try.prog noV := noV_ok
  unfold F92.V F92.W
  split
  · exact denF_okV hG hV Try.func92 (fun h Q hq => (F92.den _ _) ▸ hq)
  · exact fun h Q hq => hq.elim
def F93.T (p : Option Addr) (n : Int) (n1 : Int) : PT := fun h Q =>
  par (n1 = 0) (∃ b o, (p : Option Addr) = some ⟨b, o, none⟩ ∧ ∃ l : Sl, h.at b o = some (.slice l.a l.n l.c) ∧ ∃ b1 o1, (p : Option Addr) = some ⟨b1, o1, none⟩ ∧ ∃ l1 : Sl, h.at b1 o1 = some (.slice l1.a l1.n l1.c) ∧ ∃ b2 o2, (p : Option Addr) = some ⟨b2, o2, none⟩ ∧ ∃ l2 : Sl, h.at b2 o2 = some (.slice l2.a l2.n l2.c) ∧ Sl.okCut l n (l1.n : Int) (l2.n : Int) ∧ ∃ b3 o3, (p : Option Addr) = some ⟨b3, o3, none⟩ ∧ h.canW b3 o3 1 ∧ Q (.tuple ⟨[]⟩) (h.wr b3 o3 [.slice (Sl.cut l 1 n (l1.n : Int) (l2.n : Int)).a (Sl.cut l 1 n (l1.n : Int) (l2.n : Int)).n (Sl.cut l 1 n (l1.n : Int) (l2.n : Int)).c])) (∃ b4 o4, (p : Option Addr) = some ⟨b4, o4, none⟩ ∧ ∃ l3 : Sl, h.at b4 o4 = some (.slice l3.a l3.n l3.c) ∧ ∃ b5 o5, (p : Option Addr) = some ⟨b5, o5, none⟩ ∧ h.canW b5 (o5 + 1) 1 ∧ ∃ b6 o6, (p : Option Addr) = some ⟨b6, o6, none⟩ ∧ ∃ l4 : Sl, (h.wr b5 (o5 + 1) [.bool true]).at b6 o6 = some (.slice l4.a l4.n l4.c) ∧ ∃ b7 o7, (p : Option Addr) = some ⟨b7, o7, none⟩ ∧ ∃ l5 : Sl, (h.wr b5 (o5 + 1) [.bool true]).at b7 o7 = some (.slice l5.a l5.n l5.c) ∧ ∃ b8 o8, (p : Option Addr) = some ⟨b8, o8, none⟩ ∧ ∃ l6 : Sl, (h.wr b5 (o5 + 1) [.bool true]).at b8 o8 = some (.slice l6.a l6.n l6.c) ∧ Sl.okCut l4 (l3.n : Int) (l5.n : Int) (l6.n : Int) ∧ ∃ b9 o9, (p : Option Addr) = some ⟨b9, o9, none⟩ ∧ (h.wr b5 (o5 + 1) [.bool true]).canW b9 o9 1 ∧ Q (.tuple ⟨[]⟩) ((h.wr b5 (o5 + 1) [.bool true]).wr b9 o9 [.slice (Sl.cut l4 1 (l3.n : Int) (l5.n : Int) (l6.n : Int)).a (Sl.cut l4 1 (l3.n : Int) (l5.n : Int) (l6.n : Int)).n (Sl.cut l4 1 (l3.n : Int) (l5.n : Int) (l6.n : Int)).c]))
theorem F93.den (V : Value → List Value → PT) (p : Option Addr) (n : Int) (n1 : Int) : denF Try.prog [] [] V [(3, .order [0, 1, 2, 3, 4, 5, 6, 7, 8, 9, 10, 11, 12, 13, 14, 15, 16, 17, 18, 19])] Try.f93 [.v (.pointer p), .v (.int .i64 n), .v (.int .i64 n1)] = F93.T p n n1 := by kernel_rfl
def F93.W (T93 : Option Addr → Int → Int → PT) (args : List Value) : PT := match args with
  | [.pointer p, .int .i64 n, .int .i64 n1] => T93 p n n1
  | _ => fun _ _ => False
def F93.V : List Value → PT := F93.W F93.T
theorem F93.ok : FOk Try.prog 93 F93.V := by
  refine ⟨⟨_, Try.func93, rfl, rfl⟩, fun args => ?_⟩
  have hG : GOk Try.prog [] := GOk.nil
  have hV : VOk Try.prog noV := noV_ok
  unfold F93.V F93.W
  split
  · exact denF_okV hG hV Try.func93 (fun h Q hq => (F93.den _ _ _ _) ▸ hq)
  · exact fun h Q hq => hq.elim
def F72.T (p : Option Addr) : PT := fun h Q =>
  ∃ b o, (p : Option Addr) = some ⟨b, o, none⟩ ∧ ∃ l : Sl, h.at b o = some (.slice l.a l.n l.c) ∧ F92.T l h fun r h1 => ∃ n : Int, ∃ n1 : Int, ∃ n2 : Int, r = .tuple ⟨[.int .u64 n, .int .i64 n1, .int .i64 n2]⟩ ∧ F93.T p n1 n2 h1 fun r1 h2 => Q (.int .u64 n) h2
theorem F72.gen (V : Value → List Value → PT) (T92 : Sl → PT) (T93 : Option Addr → Int → Int → PT) (p : Option Addr) : denF Try.prog [] [(92, F92.W T92), (93, F93.W T93)] V [] Try.f72 [.v (.pointer p)] = fun h Q =>
  ∃ b o, (p : Option Addr) = some ⟨b, o, none⟩ ∧ ∃ l : Sl, h.at b o = some (.slice l.a l.n l.c) ∧ T92 l h fun r h1 => ∃ n : Int, ∃ n1 : Int, ∃ n2 : Int, r = .tuple ⟨[.int .u64 n, .int .i64 n1, .int .i64 n2]⟩ ∧ T93 p n1 n2 h1 fun r1 h2 => Q (.int .u64 n) h2 := by kernel_rfl
theorem F72.den (V : Value → List Value → PT) (p : Option Addr) : denF Try.prog [] [(92, F92.V), (93, F93.V)] V [] Try.f72 [.v (.pointer p)] = F72.T p := F72.gen V F92.T F93.T p
def F72.W (T72 : Option Addr → PT) (args : List Value) : PT := match args with
  | [.pointer p] => T72 p
  | _ => fun _ _ => False
def F72.V : List Value → PT := F72.W F72.T
theorem F72.ok : FOk Try.prog 72 F72.V := by
  refine ⟨⟨_, Try.func72, rfl, rfl⟩, fun args => ?_⟩
  have hG : GOk Try.prog [(92, F92.V), (93, F93.V)] := GOk.cons F92.ok (GOk.cons F93.ok (GOk.nil))
  have hV : VOk Try.prog noV := noV_ok
  unfold F72.V F72.W
  split
  · exact denF_okV hG hV Try.func72 (fun h Q hq => (F72.den _ _) ▸ hq)
  · exact fun h Q hq => hq.elim
def F73.T (p : Option Addr) (n : Int) : PT := fun h Q =>
  F72.T p h fun r h1 => ∃ n1 : Int, r = .int .u64 n1 ∧ par (n < n1) (∃ b o, (p : Option Addr) = some ⟨b, o, none⟩ ∧ h1.canW b (o + 1) 1 ∧ Q (.int .i64 0) (h1.wr b (o + 1) [.bool true])) (Q (.int .i64 (IntKind.wrap .i64 n1)) h1)
theorem F73.gen (V : Value → List Value → PT) (T72 : Option Addr → PT) (p : Option Addr) (n : Int) : denF Try.prog [] [(72, F72.W T72)] V [] Try.f73 [.v (.pointer p), .v (.int .u64 n)] = fun h Q =>
  T72 p h fun r h1 => ∃ n1 : Int, r = .int .u64 n1 ∧ par (n < n1) (∃ b o, (p : Option Addr) = some ⟨b, o, none⟩ ∧ h1.canW b (o + 1) 1 ∧ Q (.int .i64 0) (h1.wr b (o + 1) [.bool true])) (Q (.int .i64 (IntKind.wrap .i64 n1)) h1) := by kernel_rfl
theorem F73.den (V : Value → List Value → PT) (p : Option Addr) (n : Int) : denF Try.prog [] [(72, F72.V)] V [] Try.f73 [.v (.pointer p), .v (.int .u64 n)] = F73.T p n := F73.gen V F72.T p n
def F73.W (T73 : Option Addr → Int → PT) (args : List Value) : PT := match args with
  | [.pointer p, .int .u64 n] => T73 p n
  | _ => fun _ _ => False
def F73.V : List Value → PT := F73.W F73.T
theorem F73.ok : FOk Try.prog 73 F73.V := by
  refine ⟨⟨_, Try.func73, rfl, rfl⟩, fun args => ?_⟩
  have hG : GOk Try.prog [(72, F72.V)] := GOk.cons F72.ok (GOk.nil)
  have hV : VOk Try.prog noV := noV_ok
  unfold F73.V F73.W
  split
  · exact denF_okV hG hV Try.func73 (fun h Q hq => (F73.den _ _ _) ▸ hq)
  · exact fun h Q hq => hq.elim
def F94.T (l : Sl) (n : Int) : PT := fun h Q =>
  F92.T l h fun r h1 => ∃ n1 : Int, ∃ n2 : Int, ∃ n3 : Int, r = .tuple ⟨[.int .u64 n1, .int .i64 n2, .int .i64 n3]⟩ ∧ par (n3 = 0) (par (n < 0) (Q (.tuple ⟨[.string (ByteArray.mk #[]), .int .i64 0, .int .i64 22]⟩) h1) (par ((IntKind.wrap .u64 n) < n1) (Q (.tuple ⟨[.string (ByteArray.mk #[]), .int .i64 0, .int .i64 22]⟩) h1) (par ((IntKind.wrap .u64 (IntKind.wrap .i64 ((l.n : Int) - n2))) < n1) (Q (.tuple ⟨[.string (ByteArray.mk #[]), .int .i64 0, .int .i64 20]⟩) h1) (Sl.okCut l n2 (IntKind.wrap .i64 (n2 + (IntKind.wrap .i64 n1))) (l.c : Int) ∧ ∃ s : ByteArray, h1.row ((Sl.cut l 1 n2 (IntKind.wrap .i64 (n2 + (IntKind.wrap .i64 n1))) (l.c : Int)).a) ((Sl.cut l 1 n2 (IntKind.wrap .i64 (n2 + (IntKind.wrap .i64 n1))) (l.c : Int)).n) (bytesV s) ∧ Q (.tuple ⟨[.string s, .int .i64 (IntKind.wrap .i64 (n2 + (IntKind.wrap .i64 n1))), .int .i64 0]⟩) h1)))) (Q (.tuple ⟨[.string (ByteArray.mk #[]), .int .i64 0, .int .i64 n3]⟩) h1)
theorem F94.gen (V : Value → List Value → PT) (T92 : Sl → PT) (l : Sl) (n : Int) : denF Try.prog [] [(92, F92.W T92)] V [] Try.f94 [.v (.slice l.a l.n l.c), .v (.int .i64 n)] = fun h Q =>
  T92 l h fun r h1 => ∃ n1 : Int, ∃ n2 : Int, ∃ n3 : Int, r = .tuple ⟨[.int .u64 n1, .int .i64 n2, .int .i64 n3]⟩ ∧ par (n3 = 0) (par (n < 0) (Q (.tuple ⟨[.string (ByteArray.mk #[]), .int .i64 0, .int .i64 22]⟩) h1) (par ((IntKind.wrap .u64 n) < n1) (Q (.tuple ⟨[.string (ByteArray.mk #[]), .int .i64 0, .int .i64 22]⟩) h1) (par ((IntKind.wrap .u64 (IntKind.wrap .i64 ((l.n : Int) - n2))) < n1) (Q (.tuple ⟨[.string (ByteArray.mk #[]), .int .i64 0, .int .i64 20]⟩) h1) (Sl.okCut l n2 (IntKind.wrap .i64 (n2 + (IntKind.wrap .i64 n1))) (l.c : Int) ∧ ∃ s : ByteArray, h1.row ((Sl.cut l 1 n2 (IntKind.wrap .i64 (n2 + (IntKind.wrap .i64 n1))) (l.c : Int)).a) ((Sl.cut l 1 n2 (IntKind.wrap .i64 (n2 + (IntKind.wrap .i64 n1))) (l.c : Int)).n) (bytesV s) ∧ Q (.tuple ⟨[.string s, .int .i64 (IntKind.wrap .i64 (n2 + (IntKind.wrap .i64 n1))), .int .i64 0]⟩) h1)))) (Q (.tuple ⟨[.string (ByteArray.mk #[]), .int .i64 0, .int .i64 n3]⟩) h1) := by kernel_rfl
theorem F94.den (V : Value → List Value → PT) (l : Sl) (n : Int) : denF Try.prog [] [(92, F92.V)] V [] Try.f94 [.v (.slice l.a l.n l.c), .v (.int .i64 n)] = F94.T l n := F94.gen V F92.T l n
def F94.W (T94 : Sl → Int → PT) (args : List Value) : PT := match args with
  | [.slice l_a l_n l_c, .int .i64 n] => T94 ⟨l_a, l_n, l_c⟩ n
  | _ => fun _ _ => False
def F94.V : List Value → PT := F94.W F94.T
theorem F94.ok : FOk Try.prog 94 F94.V := by
  refine ⟨⟨_, Try.func94, rfl, rfl⟩, fun args => ?_⟩
  have hG : GOk Try.prog [(92, F92.V)] := GOk.cons F92.ok (GOk.nil)
  have hV : VOk Try.prog noV := noV_ok
  unfold F94.V F94.W
  split
  · exact denF_okV hG hV Try.func94 (fun h Q hq => (F94.den _ _ _) ▸ hq)
  · exact fun h Q hq => hq.elim
def F74.T (p : Option Addr) : PT := fun h Q =>
  ∃ b o, (p : Option Addr) = some ⟨b, o, none⟩ ∧ ∃ l : Sl, h.at b o = some (.slice l.a l.n l.c) ∧ F94.T l 64 h fun r h1 => ∃ s : ByteArray, ∃ n : Int, ∃ n1 : Int, r = .tuple ⟨[.string s, .int .i64 n, .int .i64 n1]⟩ ∧ F93.T p n n1 h1 fun r1 h2 => Q (.string s) h2
theorem F74.gen (V : Value → List Value → PT) (T93 : Option Addr → Int → Int → PT) (T94 : Sl → Int → PT) (p : Option Addr) : denF Try.prog [] [(93, F93.W T93), (94, F94.W T94)] V [] Try.f74 [.v (.pointer p)] = fun h Q =>
  ∃ b o, (p : Option Addr) = some ⟨b, o, none⟩ ∧ ∃ l : Sl, h.at b o = some (.slice l.a l.n l.c) ∧ T94 l 64 h fun r h1 => ∃ s : ByteArray, ∃ n : Int, ∃ n1 : Int, r = .tuple ⟨[.string s, .int .i64 n, .int .i64 n1]⟩ ∧ T93 p n n1 h1 fun r1 h2 => Q (.string s) h2 := by kernel_rfl
theorem F74.den (V : Value → List Value → PT) (p : Option Addr) : denF Try.prog [] [(93, F93.V), (94, F94.V)] V [] Try.f74 [.v (.pointer p)] = F74.T p := F74.gen V F93.T F94.T p
def F74.W (T74 : Option Addr → PT) (args : List Value) : PT := match args with
  | [.pointer p] => T74 p
  | _ => fun _ _ => False
def F74.V : List Value → PT := F74.W F74.T
theorem F74.ok : FOk Try.prog 74 F74.V := by
  refine ⟨⟨_, Try.func74, rfl, rfl⟩, fun args => ?_⟩
  have hG : GOk Try.prog [(93, F93.V), (94, F94.V)] := GOk.cons F93.ok (GOk.cons F94.ok (GOk.nil))
  have hV : VOk Try.prog noV := noV_ok
  unfold F74.V F74.W
  split
  · exact denF_okV hG hV Try.func74 (fun h Q hq => (F74.den _ _) ▸ hq)
  · exact fun h Q hq => hq.elim
def F112.T (l : Sl) (n : Int) : PT := fun h Q =>
  ∃ (I : Sl → Int → Hp → Prop) (m : Sl → Int → Hp → Nat), I l n h ∧ (∀ l1 : Sl, ∀ n1 : Int, ∀ h1 : Hp, I l1 n1 h1 → par ((128 : Int) ≤ n1) (appendD l1 5 1 1 [.int .u8 0] 1 [.int .u8 (bitsI .or .u8 (IntKind.wrap .u8 n1) 128)] h1 fun l2 h2 => (0 : Int) ≤ 7 ∧ I l2 (shrI .u64 n1 7) h2 ∧ m l2 (shrI .u64 n1 7) h2 < m l1 n1 h1) (appendD l1 5 1 1 [.int .u8 0] 1 [.int .u8 (IntKind.wrap .u8 n1)] h1 fun l3 h3 => Q (.slice l3.a l3.n l3.c) h3))
theorem F112.den (V : Value → List Value → PT) (l : Sl) (n : Int) : denF Try.prog [11, 18] [] V [(12, .loop [(0, .sl), (1, .int .u64)] [])] Try.f112 [.v (.slice l.a l.n l.c), .v (.int .u64 n)] = F112.T l n := by kernel_rfl
def F112.W (T112 : Sl → Int → PT) (args : List Value) : PT := match args with
  | [.slice l_a l_n l_c, .int .u64 n] => T112 ⟨l_a, l_n, l_c⟩ n
  | _ => fun _ _ => False
def F112.V : List Value → PT := F112.W F112.T
theorem F112.ok : FOk Try.prog 112 F112.V := by
  refine ⟨⟨_, Try.func112, rfl, rfl⟩, fun args => ?_⟩
  have hG : GOk Try.prog [] := GOk.nil
  have hV : VOk Try.prog noV := noV_ok
  unfold F112.V F112.W
  split
  · exact denF_okV hG hV Try.func112 (fun h Q hq => (F112.den _ _ _) ▸ hq)
  · exact fun h Q hq => hq.elim
def F113.T (l : Sl) (n : Int) : PT := fun h Q =>
  ((0 : Int) ≤ (l.n : Int) ∧ (l.n : Int) ≤ (IntKind.wrap .i64 ((l.n : Int) + n)) ∧ 1 * (IntKind.wrap .i64 ((l.n : Int) + n)) ≤ 281474976710656) ∧ ∀ b, h b = none → ∃ vs, (h.new b (.cells (Builtin.zeroCells (List.toArray [.int .u8 0]) ((IntKind.wrap .i64 ((l.n : Int) + n)) : Int).toNat) 5 (0, 0))).row l.a ((Nat.min l.n (((l.n : Int) : Int).toNat)) * 1) vs ∧ (∀ v ∈ vs, Value.oneCell' v = true) ∧ (h.new b (.cells (Builtin.zeroCells (List.toArray [.int .u8 0]) ((IntKind.wrap .i64 ((l.n : Int) + n)) : Int).toNat) 5 (0, 0))).canWA (some ⟨b, 0, none⟩) vs.length ∧ Q (.slice (some ⟨b, 0, none⟩) ((l.n : Int) : Int).toNat ((IntKind.wrap .i64 ((l.n : Int) + n)) : Int).toNat) ((h.new b (.cells (Builtin.zeroCells (List.toArray [.int .u8 0]) ((IntKind.wrap .i64 ((l.n : Int) + n)) : Int).toNat) 5 (0, 0))).wrA (some ⟨b, 0, none⟩) vs)
theorem F113.den (V : Value → List Value → PT) (l : Sl) (n : Int) : denF Try.prog [] [] V [] Try.f113 [.v (.slice l.a l.n l.c), .v (.int .i64 n)] = F113.T l n := by kernel_rfl
def F113.W (T113 : Sl → Int → PT) (args : List Value) : PT := match args with
  | [.slice l_a l_n l_c, .int .i64 n] => T113 ⟨l_a, l_n, l_c⟩ n
  | _ => fun _ _ => False
def F113.V : List Value → PT := F113.W F113.T
theorem F113.ok : FOk Try.prog 113 F113.V := by
  refine ⟨⟨_, Try.func113, rfl, rfl⟩, fun args => ?_⟩
  have hG : GOk Try.prog [] := GOk.nil
  have hV : VOk Try.prog noV := noV_ok
  unfold F113.V F113.W
  split
  · exact denF_okV hG hV Try.func113 (fun h Q hq => (F113.den _ _ _) ▸ hq)
  · exact fun h Q hq => hq.elim
def F96.T (l : Sl) (n : Int) : PT := fun h Q =>
  F113.T l 10 h fun r h1 => ∃ l1 : Sl, r = .slice l1.a l1.n l1.c ∧ F112.T l1 n h1 fun r1 h2 => ∃ l2 : Sl, r1 = .slice l2.a l2.n l2.c ∧ Q (.slice l2.a l2.n l2.c) h2
theorem F96.gen (V : Value → List Value → PT) (T112 : Sl → Int → PT) (T113 : Sl → Int → PT) (l : Sl) (n : Int) : denF Try.prog [] [(112, F112.W T112), (113, F113.W T113)] V [] Try.f96 [.v (.slice l.a l.n l.c), .v (.int .u64 n)] = fun h Q =>
  T113 l 10 h fun r h1 => ∃ l1 : Sl, r = .slice l1.a l1.n l1.c ∧ T112 l1 n h1 fun r1 h2 => ∃ l2 : Sl, r1 = .slice l2.a l2.n l2.c ∧ Q (.slice l2.a l2.n l2.c) h2 := by kernel_rfl
theorem F96.den (V : Value → List Value → PT) (l : Sl) (n : Int) : denF Try.prog [] [(112, F112.V), (113, F113.V)] V [] Try.f96 [.v (.slice l.a l.n l.c), .v (.int .u64 n)] = F96.T l n := F96.gen V F112.T F113.T l n
def F96.W (T96 : Sl → Int → PT) (args : List Value) : PT := match args with
  | [.slice l_a l_n l_c, .int .u64 n] => T96 ⟨l_a, l_n, l_c⟩ n
  | _ => fun _ _ => False
def F96.V : List Value → PT := F96.W F96.T
theorem F96.ok : FOk Try.prog 96 F96.V := by
  refine ⟨⟨_, Try.func96, rfl, rfl⟩, fun args => ?_⟩
  have hG : GOk Try.prog [(112, F112.V), (113, F113.V)] := GOk.cons F112.ok (GOk.cons F113.ok (GOk.nil))
  have hV : VOk Try.prog noV := noV_ok
  unfold F96.V F96.W
  split
  · exact denF_okV hG hV Try.func96 (fun h Q hq => (F96.den _ _ _) ▸ hq)
  · exact fun h Q hq => hq.elim
def F80.T (l : Sl) (l1 : Sl) : PT := fun h Q =>
  ∃ (I : Sl → Int → Hp → Prop) (m : Sl → Int → Hp → Nat), I l 0 h ∧ (∀ l2 : Sl, ∀ n : Int, ∀ h1 : Hp, I l2 n h1 → par (n < (l1.n : Int)) (∃ b o, (l1.a : Option Addr) = some ⟨b, o, none⟩ ∧ ((0 : Int) ≤ n ∧ n < (l1.n : Int)) ∧ ∃ n1 : Int, h1.at b (o + n.toNat) = some (.int .u64 n1) ∧ F96.T ⟨none, 0, 0⟩ n1 h1 fun r h2 => ∃ l3 : Sl, r = .slice l3.a l3.n l3.c ∧ ∃ vs, h2.row l3.a (l3.n * 1) vs ∧ (∀ v ∈ vs, Value.oneCell' v = true) ∧ appendD l2 5 1 1 [.int .u8 0] l3.n vs h2 fun l4 h3 => I l4 (IntKind.wrap .i64 (n + 1)) h3 ∧ m l4 (IntKind.wrap .i64 (n + 1)) h3 < m l2 n h1) (Q (.slice l2.a l2.n l2.c) h1))
theorem F80.gen (V : Value → List Value → PT) (T96 : Sl → Int → PT) (l : Sl) (l1 : Sl) : denF Try.prog [] [(96, F96.W T96)] V [(26, .loop [(0, .sl), (9, .int .i64)] [])] Try.f80 [.v (.slice l.a l.n l.c), .v (.slice l1.a l1.n l1.c)] = fun h Q =>
  ∃ (I : Sl → Int → Hp → Prop) (m : Sl → Int → Hp → Nat), I l 0 h ∧ (∀ l2 : Sl, ∀ n : Int, ∀ h1 : Hp, I l2 n h1 → par (n < (l1.n : Int)) (∃ b o, (l1.a : Option Addr) = some ⟨b, o, none⟩ ∧ ((0 : Int) ≤ n ∧ n < (l1.n : Int)) ∧ ∃ n1 : Int, h1.at b (o + n.toNat) = some (.int .u64 n1) ∧ T96 ⟨none, 0, 0⟩ n1 h1 fun r h2 => ∃ l3 : Sl, r = .slice l3.a l3.n l3.c ∧ ∃ vs, h2.row l3.a (l3.n * 1) vs ∧ (∀ v ∈ vs, Value.oneCell' v = true) ∧ appendD l2 5 1 1 [.int .u8 0] l3.n vs h2 fun l4 h3 => I l4 (IntKind.wrap .i64 (n + 1)) h3 ∧ m l4 (IntKind.wrap .i64 (n + 1)) h3 < m l2 n h1) (Q (.slice l2.a l2.n l2.c) h1)) := by kernel_rfl
theorem F80.den (V : Value → List Value → PT) (l : Sl) (l1 : Sl) : denF Try.prog [] [(96, F96.V)] V [(26, .loop [(0, .sl), (9, .int .i64)] [])] Try.f80 [.v (.slice l.a l.n l.c), .v (.slice l1.a l1.n l1.c)] = F80.T l l1 := F80.gen V F96.T l l1
def F80.W (T80 : Sl → Sl → PT) (args : List Value) : PT := match args with
  | [.slice l_a l_n l_c, .slice l1_a l1_n l1_c] => T80 ⟨l_a, l_n, l_c⟩ ⟨l1_a, l1_n, l1_c⟩
  | _ => fun _ _ => False
def F80.V : List Value → PT := F80.W F80.T
theorem F80.ok : FOk Try.prog 80 F80.V := by
  refine ⟨⟨_, Try.func80, rfl, rfl⟩, fun args => ?_⟩
  have hG : GOk Try.prog [(96, F96.V)] := GOk.cons F96.ok (GOk.nil)
  have hV : VOk Try.prog noV := noV_ok
  unfold F80.V F80.W
  split
  · exact denF_okV hG hV Try.func80 (fun h Q hq => (F80.den _ _ _) ▸ hq)
  · exact fun h Q hq => hq.elim
def F97.T (l : Sl) (s : ByteArray) : PT := fun h Q =>
  F113.T l (IntKind.wrap .i64 (10 + (s.size : Int))) h fun r h1 => ∃ l1 : Sl, r = .slice l1.a l1.n l1.c ∧ F112.T l1 (IntKind.wrap .u64 (s.size : Int)) h1 fun r1 h2 => ∃ l2 : Sl, r1 = .slice l2.a l2.n l2.c ∧ appendD l2 5 1 1 [.int .u8 0] s.size (bytesV s) h2 fun l3 h3 => Q (.slice l3.a l3.n l3.c) h3
theorem F97.gen (V : Value → List Value → PT) (T112 : Sl → Int → PT) (T113 : Sl → Int → PT) (l : Sl) (s : ByteArray) : denF Try.prog [] [(112, F112.W T112), (113, F113.W T113)] V [] Try.f97 [.v (.slice l.a l.n l.c), .v (.string s)] = fun h Q =>
  T113 l (IntKind.wrap .i64 (10 + (s.size : Int))) h fun r h1 => ∃ l1 : Sl, r = .slice l1.a l1.n l1.c ∧ T112 l1 (IntKind.wrap .u64 (s.size : Int)) h1 fun r1 h2 => ∃ l2 : Sl, r1 = .slice l2.a l2.n l2.c ∧ appendD l2 5 1 1 [.int .u8 0] s.size (bytesV s) h2 fun l3 h3 => Q (.slice l3.a l3.n l3.c) h3 := by kernel_rfl
theorem F97.den (V : Value → List Value → PT) (l : Sl) (s : ByteArray) : denF Try.prog [] [(112, F112.V), (113, F113.V)] V [] Try.f97 [.v (.slice l.a l.n l.c), .v (.string s)] = F97.T l s := F97.gen V F112.T F113.T l s
def F97.W (T97 : Sl → ByteArray → PT) (args : List Value) : PT := match args with
  | [.slice l_a l_n l_c, .string s] => T97 ⟨l_a, l_n, l_c⟩ s
  | _ => fun _ _ => False
def F97.V : List Value → PT := F97.W F97.T
theorem F97.ok : FOk Try.prog 97 F97.V := by
  refine ⟨⟨_, Try.func97, rfl, rfl⟩, fun args => ?_⟩
  have hG : GOk Try.prog [(112, F112.V), (113, F113.V)] := GOk.cons F112.ok (GOk.cons F113.ok (GOk.nil))
  have hV : VOk Try.prog noV := noV_ok
  unfold F97.V F97.W
  split
  · exact denF_okV hG hV Try.func97 (fun h Q hq => (F97.den _ _ _) ▸ hq)
  · exact fun h Q hq => hq.elim
def F81.T (l : Sl) (s : ByteArray) : PT := fun h Q =>
  F97.T ⟨none, 0, 0⟩ s h fun r h1 => ∃ l1 : Sl, r = .slice l1.a l1.n l1.c ∧ ∃ vs, h1.row l1.a (l1.n * 1) vs ∧ (∀ v ∈ vs, Value.oneCell' v = true) ∧ appendD l 5 1 1 [.int .u8 0] l1.n vs h1 fun l2 h2 => Q (.slice l2.a l2.n l2.c) h2
theorem F81.gen (V : Value → List Value → PT) (T97 : Sl → ByteArray → PT) (l : Sl) (s : ByteArray) : denF Try.prog [] [(97, F97.W T97)] V [] Try.f81 [.v (.slice l.a l.n l.c), .v (.string s)] = fun h Q =>
  T97 ⟨none, 0, 0⟩ s h fun r h1 => ∃ l1 : Sl, r = .slice l1.a l1.n l1.c ∧ ∃ vs, h1.row l1.a (l1.n * 1) vs ∧ (∀ v ∈ vs, Value.oneCell' v = true) ∧ appendD l 5 1 1 [.int .u8 0] l1.n vs h1 fun l2 h2 => Q (.slice l2.a l2.n l2.c) h2 := by kernel_rfl
theorem F81.den (V : Value → List Value → PT) (l : Sl) (s : ByteArray) : denF Try.prog [] [(97, F97.V)] V [] Try.f81 [.v (.slice l.a l.n l.c), .v (.string s)] = F81.T l s := F81.gen V F97.T l s
def F81.W (T81 : Sl → ByteArray → PT) (args : List Value) : PT := match args with
  | [.slice l_a l_n l_c, .string s] => T81 ⟨l_a, l_n, l_c⟩ s
  | _ => fun _ _ => False
def F81.V : List Value → PT := F81.W F81.T
theorem F81.ok : FOk Try.prog 81 F81.V := by
  refine ⟨⟨_, Try.func81, rfl, rfl⟩, fun args => ?_⟩
  have hG : GOk Try.prog [(97, F97.V)] := GOk.cons F97.ok (GOk.nil)
  have hV : VOk Try.prog noV := noV_ok
  unfold F81.V F81.W
  split
  · exact denF_okV hG hV Try.func81 (fun h Q hq => (F81.den _ _ _) ▸ hq)
  · exact fun h Q hq => hq.elim
def F20.T (l : Sl) (l1 : Sl) : PT := fun h Q =>
  par ((l.n : Int) = (l1.n : Int)) (∃ (I : Int → Hp → Prop) (m : Int → Hp → Nat), I 0 h ∧ (∀ n : Int, ∀ h1 : Hp, I n h1 → par (n < (l.n : Int)) (∃ b o, (l.a : Option Addr) = some ⟨b, o, none⟩ ∧ ((0 : Int) ≤ n ∧ n < (l.n : Int)) ∧ ∃ n1 : Int, h1.at b (o + n.toNat) = some (.int .u8 n1) ∧ ∃ b1 o1, (l1.a : Option Addr) = some ⟨b1, o1, none⟩ ∧ ((0 : Int) ≤ n ∧ n < (l1.n : Int)) ∧ ∃ n2 : Int, h1.at b1 (o1 + n.toNat) = some (.int .u8 n2) ∧ par (n1 = n2) (I (IntKind.wrap .i64 (n + 1)) h1 ∧ m (IntKind.wrap .i64 (n + 1)) h1 < m n h1) (Q (.bool false) h1)) (Q (.bool true) h1))) (Q (.bool false) h)
theorem F20.den (V : Value → List Value → PT) (l : Sl) (l1 : Sl) : denF Try.prog [] [] V [(58, .loop [(5, .int .i64)] []), (1864, .order [0, 1, 2, 3, 4, 5, 6, 7, 8])] Try.f20 [.v (.slice l.a l.n l.c), .v (.slice l1.a l1.n l1.c)] = F20.T l l1 := by kernel_rfl
def F20.W (T20 : Sl → Sl → PT) (args : List Value) : PT := match args with
  | [.slice l_a l_n l_c, .slice l1_a l1_n l1_c] => T20 ⟨l_a, l_n, l_c⟩ ⟨l1_a, l1_n, l1_c⟩
  | _ => fun _ _ => False
def F20.V : List Value → PT := F20.W F20.T
theorem F20.ok : FOk Try.prog 20 F20.V := by
  refine ⟨⟨_, Try.func20, rfl, rfl⟩, fun args => ?_⟩
  have hG : GOk Try.prog [] := GOk.nil
  have hV : VOk Try.prog noV := noV_ok
  unfold F20.V F20.W
  split
  · exact denF_okV hG hV Try.func20 (fun h Q hq => (F20.den _ _ _) ▸ hq)
  · exact fun h Q hq => hq.elim
def F60.T (l : Sl) (l1 : Sl) : PT := fun h Q =>
  par ((l.n : Int) = (l1.n : Int)) (∃ (I : Int → Hp → Prop) (m : Int → Hp → Nat), I 0 h ∧ (∀ n : Int, ∀ h1 : Hp, I n h1 → par (n < (l.n : Int)) (∃ b o, (l.a : Option Addr) = some ⟨b, o, none⟩ ∧ ((0 : Int) ≤ n ∧ n < (l.n : Int)) ∧ ∃ s : ByteArray, h1.at b (o + n.toNat) = some (.string s) ∧ ∃ b1 o1, (l1.a : Option Addr) = some ⟨b1, o1, none⟩ ∧ ((0 : Int) ≤ n ∧ n < (l1.n : Int)) ∧ ∃ s1 : ByteArray, h1.at b1 (o1 + n.toNat) = some (.string s1) ∧ par (s = s1) (I (IntKind.wrap .i64 (n + 1)) h1 ∧ m (IntKind.wrap .i64 (n + 1)) h1 < m n h1) (Q (.bool false) h1)) (Q (.bool true) h1))) (Q (.bool false) h)
theorem F60.den (V : Value → List Value → PT) (l : Sl) (l1 : Sl) : denF Try.prog [] [] V [(58, .loop [(5, .int .i64)] []), (1864, .order [0, 1, 2, 3, 4, 5, 6, 7, 8])] Try.f60 [.v (.slice l.a l.n l.c), .v (.slice l1.a l1.n l1.c)] = F60.T l l1 := by kernel_rfl
def F60.W (T60 : Sl → Sl → PT) (args : List Value) : PT := match args with
  | [.slice l_a l_n l_c, .slice l1_a l1_n l1_c] => T60 ⟨l_a, l_n, l_c⟩ ⟨l1_a, l1_n, l1_c⟩
  | _ => fun _ _ => False
def F60.V : List Value → PT := F60.W F60.T
theorem F60.ok : FOk Try.prog 60 F60.V := by
  refine ⟨⟨_, Try.func60, rfl, rfl⟩, fun args => ?_⟩
  have hG : GOk Try.prog [] := GOk.nil
  have hV : VOk Try.prog noV := noV_ok
  unfold F60.V F60.W
  split
  · exact denF_okV hG hV Try.func60 (fun h Q hq => (F60.den _ _ _) ▸ hq)
  · exact fun h Q hq => hq.elim
def F23.T (n : Int) (n1 : Int) (n2 : Int) (l : Sl) (l1 : Sl) (l2 : Sl) (n3 : Int) (n4 : Int) (n5 : Int) (l3 : Sl) (l4 : Sl) (l5 : Sl) : PT := fun h Q =>
  par (n = n3) (par (n1 = n4) (par (n2 = n5) (par ((l.n : Int) = (l3.n : Int)) (par ((l1.n : Int) = (l4.n : Int)) (F60.T l2 l5 h fun r h1 => ∃ b : Bool, r = .bool b ∧ parB b (∃ (I : Int → Hp → Prop) (m : Int → Hp → Nat), I 0 h1 ∧ (∀ n6 : Int, ∀ h2 : Hp, I n6 h2 → par (n6 < (l.n : Int)) (∃ b1 o, (l.a : Option Addr) = some ⟨b1, o, none⟩ ∧ ((0 : Int) ≤ n6 ∧ n6 < (l.n : Int)) ∧ ∃ n7 : Int, h2.at b1 (o + n6.toNat * 2) = some (.int .i64 n7) ∧ ∃ n8 : Int, h2.at b1 ((o + n6.toNat * 2) + 1) = some (.int .u64 n8) ∧ ∃ b2 o1, (l3.a : Option Addr) = some ⟨b2, o1, none⟩ ∧ ((0 : Int) ≤ n6 ∧ n6 < (l3.n : Int)) ∧ ∃ n9 : Int, h2.at b2 (o1 + n6.toNat * 2) = some (.int .i64 n9) ∧ ∃ n10 : Int, h2.at b2 ((o1 + n6.toNat * 2) + 1) = some (.int .u64 n10) ∧ par (([.int .i64 n7, .int .u64 n8] : List Value) = [.int .i64 n9, .int .u64 n10]) (I (IntKind.wrap .i64 (n6 + 1)) h2 ∧ m (IntKind.wrap .i64 (n6 + 1)) h2 < m n6 h2) (Q (.bool false) h2)) (∃ (I1 : Int → Hp → Prop) (m1 : Int → Hp → Nat), I1 0 h2 ∧ (∀ n11 : Int, ∀ h3 : Hp, I1 n11 h3 → par (n11 < (l1.n : Int)) (∃ b3 o2, (l1.a : Option Addr) = some ⟨b3, o2, none⟩ ∧ ((0 : Int) ≤ n11 ∧ n11 < (l1.n : Int)) ∧ ∃ n12 : Int, h3.at b3 (o2 + n11.toNat * 7) = some (.int .i64 n12) ∧ ∃ n13 : Int, h3.at b3 ((o2 + n11.toNat * 7) + 1) = some (.int .u64 n13) ∧ ∃ n14 : Int, h3.at b3 ((o2 + n11.toNat * 7) + 2) = some (.int .i64 n14) ∧ ∃ n15 : Int, h3.at b3 ((o2 + n11.toNat * 7) + 3) = some (.int .i64 n15) ∧ ∃ n16 : Int, h3.at b3 ((o2 + n11.toNat * 7) + 4) = some (.int .i64 n16) ∧ ∃ s : ByteArray, h3.at b3 ((o2 + n11.toNat * 7) + 5) = some (.string s) ∧ ∃ s1 : ByteArray, h3.at b3 ((o2 + n11.toNat * 7) + 6) = some (.string s1) ∧ ∃ b4 o3, (l4.a : Option Addr) = some ⟨b4, o3, none⟩ ∧ ((0 : Int) ≤ n11 ∧ n11 < (l4.n : Int)) ∧ ∃ n17 : Int, h3.at b4 (o3 + n11.toNat * 7) = some (.int .i64 n17) ∧ ∃ n18 : Int, h3.at b4 ((o3 + n11.toNat * 7) + 1) = some (.int .u64 n18) ∧ ∃ n19 : Int, h3.at b4 ((o3 + n11.toNat * 7) + 2) = some (.int .i64 n19) ∧ ∃ n20 : Int, h3.at b4 ((o3 + n11.toNat * 7) + 3) = some (.int .i64 n20) ∧ ∃ n21 : Int, h3.at b4 ((o3 + n11.toNat * 7) + 4) = some (.int .i64 n21) ∧ ∃ s2 : ByteArray, h3.at b4 ((o3 + n11.toNat * 7) + 5) = some (.string s2) ∧ ∃ s3 : ByteArray, h3.at b4 ((o3 + n11.toNat * 7) + 6) = some (.string s3) ∧ par (([.int .i64 n12, .int .u64 n13, .int .i64 n14, .int .i64 n15, .int .i64 n16, .string s, .string s1] : List Value) = [.int .i64 n17, .int .u64 n18, .int .i64 n19, .int .i64 n20, .int .i64 n21, .string s2, .string s3]) (I1 (IntKind.wrap .i64 (n11 + 1)) h3 ∧ m1 (IntKind.wrap .i64 (n11 + 1)) h3 < m1 n11 h3) (Q (.bool false) h3)) (Q (.bool true) h3))))) (Q (.bool false) h1)) (Q (.bool false) h)) (Q (.bool false) h)) (Q (.bool false) h)) (Q (.bool false) h)) (Q (.bool false) h)
theorem F23.gen (V : Value → List Value → PT) (T60 : Sl → Sl → PT) (n : Int) (n1 : Int) (n2 : Int) (l : Sl) (l1 : Sl) (l2 : Sl) (n3 : Int) (n4 : Int) (n5 : Int) (l3 : Sl) (l4 : Sl) (l5 : Sl) : denF Try.prog [2, 3] [(60, F60.W T60)] V [(58, .loop [(5, .int .i64)] []), (122, .loop [(6, .int .i64)] []), (1864, .order [0, 1, 2, 3, 4, 5, 6, 7, 8, 9, 10]), (3912, .order [0, 1, 2, 3, 4, 5, 6, 7, 8, 9, 10])] Try.f23 [.v (.agg ⟨[.int .u64 n, .int .u64 n1, .int .u64 n2, .slice l.a l.n l.c, .slice l1.a l1.n l1.c, .slice l2.a l2.n l2.c]⟩), .v (.agg ⟨[.int .u64 n3, .int .u64 n4, .int .u64 n5, .slice l3.a l3.n l3.c, .slice l4.a l4.n l4.c, .slice l5.a l5.n l5.c]⟩)] = fun h Q =>
  par (n = n3) (par (n1 = n4) (par (n2 = n5) (par ((l.n : Int) = (l3.n : Int)) (par ((l1.n : Int) = (l4.n : Int)) (T60 l2 l5 h fun r h1 => ∃ b : Bool, r = .bool b ∧ parB b (∃ (I : Int → Hp → Prop) (m : Int → Hp → Nat), I 0 h1 ∧ (∀ n6 : Int, ∀ h2 : Hp, I n6 h2 → par (n6 < (l.n : Int)) (∃ b1 o, (l.a : Option Addr) = some ⟨b1, o, none⟩ ∧ ((0 : Int) ≤ n6 ∧ n6 < (l.n : Int)) ∧ ∃ n7 : Int, h2.at b1 (o + n6.toNat * 2) = some (.int .i64 n7) ∧ ∃ n8 : Int, h2.at b1 ((o + n6.toNat * 2) + 1) = some (.int .u64 n8) ∧ ∃ b2 o1, (l3.a : Option Addr) = some ⟨b2, o1, none⟩ ∧ ((0 : Int) ≤ n6 ∧ n6 < (l3.n : Int)) ∧ ∃ n9 : Int, h2.at b2 (o1 + n6.toNat * 2) = some (.int .i64 n9) ∧ ∃ n10 : Int, h2.at b2 ((o1 + n6.toNat * 2) + 1) = some (.int .u64 n10) ∧ par (([.int .i64 n7, .int .u64 n8] : List Value) = [.int .i64 n9, .int .u64 n10]) (I (IntKind.wrap .i64 (n6 + 1)) h2 ∧ m (IntKind.wrap .i64 (n6 + 1)) h2 < m n6 h2) (Q (.bool false) h2)) (∃ (I1 : Int → Hp → Prop) (m1 : Int → Hp → Nat), I1 0 h2 ∧ (∀ n11 : Int, ∀ h3 : Hp, I1 n11 h3 → par (n11 < (l1.n : Int)) (∃ b3 o2, (l1.a : Option Addr) = some ⟨b3, o2, none⟩ ∧ ((0 : Int) ≤ n11 ∧ n11 < (l1.n : Int)) ∧ ∃ n12 : Int, h3.at b3 (o2 + n11.toNat * 7) = some (.int .i64 n12) ∧ ∃ n13 : Int, h3.at b3 ((o2 + n11.toNat * 7) + 1) = some (.int .u64 n13) ∧ ∃ n14 : Int, h3.at b3 ((o2 + n11.toNat * 7) + 2) = some (.int .i64 n14) ∧ ∃ n15 : Int, h3.at b3 ((o2 + n11.toNat * 7) + 3) = some (.int .i64 n15) ∧ ∃ n16 : Int, h3.at b3 ((o2 + n11.toNat * 7) + 4) = some (.int .i64 n16) ∧ ∃ s : ByteArray, h3.at b3 ((o2 + n11.toNat * 7) + 5) = some (.string s) ∧ ∃ s1 : ByteArray, h3.at b3 ((o2 + n11.toNat * 7) + 6) = some (.string s1) ∧ ∃ b4 o3, (l4.a : Option Addr) = some ⟨b4, o3, none⟩ ∧ ((0 : Int) ≤ n11 ∧ n11 < (l4.n : Int)) ∧ ∃ n17 : Int, h3.at b4 (o3 + n11.toNat * 7) = some (.int .i64 n17) ∧ ∃ n18 : Int, h3.at b4 ((o3 + n11.toNat * 7) + 1) = some (.int .u64 n18) ∧ ∃ n19 : Int, h3.at b4 ((o3 + n11.toNat * 7) + 2) = some (.int .i64 n19) ∧ ∃ n20 : Int, h3.at b4 ((o3 + n11.toNat * 7) + 3) = some (.int .i64 n20) ∧ ∃ n21 : Int, h3.at b4 ((o3 + n11.toNat * 7) + 4) = some (.int .i64 n21) ∧ ∃ s2 : ByteArray, h3.at b4 ((o3 + n11.toNat * 7) + 5) = some (.string s2) ∧ ∃ s3 : ByteArray, h3.at b4 ((o3 + n11.toNat * 7) + 6) = some (.string s3) ∧ par (([.int .i64 n12, .int .u64 n13, .int .i64 n14, .int .i64 n15, .int .i64 n16, .string s, .string s1] : List Value) = [.int .i64 n17, .int .u64 n18, .int .i64 n19, .int .i64 n20, .int .i64 n21, .string s2, .string s3]) (I1 (IntKind.wrap .i64 (n11 + 1)) h3 ∧ m1 (IntKind.wrap .i64 (n11 + 1)) h3 < m1 n11 h3) (Q (.bool false) h3)) (Q (.bool true) h3))))) (Q (.bool false) h1)) (Q (.bool false) h)) (Q (.bool false) h)) (Q (.bool false) h)) (Q (.bool false) h)) (Q (.bool false) h) := by kernel_rfl
theorem F23.den (V : Value → List Value → PT) (n : Int) (n1 : Int) (n2 : Int) (l : Sl) (l1 : Sl) (l2 : Sl) (n3 : Int) (n4 : Int) (n5 : Int) (l3 : Sl) (l4 : Sl) (l5 : Sl) : denF Try.prog [2, 3] [(60, F60.V)] V [(58, .loop [(5, .int .i64)] []), (122, .loop [(6, .int .i64)] []), (1864, .order [0, 1, 2, 3, 4, 5, 6, 7, 8, 9, 10]), (3912, .order [0, 1, 2, 3, 4, 5, 6, 7, 8, 9, 10])] Try.f23 [.v (.agg ⟨[.int .u64 n, .int .u64 n1, .int .u64 n2, .slice l.a l.n l.c, .slice l1.a l1.n l1.c, .slice l2.a l2.n l2.c]⟩), .v (.agg ⟨[.int .u64 n3, .int .u64 n4, .int .u64 n5, .slice l3.a l3.n l3.c, .slice l4.a l4.n l4.c, .slice l5.a l5.n l5.c]⟩)] = F23.T n n1 n2 l l1 l2 n3 n4 n5 l3 l4 l5 := F23.gen V F60.T n n1 n2 l l1 l2 n3 n4 n5 l3 l4 l5
def F23.W (T23 : Int → Int → Int → Sl → Sl → Sl → Int → Int → Int → Sl → Sl → Sl → PT) (args : List Value) : PT := match args with
  | [.agg ⟨[.int .u64 n, .int .u64 n1, .int .u64 n2, .slice l_a l_n l_c, .slice l1_a l1_n l1_c, .slice l2_a l2_n l2_c]⟩, .agg ⟨[.int .u64 n3, .int .u64 n4, .int .u64 n5, .slice l3_a l3_n l3_c, .slice l4_a l4_n l4_c, .slice l5_a l5_n l5_c]⟩] => T23 n n1 n2 ⟨l_a, l_n, l_c⟩ ⟨l1_a, l1_n, l1_c⟩ ⟨l2_a, l2_n, l2_c⟩ n3 n4 n5 ⟨l3_a, l3_n, l3_c⟩ ⟨l4_a, l4_n, l4_c⟩ ⟨l5_a, l5_n, l5_c⟩
  | _ => fun _ _ => False
def F23.V : List Value → PT := F23.W F23.T
theorem F23.ok : FOk Try.prog 23 F23.V := by
  refine ⟨⟨_, Try.func23, rfl, rfl⟩, fun args => ?_⟩
  have hG : GOk Try.prog [(60, F60.V)] := GOk.cons F60.ok (GOk.nil)
  have hV : VOk Try.prog noV := noV_ok
  unfold F23.V F23.W
  split
  · exact denF_okV hG hV Try.func23 (fun h Q hq => (F23.den _ _ _ _ _ _ _ _ _ _ _ _ _) ▸ hq)
  · exact fun h Q hq => hq.elim
def F78.T (n : Int) : PT := fun h Q =>
  par (n = 108) (Q (.bool true) h) (par (n = 109) (Q (.bool true) h) (par (n = 116) (Q (.bool true) h) (Q (.bool false) h)))
theorem F78.den (V : Value → List Value → PT) (n : Int) : denF Try.prog [] [] V [] Try.f78 [.v (.int .u8 n)] = F78.T n := by kernel_rfl
def F78.W (T78 : Int → PT) (args : List Value) : PT := match args with
  | [.int .u8 n] => T78 n
  | _ => fun _ _ => False
def F78.V : List Value → PT := F78.W F78.T
theorem F78.ok : FOk Try.prog 78 F78.V := by
  refine ⟨⟨_, Try.func78, rfl, rfl⟩, fun args => ?_⟩
  have hG : GOk Try.prog [] := GOk.nil
  have hV : VOk Try.prog noV := noV_ok
  unfold F78.V F78.W
  split
  · exact denF_okV hG hV Try.func78 (fun h Q hq => (F78.den _ _) ▸ hq)
  · exact fun h Q hq => hq.elim
def F47.T (n : Int) (n1 : Int) : PT := fun h Q =>
  F78.T n h fun r h1 => ∃ b : Bool, r = .bool b ∧ parB b (par ((1000000000000 : Int) ≤ n1) (Q (.string (ByteArray.mk #[])) h1) (∀ b1, h1 b1 = none → ∃ cs t, (h1.new b1 (.cells ⟨[.int .u8 63, .int .u8 45, .int .u8 48, .int .u8 48, .int .u8 48, .int .u8 48, .int .u8 48, .int .u8 48, .int .u8 48, .int .u8 48, .int .u8 48, .int .u8 48, .int .u8 48, .int .u8 48]⟩ 5 (0, 0))) b1 = some (.cells cs t (0, 0)) ∧ ∃ b2 o, ((some ⟨b1, 0, none⟩) : Option Addr) = some ⟨b2, o, none⟩ ∧ ((0 : Int) ≤ 0 ∧ 0 < (14 : Int)) ∧ ((h1.new b1 (.cells ⟨[.int .u8 63, .int .u8 45, .int .u8 48, .int .u8 48, .int .u8 48, .int .u8 48, .int .u8 48, .int .u8 48, .int .u8 48, .int .u8 48, .int .u8 48, .int .u8 48, .int .u8 48, .int .u8 48]⟩ 5 (0, 0))).new b1 (.cells cs t (cs.size, cs.size + 1))).canW b2 (o + (0 : Int).toNat) 1 ∧ ∃ (I : Int → Int → Hp → Prop) (m : Int → Int → Hp → Nat), I n1 (IntKind.wrap .i64 ((14 : Int) - 1)) (((h1.new b1 (.cells ⟨[.int .u8 63, .int .u8 45, .int .u8 48, .int .u8 48, .int .u8 48, .int .u8 48, .int .u8 48, .int .u8 48, .int .u8 48, .int .u8 48, .int .u8 48, .int .u8 48, .int .u8 48, .int .u8 48]⟩ 5 (0, 0))).new b1 (.cells cs t (cs.size, cs.size + 1))).wr b2 (o + (0 : Int).toNat) [.int .u8 n]) ∧ (∀ n2 : Int, ∀ n3 : Int, ∀ h2 : Hp, I n2 n3 h2 → par ((0 : Int) < n2) (∃ b3 o1, ((some ⟨b1, 0, none⟩) : Option Addr) = some ⟨b3, o1, none⟩ ∧ ((0 : Int) ≤ n3 ∧ n3 < (14 : Int)) ∧ ∃ n4 : Int, h2.at b3 (o1 + n3.toNat) = some (.int .u8 n4) ∧ (10 : Int) ≠ 0 ∧ ∃ b4 o2, ((some ⟨b1, 0, none⟩) : Option Addr) = some ⟨b4, o2, none⟩ ∧ ((0 : Int) ≤ n3 ∧ n3 < (14 : Int)) ∧ h2.canW b4 (o2 + n3.toNat) 1 ∧ (10 : Int) ≠ 0 ∧ I (IntKind.wrap .u64 (Int.tdiv n2 10)) (IntKind.wrap .i64 (n3 - 1)) (h2.wr b4 (o2 + n3.toNat) [.int .u8 (IntKind.wrap .u8 (n4 + (IntKind.wrap .u8 (Int.tmod n2 10))))]) ∧ m (IntKind.wrap .u64 (Int.tdiv n2 10)) (IntKind.wrap .i64 (n3 - 1)) (h2.wr b4 (o2 + n3.toNat) [.int .u8 (IntKind.wrap .u8 (n4 + (IntKind.wrap .u8 (Int.tmod n2 10))))]) < m n2 n3 h2) (∃ s : ByteArray, h2.row (some ⟨b1, 0, none⟩) 14 (bytesV s) ∧ Q (.string s) h2)))) (Q (.string (ByteArray.mk #[])) h1)
theorem F47.gen (V : Value → List Value → PT) (T78 : Int → PT) (n : Int) (n1 : Int) : denF Try.prog [] [(78, F78.W T78)] V [(250, .loop [(1, .int .u64), (6, .int .i64)] [])] Try.f47 [.v (.int .u8 n), .v (.int .u64 n1)] = fun h Q =>
  T78 n h fun r h1 => ∃ b : Bool, r = .bool b ∧ parB b (par ((1000000000000 : Int) ≤ n1) (Q (.string (ByteArray.mk #[])) h1) (∀ b1, h1 b1 = none → ∃ cs t, (h1.new b1 (.cells ⟨[.int .u8 63, .int .u8 45, .int .u8 48, .int .u8 48, .int .u8 48, .int .u8 48, .int .u8 48, .int .u8 48, .int .u8 48, .int .u8 48, .int .u8 48, .int .u8 48, .int .u8 48, .int .u8 48]⟩ 5 (0, 0))) b1 = some (.cells cs t (0, 0)) ∧ ∃ b2 o, ((some ⟨b1, 0, none⟩) : Option Addr) = some ⟨b2, o, none⟩ ∧ ((0 : Int) ≤ 0 ∧ 0 < (14 : Int)) ∧ ((h1.new b1 (.cells ⟨[.int .u8 63, .int .u8 45, .int .u8 48, .int .u8 48, .int .u8 48, .int .u8 48, .int .u8 48, .int .u8 48, .int .u8 48, .int .u8 48, .int .u8 48, .int .u8 48, .int .u8 48, .int .u8 48]⟩ 5 (0, 0))).new b1 (.cells cs t (cs.size, cs.size + 1))).canW b2 (o + (0 : Int).toNat) 1 ∧ ∃ (I : Int → Int → Hp → Prop) (m : Int → Int → Hp → Nat), I n1 (IntKind.wrap .i64 ((14 : Int) - 1)) (((h1.new b1 (.cells ⟨[.int .u8 63, .int .u8 45, .int .u8 48, .int .u8 48, .int .u8 48, .int .u8 48, .int .u8 48, .int .u8 48, .int .u8 48, .int .u8 48, .int .u8 48, .int .u8 48, .int .u8 48, .int .u8 48]⟩ 5 (0, 0))).new b1 (.cells cs t (cs.size, cs.size + 1))).wr b2 (o + (0 : Int).toNat) [.int .u8 n]) ∧ (∀ n2 : Int, ∀ n3 : Int, ∀ h2 : Hp, I n2 n3 h2 → par ((0 : Int) < n2) (∃ b3 o1, ((some ⟨b1, 0, none⟩) : Option Addr) = some ⟨b3, o1, none⟩ ∧ ((0 : Int) ≤ n3 ∧ n3 < (14 : Int)) ∧ ∃ n4 : Int, h2.at b3 (o1 + n3.toNat) = some (.int .u8 n4) ∧ (10 : Int) ≠ 0 ∧ ∃ b4 o2, ((some ⟨b1, 0, none⟩) : Option Addr) = some ⟨b4, o2, none⟩ ∧ ((0 : Int) ≤ n3 ∧ n3 < (14 : Int)) ∧ h2.canW b4 (o2 + n3.toNat) 1 ∧ (10 : Int) ≠ 0 ∧ I (IntKind.wrap .u64 (Int.tdiv n2 10)) (IntKind.wrap .i64 (n3 - 1)) (h2.wr b4 (o2 + n3.toNat) [.int .u8 (IntKind.wrap .u8 (n4 + (IntKind.wrap .u8 (Int.tmod n2 10))))]) ∧ m (IntKind.wrap .u64 (Int.tdiv n2 10)) (IntKind.wrap .i64 (n3 - 1)) (h2.wr b4 (o2 + n3.toNat) [.int .u8 (IntKind.wrap .u8 (n4 + (IntKind.wrap .u8 (Int.tmod n2 10))))]) < m n2 n3 h2) (∃ s : ByteArray, h2.row (some ⟨b1, 0, none⟩) 14 (bytesV s) ∧ Q (.string s) h2)))) (Q (.string (ByteArray.mk #[])) h1) := by kernel_rfl
theorem F47.den (V : Value → List Value → PT) (n : Int) (n1 : Int) : denF Try.prog [] [(78, F78.V)] V [(250, .loop [(1, .int .u64), (6, .int .i64)] [])] Try.f47 [.v (.int .u8 n), .v (.int .u64 n1)] = F47.T n n1 := F47.gen V F78.T n n1
def F47.W (T47 : Int → Int → PT) (args : List Value) : PT := match args with
  | [.int .u8 n, .int .u64 n1] => T47 n n1
  | _ => fun _ _ => False
def F47.V : List Value → PT := F47.W F47.T
theorem F47.ok : FOk Try.prog 47 F47.V := by
  refine ⟨⟨_, Try.func47, rfl, rfl⟩, fun args => ?_⟩
  have hG : GOk Try.prog [(78, F78.V)] := GOk.cons F78.ok (GOk.nil)
  have hV : VOk Try.prog noV := noV_ok
  unfold F47.V F47.W
  split
  · exact denF_okV hG hV Try.func47 (fun h Q hq => (F47.den _ _ _) ▸ hq)
  · exact fun h Q hq => hq.elim
def F50.T (n : Int) (n1 : Int) (n2 : Int) (l : Sl) (l1 : Sl) (l2 : Sl) : PT := fun h Q =>
  ∃ (I : Int → Hp → Prop) (m : Int → Hp → Nat), I 0 h ∧ (∀ n3 : Int, ∀ h1 : Hp, I n3 h1 → par (n3 < (l.n : Int)) (∃ b o, (l.a : Option Addr) = some ⟨b, o, none⟩ ∧ ((0 : Int) ≤ n3 ∧ n3 < (l.n : Int)) ∧ ∃ n4 : Int, h1.at b (o + n3.toNat * 2) = some (.int .i64 n4) ∧ ∃ n5 : Int, h1.at b ((o + n3.toNat * 2) + 1) = some (.int .u64 n5) ∧ par (n4 < 0) (Q (.bool false) h1) (par ((5 : Int) ≤ n4) (Q (.bool false) h1) (I (IntKind.wrap .i64 (n3 + 1)) h1 ∧ m (IntKind.wrap .i64 (n3 + 1)) h1 < m n3 h1))) (∃ (I1 : Int → Hp → Prop) (m1 : Int → Hp → Nat), I1 0 h1 ∧ (∀ n6 : Int, ∀ h2 : Hp, I1 n6 h2 → par (n6 < (l1.n : Int)) (∃ b1 o1, (l1.a : Option Addr) = some ⟨b1, o1, none⟩ ∧ ((0 : Int) ≤ n6 ∧ n6 < (l1.n : Int)) ∧ ∃ n7 : Int, h2.at b1 (o1 + n6.toNat * 7) = some (.int .i64 n7) ∧ ∃ n8 : Int, h2.at b1 ((o1 + n6.toNat * 7) + 1) = some (.int .u64 n8) ∧ ∃ n9 : Int, h2.at b1 ((o1 + n6.toNat * 7) + 2) = some (.int .i64 n9) ∧ ∃ n10 : Int, h2.at b1 ((o1 + n6.toNat * 7) + 3) = some (.int .i64 n10) ∧ ∃ n11 : Int, h2.at b1 ((o1 + n6.toNat * 7) + 4) = some (.int .i64 n11) ∧ ∃ s : ByteArray, h2.at b1 ((o1 + n6.toNat * 7) + 5) = some (.string s) ∧ ∃ s1 : ByteArray, h2.at b1 ((o1 + n6.toNat * 7) + 6) = some (.string s1) ∧ par (n7 < 0) (Q (.bool false) h2) (par ((5 : Int) ≤ n7) (Q (.bool false) h2) (par ((iMin (iMin n9 n10) n11) < 0) (Q (.bool false) h2) (par ((64 : Int) < (iMax (s.size : Int) (s1.size : Int))) (Q (.bool false) h2) (I1 (IntKind.wrap .i64 (n6 + 1)) h2 ∧ m1 (IntKind.wrap .i64 (n6 + 1)) h2 < m1 n6 h2))))) (∃ (I2 : Int → Hp → Prop) (m2 : Int → Hp → Nat), I2 0 h2 ∧ (∀ n12 : Int, ∀ h3 : Hp, I2 n12 h3 → par (n12 < (l2.n : Int)) (∃ b2 o2, (l2.a : Option Addr) = some ⟨b2, o2, none⟩ ∧ ((0 : Int) ≤ n12 ∧ n12 < (l2.n : Int)) ∧ ∃ s2 : ByteArray, h3.at b2 (o2 + n12.toNat) = some (.string s2) ∧ par ((64 : Int) < (s2.size : Int)) (Q (.bool false) h3) (I2 (IntKind.wrap .i64 (n12 + 1)) h3 ∧ m2 (IntKind.wrap .i64 (n12 + 1)) h3 < m2 n12 h3)) (par ((l2.n : Int) ≤ 5) (Q (.bool true) h3) (Q (.bool false) h3)))))))
theorem F50.den (V : Value → List Value → PT) (n : Int) (n1 : Int) (n2 : Int) (l : Sl) (l1 : Sl) (l2 : Sl) : denF Try.prog [1, 4, 6, 7] [] V [(26, .loop [(13, .int .i64)] []), (58, .loop [(29, .int .i64)] []), (122, .loop [(67, .int .i64)] [])] Try.f50 [.v (.agg ⟨[.int .u64 n, .int .u64 n1, .int .u64 n2, .slice l.a l.n l.c, .slice l1.a l1.n l1.c, .slice l2.a l2.n l2.c]⟩)] = F50.T n n1 n2 l l1 l2 := by kernel_rfl
def F50.W (T50 : Int → Int → Int → Sl → Sl → Sl → PT) (args : List Value) : PT := match args with
  | [.agg ⟨[.int .u64 n, .int .u64 n1, .int .u64 n2, .slice l_a l_n l_c, .slice l1_a l1_n l1_c, .slice l2_a l2_n l2_c]⟩] => T50 n n1 n2 ⟨l_a, l_n, l_c⟩ ⟨l1_a, l1_n, l1_c⟩ ⟨l2_a, l2_n, l2_c⟩
  | _ => fun _ _ => False
def F50.V : List Value → PT := F50.W F50.T
theorem F50.ok : FOk Try.prog 50 F50.V := by
  refine ⟨⟨_, Try.func50, rfl, rfl⟩, fun args => ?_⟩
  have hG : GOk Try.prog [] := GOk.nil
  have hV : VOk Try.prog noV := noV_ok
  unfold F50.V F50.W
  split
  · exact denF_okV hG hV Try.func50 (fun h Q hq => (F50.den _ _ _ _ _ _ _) ▸ hq)
  · exact fun h Q hq => hq.elim
def F51.Tt (n : Int) (n1 : Int) (n2 : Int) (l : Sl) (l1 : Sl) (l2 : Sl) : PT := fun h Q =>
  ∀ b, h b = none → ∃ b1 o, ((some ⟨b, 0, none⟩) : Option Addr) = some ⟨b1, o, none⟩ ∧ ((0 : Int) ≤ 0 ∧ 0 < (1 : Int)) ∧ (h.new b (.cells ⟨[.int .u8 0]⟩ 5 (0, 0))).canW b1 (o + (0 : Int).toNat) 1 ∧ ∀ b2, ((h.new b (.cells ⟨[.int .u8 0]⟩ 5 (0, 0))).wr b1 (o + (0 : Int).toNat) [.int .u8 1]) b2 = none → F80.T ⟨(some ⟨b, 0, none⟩), 1, 1⟩ ⟨(some ⟨b2, 0, none⟩), 4, 4⟩ (((h.new b (.cells ⟨[.int .u8 0]⟩ 5 (0, 0))).wr b1 (o + (0 : Int).toNat) [.int .u8 1]).new b2 (.cells ⟨[.int .u64 n, .int .u64 n1, .int .u64 n2, .int .u64 (IntKind.wrap .u64 (l.n : Int))]⟩ 55 (0, 0))) fun r h1 => ∃ l3 : Sl, r = .slice l3.a l3.n l3.c ∧ ∃ (I : Sl → Int → Hp → Prop) (m : Sl → Int → Hp → Nat), I l3 0 h1 ∧ (∀ l4 : Sl, ∀ n3 : Int, ∀ h2 : Hp, I l4 n3 h2 → par (n3 < (l.n : Int)) (∃ b3 o1, (l.a : Option Addr) = some ⟨b3, o1, none⟩ ∧ ((0 : Int) ≤ n3 ∧ n3 < (l.n : Int)) ∧ ∃ n4 : Int, h2.at b3 (o1 + n3.toNat * 2) = some (.int .i64 n4) ∧ ∃ n5 : Int, h2.at b3 ((o1 + n3.toNat * 2) + 1) = some (.int .u64 n5) ∧ ∀ b4, h2 b4 = none → F80.T l4 ⟨(some ⟨b4, 0, none⟩), 2, 2⟩ (h2.new b4 (.cells ⟨[.int .u64 (IntKind.wrap .u64 n4), .int .u64 n5]⟩ 55 (0, 0))) fun r1 h3 => ∃ l5 : Sl, r1 = .slice l5.a l5.n l5.c ∧ I l5 (IntKind.wrap .i64 (n3 + 1)) h3 ∧ m l5 (IntKind.wrap .i64 (n3 + 1)) h3 < m l4 n3 h2) (∀ b5, h2 b5 = none → F80.T l4 ⟨(some ⟨b5, 0, none⟩), 1, 1⟩ (h2.new b5 (.cells ⟨[.int .u64 (IntKind.wrap .u64 (l1.n : Int))]⟩ 55 (0, 0))) fun r2 h4 => ∃ l6 : Sl, r2 = .slice l6.a l6.n l6.c ∧ ∃ (I1 : Sl → Int → Hp → Prop) (m1 : Sl → Int → Hp → Nat), I1 l6 0 h4 ∧ (∀ l7 : Sl, ∀ n6 : Int, ∀ h5 : Hp, I1 l7 n6 h5 → par (n6 < (l1.n : Int)) (∃ b6 o2, (l1.a : Option Addr) = some ⟨b6, o2, none⟩ ∧ ((0 : Int) ≤ n6 ∧ n6 < (l1.n : Int)) ∧ ∃ n7 : Int, h5.at b6 (o2 + n6.toNat * 7) = some (.int .i64 n7) ∧ ∃ n8 : Int, h5.at b6 ((o2 + n6.toNat * 7) + 1) = some (.int .u64 n8) ∧ ∃ n9 : Int, h5.at b6 ((o2 + n6.toNat * 7) + 2) = some (.int .i64 n9) ∧ ∃ n10 : Int, h5.at b6 ((o2 + n6.toNat * 7) + 3) = some (.int .i64 n10) ∧ ∃ n11 : Int, h5.at b6 ((o2 + n6.toNat * 7) + 4) = some (.int .i64 n11) ∧ ∃ s : ByteArray, h5.at b6 ((o2 + n6.toNat * 7) + 5) = some (.string s) ∧ ∃ s1 : ByteArray, h5.at b6 ((o2 + n6.toNat * 7) + 6) = some (.string s1) ∧ ∀ b7, h5 b7 = none → F80.T l7 ⟨(some ⟨b7, 0, none⟩), 5, 5⟩ (h5.new b7 (.cells ⟨[.int .u64 (IntKind.wrap .u64 n7), .int .u64 n8, .int .u64 (IntKind.wrap .u64 n9), .int .u64 (IntKind.wrap .u64 n10), .int .u64 (IntKind.wrap .u64 n11)]⟩ 55 (0, 0))) fun r3 h6 => ∃ l8 : Sl, r3 = .slice l8.a l8.n l8.c ∧ F81.T l8 s h6 fun r4 h7 => ∃ l9 : Sl, r4 = .slice l9.a l9.n l9.c ∧ F81.T l9 s1 h7 fun r5 h8 => ∃ l10 : Sl, r5 = .slice l10.a l10.n l10.c ∧ I1 l10 (IntKind.wrap .i64 (n6 + 1)) h8 ∧ m1 l10 (IntKind.wrap .i64 (n6 + 1)) h8 < m1 l7 n6 h5) (∀ b8, h5 b8 = none → F80.T l7 ⟨(some ⟨b8, 0, none⟩), 1, 1⟩ (h5.new b8 (.cells ⟨[.int .u64 (IntKind.wrap .u64 (l2.n : Int))]⟩ 55 (0, 0))) fun r6 h9 => ∃ l11 : Sl, r6 = .slice l11.a l11.n l11.c ∧ ∃ (I2 : Sl → Int → Hp → Prop) (m2 : Sl → Int → Hp → Nat), I2 l11 0 h9 ∧ (∀ l12 : Sl, ∀ n12 : Int, ∀ h10 : Hp, I2 l12 n12 h10 → par (n12 < (l2.n : Int)) (∃ b9 o3, (l2.a : Option Addr) = some ⟨b9, o3, none⟩ ∧ ((0 : Int) ≤ n12 ∧ n12 < (l2.n : Int)) ∧ ∃ s2 : ByteArray, h10.at b9 (o3 + n12.toNat) = some (.string s2) ∧ F81.T l12 s2 h10 fun r7 h11 => ∃ l13 : Sl, r7 = .slice l13.a l13.n l13.c ∧ I2 l13 (IntKind.wrap .i64 (n12 + 1)) h11 ∧ m2 l13 (IntKind.wrap .i64 (n12 + 1)) h11 < m2 l12 n12 h10) (Q (.slice l12.a l12.n l12.c) h10))))))
theorem F51.gent (V : Value → List Value → PT) (T80 : Sl → Sl → PT) (T81 : Sl → ByteArray → PT) (n : Int) (n1 : Int) (n2 : Int) (l : Sl) (l1 : Sl) (l2 : Sl) : denF Try.prog [2, 7, 9, 10] [(80, F80.W T80), (81, F81.W T81)] V [(250, .loop [(5, .sl), (33, .int .i64)] []), (1018, .loop [(5, .sl), (56, .int .i64)] []), (4090, .loop [(5, .sl), (97, .int .i64)] []), (260711, .order [0, 1, 2, 4, 5, 3, 6, 7])] Try.f51 [.v (.agg ⟨[.int .u64 n, .int .u64 n1, .int .u64 n2, .slice l.a l.n l.c, .slice l1.a l1.n l1.c, .slice l2.a l2.n l2.c]⟩), .v (.bool true)] = fun h Q =>
  ∀ b, h b = none → ∃ b1 o, ((some ⟨b, 0, none⟩) : Option Addr) = some ⟨b1, o, none⟩ ∧ ((0 : Int) ≤ 0 ∧ 0 < (1 : Int)) ∧ (h.new b (.cells ⟨[.int .u8 0]⟩ 5 (0, 0))).canW b1 (o + (0 : Int).toNat) 1 ∧ ∀ b2, ((h.new b (.cells ⟨[.int .u8 0]⟩ 5 (0, 0))).wr b1 (o + (0 : Int).toNat) [.int .u8 1]) b2 = none → T80 ⟨(some ⟨b, 0, none⟩), 1, 1⟩ ⟨(some ⟨b2, 0, none⟩), 4, 4⟩ (((h.new b (.cells ⟨[.int .u8 0]⟩ 5 (0, 0))).wr b1 (o + (0 : Int).toNat) [.int .u8 1]).new b2 (.cells ⟨[.int .u64 n, .int .u64 n1, .int .u64 n2, .int .u64 (IntKind.wrap .u64 (l.n : Int))]⟩ 55 (0, 0))) fun r h1 => ∃ l3 : Sl, r = .slice l3.a l3.n l3.c ∧ ∃ (I : Sl → Int → Hp → Prop) (m : Sl → Int → Hp → Nat), I l3 0 h1 ∧ (∀ l4 : Sl, ∀ n3 : Int, ∀ h2 : Hp, I l4 n3 h2 → par (n3 < (l.n : Int)) (∃ b3 o1, (l.a : Option Addr) = some ⟨b3, o1, none⟩ ∧ ((0 : Int) ≤ n3 ∧ n3 < (l.n : Int)) ∧ ∃ n4 : Int, h2.at b3 (o1 + n3.toNat * 2) = some (.int .i64 n4) ∧ ∃ n5 : Int, h2.at b3 ((o1 + n3.toNat * 2) + 1) = some (.int .u64 n5) ∧ ∀ b4, h2 b4 = none → T80 l4 ⟨(some ⟨b4, 0, none⟩), 2, 2⟩ (h2.new b4 (.cells ⟨[.int .u64 (IntKind.wrap .u64 n4), .int .u64 n5]⟩ 55 (0, 0))) fun r1 h3 => ∃ l5 : Sl, r1 = .slice l5.a l5.n l5.c ∧ I l5 (IntKind.wrap .i64 (n3 + 1)) h3 ∧ m l5 (IntKind.wrap .i64 (n3 + 1)) h3 < m l4 n3 h2) (∀ b5, h2 b5 = none → T80 l4 ⟨(some ⟨b5, 0, none⟩), 1, 1⟩ (h2.new b5 (.cells ⟨[.int .u64 (IntKind.wrap .u64 (l1.n : Int))]⟩ 55 (0, 0))) fun r2 h4 => ∃ l6 : Sl, r2 = .slice l6.a l6.n l6.c ∧ ∃ (I1 : Sl → Int → Hp → Prop) (m1 : Sl → Int → Hp → Nat), I1 l6 0 h4 ∧ (∀ l7 : Sl, ∀ n6 : Int, ∀ h5 : Hp, I1 l7 n6 h5 → par (n6 < (l1.n : Int)) (∃ b6 o2, (l1.a : Option Addr) = some ⟨b6, o2, none⟩ ∧ ((0 : Int) ≤ n6 ∧ n6 < (l1.n : Int)) ∧ ∃ n7 : Int, h5.at b6 (o2 + n6.toNat * 7) = some (.int .i64 n7) ∧ ∃ n8 : Int, h5.at b6 ((o2 + n6.toNat * 7) + 1) = some (.int .u64 n8) ∧ ∃ n9 : Int, h5.at b6 ((o2 + n6.toNat * 7) + 2) = some (.int .i64 n9) ∧ ∃ n10 : Int, h5.at b6 ((o2 + n6.toNat * 7) + 3) = some (.int .i64 n10) ∧ ∃ n11 : Int, h5.at b6 ((o2 + n6.toNat * 7) + 4) = some (.int .i64 n11) ∧ ∃ s : ByteArray, h5.at b6 ((o2 + n6.toNat * 7) + 5) = some (.string s) ∧ ∃ s1 : ByteArray, h5.at b6 ((o2 + n6.toNat * 7) + 6) = some (.string s1) ∧ ∀ b7, h5 b7 = none → T80 l7 ⟨(some ⟨b7, 0, none⟩), 5, 5⟩ (h5.new b7 (.cells ⟨[.int .u64 (IntKind.wrap .u64 n7), .int .u64 n8, .int .u64 (IntKind.wrap .u64 n9), .int .u64 (IntKind.wrap .u64 n10), .int .u64 (IntKind.wrap .u64 n11)]⟩ 55 (0, 0))) fun r3 h6 => ∃ l8 : Sl, r3 = .slice l8.a l8.n l8.c ∧ T81 l8 s h6 fun r4 h7 => ∃ l9 : Sl, r4 = .slice l9.a l9.n l9.c ∧ T81 l9 s1 h7 fun r5 h8 => ∃ l10 : Sl, r5 = .slice l10.a l10.n l10.c ∧ I1 l10 (IntKind.wrap .i64 (n6 + 1)) h8 ∧ m1 l10 (IntKind.wrap .i64 (n6 + 1)) h8 < m1 l7 n6 h5) (∀ b8, h5 b8 = none → T80 l7 ⟨(some ⟨b8, 0, none⟩), 1, 1⟩ (h5.new b8 (.cells ⟨[.int .u64 (IntKind.wrap .u64 (l2.n : Int))]⟩ 55 (0, 0))) fun r6 h9 => ∃ l11 : Sl, r6 = .slice l11.a l11.n l11.c ∧ ∃ (I2 : Sl → Int → Hp → Prop) (m2 : Sl → Int → Hp → Nat), I2 l11 0 h9 ∧ (∀ l12 : Sl, ∀ n12 : Int, ∀ h10 : Hp, I2 l12 n12 h10 → par (n12 < (l2.n : Int)) (∃ b9 o3, (l2.a : Option Addr) = some ⟨b9, o3, none⟩ ∧ ((0 : Int) ≤ n12 ∧ n12 < (l2.n : Int)) ∧ ∃ s2 : ByteArray, h10.at b9 (o3 + n12.toNat) = some (.string s2) ∧ T81 l12 s2 h10 fun r7 h11 => ∃ l13 : Sl, r7 = .slice l13.a l13.n l13.c ∧ I2 l13 (IntKind.wrap .i64 (n12 + 1)) h11 ∧ m2 l13 (IntKind.wrap .i64 (n12 + 1)) h11 < m2 l12 n12 h10) (Q (.slice l12.a l12.n l12.c) h10)))))) := by kernel_rfl
theorem F51.dent (V : Value → List Value → PT) (n : Int) (n1 : Int) (n2 : Int) (l : Sl) (l1 : Sl) (l2 : Sl) : denF Try.prog [2, 7, 9, 10] [(80, F80.V), (81, F81.V)] V [(250, .loop [(5, .sl), (33, .int .i64)] []), (1018, .loop [(5, .sl), (56, .int .i64)] []), (4090, .loop [(5, .sl), (97, .int .i64)] []), (260711, .order [0, 1, 2, 4, 5, 3, 6, 7])] Try.f51 [.v (.agg ⟨[.int .u64 n, .int .u64 n1, .int .u64 n2, .slice l.a l.n l.c, .slice l1.a l1.n l1.c, .slice l2.a l2.n l2.c]⟩), .v (.bool true)] = F51.Tt n n1 n2 l l1 l2 := F51.gent V F80.T F81.T n n1 n2 l l1 l2
def F51.Tf (n : Int) (n1 : Int) (n2 : Int) (l : Sl) (l1 : Sl) (l2 : Sl) : PT := fun h Q =>
  ∀ b, h b = none → ∀ b1, (h.new b (.cells ⟨[.int .u8 0]⟩ 5 (0, 0))) b1 = none → F80.T ⟨(some ⟨b, 0, none⟩), 1, 1⟩ ⟨(some ⟨b1, 0, none⟩), 4, 4⟩ ((h.new b (.cells ⟨[.int .u8 0]⟩ 5 (0, 0))).new b1 (.cells ⟨[.int .u64 n, .int .u64 n1, .int .u64 n2, .int .u64 (IntKind.wrap .u64 (l.n : Int))]⟩ 55 (0, 0))) fun r h1 => ∃ l3 : Sl, r = .slice l3.a l3.n l3.c ∧ ∃ (I : Sl → Int → Hp → Prop) (m : Sl → Int → Hp → Nat), I l3 0 h1 ∧ (∀ l4 : Sl, ∀ n3 : Int, ∀ h2 : Hp, I l4 n3 h2 → par (n3 < (l.n : Int)) (∃ b2 o, (l.a : Option Addr) = some ⟨b2, o, none⟩ ∧ ((0 : Int) ≤ n3 ∧ n3 < (l.n : Int)) ∧ ∃ n4 : Int, h2.at b2 (o + n3.toNat * 2) = some (.int .i64 n4) ∧ ∃ n5 : Int, h2.at b2 ((o + n3.toNat * 2) + 1) = some (.int .u64 n5) ∧ ∀ b3, h2 b3 = none → F80.T l4 ⟨(some ⟨b3, 0, none⟩), 2, 2⟩ (h2.new b3 (.cells ⟨[.int .u64 (IntKind.wrap .u64 n4), .int .u64 n5]⟩ 55 (0, 0))) fun r1 h3 => ∃ l5 : Sl, r1 = .slice l5.a l5.n l5.c ∧ I l5 (IntKind.wrap .i64 (n3 + 1)) h3 ∧ m l5 (IntKind.wrap .i64 (n3 + 1)) h3 < m l4 n3 h2) (∀ b4, h2 b4 = none → F80.T l4 ⟨(some ⟨b4, 0, none⟩), 1, 1⟩ (h2.new b4 (.cells ⟨[.int .u64 (IntKind.wrap .u64 (l1.n : Int))]⟩ 55 (0, 0))) fun r2 h4 => ∃ l6 : Sl, r2 = .slice l6.a l6.n l6.c ∧ ∃ (I1 : Sl → Int → Hp → Prop) (m1 : Sl → Int → Hp → Nat), I1 l6 0 h4 ∧ (∀ l7 : Sl, ∀ n6 : Int, ∀ h5 : Hp, I1 l7 n6 h5 → par (n6 < (l1.n : Int)) (∃ b5 o1, (l1.a : Option Addr) = some ⟨b5, o1, none⟩ ∧ ((0 : Int) ≤ n6 ∧ n6 < (l1.n : Int)) ∧ ∃ n7 : Int, h5.at b5 (o1 + n6.toNat * 7) = some (.int .i64 n7) ∧ ∃ n8 : Int, h5.at b5 ((o1 + n6.toNat * 7) + 1) = some (.int .u64 n8) ∧ ∃ n9 : Int, h5.at b5 ((o1 + n6.toNat * 7) + 2) = some (.int .i64 n9) ∧ ∃ n10 : Int, h5.at b5 ((o1 + n6.toNat * 7) + 3) = some (.int .i64 n10) ∧ ∃ n11 : Int, h5.at b5 ((o1 + n6.toNat * 7) + 4) = some (.int .i64 n11) ∧ ∃ s : ByteArray, h5.at b5 ((o1 + n6.toNat * 7) + 5) = some (.string s) ∧ ∃ s1 : ByteArray, h5.at b5 ((o1 + n6.toNat * 7) + 6) = some (.string s1) ∧ ∀ b6, h5 b6 = none → F80.T l7 ⟨(some ⟨b6, 0, none⟩), 5, 5⟩ (h5.new b6 (.cells ⟨[.int .u64 (IntKind.wrap .u64 n7), .int .u64 n8, .int .u64 (IntKind.wrap .u64 n9), .int .u64 (IntKind.wrap .u64 n10), .int .u64 (IntKind.wrap .u64 n11)]⟩ 55 (0, 0))) fun r3 h6 => ∃ l8 : Sl, r3 = .slice l8.a l8.n l8.c ∧ F81.T l8 s h6 fun r4 h7 => ∃ l9 : Sl, r4 = .slice l9.a l9.n l9.c ∧ F81.T l9 s1 h7 fun r5 h8 => ∃ l10 : Sl, r5 = .slice l10.a l10.n l10.c ∧ I1 l10 (IntKind.wrap .i64 (n6 + 1)) h8 ∧ m1 l10 (IntKind.wrap .i64 (n6 + 1)) h8 < m1 l7 n6 h5) (∀ b7, h5 b7 = none → F80.T l7 ⟨(some ⟨b7, 0, none⟩), 1, 1⟩ (h5.new b7 (.cells ⟨[.int .u64 (IntKind.wrap .u64 (l2.n : Int))]⟩ 55 (0, 0))) fun r6 h9 => ∃ l11 : Sl, r6 = .slice l11.a l11.n l11.c ∧ ∃ (I2 : Sl → Int → Hp → Prop) (m2 : Sl → Int → Hp → Nat), I2 l11 0 h9 ∧ (∀ l12 : Sl, ∀ n12 : Int, ∀ h10 : Hp, I2 l12 n12 h10 → par (n12 < (l2.n : Int)) (∃ b8 o2, (l2.a : Option Addr) = some ⟨b8, o2, none⟩ ∧ ((0 : Int) ≤ n12 ∧ n12 < (l2.n : Int)) ∧ ∃ s2 : ByteArray, h10.at b8 (o2 + n12.toNat) = some (.string s2) ∧ F81.T l12 s2 h10 fun r7 h11 => ∃ l13 : Sl, r7 = .slice l13.a l13.n l13.c ∧ I2 l13 (IntKind.wrap .i64 (n12 + 1)) h11 ∧ m2 l13 (IntKind.wrap .i64 (n12 + 1)) h11 < m2 l12 n12 h10) (Q (.slice l12.a l12.n l12.c) h10))))))
theorem F51.genf (V : Value → List Value → PT) (T80 : Sl → Sl → PT) (T81 : Sl → ByteArray → PT) (n : Int) (n1 : Int) (n2 : Int) (l : Sl) (l1 : Sl) (l2 : Sl) : denF Try.prog [2, 7, 9, 10] [(80, F80.W T80), (81, F81.W T81)] V [(250, .loop [(5, .sl), (33, .int .i64)] []), (1018, .loop [(5, .sl), (56, .int .i64)] []), (4090, .loop [(5, .sl), (97, .int .i64)] []), (260711, .order [0, 1, 2, 4, 5, 3, 6, 7])] Try.f51 [.v (.agg ⟨[.int .u64 n, .int .u64 n1, .int .u64 n2, .slice l.a l.n l.c, .slice l1.a l1.n l1.c, .slice l2.a l2.n l2.c]⟩), .v (.bool false)] = fun h Q =>
  ∀ b, h b = none → ∀ b1, (h.new b (.cells ⟨[.int .u8 0]⟩ 5 (0, 0))) b1 = none → T80 ⟨(some ⟨b, 0, none⟩), 1, 1⟩ ⟨(some ⟨b1, 0, none⟩), 4, 4⟩ ((h.new b (.cells ⟨[.int .u8 0]⟩ 5 (0, 0))).new b1 (.cells ⟨[.int .u64 n, .int .u64 n1, .int .u64 n2, .int .u64 (IntKind.wrap .u64 (l.n : Int))]⟩ 55 (0, 0))) fun r h1 => ∃ l3 : Sl, r = .slice l3.a l3.n l3.c ∧ ∃ (I : Sl → Int → Hp → Prop) (m : Sl → Int → Hp → Nat), I l3 0 h1 ∧ (∀ l4 : Sl, ∀ n3 : Int, ∀ h2 : Hp, I l4 n3 h2 → par (n3 < (l.n : Int)) (∃ b2 o, (l.a : Option Addr) = some ⟨b2, o, none⟩ ∧ ((0 : Int) ≤ n3 ∧ n3 < (l.n : Int)) ∧ ∃ n4 : Int, h2.at b2 (o + n3.toNat * 2) = some (.int .i64 n4) ∧ ∃ n5 : Int, h2.at b2 ((o + n3.toNat * 2) + 1) = some (.int .u64 n5) ∧ ∀ b3, h2 b3 = none → T80 l4 ⟨(some ⟨b3, 0, none⟩), 2, 2⟩ (h2.new b3 (.cells ⟨[.int .u64 (IntKind.wrap .u64 n4), .int .u64 n5]⟩ 55 (0, 0))) fun r1 h3 => ∃ l5 : Sl, r1 = .slice l5.a l5.n l5.c ∧ I l5 (IntKind.wrap .i64 (n3 + 1)) h3 ∧ m l5 (IntKind.wrap .i64 (n3 + 1)) h3 < m l4 n3 h2) (∀ b4, h2 b4 = none → T80 l4 ⟨(some ⟨b4, 0, none⟩), 1, 1⟩ (h2.new b4 (.cells ⟨[.int .u64 (IntKind.wrap .u64 (l1.n : Int))]⟩ 55 (0, 0))) fun r2 h4 => ∃ l6 : Sl, r2 = .slice l6.a l6.n l6.c ∧ ∃ (I1 : Sl → Int → Hp → Prop) (m1 : Sl → Int → Hp → Nat), I1 l6 0 h4 ∧ (∀ l7 : Sl, ∀ n6 : Int, ∀ h5 : Hp, I1 l7 n6 h5 → par (n6 < (l1.n : Int)) (∃ b5 o1, (l1.a : Option Addr) = some ⟨b5, o1, none⟩ ∧ ((0 : Int) ≤ n6 ∧ n6 < (l1.n : Int)) ∧ ∃ n7 : Int, h5.at b5 (o1 + n6.toNat * 7) = some (.int .i64 n7) ∧ ∃ n8 : Int, h5.at b5 ((o1 + n6.toNat * 7) + 1) = some (.int .u64 n8) ∧ ∃ n9 : Int, h5.at b5 ((o1 + n6.toNat * 7) + 2) = some (.int .i64 n9) ∧ ∃ n10 : Int, h5.at b5 ((o1 + n6.toNat * 7) + 3) = some (.int .i64 n10) ∧ ∃ n11 : Int, h5.at b5 ((o1 + n6.toNat * 7) + 4) = some (.int .i64 n11) ∧ ∃ s : ByteArray, h5.at b5 ((o1 + n6.toNat * 7) + 5) = some (.string s) ∧ ∃ s1 : ByteArray, h5.at b5 ((o1 + n6.toNat * 7) + 6) = some (.string s1) ∧ ∀ b6, h5 b6 = none → T80 l7 ⟨(some ⟨b6, 0, none⟩), 5, 5⟩ (h5.new b6 (.cells ⟨[.int .u64 (IntKind.wrap .u64 n7), .int .u64 n8, .int .u64 (IntKind.wrap .u64 n9), .int .u64 (IntKind.wrap .u64 n10), .int .u64 (IntKind.wrap .u64 n11)]⟩ 55 (0, 0))) fun r3 h6 => ∃ l8 : Sl, r3 = .slice l8.a l8.n l8.c ∧ T81 l8 s h6 fun r4 h7 => ∃ l9 : Sl, r4 = .slice l9.a l9.n l9.c ∧ T81 l9 s1 h7 fun r5 h8 => ∃ l10 : Sl, r5 = .slice l10.a l10.n l10.c ∧ I1 l10 (IntKind.wrap .i64 (n6 + 1)) h8 ∧ m1 l10 (IntKind.wrap .i64 (n6 + 1)) h8 < m1 l7 n6 h5) (∀ b7, h5 b7 = none → T80 l7 ⟨(some ⟨b7, 0, none⟩), 1, 1⟩ (h5.new b7 (.cells ⟨[.int .u64 (IntKind.wrap .u64 (l2.n : Int))]⟩ 55 (0, 0))) fun r6 h9 => ∃ l11 : Sl, r6 = .slice l11.a l11.n l11.c ∧ ∃ (I2 : Sl → Int → Hp → Prop) (m2 : Sl → Int → Hp → Nat), I2 l11 0 h9 ∧ (∀ l12 : Sl, ∀ n12 : Int, ∀ h10 : Hp, I2 l12 n12 h10 → par (n12 < (l2.n : Int)) (∃ b8 o2, (l2.a : Option Addr) = some ⟨b8, o2, none⟩ ∧ ((0 : Int) ≤ n12 ∧ n12 < (l2.n : Int)) ∧ ∃ s2 : ByteArray, h10.at b8 (o2 + n12.toNat) = some (.string s2) ∧ T81 l12 s2 h10 fun r7 h11 => ∃ l13 : Sl, r7 = .slice l13.a l13.n l13.c ∧ I2 l13 (IntKind.wrap .i64 (n12 + 1)) h11 ∧ m2 l13 (IntKind.wrap .i64 (n12 + 1)) h11 < m2 l12 n12 h10) (Q (.slice l12.a l12.n l12.c) h10)))))) := by kernel_rfl
theorem F51.denf (V : Value → List Value → PT) (n : Int) (n1 : Int) (n2 : Int) (l : Sl) (l1 : Sl) (l2 : Sl) : denF Try.prog [2, 7, 9, 10] [(80, F80.V), (81, F81.V)] V [(250, .loop [(5, .sl), (33, .int .i64)] []), (1018, .loop [(5, .sl), (56, .int .i64)] []), (4090, .loop [(5, .sl), (97, .int .i64)] []), (260711, .order [0, 1, 2, 4, 5, 3, 6, 7])] Try.f51 [.v (.agg ⟨[.int .u64 n, .int .u64 n1, .int .u64 n2, .slice l.a l.n l.c, .slice l1.a l1.n l1.c, .slice l2.a l2.n l2.c]⟩), .v (.bool false)] = F51.Tf n n1 n2 l l1 l2 := F51.genf V F80.T F81.T n n1 n2 l l1 l2
def F51.W (T51t : Int → Int → Int → Sl → Sl → Sl → PT) (T51f : Int → Int → Int → Sl → Sl → Sl → PT) (args : List Value) : PT := match args with
  | [.agg ⟨[.int .u64 n, .int .u64 n1, .int .u64 n2, .slice l_a l_n l_c, .slice l1_a l1_n l1_c, .slice l2_a l2_n l2_c]⟩, .bool true] => T51t n n1 n2 ⟨l_a, l_n, l_c⟩ ⟨l1_a, l1_n, l1_c⟩ ⟨l2_a, l2_n, l2_c⟩
  | [.agg ⟨[.int .u64 n, .int .u64 n1, .int .u64 n2, .slice l_a l_n l_c, .slice l1_a l1_n l1_c, .slice l2_a l2_n l2_c]⟩, .bool false] => T51f n n1 n2 ⟨l_a, l_n, l_c⟩ ⟨l1_a, l1_n, l1_c⟩ ⟨l2_a, l2_n, l2_c⟩
  | _ => fun _ _ => False
def F51.V : List Value → PT := F51.W F51.Tt F51.Tf
theorem F51.ok : FOk Try.prog 51 F51.V := by
  refine ⟨⟨_, Try.func51, rfl, rfl⟩, fun args => ?_⟩
  have hG : GOk Try.prog [(80, F80.V), (81, F81.V)] := GOk.cons F80.ok (GOk.cons F81.ok (GOk.nil))
  have hV : VOk Try.prog noV := noV_ok
  unfold F51.V F51.W
  split
  · exact denF_okV hG hV Try.func51 (fun h Q hq => (F51.dent _ _ _ _ _ _ _) ▸ hq)
  · exact denF_okV hG hV Try.func51 (fun h Q hq => (F51.denf _ _ _ _ _ _ _) ▸ hq)
  · exact fun h Q hq => hq.elim
def F18.T (n : Int) (n1 : Int) (n2 : Int) (l : Sl) (l1 : Sl) (l2 : Sl) : PT := fun h Q =>
  F50.T n n1 n2 l l1 l2 h fun r h1 => ∃ b : Bool, r = .bool b ∧ parB b (∃ (I : Sl → Int → Int → Int → Sl → Sl → Sl → Hp → Prop) (m : Sl → Int → Int → Int → Sl → Sl → Sl → Hp → Nat), I ⟨none, 0, 0⟩ n n1 n2 l l1 l2 h1 ∧ (∀ l3 : Sl, ∀ n3 : Int, ∀ n4 : Int, ∀ n5 : Int, ∀ l4 : Sl, ∀ l5 : Sl, ∀ l6 : Sl, ∀ h2 : Hp, I l3 n3 n4 n5 l4 l5 l6 h2 → Sl.okCut l4 0 (iMin (l4.n : Int) 256) (iMin (l4.n : Int) 256) ∧ Sl.okCut l5 0 (iMin (l5.n : Int) (IntKind.wrap .i64 (256 - (iMin (l4.n : Int) 256)))) (iMin (l5.n : Int) (IntKind.wrap .i64 (256 - (iMin (l4.n : Int) 256)))) ∧ Sl.okCut l4 (iMin (l4.n : Int) 256) (l4.n : Int) (l4.c : Int) ∧ Sl.okCut l5 (iMin (l5.n : Int) (IntKind.wrap .i64 (256 - (iMin (l4.n : Int) 256)))) (l5.n : Int) (l5.c : Int) ∧ par ((IntKind.wrap .i64 (((Sl.cut l4 2 (iMin (l4.n : Int) 256) (l4.n : Int) (l4.c : Int)).n : Int) + ((Sl.cut l5 7 (iMin (l5.n : Int) (IntKind.wrap .i64 (256 - (iMin (l4.n : Int) 256)))) (l5.n : Int) (l5.c : Int)).n : Int))) = 0) (F51.Tt n3 n4 n5 (Sl.cut l4 2 0 (iMin (l4.n : Int) 256) (iMin (l4.n : Int) 256)) (Sl.cut l5 7 0 (iMin (l5.n : Int) (IntKind.wrap .i64 (256 - (iMin (l4.n : Int) 256)))) (iMin (l5.n : Int) (IntKind.wrap .i64 (256 - (iMin (l4.n : Int) 256))))) l6 h2 fun r1 h3 => ∃ l7 : Sl, r1 = .slice l7.a l7.n l7.c ∧ appendD l3 25 1 24 [.slice none 0 0] 1 [.slice l7.a l7.n l7.c] h3 fun l8 h4 => Q (.slice l8.a l8.n l8.c) h4) (F51.Tf n3 n4 n5 (Sl.cut l4 2 0 (iMin (l4.n : Int) 256) (iMin (l4.n : Int) 256)) (Sl.cut l5 7 0 (iMin (l5.n : Int) (IntKind.wrap .i64 (256 - (iMin (l4.n : Int) 256)))) (iMin (l5.n : Int) (IntKind.wrap .i64 (256 - (iMin (l4.n : Int) 256))))) ⟨none, 0, 0⟩ h2 fun r2 h5 => ∃ l9 : Sl, r2 = .slice l9.a l9.n l9.c ∧ appendD l3 25 1 24 [.slice none 0 0] 1 [.slice l9.a l9.n l9.c] h5 fun l10 h6 => I l10 n3 n4 n5 (Sl.cut l4 2 (iMin (l4.n : Int) 256) (l4.n : Int) (l4.c : Int)) (Sl.cut l5 7 (iMin (l5.n : Int) (IntKind.wrap .i64 (256 - (iMin (l4.n : Int) 256)))) (l5.n : Int) (l5.c : Int)) l6 h6 ∧ m l10 n3 n4 n5 (Sl.cut l4 2 (iMin (l4.n : Int) 256) (l4.n : Int) (l4.c : Int)) (Sl.cut l5 7 (iMin (l5.n : Int) (IntKind.wrap .i64 (256 - (iMin (l4.n : Int) 256)))) (l5.n : Int) (l5.c : Int)) l6 h6 < m l3 n3 n4 n5 l4 l5 l6 h2))) (Q (.slice none 0 0) h1)
theorem F18.gen (V : Value → List Value → PT) (T50 : Int → Int → Int → Sl → Sl → Sl → PT) (T51t : Int → Int → Int → Sl → Sl → Sl → PT) (T51f : Int → Int → Int → Sl → Sl → Sl → PT) (n : Int) (n1 : Int) (n2 : Int) (l : Sl) (l1 : Sl) (l2 : Sl) : denF Try.prog [1, 4, 54, 60] [(50, F50.W T50), (51, F51.W T51t T51f)] V [(30, .loop [(3, .sl)] [(1, [.int .u64, .int .u64, .int .u64, .sl, .sl, .sl])]), (1934, .order [0, 1, 2, 3, 4, 5, 6, 7, 8, 9, 10, 11, 12, 13]), (3870, .order [0, 1, 2, 3, 4, 5, 6, 7, 8, 9, 10, 11])] Try.f18 [.v (.agg ⟨[.int .u64 n, .int .u64 n1, .int .u64 n2, .slice l.a l.n l.c, .slice l1.a l1.n l1.c, .slice l2.a l2.n l2.c]⟩)] = fun h Q =>
  T50 n n1 n2 l l1 l2 h fun r h1 => ∃ b : Bool, r = .bool b ∧ parB b (∃ (I : Sl → Int → Int → Int → Sl → Sl → Sl → Hp → Prop) (m : Sl → Int → Int → Int → Sl → Sl → Sl → Hp → Nat), I ⟨none, 0, 0⟩ n n1 n2 l l1 l2 h1 ∧ (∀ l3 : Sl, ∀ n3 : Int, ∀ n4 : Int, ∀ n5 : Int, ∀ l4 : Sl, ∀ l5 : Sl, ∀ l6 : Sl, ∀ h2 : Hp, I l3 n3 n4 n5 l4 l5 l6 h2 → Sl.okCut l4 0 (iMin (l4.n : Int) 256) (iMin (l4.n : Int) 256) ∧ Sl.okCut l5 0 (iMin (l5.n : Int) (IntKind.wrap .i64 (256 - (iMin (l4.n : Int) 256)))) (iMin (l5.n : Int) (IntKind.wrap .i64 (256 - (iMin (l4.n : Int) 256)))) ∧ Sl.okCut l4 (iMin (l4.n : Int) 256) (l4.n : Int) (l4.c : Int) ∧ Sl.okCut l5 (iMin (l5.n : Int) (IntKind.wrap .i64 (256 - (iMin (l4.n : Int) 256)))) (l5.n : Int) (l5.c : Int) ∧ par ((IntKind.wrap .i64 (((Sl.cut l4 2 (iMin (l4.n : Int) 256) (l4.n : Int) (l4.c : Int)).n : Int) + ((Sl.cut l5 7 (iMin (l5.n : Int) (IntKind.wrap .i64 (256 - (iMin (l4.n : Int) 256)))) (l5.n : Int) (l5.c : Int)).n : Int))) = 0) (T51t n3 n4 n5 (Sl.cut l4 2 0 (iMin (l4.n : Int) 256) (iMin (l4.n : Int) 256)) (Sl.cut l5 7 0 (iMin (l5.n : Int) (IntKind.wrap .i64 (256 - (iMin (l4.n : Int) 256)))) (iMin (l5.n : Int) (IntKind.wrap .i64 (256 - (iMin (l4.n : Int) 256))))) l6 h2 fun r1 h3 => ∃ l7 : Sl, r1 = .slice l7.a l7.n l7.c ∧ appendD l3 25 1 24 [.slice none 0 0] 1 [.slice l7.a l7.n l7.c] h3 fun l8 h4 => Q (.slice l8.a l8.n l8.c) h4) (T51f n3 n4 n5 (Sl.cut l4 2 0 (iMin (l4.n : Int) 256) (iMin (l4.n : Int) 256)) (Sl.cut l5 7 0 (iMin (l5.n : Int) (IntKind.wrap .i64 (256 - (iMin (l4.n : Int) 256)))) (iMin (l5.n : Int) (IntKind.wrap .i64 (256 - (iMin (l4.n : Int) 256))))) ⟨none, 0, 0⟩ h2 fun r2 h5 => ∃ l9 : Sl, r2 = .slice l9.a l9.n l9.c ∧ appendD l3 25 1 24 [.slice none 0 0] 1 [.slice l9.a l9.n l9.c] h5 fun l10 h6 => I l10 n3 n4 n5 (Sl.cut l4 2 (iMin (l4.n : Int) 256) (l4.n : Int) (l4.c : Int)) (Sl.cut l5 7 (iMin (l5.n : Int) (IntKind.wrap .i64 (256 - (iMin (l4.n : Int) 256)))) (l5.n : Int) (l5.c : Int)) l6 h6 ∧ m l10 n3 n4 n5 (Sl.cut l4 2 (iMin (l4.n : Int) 256) (l4.n : Int) (l4.c : Int)) (Sl.cut l5 7 (iMin (l5.n : Int) (IntKind.wrap .i64 (256 - (iMin (l4.n : Int) 256)))) (l5.n : Int) (l5.c : Int)) l6 h6 < m l3 n3 n4 n5 l4 l5 l6 h2))) (Q (.slice none 0 0) h1) := by kernel_rfl
theorem F18.den (V : Value → List Value → PT) (n : Int) (n1 : Int) (n2 : Int) (l : Sl) (l1 : Sl) (l2 : Sl) : denF Try.prog [1, 4, 54, 60] [(50, F50.V), (51, F51.V)] V [(30, .loop [(3, .sl)] [(1, [.int .u64, .int .u64, .int .u64, .sl, .sl, .sl])]), (1934, .order [0, 1, 2, 3, 4, 5, 6, 7, 8, 9, 10, 11, 12, 13]), (3870, .order [0, 1, 2, 3, 4, 5, 6, 7, 8, 9, 10, 11])] Try.f18 [.v (.agg ⟨[.int .u64 n, .int .u64 n1, .int .u64 n2, .slice l.a l.n l.c, .slice l1.a l1.n l1.c, .slice l2.a l2.n l2.c]⟩)] = F18.T n n1 n2 l l1 l2 := F18.gen V F50.T F51.Tt F51.Tf n n1 n2 l l1 l2
def F18.W (T18 : Int → Int → Int → Sl → Sl → Sl → PT) (args : List Value) : PT := match args with
  | [.agg ⟨[.int .u64 n, .int .u64 n1, .int .u64 n2, .slice l_a l_n l_c, .slice l1_a l1_n l1_c, .slice l2_a l2_n l2_c]⟩] => T18 n n1 n2 ⟨l_a, l_n, l_c⟩ ⟨l1_a, l1_n, l1_c⟩ ⟨l2_a, l2_n, l2_c⟩
  | _ => fun _ _ => False
def F18.V : List Value → PT := F18.W F18.T
theorem F18.ok : FOk Try.prog 18 F18.V := by
  refine ⟨⟨_, Try.func18, rfl, rfl⟩, fun args => ?_⟩
  have hG : GOk Try.prog [(50, F50.V), (51, F51.V)] := GOk.cons F50.ok (GOk.cons F51.ok (GOk.nil))
  have hV : VOk Try.prog noV := noV_ok
  unfold F18.V F18.W
  split
  · exact denF_okV hG hV Try.func18 (fun h Q hq => (F18.den _ _ _ _ _ _ _) ▸ hq)
  · exact fun h Q hq => hq.elim
def F31.T (l : Sl) : PT := fun h Q =>
  par ((l.n : Int) = 0) (Q (.tuple ⟨[.agg ⟨[.int .u64 0, .int .u64 0, .int .u64 0, .slice none 0 0, .slice none 0 0, .slice none 0 0]⟩, .bool false, .bool false]⟩) h) (∃ b o, (l.a : Option Addr) = some ⟨b, o, none⟩ ∧ ((0 : Int) ≤ 0 ∧ 0 < (l.n : Int)) ∧ ∃ n : Int, h.at b (o + (0 : Int).toNat) = some (.int .u8 n) ∧ par ((1 : Int) < n) (Q (.tuple ⟨[.agg ⟨[.int .u64 0, .int .u64 0, .int .u64 0, .slice none 0 0, .slice none 0 0, .slice none 0 0]⟩, .bool false, .bool false]⟩) h) (Sl.okCut l 1 (l.n : Int) (l.c : Int) ∧ ∀ b1, h b1 = none → F72.T (some ⟨b1, 0, none⟩) (h.new b1 (.cells ⟨[.slice (Sl.cut l 1 1 (l.n : Int) (l.c : Int)).a (Sl.cut l 1 1 (l.n : Int) (l.c : Int)).n (Sl.cut l 1 1 (l.n : Int) (l.c : Int)).c, .bool false]⟩ 125 (0, 0))) fun r h1 => ∃ n1 : Int, r = .int .u64 n1 ∧ F72.T (some ⟨b1, 0, none⟩) h1 fun r1 h2 => ∃ n2 : Int, r1 = .int .u64 n2 ∧ F72.T (some ⟨b1, 0, none⟩) h2 fun r2 h3 => ∃ n3 : Int, r2 = .int .u64 n3 ∧ F72.T (some ⟨b1, 0, none⟩) h3 fun r3 h4 => ∃ n4 : Int, r3 = .int .u64 n4 ∧ ∃ (I : Int → Int → Int → Int → Sl → Sl → Sl → Hp → Prop) (m : Int → Int → Int → Int → Sl → Sl → Sl → Hp → Nat), I n4 n1 n2 n3 ⟨none, 0, 0⟩ ⟨none, 0, 0⟩ ⟨none, 0, 0⟩ h4 ∧ (∀ n5 : Int, ∀ n6 : Int, ∀ n7 : Int, ∀ n8 : Int, ∀ l1 : Sl, ∀ l2 : Sl, ∀ l3 : Sl, ∀ h5 : Hp, I n5 n6 n7 n8 l1 l2 l3 h5 → par ((0 : Int) < n5) (F73.T (some ⟨b1, 0, none⟩) 4 h5 fun r4 h6 => ∃ n9 : Int, r4 = .int .i64 n9 ∧ F72.T (some ⟨b1, 0, none⟩) h6 fun r5 h7 => ∃ n10 : Int, r5 = .int .u64 n10 ∧ appendD l1 89 2 16 [.int .i64 0, .int .u64 0] 1 [.int .i64 n9, .int .u64 n10] h7 fun l4 h8 => ∃ b2 : Bool, h8.at b1 1 = some (.bool b2) ∧ parB b2 (Q (.tuple ⟨[.agg ⟨[.int .u64 0, .int .u64 0, .int .u64 0, .slice none 0 0, .slice none 0 0, .slice none 0 0]⟩, .bool false, .bool false]⟩) h8) (I (IntKind.wrap .u64 (n5 - 1)) n6 n7 n8 l4 l2 l3 h8 ∧ m (IntKind.wrap .u64 (n5 - 1)) n6 n7 n8 l4 l2 l3 h8 < m n5 n6 n7 n8 l1 l2 l3 h5)) (F72.T (some ⟨b1, 0, none⟩) h5 fun r6 h9 => ∃ n11 : Int, r6 = .int .u64 n11 ∧ ∃ (I1 : Int → Int → Int → Int → Sl → Sl → Sl → Hp → Prop) (m1 : Int → Int → Int → Int → Sl → Sl → Sl → Hp → Nat), I1 n11 n6 n7 n8 l1 l2 l3 h9 ∧ (∀ n12 : Int, ∀ n13 : Int, ∀ n14 : Int, ∀ n15 : Int, ∀ l5 : Sl, ∀ l6 : Sl, ∀ l7 : Sl, ∀ h10 : Hp, I1 n12 n13 n14 n15 l5 l6 l7 h10 → par ((0 : Int) < n12) (F73.T (some ⟨b1, 0, none⟩) 4 h10 fun r7 h11 => ∃ n16 : Int, r7 = .int .i64 n16 ∧ F72.T (some ⟨b1, 0, none⟩) h11 fun r8 h12 => ∃ n17 : Int, r8 = .int .u64 n17 ∧ F73.T (some ⟨b1, 0, none⟩) 9223372036854775807 h12 fun r9 h13 => ∃ n18 : Int, r9 = .int .i64 n18 ∧ F73.T (some ⟨b1, 0, none⟩) 9223372036854775807 h13 fun r10 h14 => ∃ n19 : Int, r10 = .int .i64 n19 ∧ F73.T (some ⟨b1, 0, none⟩) 9223372036854775807 h14 fun r11 h15 => ∃ n20 : Int, r11 = .int .i64 n20 ∧ F74.T (some ⟨b1, 0, none⟩) h15 fun r12 h16 => ∃ s : ByteArray, r12 = .string s ∧ F74.T (some ⟨b1, 0, none⟩) h16 fun r13 h17 => ∃ s1 : ByteArray, r13 = .string s1 ∧ appendD l6 87 7 72 [.int .i64 0, .int .u64 0, .int .i64 0, .int .i64 0, .int .i64 0, .string (ByteArray.mk #[]), .string (ByteArray.mk #[])] 1 [.int .i64 n16, .int .u64 n17, .int .i64 n18, .int .i64 n19, .int .i64 n20, .string s, .string s1] h17 fun l8 h18 => ∃ b3 : Bool, h18.at b1 1 = some (.bool b3) ∧ parB b3 (Q (.tuple ⟨[.agg ⟨[.int .u64 0, .int .u64 0, .int .u64 0, .slice none 0 0, .slice none 0 0, .slice none 0 0]⟩, .bool false, .bool false]⟩) h18) (I1 (IntKind.wrap .u64 (n12 - 1)) n13 n14 n15 l5 l8 l7 h18 ∧ m1 (IntKind.wrap .u64 (n12 - 1)) n13 n14 n15 l5 l8 l7 h18 < m1 n12 n13 n14 n15 l5 l6 l7 h10)) (F72.T (some ⟨b1, 0, none⟩) h10 fun r14 h19 => ∃ n21 : Int, r14 = .int .u64 n21 ∧ ∃ (I2 : Int → Int → Int → Int → Sl → Sl → Sl → Hp → Prop) (m2 : Int → Int → Int → Int → Sl → Sl → Sl → Hp → Nat), I2 n21 n13 n14 n15 l5 l6 l7 h19 ∧ (∀ n22 : Int, ∀ n23 : Int, ∀ n24 : Int, ∀ n25 : Int, ∀ l9 : Sl, ∀ l10 : Sl, ∀ l11 : Sl, ∀ h20 : Hp, I2 n22 n23 n24 n25 l9 l10 l11 h20 → par ((0 : Int) < n22) (F74.T (some ⟨b1, 0, none⟩) h20 fun r15 h21 => ∃ s2 : ByteArray, r15 = .string s2 ∧ appendD l11 9 1 16 [.string (ByteArray.mk #[])] 1 [.string s2] h21 fun l12 h22 => ∃ b4 : Bool, h22.at b1 1 = some (.bool b4) ∧ parB b4 (Q (.tuple ⟨[.agg ⟨[.int .u64 0, .int .u64 0, .int .u64 0, .slice none 0 0, .slice none 0 0, .slice none 0 0]⟩, .bool false, .bool false]⟩) h22) (I2 (IntKind.wrap .u64 (n22 - 1)) n23 n24 n25 l9 l10 l12 h22 ∧ m2 (IntKind.wrap .u64 (n22 - 1)) n23 n24 n25 l9 l10 l12 h22 < m2 n22 n23 n24 n25 l9 l10 l11 h20)) (∃ b5 : Bool, h20.at b1 1 = some (.bool b5) ∧ parB b5 (Q (.tuple ⟨[.agg ⟨[.int .u64 0, .int .u64 0, .int .u64 0, .slice none 0 0, .slice none 0 0, .slice none 0 0]⟩, .bool false, .bool false]⟩) h20) (∃ l13 : Sl, h20.at b1 0 = some (.slice l13.a l13.n l13.c) ∧ par ((l13.n : Int) = 0) (∃ b6 o1, (l.a : Option Addr) = some ⟨b6, o1, none⟩ ∧ ((0 : Int) ≤ 0 ∧ 0 < (l.n : Int)) ∧ ∃ n26 : Int, h20.at b6 (o1 + (0 : Int).toNat) = some (.int .u8 n26) ∧ par (n26 = 1) (h20.at b6 (o1 + (0 : Int).toNat) = some (.int .u8 n26) ∧ Q (.tuple ⟨[.agg ⟨[.int .u64 n23, .int .u64 n24, .int .u64 n25, .slice l9.a l9.n l9.c, .slice l10.a l10.n l10.c, .slice l11.a l11.n l11.c]⟩, .bool true, .bool true]⟩) h20) (h20.at b6 (o1 + (0 : Int).toNat) = some (.int .u8 n26) ∧ Q (.tuple ⟨[.agg ⟨[.int .u64 n23, .int .u64 n24, .int .u64 n25, .slice l9.a l9.n l9.c, .slice l10.a l10.n l10.c, .slice l11.a l11.n l11.c]⟩, .bool false, .bool true]⟩) h20)) (Q (.tuple ⟨[.agg ⟨[.int .u64 0, .int .u64 0, .int .u64 0, .slice none 0 0, .slice none 0 0, .slice none 0 0]⟩, .bool false, .bool false]⟩) h20))))))))))
theorem F31.gen (V : Value → List Value → PT) (T72 : Option Addr → PT) (T73 : Option Addr → Int → PT) (T74 : Option Addr → PT) (l : Sl) : denF Try.prog [2, 5, 9, 47, 90, 107] [(72, F72.W T72), (73, F73.W T73), (74, F74.W T74)] V [(3, .jump 0), (890, .loop [(7, .int .u64)] [(5, [.int .u64, .int .u64, .int .u64, .sl, .sl, .sl])]), (1786, .loop [(8, .int .u64)] [(5, [.int .u64, .int .u64, .int .u64, .sl, .sl, .sl])]), (3578, .loop [(10, .int .u64)] [(5, [.int .u64, .int .u64, .int .u64, .sl, .sl, .sl])]), (14324, .order [0, 1, 2, 3, 4, 5, 6, 7]), (28488, .order [0, 1, 2, 4, 3, 5, 6, 7, 8, 9, 10]), (114504, .order [0, 1, 2, 3, 4, 5, 6, 7])] Try.f31 [.v (.slice l.a l.n l.c)] = fun h Q =>
  par ((l.n : Int) = 0) (Q (.tuple ⟨[.agg ⟨[.int .u64 0, .int .u64 0, .int .u64 0, .slice none 0 0, .slice none 0 0, .slice none 0 0]⟩, .bool false, .bool false]⟩) h) (∃ b o, (l.a : Option Addr) = some ⟨b, o, none⟩ ∧ ((0 : Int) ≤ 0 ∧ 0 < (l.n : Int)) ∧ ∃ n : Int, h.at b (o + (0 : Int).toNat) = some (.int .u8 n) ∧ par ((1 : Int) < n) (Q (.tuple ⟨[.agg ⟨[.int .u64 0, .int .u64 0, .int .u64 0, .slice none 0 0, .slice none 0 0, .slice none 0 0]⟩, .bool false, .bool false]⟩) h) (Sl.okCut l 1 (l.n : Int) (l.c : Int) ∧ ∀ b1, h b1 = none → T72 (some ⟨b1, 0, none⟩) (h.new b1 (.cells ⟨[.slice (Sl.cut l 1 1 (l.n : Int) (l.c : Int)).a (Sl.cut l 1 1 (l.n : Int) (l.c : Int)).n (Sl.cut l 1 1 (l.n : Int) (l.c : Int)).c, .bool false]⟩ 125 (0, 0))) fun r h1 => ∃ n1 : Int, r = .int .u64 n1 ∧ T72 (some ⟨b1, 0, none⟩) h1 fun r1 h2 => ∃ n2 : Int, r1 = .int .u64 n2 ∧ T72 (some ⟨b1, 0, none⟩) h2 fun r2 h3 => ∃ n3 : Int, r2 = .int .u64 n3 ∧ T72 (some ⟨b1, 0, none⟩) h3 fun r3 h4 => ∃ n4 : Int, r3 = .int .u64 n4 ∧ ∃ (I : Int → Int → Int → Int → Sl → Sl → Sl → Hp → Prop) (m : Int → Int → Int → Int → Sl → Sl → Sl → Hp → Nat), I n4 n1 n2 n3 ⟨none, 0, 0⟩ ⟨none, 0, 0⟩ ⟨none, 0, 0⟩ h4 ∧ (∀ n5 : Int, ∀ n6 : Int, ∀ n7 : Int, ∀ n8 : Int, ∀ l1 : Sl, ∀ l2 : Sl, ∀ l3 : Sl, ∀ h5 : Hp, I n5 n6 n7 n8 l1 l2 l3 h5 → par ((0 : Int) < n5) (T73 (some ⟨b1, 0, none⟩) 4 h5 fun r4 h6 => ∃ n9 : Int, r4 = .int .i64 n9 ∧ T72 (some ⟨b1, 0, none⟩) h6 fun r5 h7 => ∃ n10 : Int, r5 = .int .u64 n10 ∧ appendD l1 89 2 16 [.int .i64 0, .int .u64 0] 1 [.int .i64 n9, .int .u64 n10] h7 fun l4 h8 => ∃ b2 : Bool, h8.at b1 1 = some (.bool b2) ∧ parB b2 (Q (.tuple ⟨[.agg ⟨[.int .u64 0, .int .u64 0, .int .u64 0, .slice none 0 0, .slice none 0 0, .slice none 0 0]⟩, .bool false, .bool false]⟩) h8) (I (IntKind.wrap .u64 (n5 - 1)) n6 n7 n8 l4 l2 l3 h8 ∧ m (IntKind.wrap .u64 (n5 - 1)) n6 n7 n8 l4 l2 l3 h8 < m n5 n6 n7 n8 l1 l2 l3 h5)) (T72 (some ⟨b1, 0, none⟩) h5 fun r6 h9 => ∃ n11 : Int, r6 = .int .u64 n11 ∧ ∃ (I1 : Int → Int → Int → Int → Sl → Sl → Sl → Hp → Prop) (m1 : Int → Int → Int → Int → Sl → Sl → Sl → Hp → Nat), I1 n11 n6 n7 n8 l1 l2 l3 h9 ∧ (∀ n12 : Int, ∀ n13 : Int, ∀ n14 : Int, ∀ n15 : Int, ∀ l5 : Sl, ∀ l6 : Sl, ∀ l7 : Sl, ∀ h10 : Hp, I1 n12 n13 n14 n15 l5 l6 l7 h10 → par ((0 : Int) < n12) (T73 (some ⟨b1, 0, none⟩) 4 h10 fun r7 h11 => ∃ n16 : Int, r7 = .int .i64 n16 ∧ T72 (some ⟨b1, 0, none⟩) h11 fun r8 h12 => ∃ n17 : Int, r8 = .int .u64 n17 ∧ T73 (some ⟨b1, 0, none⟩) 9223372036854775807 h12 fun r9 h13 => ∃ n18 : Int, r9 = .int .i64 n18 ∧ T73 (some ⟨b1, 0, none⟩) 9223372036854775807 h13 fun r10 h14 => ∃ n19 : Int, r10 = .int .i64 n19 ∧ T73 (some ⟨b1, 0, none⟩) 9223372036854775807 h14 fun r11 h15 => ∃ n20 : Int, r11 = .int .i64 n20 ∧ T74 (some ⟨b1, 0, none⟩) h15 fun r12 h16 => ∃ s : ByteArray, r12 = .string s ∧ T74 (some ⟨b1, 0, none⟩) h16 fun r13 h17 => ∃ s1 : ByteArray, r13 = .string s1 ∧ appendD l6 87 7 72 [.int .i64 0, .int .u64 0, .int .i64 0, .int .i64 0, .int .i64 0, .string (ByteArray.mk #[]), .string (ByteArray.mk #[])] 1 [.int .i64 n16, .int .u64 n17, .int .i64 n18, .int .i64 n19, .int .i64 n20, .string s, .string s1] h17 fun l8 h18 => ∃ b3 : Bool, h18.at b1 1 = some (.bool b3) ∧ parB b3 (Q (.tuple ⟨[.agg ⟨[.int .u64 0, .int .u64 0, .int .u64 0, .slice none 0 0, .slice none 0 0, .slice none 0 0]⟩, .bool false, .bool false]⟩) h18) (I1 (IntKind.wrap .u64 (n12 - 1)) n13 n14 n15 l5 l8 l7 h18 ∧ m1 (IntKind.wrap .u64 (n12 - 1)) n13 n14 n15 l5 l8 l7 h18 < m1 n12 n13 n14 n15 l5 l6 l7 h10)) (T72 (some ⟨b1, 0, none⟩) h10 fun r14 h19 => ∃ n21 : Int, r14 = .int .u64 n21 ∧ ∃ (I2 : Int → Int → Int → Int → Sl → Sl → Sl → Hp → Prop) (m2 : Int → Int → Int → Int → Sl → Sl → Sl → Hp → Nat), I2 n21 n13 n14 n15 l5 l6 l7 h19 ∧ (∀ n22 : Int, ∀ n23 : Int, ∀ n24 : Int, ∀ n25 : Int, ∀ l9 : Sl, ∀ l10 : Sl, ∀ l11 : Sl, ∀ h20 : Hp, I2 n22 n23 n24 n25 l9 l10 l11 h20 → par ((0 : Int) < n22) (T74 (some ⟨b1, 0, none⟩) h20 fun r15 h21 => ∃ s2 : ByteArray, r15 = .string s2 ∧ appendD l11 9 1 16 [.string (ByteArray.mk #[])] 1 [.string s2] h21 fun l12 h22 => ∃ b4 : Bool, h22.at b1 1 = some (.bool b4) ∧ parB b4 (Q (.tuple ⟨[.agg ⟨[.int .u64 0, .int .u64 0, .int .u64 0, .slice none 0 0, .slice none 0 0, .slice none 0 0]⟩, .bool false, .bool false]⟩) h22) (I2 (IntKind.wrap .u64 (n22 - 1)) n23 n24 n25 l9 l10 l12 h22 ∧ m2 (IntKind.wrap .u64 (n22 - 1)) n23 n24 n25 l9 l10 l12 h22 < m2 n22 n23 n24 n25 l9 l10 l11 h20)) (∃ b5 : Bool, h20.at b1 1 = some (.bool b5) ∧ parB b5 (Q (.tuple ⟨[.agg ⟨[.int .u64 0, .int .u64 0, .int .u64 0, .slice none 0 0, .slice none 0 0, .slice none 0 0]⟩, .bool false, .bool false]⟩) h20) (∃ l13 : Sl, h20.at b1 0 = some (.slice l13.a l13.n l13.c) ∧ par ((l13.n : Int) = 0) (∃ b6 o1, (l.a : Option Addr) = some ⟨b6, o1, none⟩ ∧ ((0 : Int) ≤ 0 ∧ 0 < (l.n : Int)) ∧ ∃ n26 : Int, h20.at b6 (o1 + (0 : Int).toNat) = some (.int .u8 n26) ∧ par (n26 = 1) (h20.at b6 (o1 + (0 : Int).toNat) = some (.int .u8 n26) ∧ Q (.tuple ⟨[.agg ⟨[.int .u64 n23, .int .u64 n24, .int .u64 n25, .slice l9.a l9.n l9.c, .slice l10.a l10.n l10.c, .slice l11.a l11.n l11.c]⟩, .bool true, .bool true]⟩) h20) (h20.at b6 (o1 + (0 : Int).toNat) = some (.int .u8 n26) ∧ Q (.tuple ⟨[.agg ⟨[.int .u64 n23, .int .u64 n24, .int .u64 n25, .slice l9.a l9.n l9.c, .slice l10.a l10.n l10.c, .slice l11.a l11.n l11.c]⟩, .bool false, .bool true]⟩) h20)) (Q (.tuple ⟨[.agg ⟨[.int .u64 0, .int .u64 0, .int .u64 0, .slice none 0 0, .slice none 0 0, .slice none 0 0]⟩, .bool false, .bool false]⟩) h20)))))))))) := by kernel_rfl
theorem F31.den (V : Value → List Value → PT) (l : Sl) : denF Try.prog [2, 5, 9, 47, 90, 107] [(72, F72.V), (73, F73.V), (74, F74.V)] V [(3, .jump 0), (890, .loop [(7, .int .u64)] [(5, [.int .u64, .int .u64, .int .u64, .sl, .sl, .sl])]), (1786, .loop [(8, .int .u64)] [(5, [.int .u64, .int .u64, .int .u64, .sl, .sl, .sl])]), (3578, .loop [(10, .int .u64)] [(5, [.int .u64, .int .u64, .int .u64, .sl, .sl, .sl])]), (14324, .order [0, 1, 2, 3, 4, 5, 6, 7]), (28488, .order [0, 1, 2, 4, 3, 5, 6, 7, 8, 9, 10]), (114504, .order [0, 1, 2, 3, 4, 5, 6, 7])] Try.f31 [.v (.slice l.a l.n l.c)] = F31.T l := F31.gen V F72.T F73.T F74.T l
def F31.W (T31 : Sl → PT) (args : List Value) : PT := match args with
  | [.slice l_a l_n l_c] => T31 ⟨l_a, l_n, l_c⟩
  | _ => fun _ _ => False
def F31.V : List Value → PT := F31.W F31.T
theorem F31.ok : FOk Try.prog 31 F31.V := by
  refine ⟨⟨_, Try.func31, rfl, rfl⟩, fun args => ?_⟩
  have hG : GOk Try.prog [(72, F72.V), (73, F73.V), (74, F74.V)] := GOk.cons F72.ok (GOk.cons F73.ok (GOk.cons F74.ok (GOk.nil)))
  have hV : VOk Try.prog noV := noV_ok
  unfold F31.V F31.W
  split
  · exact denF_okV hG hV Try.func31 (fun h Q hq => (F31.den _ _) ▸ hq)
  · exact fun h Q hq => hq.elim
def F76.T (l : Sl) (l1 : Sl) : PT := fun h Q =>
  par ((l.n : Int) = (l1.n : Int)) (∃ (I : Int → Hp → Prop) (m : Int → Hp → Nat), I 0 h ∧ (∀ n : Int, ∀ h1 : Hp, I n h1 → par (n < (l.n : Int)) (∃ b o, (l.a : Option Addr) = some ⟨b, o, none⟩ ∧ ((0 : Int) ≤ n ∧ n < (l.n : Int)) ∧ ∃ n1 : Int, h1.at b (o + n.toNat) = some (.int .u8 n1) ∧ ∃ b1 o1, (l1.a : Option Addr) = some ⟨b1, o1, none⟩ ∧ ((0 : Int) ≤ n ∧ n < (l1.n : Int)) ∧ ∃ n2 : Int, h1.at b1 (o1 + n.toNat) = some (.int .u8 n2) ∧ par (n1 = n2) (I (IntKind.wrap .i64 (n + 1)) h1 ∧ m (IntKind.wrap .i64 (n + 1)) h1 < m n h1) (Q (.bool false) h1)) (Q (.bool true) h1))) (Q (.bool false) h)
theorem F76.den (V : Value → List Value → PT) (l : Sl) (l1 : Sl) : denF Try.prog [] [] V [(58, .loop [(13, .int .i64)] []), (7474, .order [0, 1, 2, 3, 4, 5, 6, 7, 8])] Try.f76 [.v (.slice l.a l.n l.c), .v (.slice l1.a l1.n l1.c)] = F76.T l l1 := by kernel_rfl
def F76.W (T76 : Sl → Sl → PT) (args : List Value) : PT := match args with
  | [.slice l_a l_n l_c, .slice l1_a l1_n l1_c] => T76 ⟨l_a, l_n, l_c⟩ ⟨l1_a, l1_n, l1_c⟩
  | _ => fun _ _ => False
def F76.V : List Value → PT := F76.W F76.T
theorem F76.ok : FOk Try.prog 76 F76.V := by
  refine ⟨⟨_, Try.func76, rfl, rfl⟩, fun args => ?_⟩
  have hG : GOk Try.prog [] := GOk.nil
  have hV : VOk Try.prog noV := noV_ok
  unfold F76.V F76.W
  split
  · exact denF_okV hG hV Try.func76 (fun h Q hq => (F76.den _ _ _) ▸ hq)
  · exact fun h Q hq => hq.elim
def F75.T (l : Sl) (l1 : Sl) : PT := fun h Q =>
  par ((l.n : Int) = (l1.n : Int)) (∃ (I : Int → Hp → Prop) (m : Int → Hp → Nat), I 0 h ∧ (∀ n : Int, ∀ h1 : Hp, I n h1 → par (n < (l.n : Int)) (∃ b o, (l.a : Option Addr) = some ⟨b, o, none⟩ ∧ ((0 : Int) ≤ n ∧ n < (l.n : Int)) ∧ ∃ l2 : Sl, h1.at b (o + n.toNat) = some (.slice l2.a l2.n l2.c) ∧ ∃ b1 o1, (l1.a : Option Addr) = some ⟨b1, o1, none⟩ ∧ ((0 : Int) ≤ n ∧ n < (l1.n : Int)) ∧ ∃ l3 : Sl, h1.at b1 (o1 + n.toNat) = some (.slice l3.a l3.n l3.c) ∧ F76.T l2 l3 h1 fun r h2 => ∃ b2 : Bool, r = .bool b2 ∧ parB b2 (I (IntKind.wrap .i64 (n + 1)) h2 ∧ m (IntKind.wrap .i64 (n + 1)) h2 < m n h1) (Q (.bool false) h2)) (Q (.bool true) h1))) (Q (.bool false) h)
theorem F75.gen (V : Value → List Value → PT) (T76 : Sl → Sl → PT) (l : Sl) (l1 : Sl) : denF Try.prog [] [(76, F76.W T76)] V [(58, .loop [(17, .int .i64)] [])] Try.f75 [.v (.slice l.a l.n l.c), .v (.slice l1.a l1.n l1.c), .v (.func (.func 76) ⟨[]⟩ ⟨[]⟩)] = fun h Q =>
  par ((l.n : Int) = (l1.n : Int)) (∃ (I : Int → Hp → Prop) (m : Int → Hp → Nat), I 0 h ∧ (∀ n : Int, ∀ h1 : Hp, I n h1 → par (n < (l.n : Int)) (∃ b o, (l.a : Option Addr) = some ⟨b, o, none⟩ ∧ ((0 : Int) ≤ n ∧ n < (l.n : Int)) ∧ ∃ l2 : Sl, h1.at b (o + n.toNat) = some (.slice l2.a l2.n l2.c) ∧ ∃ b1 o1, (l1.a : Option Addr) = some ⟨b1, o1, none⟩ ∧ ((0 : Int) ≤ n ∧ n < (l1.n : Int)) ∧ ∃ l3 : Sl, h1.at b1 (o1 + n.toNat) = some (.slice l3.a l3.n l3.c) ∧ T76 l2 l3 h1 fun r h2 => ∃ b2 : Bool, r = .bool b2 ∧ parB b2 (I (IntKind.wrap .i64 (n + 1)) h2 ∧ m (IntKind.wrap .i64 (n + 1)) h2 < m n h1) (Q (.bool false) h2)) (Q (.bool true) h1))) (Q (.bool false) h) := by kernel_rfl
theorem F75.den (V : Value → List Value → PT) (l : Sl) (l1 : Sl) : denF Try.prog [] [(76, F76.V)] V [(58, .loop [(17, .int .i64)] [])] Try.f75 [.v (.slice l.a l.n l.c), .v (.slice l1.a l1.n l1.c), .v (.func (.func 76) ⟨[]⟩ ⟨[]⟩)] = F75.T l l1 := F75.gen V F76.T l l1
def F75.W (T75 : Sl → Sl → PT) (args : List Value) : PT := match args with
  | [.slice l_a l_n l_c, .slice l1_a l1_n l1_c, .func (.func 76) ⟨[]⟩ ⟨[]⟩] => T75 ⟨l_a, l_n, l_c⟩ ⟨l1_a, l1_n, l1_c⟩
  | _ => fun _ _ => False
def F75.V : List Value → PT := F75.W F75.T
theorem F75.ok : FOk Try.prog 75 F75.V := by
  refine ⟨⟨_, Try.func75, rfl, rfl⟩, fun args => ?_⟩
  have hG : GOk Try.prog [(76, F76.V)] := GOk.cons F76.ok (GOk.nil)
  have hV : VOk Try.prog noV := noV_ok
  unfold F75.V F75.W
  split
  · exact denF_okV hG hV Try.func75 (fun h Q hq => (F75.den _ _ _) ▸ hq)
  · exact fun h Q hq => hq.elim
def F32.Tt (n : Int) (n1 : Int) (n2 : Int) (l : Sl) (l1 : Sl) (l2 : Sl) (l3 : Sl) : PT := fun h Q =>
  F18.T n n1 n2 l l1 l2 h fun r h1 => ∃ l4 : Sl, r = .slice l4.a l4.n l4.c ∧ par ((l4.n : Int) < (l3.n : Int)) (Q (.bool false) h1) (par ((l4.n : Int) = (l3.n : Int)) (Sl.okCut l4 0 (l3.n : Int) (l4.c : Int) ∧ F75.T (Sl.cut l4 1 0 (l3.n : Int) (l4.c : Int)) l3 h1 fun r1 h2 => ∃ b : Bool, r1 = .bool b ∧ parB b (Q (.bool true) h2) (Q (.bool false) h2)) (Q (.bool false) h1))
theorem F32.gent (V : Value → List Value → PT) (T18 : Int → Int → Int → Sl → Sl → Sl → PT) (T75 : Sl → Sl → PT) (n : Int) (n1 : Int) (n2 : Int) (l : Sl) (l1 : Sl) (l2 : Sl) (l3 : Sl) : denF Try.prog [3] [(18, F18.W T18), (75, F75.W T75)] V [] Try.f32 [.v (.agg ⟨[.int .u64 n, .int .u64 n1, .int .u64 n2, .slice l.a l.n l.c, .slice l1.a l1.n l1.c, .slice l2.a l2.n l2.c]⟩), .v (.slice l3.a l3.n l3.c), .v (.bool true)] = fun h Q =>
  T18 n n1 n2 l l1 l2 h fun r h1 => ∃ l4 : Sl, r = .slice l4.a l4.n l4.c ∧ par ((l4.n : Int) < (l3.n : Int)) (Q (.bool false) h1) (par ((l4.n : Int) = (l3.n : Int)) (Sl.okCut l4 0 (l3.n : Int) (l4.c : Int) ∧ T75 (Sl.cut l4 1 0 (l3.n : Int) (l4.c : Int)) l3 h1 fun r1 h2 => ∃ b : Bool, r1 = .bool b ∧ parB b (Q (.bool true) h2) (Q (.bool false) h2)) (Q (.bool false) h1)) := by kernel_rfl
theorem F32.dent (V : Value → List Value → PT) (n : Int) (n1 : Int) (n2 : Int) (l : Sl) (l1 : Sl) (l2 : Sl) (l3 : Sl) : denF Try.prog [3] [(18, F18.V), (75, F75.V)] V [] Try.f32 [.v (.agg ⟨[.int .u64 n, .int .u64 n1, .int .u64 n2, .slice l.a l.n l.c, .slice l1.a l1.n l1.c, .slice l2.a l2.n l2.c]⟩), .v (.slice l3.a l3.n l3.c), .v (.bool true)] = F32.Tt n n1 n2 l l1 l2 l3 := F32.gent V F18.T F75.T n n1 n2 l l1 l2 l3
def F32.Tf (n : Int) (n1 : Int) (n2 : Int) (l : Sl) (l1 : Sl) (l2 : Sl) (l3 : Sl) : PT := fun h Q =>
  F18.T n n1 n2 l l1 l2 h fun r h1 => ∃ l4 : Sl, r = .slice l4.a l4.n l4.c ∧ par ((l4.n : Int) < (l3.n : Int)) (Q (.bool false) h1) (Sl.okCut l4 0 (l3.n : Int) (l4.c : Int) ∧ F75.T (Sl.cut l4 1 0 (l3.n : Int) (l4.c : Int)) l3 h1 fun r1 h2 => ∃ b : Bool, r1 = .bool b ∧ parB b (Q (.bool true) h2) (Q (.bool false) h2))
theorem F32.genf (V : Value → List Value → PT) (T18 : Int → Int → Int → Sl → Sl → Sl → PT) (T75 : Sl → Sl → PT) (n : Int) (n1 : Int) (n2 : Int) (l : Sl) (l1 : Sl) (l2 : Sl) (l3 : Sl) : denF Try.prog [3] [(18, F18.W T18), (75, F75.W T75)] V [] Try.f32 [.v (.agg ⟨[.int .u64 n, .int .u64 n1, .int .u64 n2, .slice l.a l.n l.c, .slice l1.a l1.n l1.c, .slice l2.a l2.n l2.c]⟩), .v (.slice l3.a l3.n l3.c), .v (.bool false)] = fun h Q =>
  T18 n n1 n2 l l1 l2 h fun r h1 => ∃ l4 : Sl, r = .slice l4.a l4.n l4.c ∧ par ((l4.n : Int) < (l3.n : Int)) (Q (.bool false) h1) (Sl.okCut l4 0 (l3.n : Int) (l4.c : Int) ∧ T75 (Sl.cut l4 1 0 (l3.n : Int) (l4.c : Int)) l3 h1 fun r1 h2 => ∃ b : Bool, r1 = .bool b ∧ parB b (Q (.bool true) h2) (Q (.bool false) h2)) := by kernel_rfl
theorem F32.denf (V : Value → List Value → PT) (n : Int) (n1 : Int) (n2 : Int) (l : Sl) (l1 : Sl) (l2 : Sl) (l3 : Sl) : denF Try.prog [3] [(18, F18.V), (75, F75.V)] V [] Try.f32 [.v (.agg ⟨[.int .u64 n, .int .u64 n1, .int .u64 n2, .slice l.a l.n l.c, .slice l1.a l1.n l1.c, .slice l2.a l2.n l2.c]⟩), .v (.slice l3.a l3.n l3.c), .v (.bool false)] = F32.Tf n n1 n2 l l1 l2 l3 := F32.genf V F18.T F75.T n n1 n2 l l1 l2 l3
def F32.W (T32t : Int → Int → Int → Sl → Sl → Sl → Sl → PT) (T32f : Int → Int → Int → Sl → Sl → Sl → Sl → PT) (args : List Value) : PT := match args with
  | [.agg ⟨[.int .u64 n, .int .u64 n1, .int .u64 n2, .slice l_a l_n l_c, .slice l1_a l1_n l1_c, .slice l2_a l2_n l2_c]⟩, .slice l3_a l3_n l3_c, .bool true] => T32t n n1 n2 ⟨l_a, l_n, l_c⟩ ⟨l1_a, l1_n, l1_c⟩ ⟨l2_a, l2_n, l2_c⟩ ⟨l3_a, l3_n, l3_c⟩
  | [.agg ⟨[.int .u64 n, .int .u64 n1, .int .u64 n2, .slice l_a l_n l_c, .slice l1_a l1_n l1_c, .slice l2_a l2_n l2_c]⟩, .slice l3_a l3_n l3_c, .bool false] => T32f n n1 n2 ⟨l_a, l_n, l_c⟩ ⟨l1_a, l1_n, l1_c⟩ ⟨l2_a, l2_n, l2_c⟩ ⟨l3_a, l3_n, l3_c⟩
  | _ => fun _ _ => False
def F32.V : List Value → PT := F32.W F32.Tt F32.Tf
theorem F32.ok : FOk Try.prog 32 F32.V := by
  refine ⟨⟨_, Try.func32, rfl, rfl⟩, fun args => ?_⟩
  have hG : GOk Try.prog [(18, F18.V), (75, F75.V)] := GOk.cons F18.ok (GOk.cons F75.ok (GOk.nil))
  have hV : VOk Try.prog noV := noV_ok
  unfold F32.V F32.W
  split
  · exact denF_okV hG hV Try.func32 (fun h Q hq => (F32.dent _ _ _ _ _ _ _ _) ▸ hq)
  · exact denF_okV hG hV Try.func32 (fun h Q hq => (F32.denf _ _ _ _ _ _ _ _) ▸ hq)
  · exact fun h Q hq => hq.elim
def F11.T (l : Sl) : PT := fun h Q =>
  ∃ (I : Sl → Int → Int → Int → Int → Int → Sl → Sl → Sl → Hp → Prop) (m : Sl → Int → Int → Int → Int → Int → Sl → Sl → Sl → Hp → Nat), I ⟨none, 0, 0⟩ 0 0 0 0 0 ⟨none, 0, 0⟩ ⟨none, 0, 0⟩ ⟨none, 0, 0⟩ h ∧ (∀ l1 : Sl, ∀ n : Int, ∀ n1 : Int, ∀ n2 : Int, ∀ n3 : Int, ∀ n4 : Int, ∀ l2 : Sl, ∀ l3 : Sl, ∀ l4 : Sl, ∀ h1 : Hp, I l1 n n1 n2 n3 n4 l2 l3 l4 h1 → par (n1 < (l.n : Int)) (∃ b o, (l.a : Option Addr) = some ⟨b, o, none⟩ ∧ ((0 : Int) ≤ n1 ∧ n1 < (l.n : Int)) ∧ ∃ l5 : Sl, h1.at b (o + n1.toNat) = some (.slice l5.a l5.n l5.c) ∧ F31.T l5 h1 fun r h2 => ∃ n5 : Int, ∃ n6 : Int, ∃ n7 : Int, ∃ l6 : Sl, ∃ l7 : Sl, ∃ l8 : Sl, ∃ b1 : Bool, parB b1 (∃ b2 : Bool, parB b2 (r = .tuple ⟨[.agg ⟨[.int .u64 n5, .int .u64 n6, .int .u64 n7, .slice l6.a l6.n l6.c, .slice l7.a l7.n l7.c, .slice l8.a l8.n l8.c]⟩, .bool true, .bool true]⟩ ∧ par (n < n1) (∃ vs, h2.row l6.a (l6.n * 2) vs ∧ (∀ v ∈ vs, Value.oneCell' v = true) ∧ appendD l2 89 2 16 [.int .i64 0, .int .u64 0] l6.n vs h2 fun l9 h3 => ∃ vs1, h3.row l7.a (l7.n * 7) vs1 ∧ (∀ v ∈ vs1, Value.oneCell' v = true) ∧ appendD l3 87 7 72 [.int .i64 0, .int .u64 0, .int .i64 0, .int .i64 0, .int .i64 0, .string (ByteArray.mk #[]), .string (ByteArray.mk #[])] l7.n vs1 h3 fun l10 h4 => Sl.okCut l n (IntKind.wrap .i64 (n1 + 1)) (l.c : Int) ∧ F32.Tt n5 n6 n7 l9 l10 l8 (Sl.cut l 1 n (IntKind.wrap .i64 (n1 + 1)) (l.c : Int)) h4 fun r1 h5 => ∃ b3 : Bool, r1 = .bool b3 ∧ parB b3 (appendD l1 60 6 96 [.int .u64 0, .int .u64 0, .int .u64 0, .slice none 0 0, .slice none 0 0, .slice none 0 0] 1 [.int .u64 n5, .int .u64 n6, .int .u64 n7, .slice l9.a l9.n l9.c, .slice l10.a l10.n l10.c, .slice l8.a l8.n l8.c] h5 fun l11 h6 => I l11 (IntKind.wrap .i64 (n1 + 1)) (IntKind.wrap .i64 (n1 + 1)) 0 0 0 ⟨none, 0, 0⟩ ⟨none, 0, 0⟩ ⟨none, 0, 0⟩ h6 ∧ m l11 (IntKind.wrap .i64 (n1 + 1)) (IntKind.wrap .i64 (n1 + 1)) 0 0 0 ⟨none, 0, 0⟩ ⟨none, 0, 0⟩ ⟨none, 0, 0⟩ h6 < m l1 n n1 n2 n3 n4 l2 l3 l4 h1) (Q (.tuple ⟨[.slice none 0 0, .int .i64 140]⟩) h5)) (Sl.okCut l n (IntKind.wrap .i64 (n1 + 1)) (l.c : Int) ∧ F32.Tt n5 n6 n7 l6 l7 l8 (Sl.cut l 1 n (IntKind.wrap .i64 (n1 + 1)) (l.c : Int)) h2 fun r2 h7 => ∃ b4 : Bool, r2 = .bool b4 ∧ parB b4 (appendD l1 60 6 96 [.int .u64 0, .int .u64 0, .int .u64 0, .slice none 0 0, .slice none 0 0, .slice none 0 0] 1 [.int .u64 n5, .int .u64 n6, .int .u64 n7, .slice l6.a l6.n l6.c, .slice l7.a l7.n l7.c, .slice l8.a l8.n l8.c] h7 fun l12 h8 => I l12 (IntKind.wrap .i64 (n1 + 1)) (IntKind.wrap .i64 (n1 + 1)) 0 0 0 ⟨none, 0, 0⟩ ⟨none, 0, 0⟩ ⟨none, 0, 0⟩ h8 ∧ m l12 (IntKind.wrap .i64 (n1 + 1)) (IntKind.wrap .i64 (n1 + 1)) 0 0 0 ⟨none, 0, 0⟩ ⟨none, 0, 0⟩ ⟨none, 0, 0⟩ h8 < m l1 n n1 n2 n3 n4 l2 l3 l4 h1) (Q (.tuple ⟨[.slice none 0 0, .int .i64 140]⟩) h7))) (r = .tuple ⟨[.agg ⟨[.int .u64 n5, .int .u64 n6, .int .u64 n7, .slice l6.a l6.n l6.c, .slice l7.a l7.n l7.c, .slice l8.a l8.n l8.c]⟩, .bool true, .bool false]⟩ ∧ Q (.tuple ⟨[.slice none 0 0, .int .i64 140]⟩) h2)) (∃ b5 : Bool, parB b5 (r = .tuple ⟨[.agg ⟨[.int .u64 n5, .int .u64 n6, .int .u64 n7, .slice l6.a l6.n l6.c, .slice l7.a l7.n l7.c, .slice l8.a l8.n l8.c]⟩, .bool false, .bool true]⟩ ∧ par (n < n1) (∃ vs2, h2.row l6.a (l6.n * 2) vs2 ∧ (∀ v ∈ vs2, Value.oneCell' v = true) ∧ appendD l2 89 2 16 [.int .i64 0, .int .u64 0] l6.n vs2 h2 fun l13 h9 => ∃ vs3, h9.row l7.a (l7.n * 7) vs3 ∧ (∀ v ∈ vs3, Value.oneCell' v = true) ∧ appendD l3 87 7 72 [.int .i64 0, .int .u64 0, .int .i64 0, .int .i64 0, .int .i64 0, .string (ByteArray.mk #[]), .string (ByteArray.mk #[])] l7.n vs3 h9 fun l14 h10 => I l1 n (IntKind.wrap .i64 (n1 + 1)) n5 n6 n7 l13 l14 l8 h10 ∧ m l1 n (IntKind.wrap .i64 (n1 + 1)) n5 n6 n7 l13 l14 l8 h10 < m l1 n n1 n2 n3 n4 l2 l3 l4 h1) (I l1 n (IntKind.wrap .i64 (n1 + 1)) n5 n6 n7 l6 l7 l8 h2 ∧ m l1 n (IntKind.wrap .i64 (n1 + 1)) n5 n6 n7 l6 l7 l8 h2 < m l1 n n1 n2 n3 n4 l2 l3 l4 h1)) (r = .tuple ⟨[.agg ⟨[.int .u64 n5, .int .u64 n6, .int .u64 n7, .slice l6.a l6.n l6.c, .slice l7.a l7.n l7.c, .slice l8.a l8.n l8.c]⟩, .bool false, .bool false]⟩ ∧ Q (.tuple ⟨[.slice none 0 0, .int .i64 140]⟩) h2))) (appendD l3 87 7 72 [.int .i64 0, .int .u64 0, .int .i64 0, .int .i64 0, .int .i64 0, .string (ByteArray.mk #[]), .string (ByteArray.mk #[])] 1 [.int .i64 0, .int .u64 0, .int .i64 0, .int .i64 0, .int .i64 0, .string (ByteArray.mk #[]), .string (ByteArray.mk #[])] h1 fun l15 h11 => par (n < (l.n : Int)) (Sl.okCut l n (l.n : Int) (l.c : Int) ∧ F32.Tf n2 n3 n4 l2 l15 l4 (Sl.cut l 1 n (l.n : Int) (l.c : Int)) h11 fun r3 h12 => ∃ b6 : Bool, r3 = .bool b6 ∧ parB b6 (Q (.tuple ⟨[.slice l1.a l1.n l1.c, .int .i64 0]⟩) h12) (Q (.tuple ⟨[.slice none 0 0, .int .i64 140]⟩) h12)) (Q (.tuple ⟨[.slice l1.a l1.n l1.c, .int .i64 0]⟩) h11)))
theorem F11.gen (V : Value → List Value → PT) (T31 : Sl → PT) (T32t : Int → Int → Int → Sl → Sl → Sl → Sl → PT) (T32f : Int → Int → Int → Sl → Sl → Sl → Sl → PT) (l : Sl) : denF Try.prog [5, 9, 55, 64] [(31, F31.W T31), (32, F32.W T32t T32f)] V [(250, .loop [(4, .sl), (6, .int .i64), (14, .int .i64)] [(5, [.int .u64, .int .u64, .int .u64, .sl, .sl, .sl])]), (506, .order [0, 1, 2, 3, 4, 5, 6, 7, 8, 9, 10, 11]), (512826, .order [0, 1, 2, 3, 5, 6, 7, 8, 4, 10, 9, 11, 12, 13]), (2051324, .order [0, 1, 2, 3, 4, 5, 6, 7])] Try.f11 [.v (.slice l.a l.n l.c)] = fun h Q =>
  ∃ (I : Sl → Int → Int → Int → Int → Int → Sl → Sl → Sl → Hp → Prop) (m : Sl → Int → Int → Int → Int → Int → Sl → Sl → Sl → Hp → Nat), I ⟨none, 0, 0⟩ 0 0 0 0 0 ⟨none, 0, 0⟩ ⟨none, 0, 0⟩ ⟨none, 0, 0⟩ h ∧ (∀ l1 : Sl, ∀ n : Int, ∀ n1 : Int, ∀ n2 : Int, ∀ n3 : Int, ∀ n4 : Int, ∀ l2 : Sl, ∀ l3 : Sl, ∀ l4 : Sl, ∀ h1 : Hp, I l1 n n1 n2 n3 n4 l2 l3 l4 h1 → par (n1 < (l.n : Int)) (∃ b o, (l.a : Option Addr) = some ⟨b, o, none⟩ ∧ ((0 : Int) ≤ n1 ∧ n1 < (l.n : Int)) ∧ ∃ l5 : Sl, h1.at b (o + n1.toNat) = some (.slice l5.a l5.n l5.c) ∧ T31 l5 h1 fun r h2 => ∃ n5 : Int, ∃ n6 : Int, ∃ n7 : Int, ∃ l6 : Sl, ∃ l7 : Sl, ∃ l8 : Sl, ∃ b1 : Bool, parB b1 (∃ b2 : Bool, parB b2 (r = .tuple ⟨[.agg ⟨[.int .u64 n5, .int .u64 n6, .int .u64 n7, .slice l6.a l6.n l6.c, .slice l7.a l7.n l7.c, .slice l8.a l8.n l8.c]⟩, .bool true, .bool true]⟩ ∧ par (n < n1) (∃ vs, h2.row l6.a (l6.n * 2) vs ∧ (∀ v ∈ vs, Value.oneCell' v = true) ∧ appendD l2 89 2 16 [.int .i64 0, .int .u64 0] l6.n vs h2 fun l9 h3 => ∃ vs1, h3.row l7.a (l7.n * 7) vs1 ∧ (∀ v ∈ vs1, Value.oneCell' v = true) ∧ appendD l3 87 7 72 [.int .i64 0, .int .u64 0, .int .i64 0, .int .i64 0, .int .i64 0, .string (ByteArray.mk #[]), .string (ByteArray.mk #[])] l7.n vs1 h3 fun l10 h4 => Sl.okCut l n (IntKind.wrap .i64 (n1 + 1)) (l.c : Int) ∧ T32t n5 n6 n7 l9 l10 l8 (Sl.cut l 1 n (IntKind.wrap .i64 (n1 + 1)) (l.c : Int)) h4 fun r1 h5 => ∃ b3 : Bool, r1 = .bool b3 ∧ parB b3 (appendD l1 60 6 96 [.int .u64 0, .int .u64 0, .int .u64 0, .slice none 0 0, .slice none 0 0, .slice none 0 0] 1 [.int .u64 n5, .int .u64 n6, .int .u64 n7, .slice l9.a l9.n l9.c, .slice l10.a l10.n l10.c, .slice l8.a l8.n l8.c] h5 fun l11 h6 => I l11 (IntKind.wrap .i64 (n1 + 1)) (IntKind.wrap .i64 (n1 + 1)) 0 0 0 ⟨none, 0, 0⟩ ⟨none, 0, 0⟩ ⟨none, 0, 0⟩ h6 ∧ m l11 (IntKind.wrap .i64 (n1 + 1)) (IntKind.wrap .i64 (n1 + 1)) 0 0 0 ⟨none, 0, 0⟩ ⟨none, 0, 0⟩ ⟨none, 0, 0⟩ h6 < m l1 n n1 n2 n3 n4 l2 l3 l4 h1) (Q (.tuple ⟨[.slice none 0 0, .int .i64 140]⟩) h5)) (Sl.okCut l n (IntKind.wrap .i64 (n1 + 1)) (l.c : Int) ∧ T32t n5 n6 n7 l6 l7 l8 (Sl.cut l 1 n (IntKind.wrap .i64 (n1 + 1)) (l.c : Int)) h2 fun r2 h7 => ∃ b4 : Bool, r2 = .bool b4 ∧ parB b4 (appendD l1 60 6 96 [.int .u64 0, .int .u64 0, .int .u64 0, .slice none 0 0, .slice none 0 0, .slice none 0 0] 1 [.int .u64 n5, .int .u64 n6, .int .u64 n7, .slice l6.a l6.n l6.c, .slice l7.a l7.n l7.c, .slice l8.a l8.n l8.c] h7 fun l12 h8 => I l12 (IntKind.wrap .i64 (n1 + 1)) (IntKind.wrap .i64 (n1 + 1)) 0 0 0 ⟨none, 0, 0⟩ ⟨none, 0, 0⟩ ⟨none, 0, 0⟩ h8 ∧ m l12 (IntKind.wrap .i64 (n1 + 1)) (IntKind.wrap .i64 (n1 + 1)) 0 0 0 ⟨none, 0, 0⟩ ⟨none, 0, 0⟩ ⟨none, 0, 0⟩ h8 < m l1 n n1 n2 n3 n4 l2 l3 l4 h1) (Q (.tuple ⟨[.slice none 0 0, .int .i64 140]⟩) h7))) (r = .tuple ⟨[.agg ⟨[.int .u64 n5, .int .u64 n6, .int .u64 n7, .slice l6.a l6.n l6.c, .slice l7.a l7.n l7.c, .slice l8.a l8.n l8.c]⟩, .bool true, .bool false]⟩ ∧ Q (.tuple ⟨[.slice none 0 0, .int .i64 140]⟩) h2)) (∃ b5 : Bool, parB b5 (r = .tuple ⟨[.agg ⟨[.int .u64 n5, .int .u64 n6, .int .u64 n7, .slice l6.a l6.n l6.c, .slice l7.a l7.n l7.c, .slice l8.a l8.n l8.c]⟩, .bool false, .bool true]⟩ ∧ par (n < n1) (∃ vs2, h2.row l6.a (l6.n * 2) vs2 ∧ (∀ v ∈ vs2, Value.oneCell' v = true) ∧ appendD l2 89 2 16 [.int .i64 0, .int .u64 0] l6.n vs2 h2 fun l13 h9 => ∃ vs3, h9.row l7.a (l7.n * 7) vs3 ∧ (∀ v ∈ vs3, Value.oneCell' v = true) ∧ appendD l3 87 7 72 [.int .i64 0, .int .u64 0, .int .i64 0, .int .i64 0, .int .i64 0, .string (ByteArray.mk #[]), .string (ByteArray.mk #[])] l7.n vs3 h9 fun l14 h10 => I l1 n (IntKind.wrap .i64 (n1 + 1)) n5 n6 n7 l13 l14 l8 h10 ∧ m l1 n (IntKind.wrap .i64 (n1 + 1)) n5 n6 n7 l13 l14 l8 h10 < m l1 n n1 n2 n3 n4 l2 l3 l4 h1) (I l1 n (IntKind.wrap .i64 (n1 + 1)) n5 n6 n7 l6 l7 l8 h2 ∧ m l1 n (IntKind.wrap .i64 (n1 + 1)) n5 n6 n7 l6 l7 l8 h2 < m l1 n n1 n2 n3 n4 l2 l3 l4 h1)) (r = .tuple ⟨[.agg ⟨[.int .u64 n5, .int .u64 n6, .int .u64 n7, .slice l6.a l6.n l6.c, .slice l7.a l7.n l7.c, .slice l8.a l8.n l8.c]⟩, .bool false, .bool false]⟩ ∧ Q (.tuple ⟨[.slice none 0 0, .int .i64 140]⟩) h2))) (appendD l3 87 7 72 [.int .i64 0, .int .u64 0, .int .i64 0, .int .i64 0, .int .i64 0, .string (ByteArray.mk #[]), .string (ByteArray.mk #[])] 1 [.int .i64 0, .int .u64 0, .int .i64 0, .int .i64 0, .int .i64 0, .string (ByteArray.mk #[]), .string (ByteArray.mk #[])] h1 fun l15 h11 => par (n < (l.n : Int)) (Sl.okCut l n (l.n : Int) (l.c : Int) ∧ T32f n2 n3 n4 l2 l15 l4 (Sl.cut l 1 n (l.n : Int) (l.c : Int)) h11 fun r3 h12 => ∃ b6 : Bool, r3 = .bool b6 ∧ parB b6 (Q (.tuple ⟨[.slice l1.a l1.n l1.c, .int .i64 0]⟩) h12) (Q (.tuple ⟨[.slice none 0 0, .int .i64 140]⟩) h12)) (Q (.tuple ⟨[.slice l1.a l1.n l1.c, .int .i64 0]⟩) h11))) := by kernel_rfl
theorem F11.den (V : Value → List Value → PT) (l : Sl) : denF Try.prog [5, 9, 55, 64] [(31, F31.V), (32, F32.V)] V [(250, .loop [(4, .sl), (6, .int .i64), (14, .int .i64)] [(5, [.int .u64, .int .u64, .int .u64, .sl, .sl, .sl])]), (506, .order [0, 1, 2, 3, 4, 5, 6, 7, 8, 9, 10, 11]), (512826, .order [0, 1, 2, 3, 5, 6, 7, 8, 4, 10, 9, 11, 12, 13]), (2051324, .order [0, 1, 2, 3, 4, 5, 6, 7])] Try.f11 [.v (.slice l.a l.n l.c)] = F11.T l := F11.gen V F31.T F32.Tt F32.Tf l
def F11.W (T11 : Sl → PT) (args : List Value) : PT := match args with
  | [.slice l_a l_n l_c] => T11 ⟨l_a, l_n, l_c⟩
  | _ => fun _ _ => False
def F11.V : List Value → PT := F11.W F11.T
theorem F11.ok : FOk Try.prog 11 F11.V := by
  refine ⟨⟨_, Try.func11, rfl, rfl⟩, fun args => ?_⟩
  have hG : GOk Try.prog [(31, F31.V), (32, F32.V)] := GOk.cons F31.ok (GOk.cons F32.ok (GOk.nil))
  have hV : VOk Try.prog noV := noV_ok
  unfold F11.V F11.W
  split
  · exact denF_okV hG hV Try.func11 (fun h Q hq => (F11.den _ _) ▸ hq)
  · exact fun h Q hq => hq.elim
def F15.T  : PT := fun h Q =>
  ∀ b, h b = none → ∀ b1, (h.new b (.cells ⟨[.int .i64 0, .int .u64 4]⟩ 89 (0, 0))) b1 = none → F18.T 2 9 300 ⟨(some ⟨b, 0, none⟩), 1, 1⟩ ⟨(some ⟨b1, 0, none⟩), 1, 1⟩ ⟨none, 0, 0⟩ ((h.new b (.cells ⟨[.int .i64 0, .int .u64 4]⟩ 89 (0, 0))).new b1 (.cells ⟨[.int .i64 1, .int .u64 8, .int .i64 455, .int .i64 90, .int .i64 1, .string (ByteArray.mk #[97]), .string (ByteArray.mk #[97])]⟩ 87 (0, 0))) fun r h1 => ∃ l : Sl, r = .slice l.a l.n l.c ∧ F11.T l h1 fun r1 h2 => ∃ l1 : Sl, ∃ n : Int, r1 = .tuple ⟨[.slice l1.a l1.n l1.c, .int .i64 n]⟩ ∧ par ((l.n : Int) = 1) (∃ b2 o, (l.a : Option Addr) = some ⟨b2, o, none⟩ ∧ ((0 : Int) ≤ 0 ∧ 0 < (l.n : Int)) ∧ ∃ l2 : Sl, h2.at b2 (o + (0 : Int).toNat) = some (.slice l2.a l2.n l2.c) ∧ ∀ b3, h2 b3 = none → (h2.new b3 (.cells ⟨[.int .u8 1, .int .u8 2, .int .u8 9, .int .u8 172, .int .u8 2, .int .u8 1, .int .u8 0, .int .u8 4, .int .u8 1, .int .u8 1, .int .u8 8, .int .u8 199, .int .u8 3, .int .u8 90, .int .u8 1, .int .u8 1, .int .u8 97, .int .u8 1, .int .u8 97, .int .u8 0]⟩ 5 (0, 0))).at b2 (o + (0 : Int).toNat) = some (.slice l2.a l2.n l2.c) ∧ F20.T l2 ⟨(some ⟨b3, 0, none⟩), 20, 20⟩ (h2.new b3 (.cells ⟨[.int .u8 1, .int .u8 2, .int .u8 9, .int .u8 172, .int .u8 2, .int .u8 1, .int .u8 0, .int .u8 4, .int .u8 1, .int .u8 1, .int .u8 8, .int .u8 199, .int .u8 3, .int .u8 90, .int .u8 1, .int .u8 1, .int .u8 97, .int .u8 1, .int .u8 97, .int .u8 0]⟩ 5 (0, 0))) fun r2 h3 => ∃ b4 : Bool, r2 = .bool b4 ∧ parB b4 (par (n = 0) (par ((l1.n : Int) = 1) (∃ b5 o1, (l1.a : Option Addr) = some ⟨b5, o1, none⟩ ∧ ((0 : Int) ≤ 0 ∧ 0 < (l1.n : Int)) ∧ ∃ n1 : Int, h3.at b5 (o1 + (0 : Int).toNat * 6) = some (.int .u64 n1) ∧ ∃ n2 : Int, h3.at b5 ((o1 + (0 : Int).toNat * 6) + 1) = some (.int .u64 n2) ∧ ∃ n3 : Int, h3.at b5 ((o1 + (0 : Int).toNat * 6) + 2) = some (.int .u64 n3) ∧ ∃ l3 : Sl, h3.at b5 ((o1 + (0 : Int).toNat * 6) + 3) = some (.slice l3.a l3.n l3.c) ∧ ∃ l4 : Sl, h3.at b5 ((o1 + (0 : Int).toNat * 6) + 4) = some (.slice l4.a l4.n l4.c) ∧ ∃ l5 : Sl, h3.at b5 ((o1 + (0 : Int).toNat * 6) + 5) = some (.slice l5.a l5.n l5.c) ∧ F23.T n1 n2 n3 l3 l4 l5 2 9 300 ⟨(some ⟨b, 0, none⟩), 1, 1⟩ ⟨(some ⟨b1, 0, none⟩), 1, 1⟩ ⟨none, 0, 0⟩ h3 fun r3 h4 => ∃ b6 : Bool, r3 = .bool b6 ∧ parB b6 (F47.T 116 7 h4 fun r4 h5 => ∃ s : ByteArray, r4 = .string s ∧ par (s = (ByteArray.mk #[116, 45, 48, 48, 48, 48, 48, 48, 48, 48, 48, 48, 48, 55])) (Q (.bool true) h5) (Q (.bool false) h5)) (Q (.bool false) h4)) (Q (.bool false) h3)) (Q (.bool false) h3)) (Q (.bool false) h3)) (Q (.bool false) h2)
theorem F15.gen (V : Value → List Value → PT) (T11 : Sl → PT) (T18 : Int → Int → Int → Sl → Sl → Sl → PT) (T20 : Sl → Sl → PT) (T23 : Int → Int → Int → Sl → Sl → Sl → Int → Int → Int → Sl → Sl → Sl → PT) (T47 : Int → Int → PT)  : denF Try.prog [1] [(11, F11.W T11), (18, F18.W T18), (20, F20.W T20), (23, F23.W T23), (47, F47.W T47)] V [(62, .order [0, 1, 2, 3, 4, 5, 6, 7, 8, 9, 10, 11, 12, 13, 14, 15, 16, 17, 18, 19, 20, 21, 22, 23, 24, 25, 26, 27, 28, 29, 30])] Try.f15 [] = fun h Q =>
  ∀ b, h b = none → ∀ b1, (h.new b (.cells ⟨[.int .i64 0, .int .u64 4]⟩ 89 (0, 0))) b1 = none → T18 2 9 300 ⟨(some ⟨b, 0, none⟩), 1, 1⟩ ⟨(some ⟨b1, 0, none⟩), 1, 1⟩ ⟨none, 0, 0⟩ ((h.new b (.cells ⟨[.int .i64 0, .int .u64 4]⟩ 89 (0, 0))).new b1 (.cells ⟨[.int .i64 1, .int .u64 8, .int .i64 455, .int .i64 90, .int .i64 1, .string (ByteArray.mk #[97]), .string (ByteArray.mk #[97])]⟩ 87 (0, 0))) fun r h1 => ∃ l : Sl, r = .slice l.a l.n l.c ∧ T11 l h1 fun r1 h2 => ∃ l1 : Sl, ∃ n : Int, r1 = .tuple ⟨[.slice l1.a l1.n l1.c, .int .i64 n]⟩ ∧ par ((l.n : Int) = 1) (∃ b2 o, (l.a : Option Addr) = some ⟨b2, o, none⟩ ∧ ((0 : Int) ≤ 0 ∧ 0 < (l.n : Int)) ∧ ∃ l2 : Sl, h2.at b2 (o + (0 : Int).toNat) = some (.slice l2.a l2.n l2.c) ∧ ∀ b3, h2 b3 = none → (h2.new b3 (.cells ⟨[.int .u8 1, .int .u8 2, .int .u8 9, .int .u8 172, .int .u8 2, .int .u8 1, .int .u8 0, .int .u8 4, .int .u8 1, .int .u8 1, .int .u8 8, .int .u8 199, .int .u8 3, .int .u8 90, .int .u8 1, .int .u8 1, .int .u8 97, .int .u8 1, .int .u8 97, .int .u8 0]⟩ 5 (0, 0))).at b2 (o + (0 : Int).toNat) = some (.slice l2.a l2.n l2.c) ∧ T20 l2 ⟨(some ⟨b3, 0, none⟩), 20, 20⟩ (h2.new b3 (.cells ⟨[.int .u8 1, .int .u8 2, .int .u8 9, .int .u8 172, .int .u8 2, .int .u8 1, .int .u8 0, .int .u8 4, .int .u8 1, .int .u8 1, .int .u8 8, .int .u8 199, .int .u8 3, .int .u8 90, .int .u8 1, .int .u8 1, .int .u8 97, .int .u8 1, .int .u8 97, .int .u8 0]⟩ 5 (0, 0))) fun r2 h3 => ∃ b4 : Bool, r2 = .bool b4 ∧ parB b4 (par (n = 0) (par ((l1.n : Int) = 1) (∃ b5 o1, (l1.a : Option Addr) = some ⟨b5, o1, none⟩ ∧ ((0 : Int) ≤ 0 ∧ 0 < (l1.n : Int)) ∧ ∃ n1 : Int, h3.at b5 (o1 + (0 : Int).toNat * 6) = some (.int .u64 n1) ∧ ∃ n2 : Int, h3.at b5 ((o1 + (0 : Int).toNat * 6) + 1) = some (.int .u64 n2) ∧ ∃ n3 : Int, h3.at b5 ((o1 + (0 : Int).toNat * 6) + 2) = some (.int .u64 n3) ∧ ∃ l3 : Sl, h3.at b5 ((o1 + (0 : Int).toNat * 6) + 3) = some (.slice l3.a l3.n l3.c) ∧ ∃ l4 : Sl, h3.at b5 ((o1 + (0 : Int).toNat * 6) + 4) = some (.slice l4.a l4.n l4.c) ∧ ∃ l5 : Sl, h3.at b5 ((o1 + (0 : Int).toNat * 6) + 5) = some (.slice l5.a l5.n l5.c) ∧ T23 n1 n2 n3 l3 l4 l5 2 9 300 ⟨(some ⟨b, 0, none⟩), 1, 1⟩ ⟨(some ⟨b1, 0, none⟩), 1, 1⟩ ⟨none, 0, 0⟩ h3 fun r3 h4 => ∃ b6 : Bool, r3 = .bool b6 ∧ parB b6 (T47 116 7 h4 fun r4 h5 => ∃ s : ByteArray, r4 = .string s ∧ par (s = (ByteArray.mk #[116, 45, 48, 48, 48, 48, 48, 48, 48, 48, 48, 48, 48, 55])) (Q (.bool true) h5) (Q (.bool false) h5)) (Q (.bool false) h4)) (Q (.bool false) h3)) (Q (.bool false) h3)) (Q (.bool false) h3)) (Q (.bool false) h2) := by kernel_rfl
theorem F15.den (V : Value → List Value → PT)  : denF Try.prog [1] [(11, F11.V), (18, F18.V), (20, F20.V), (23, F23.V), (47, F47.V)] V [(62, .order [0, 1, 2, 3, 4, 5, 6, 7, 8, 9, 10, 11, 12, 13, 14, 15, 16, 17, 18, 19, 20, 21, 22, 23, 24, 25, 26, 27, 28, 29, 30])] Try.f15 [] = F15.T  := F15.gen V F11.T F18.T F20.T F23.T F47.T 
def F15.W (T15 : PT) (args : List Value) : PT := match args with
  | [] => T15 
  | _ => fun _ _ => False
def F15.V : List Value → PT := F15.W F15.T
theorem F15.ok : FOk Try.prog 15 F15.V := by
  refine ⟨⟨_, Try.func15, rfl, rfl⟩, fun args => ?_⟩
  have hG : GOk Try.prog [(11, F11.V), (18, F18.V), (20, F20.V), (23, F23.V), (47, F47.V)] := GOk.cons F11.ok (GOk.cons F18.ok (GOk.cons F20.ok (GOk.cons F23.ok (GOk.cons F47.ok (GOk.nil)))))
  have hV : VOk Try.prog noV := noV_ok
  unfold F15.V F15.W
  split
  · exact denF_okV hG hV Try.func15 (fun h Q hq => (F15.den _ ) ▸ hq)
  · exact fun h Q hq => hq.elim
def F6.T (l : Sl) : PT := fun h Q =>
  F15.T h fun r h1 => ∃ b : Bool, r = .bool b ∧ parB b (F8.T l h1 fun r1 h2 => ∃ b1 : Bool, r1 = .bool b1 ∧ parB b1 (F11.T l h2 fun r2 h3 => ∃ l1 : Sl, ∃ n : Int, r2 = .tuple ⟨[.slice l1.a l1.n l1.c, .int .i64 n]⟩ ∧ par (n = 0) (∃ (I : Int → Int → Hp → Prop) (m : Int → Int → Hp → Nat), I 0 0 h3 ∧ (∀ n1 : Int, ∀ n2 : Int, ∀ h4 : Hp, I n1 n2 h4 → par (n2 < (l1.n : Int)) (∃ b2 o, (l1.a : Option Addr) = some ⟨b2, o, none⟩ ∧ ((0 : Int) ≤ n2 ∧ n2 < (l1.n : Int)) ∧ ∃ n3 : Int, h4.at b2 (o + n2.toNat * 6) = some (.int .u64 n3) ∧ ∃ n4 : Int, h4.at b2 ((o + n2.toNat * 6) + 1) = some (.int .u64 n4) ∧ ∃ n5 : Int, h4.at b2 ((o + n2.toNat * 6) + 2) = some (.int .u64 n5) ∧ ∃ l2 : Sl, h4.at b2 ((o + n2.toNat * 6) + 3) = some (.slice l2.a l2.n l2.c) ∧ ∃ l3 : Sl, h4.at b2 ((o + n2.toNat * 6) + 4) = some (.slice l3.a l3.n l3.c) ∧ ∃ l4 : Sl, h4.at b2 ((o + n2.toNat * 6) + 5) = some (.slice l4.a l4.n l4.c) ∧ F18.T n3 n4 n5 l2 l3 l4 h4 fun r3 h5 => ∃ l5 : Sl, r3 = .slice l5.a l5.n l5.c ∧ ∃ (I1 : Int → Int → Hp → Prop) (m1 : Int → Int → Hp → Nat), I1 n1 0 h5 ∧ (∀ n6 : Int, ∀ n7 : Int, ∀ h6 : Hp, I1 n6 n7 h6 → par (n7 < (l5.n : Int)) (par ((l.n : Int) ≤ n6) (Q (.bool false) h6) (∃ b3 o1, (l.a : Option Addr) = some ⟨b3, o1, none⟩ ∧ ((0 : Int) ≤ n6 ∧ n6 < (l.n : Int)) ∧ ∃ l6 : Sl, h6.at b3 (o1 + n6.toNat) = some (.slice l6.a l6.n l6.c) ∧ ∃ b4 o2, (l5.a : Option Addr) = some ⟨b4, o2, none⟩ ∧ ((0 : Int) ≤ n7 ∧ n7 < (l5.n : Int)) ∧ ∃ l7 : Sl, h6.at b4 (o2 + n7.toNat) = some (.slice l7.a l7.n l7.c) ∧ F20.T l6 l7 h6 fun r4 h7 => ∃ b5 : Bool, r4 = .bool b5 ∧ parB b5 (I1 (IntKind.wrap .i64 (n6 + 1)) (IntKind.wrap .i64 (n7 + 1)) h7 ∧ m1 (IntKind.wrap .i64 (n6 + 1)) (IntKind.wrap .i64 (n7 + 1)) h7 < m1 n6 n7 h6) (Q (.bool false) h7))) (I n6 (IntKind.wrap .i64 (n2 + 1)) h6 ∧ m n6 (IntKind.wrap .i64 (n2 + 1)) h6 < m n1 n2 h4))) (par (n1 ≤ (l.n : Int)) (Q (.bool true) h4) (Q (.bool false) h4)))) (par (n = 140) (par ((l1.n : Int) = 0) (Q (.bool true) h3) (Q (.bool false) h3)) (Q (.bool false) h3))) (Q (.bool true) h2)) (Q (.bool false) h1)
theorem F6.gen (V : Value → List Value → PT) (T8 : Sl → PT) (T11 : Sl → PT) (T15 : PT) (T18 : Int → Int → Int → Sl → Sl → Sl → PT) (T20 : Sl → Sl → PT) (l : Sl) : denF Try.prog [] [(8, F8.W T8), (11, F11.W T11), (15, F15.W T15), (18, F18.W T18), (20, F20.W T20)] V [(1018, .loop [(5, .int .i64), (6, .int .i64)] []), (130342, .loop [(5, .int .i64), (8, .int .i64)] []), (8341904, .order [0, 1, 2, 3, 4, 5, 6, 7, 8, 9, 10, 11, 12, 13, 14, 15])] Try.f6 [.v (.slice l.a l.n l.c)] = fun h Q =>
  T15 h fun r h1 => ∃ b : Bool, r = .bool b ∧ parB b (T8 l h1 fun r1 h2 => ∃ b1 : Bool, r1 = .bool b1 ∧ parB b1 (T11 l h2 fun r2 h3 => ∃ l1 : Sl, ∃ n : Int, r2 = .tuple ⟨[.slice l1.a l1.n l1.c, .int .i64 n]⟩ ∧ par (n = 0) (∃ (I : Int → Int → Hp → Prop) (m : Int → Int → Hp → Nat), I 0 0 h3 ∧ (∀ n1 : Int, ∀ n2 : Int, ∀ h4 : Hp, I n1 n2 h4 → par (n2 < (l1.n : Int)) (∃ b2 o, (l1.a : Option Addr) = some ⟨b2, o, none⟩ ∧ ((0 : Int) ≤ n2 ∧ n2 < (l1.n : Int)) ∧ ∃ n3 : Int, h4.at b2 (o + n2.toNat * 6) = some (.int .u64 n3) ∧ ∃ n4 : Int, h4.at b2 ((o + n2.toNat * 6) + 1) = some (.int .u64 n4) ∧ ∃ n5 : Int, h4.at b2 ((o + n2.toNat * 6) + 2) = some (.int .u64 n5) ∧ ∃ l2 : Sl, h4.at b2 ((o + n2.toNat * 6) + 3) = some (.slice l2.a l2.n l2.c) ∧ ∃ l3 : Sl, h4.at b2 ((o + n2.toNat * 6) + 4) = some (.slice l3.a l3.n l3.c) ∧ ∃ l4 : Sl, h4.at b2 ((o + n2.toNat * 6) + 5) = some (.slice l4.a l4.n l4.c) ∧ T18 n3 n4 n5 l2 l3 l4 h4 fun r3 h5 => ∃ l5 : Sl, r3 = .slice l5.a l5.n l5.c ∧ ∃ (I1 : Int → Int → Hp → Prop) (m1 : Int → Int → Hp → Nat), I1 n1 0 h5 ∧ (∀ n6 : Int, ∀ n7 : Int, ∀ h6 : Hp, I1 n6 n7 h6 → par (n7 < (l5.n : Int)) (par ((l.n : Int) ≤ n6) (Q (.bool false) h6) (∃ b3 o1, (l.a : Option Addr) = some ⟨b3, o1, none⟩ ∧ ((0 : Int) ≤ n6 ∧ n6 < (l.n : Int)) ∧ ∃ l6 : Sl, h6.at b3 (o1 + n6.toNat) = some (.slice l6.a l6.n l6.c) ∧ ∃ b4 o2, (l5.a : Option Addr) = some ⟨b4, o2, none⟩ ∧ ((0 : Int) ≤ n7 ∧ n7 < (l5.n : Int)) ∧ ∃ l7 : Sl, h6.at b4 (o2 + n7.toNat) = some (.slice l7.a l7.n l7.c) ∧ T20 l6 l7 h6 fun r4 h7 => ∃ b5 : Bool, r4 = .bool b5 ∧ parB b5 (I1 (IntKind.wrap .i64 (n6 + 1)) (IntKind.wrap .i64 (n7 + 1)) h7 ∧ m1 (IntKind.wrap .i64 (n6 + 1)) (IntKind.wrap .i64 (n7 + 1)) h7 < m1 n6 n7 h6) (Q (.bool false) h7))) (I n6 (IntKind.wrap .i64 (n2 + 1)) h6 ∧ m n6 (IntKind.wrap .i64 (n2 + 1)) h6 < m n1 n2 h4))) (par (n1 ≤ (l.n : Int)) (Q (.bool true) h4) (Q (.bool false) h4)))) (par (n = 140) (par ((l1.n : Int) = 0) (Q (.bool true) h3) (Q (.bool false) h3)) (Q (.bool false) h3))) (Q (.bool true) h2)) (Q (.bool false) h1) := by kernel_rfl
theorem F6.den (V : Value → List Value → PT) (l : Sl) : denF Try.prog [] [(8, F8.V), (11, F11.V), (15, F15.V), (18, F18.V), (20, F20.V)] V [(1018, .loop [(5, .int .i64), (6, .int .i64)] []), (130342, .loop [(5, .int .i64), (8, .int .i64)] []), (8341904, .order [0, 1, 2, 3, 4, 5, 6, 7, 8, 9, 10, 11, 12, 13, 14, 15])] Try.f6 [.v (.slice l.a l.n l.c)] = F6.T l := F6.gen V F8.T F11.T F15.T F18.T F20.T l
def F6.W (T6 : Sl → PT) (args : List Value) : PT := match args with
  | [.slice l_a l_n l_c] => T6 ⟨l_a, l_n, l_c⟩
  | _ => fun _ _ => False
def F6.V : List Value → PT := F6.W F6.T
theorem F6.ok : FOk Try.prog 6 F6.V := by
  refine ⟨⟨_, Try.func6, rfl, rfl⟩, fun args => ?_⟩
  have hG : GOk Try.prog [(8, F8.V), (11, F11.V), (15, F15.V), (18, F18.V), (20, F20.V)] := GOk.cons F8.ok (GOk.cons F11.ok (GOk.cons F15.ok (GOk.cons F18.ok (GOk.cons F20.ok (GOk.nil)))))
  have hV : VOk Try.prog noV := noV_ok
  unfold F6.V F6.W
  split
  · exact denF_okV hG hV Try.func6 (fun h Q hq => (F6.den _ _) ▸ hq)
  · exact fun h Q hq => hq.elim
end Go.Eng.Ytblghgacokoklaa
end
section
/-
  SPECS, 1: numbers and texts as bytes.
-/
set_option linter.unusedSimpArgs false
set_option linter.unusedVariables false
namespace Go.Eng
def encF : Nat → Nat → List Int
  | 0, _ => []
  | f + 1, n => if n < 128 then [(n : Int)] else ((n % 128 + 128 : Nat) : Int) :: encF f (n / 128)
/-- A number's bytes. -/
def encU (n : Nat) : List Int := encF 10 n
/-- Bytes as cells. -/
def bv (l : List Int) : List Value := l.map (Value.int .u8)
theorem bv_append (a b : List Int) : bv (a ++ b) = bv a ++ bv b := List.map_append
theorem bv_length (a : List Int) : (bv a).length = a.length := List.length_map _
theorem or128 (n : Int) (h : 0 ≤ n) : bitsI .or .u8 (IntKind.wrap .u8 n) 128 = ((n.toNat % 128 + 128 : Nat) : Int) := by
  have key : ∀ x : Fin 256, bitsI .or .u8 ((x.val : Nat) : Int) 128 = ((x.val % 128 + 128 : Nat) : Int) := by decide +kernel
  have h1 : IntKind.wrap .u8 n = ((n.toNat % 256 : Nat) : Int) := by rw [IntKind.wrap_u8]; omega
  rw [h1]
  have := key ⟨n.toNat % 256, Nat.mod_lt _ (by decide)⟩
  simp only at this
  rw [this]
  congr 1
  omega
theorem shr7 (n : Int) (h : 0 ≤ n) : shrI .u64 n 7 = ((n.toNat / 128 : Nat) : Int) := by
  unfold shrI
  have : (2 : Int) ^ (min (7 : Int).toNat (IntKind.bits .u64)) = 128 := by decide
  rw [this, Int.fdiv_eq_ediv_of_nonneg _ (by decide)]
  omega
end Go.Eng
namespace Go.Eng.Ytblghgacokoklaa
theorem number_spec {h : Hp} {l : Sl} {xs : List Value} {n : Int} {Q : Value → Hp → Prop} (B : Buf h l 1 5 xs) (h0 : 0 ≤ n) (h1 : n < 18446744073709551616) (hl : l.n ≤ 70368744177664)
    (hQ : ∀ l' h', Buf h' l' 1 5 (xs ++ bv (encU n.toNat)) → Upd h h' l l' → Q (.slice l'.a l'.n l'.c) h') : F112.T l n h Q := by
  refine ⟨fun l1 n1 h1 => ∃ f ys, f ≤ 10 ∧ ys.length + f = 10 ∧ Buf h1 l1 1 5 (xs ++ bv ys) ∧ Upd h h1 l l1 ∧ 0 ≤ n1 ∧ n1.toNat < 128 ^ f ∧ 0 < f ∧ encU n.toNat = ys ++ encF f n1.toNat, fun _ n1 _ => n1.toNat,
    ⟨10, [], Nat.le_refl _, rfl, by simpa [bv] using B, Upd.refl _ _, h0, by omega, by decide, rfl⟩, ?_⟩
  rintro l1 n1 h1 ⟨f, ys, hf, hys, B1, U1, hn1, hlt, hf0, he⟩
  have hln : l1.n = l.n + ys.length := by
    have e1 := B1.len; have e2 := B.len
    simp only [List.length_append, bv_length] at e1
    omega
  obtain ⟨f, rfl⟩ : ∃ g, f = g + 1 := ⟨f - 1, by omega⟩
  refine ⟨fun hge => ?_, fun hlt2 => ?_⟩
  · have hnn : ¬ n1.toNat < 128 := by omega
    have hf1 : 0 < f := by
      rcases Nat.eq_zero_or_pos f with rfl | h
      · simp at hlt; omega
      · exact h
    refine append_buf B1 rfl rfl (by omega) fun l2 h2 B2 hn2 U2 => ⟨by decide, ⟨f, ys ++ [((n1.toNat % 128 + 128 : Nat) : Int)], by omega, by simp; omega, ?_, U1.trans U2, ?_, ?_, hf1, ?_⟩, ?_⟩
    · rw [or128 n1 hn1] at B2
      rw [bv_append, ← List.append_assoc]
      exact B2
    · rw [shr7 n1 hn1]; omega
    · rw [shr7 n1 hn1, Int.toNat_natCast]
      rw [Nat.pow_succ] at hlt
      omega
    · rw [shr7 n1 hn1, Int.toNat_natCast, he]
      simp only [encF, if_neg hnn, List.append_assoc, List.singleton_append]
    · show (shrI .u64 n1 7).toNat < n1.toNat
      rw [shr7 n1 hn1, Int.toNat_natCast]; omega
  · have hnn : n1.toNat < 128 := by omega
    refine append_buf B1 rfl rfl (by omega) fun l2 h2 B2 hn2 U2 => hQ l2 h2 ?_ (U1.trans U2)
    have hw : IntKind.wrap .u8 n1 = (n1.toNat : Int) := by rw [IntKind.wrap_u8]; omega
    rw [hw] at B2
    rw [he, bv_append, ← List.append_assoc]
    simp only [encF, if_pos hnn]
    exact B2
theorem encF_length (f n : Nat) : (encF f n).length ≤ f := by
  induction f generalizing n with
  | zero => simp [encF]
  | succ f ih =>
    simp only [encF]
    split
    · simp
    · have := ih (n / 128); simp; omega
theorem encU_length (n : Nat) : (encU n).length ≤ 10 := encF_length 10 n
theorem twin_nil {h : Hp} {m : Int} {Q : Value → Hp → Prop} (h0 : 0 ≤ m) (h1 : m ≤ 70368744177664)
    (hQ : ∀ l' h', Buf h' l' 1 5 [] → Keep h h' → (∃ b, l'.a = some ⟨b, 0, none⟩ ∧ h b = none) → l'.n = 0 → Q (.slice l'.a l'.n l'.c) h') : F113.T ⟨none, 0, 0⟩ m h Q := by
  have hw : IntKind.wrap .i64 (((0 : Nat) : Int) + m) = m := by
    rw [show ((0 : Nat) : Int) + m = m by omega]
    exact wrap_i64 (by omega) (by omega)
  unfold F113.T
  simp only [hw]
  refine ⟨⟨by simp, by simpa using h0, by omega⟩, fun b hb => ⟨[], ⟨by simp [Nat.min], .inl (by simp [Nat.min])⟩, fun v hv => (by cases hv), .inl rfl, ?_⟩⟩
  rw [wrA_nil]
  refine hQ ⟨some ⟨b, 0, none⟩, 0, m.toNat⟩ _ ⟨by simp, Nat.zero_le _, .inr ⟨b, _, (0, 0), rfl, by unfold Hp.new; rw [if_pos rfl], ?_, fun j _ => by simp, rfl⟩⟩ (Keep.new hb _) ⟨b, rfl, hb⟩ rfl
  show m.toNat * 1 ≤ _
  have := zerosV_length (z := [Value.int .u8 0]) m.toNat
  unfold zerosV at this
  simp only [Array.length_toList, List.length_singleton] at this
  exact Nat.le_of_eq this.symm
theorem putUint_nil {h : Hp} {n : Int} {Q : Value → Hp → Prop} (h0 : 0 ≤ n) (h1 : n < 18446744073709551616)
    (hQ : ∀ l' h', Buf h' l' 1 5 (bv (encU n.toNat)) → Keep h h' → (∃ b, l'.a = some ⟨b, 0, none⟩ ∧ h b = none) → Q (.slice l'.a l'.n l'.c) h') : F96.T ⟨none, 0, 0⟩ n h Q := by
  refine twin_nil (m := 10) (by decide) (by decide) fun l1 h2 B1 K1 hf hn => ⟨l1, rfl, ?_⟩
  refine number_spec B1 h0 h1 (by omega) fun l2 h3 B2 U2 => ⟨l2, rfl, hQ l2 h3 B2 ?_ ?_⟩
  · obtain ⟨b, hb, hbn⟩ := hf
    intro k x e
    exact U2.keep k x (fun o hs => by rw [hb] at hs; simp only [Option.some.injEq, Addr.mk.injEq] at hs; rw [← hs.1, hbn] at e; cases e) (K1 k x e)
  · obtain ⟨b, hb, hbn⟩ := hf
    rcases U2.at_ with h0 | ⟨b2, hb2, hn2⟩
    · exact ⟨b, by rw [h0]; exact hb, hbn⟩
    · exact ⟨b2, hb2, K1.dom _ hn2⟩
/-- Numbers' bytes, one behind the other. -/
def encUs (ns : List Int) : List Int := ns.flatMap fun n => encU n.toNat
theorem encUs_length (ns : List Int) : (encUs ns).length ≤ 10 * ns.length := by
  induction ns with
  | nil => simp [encUs]
  | cons n ns ih =>
    have := encU_length n.toNat
    simp only [encUs, List.flatMap_cons, List.length_append, List.length_cons] at ih ⊢
    omega
def uv (ns : List Int) : List Value := ns.map (Value.int .u64)
theorem bv_one (l : List Int) : ∀ v ∈ bv l, Value.oneCell' v = true := by
  intro v hv
  obtain ⟨n, _, rfl⟩ := List.mem_map.1 hv
  rfl
theorem uints_spec {h : Hp} {l r : Sl} {xs : List Value} {ns : List Int} {Q : Value → Hp → Prop} (B : Buf h l 1 5 xs) (hr : h.row r.a r.n (uv ns)) (ho : Off r l) (hu : ∀ n ∈ ns, 0 ≤ n ∧ n < 18446744073709551616) (hl : l.n + 10 * ns.length ≤ 70368744177664)
    (hQ : ∀ l' h', Buf h' l' 1 5 (xs ++ bv (encUs ns)) → Upd h h' l l' → Q (.slice l'.a l'.n l'.c) h') : F80.T l r h Q := by
  have hrn : r.n = ns.length := by rw [← hr.1]; simp [uv]
  refine ⟨fun l2 i h1 => ∃ k : Nat, i = (k : Int) ∧ k ≤ ns.length ∧ Buf h1 l2 1 5 (xs ++ bv (encUs (ns.take k))) ∧ Upd h h1 l l2, fun _ i _ => ns.length - i.toNat,
    ⟨0, rfl, Nat.zero_le _, by simpa [encUs, bv] using B, Upd.refl _ _⟩, ?_⟩
  rintro l2 i h1 ⟨k, rfl, hk, B1, U1⟩
  refine ⟨fun hlt => ?_, fun hge => ?_⟩
  · have hk1 : k < ns.length := by omega
    have hr1 := row_upd U1 (.inr ho) hr
    obtain ⟨b, o, ha, hat⟩ := row_get hr1 (i := k) (by omega)
    have hv : (uv ns)[k]? = some (Value.int .u64 ns[k]) := by simp [uv, hk1]
    have hu' := hu _ (List.getElem_mem hk1)
    refine ⟨b, o, ha, ⟨by omega, hlt⟩, ns[k], ?_, ?_⟩
    · rw [Int.toNat_natCast, hat k (by omega), hv]
    · refine putUint_nil hu'.1 hu'.2 fun l3 h2 B3 K2 hf => ⟨l3, rfl, bv (encU (ns[k]).toNat), B3.row, bv_one _, ?_⟩
      have hl3 : l3.n = (encU (ns[k]).toNat).length := by have := B3.len; rw [bv_length] at this; omega
      have hl2 : l2.n = xs.length + (encUs (ns.take k)).length := by have := B1.len; simp only [List.length_append, bv_length] at this; omega
      have hxs : l.n = xs.length := by have := B.len; omega
      have h10 := encUs_length (ns.take k)
      have h11 := encU_length (ns[k]).toNat
      rw [List.length_take, Nat.min_eq_left hk] at h10
      refine append_buf (B1.keep K2) rfl (by rw [bv_length, hl3]; omega) (by omega) fun l4 h3 B4 hn4 U4 => ?_
      have hw : IntKind.wrap .i64 ((k : Int) + 1) = ((k + 1 : Nat) : Int) := by rw [wrap_i64 (by omega) (by omega)]; omega
      rw [hw]
      refine ⟨⟨k + 1, rfl, hk1, ?_, (U1.trans (Upd.of_keep K2 l2)).trans U4⟩, ?_⟩
      · have : encUs (ns.take (k + 1)) = encUs (ns.take k) ++ encU (ns[k]).toNat := by
          unfold encUs
          rw [List.take_succ_eq_append_getElem hk1, List.flatMap_append]
          simp only [List.flatMap_cons, List.flatMap_nil, List.append_nil]
        rw [this, bv_append, ← List.append_assoc]
        exact B4
      · show ns.length - ((k + 1 : Nat) : Int).toNat < ns.length - (k : Int).toNat
        omega
  · have hkn : k = ns.length := by omega
    subst hkn
    rw [List.take_length] at B1
    exact hQ l2 h1 B1 U1
/-- A text's bytes behind their number. -/
def bI (s : ByteArray) : List Int := s.data.toList.map fun b => (b.toNat : Int)
theorem bytesV_bI (s : ByteArray) : bytesV s = bv (bI s) := by simp [bytesV, bv, bI, Function.comp_def]
theorem bI_length (s : ByteArray) : (bI s).length = s.size := by rw [← bv_length, ← bytesV_bI, bytesV_length]
def encT (s : ByteArray) : List Int := encU s.size ++ bI s
theorem putText_nil {h : Hp} {s : ByteArray} {Q : Value → Hp → Prop} (hs : s.size ≤ 35184372088832)
    (hQ : ∀ l' h', Buf h' l' 1 5 (bv (encT s)) → Keep h h' → (∃ b, l'.a = some ⟨b, 0, none⟩ ∧ h b = none) → Q (.slice l'.a l'.n l'.c) h') : F97.T ⟨none, 0, 0⟩ s h Q := by
  have hw : IntKind.wrap .i64 (10 + (s.size : Int)) = 10 + (s.size : Int) := wrap_i64 (by omega) (by omega)
  have hw2 : IntKind.wrap .u64 (s.size : Int) = (s.size : Int) := wrap_u64 (by omega) (by omega)
  unfold F97.T
  rw [hw, hw2]
  refine twin_nil (by omega) (by omega) fun l1 h2 B1 K1 hf hn => ⟨l1, rfl, ?_⟩
  refine number_spec B1 (by omega) (by omega) (by omega) fun l2 h3 B2 U2 => ⟨l2, rfl, ?_⟩
  rw [List.nil_append, Int.toNat_natCast] at B2
  have h10 := encU_length s.size
  have hl2 : l2.n = (encU s.size).length := by have := B2.len; rw [bv_length] at this; omega
  refine append_buf B2 rfl (by rw [bytesV_length]; omega) (by omega) fun l3 h4 B3 hn3 U3 => hQ l3 h4 ?_ ?_ ?_
  · unfold encT; rw [bv_append, ← bytesV_bI]; exact B3
  · obtain ⟨b, hb, hbn⟩ := hf
    intro k x e
    have U := U2.trans U3
    exact U.keep k x (fun o hs => by rw [hb] at hs; simp only [Option.some.injEq, Addr.mk.injEq] at hs; rw [← hs.1, hbn] at e; cases e) (K1 k x e)
  · obtain ⟨b, hb, hbn⟩ := hf
    rcases (U2.trans U3).at_ with h0 | ⟨b2, hb2, hn2⟩
    · exact ⟨b, by rw [h0]; exact hb, hbn⟩
    · exact ⟨b2, hb2, K1.dom _ hn2⟩
theorem text_spec {h : Hp} {l : Sl} {xs : List Value} {s : ByteArray} {Q : Value → Hp → Prop} (B : Buf h l 1 5 xs) (hs : s.size ≤ 35184372088832) (hl : l.n + s.size + 10 ≤ 140737488355328)
    (hQ : ∀ l' h', Buf h' l' 1 5 (xs ++ bv (encT s)) → Upd h h' l l' → Q (.slice l'.a l'.n l'.c) h') : F81.T l s h Q := by
  refine putText_nil hs fun l1 h1 B1 K1 hf => ⟨l1, rfl, bv (encT s), B1.row, bv_one _, ?_⟩
  have h10 := encU_length s.size
  have hl1 : l1.n = (encU s.size).length + s.size := by have := B1.len; rw [bv_length] at this; unfold encT at this; rw [List.length_append, bI_length] at this; omega
  refine append_buf (B.keep K1) rfl (by rw [bv_length, hl1]; unfold encT; rw [List.length_append, bI_length]; omega) (by omega) fun l2 h2 B2 hn2 U2 => hQ l2 h2 B2 ((Upd.of_keep K1 l).trans U2)
end Go.Eng.Ytblghgacokoklaa
end
section
/-
  SPECS, 2: edits; a record's bytes.
-/
set_option linter.unusedSimpArgs false
set_option linter.unusedVariables false
namespace Go.Eng.Ytblghgacokoklaa
structure Place where
  lv : Int
  num : Int
structure Placed where
  lv : Int
  num : Int
  weight : Int
  bytes : Int
  entries : Int
  least : ByteArray
  greatest : ByteArray
structure Edit where
  log : Int
  next : Int
  seq : Int
  out : List Place
  inn : List Placed
  ptr : List ByteArray
def Place.cells (p : Place) : List Value := [.int .i64 p.lv, .int .u64 p.num]
def Placed.cells (p : Placed) : List Value := [.int .i64 p.lv, .int .u64 p.num, .int .i64 p.weight, .int .i64 p.bytes, .int .i64 p.entries, .string p.least, .string p.greatest]
def outV (l : List Place) : List Value := l.flatMap Place.cells
def inV (l : List Placed) : List Value := l.flatMap Placed.cells
def ptrV (l : List ByteArray) : List Value := l.map Value.string
/-- Every element has as many cells: where the cells of one stand. -/
theorem flat_get {α : Type} (f : α → List Value) (n : Nat) (hf : ∀ x, (f x).length = n) : ∀ (l : List α) (i j : Nat) (hi : i < l.length), j < n → (l.flatMap f)[i * n + j]? = (f l[i])[j]?
  | [], i, j, hi, _ => by simp at hi
  | x :: l, 0, j, hi, hj => by
    simp only [List.flatMap_cons, Nat.zero_mul, Nat.zero_add, List.getElem_cons_zero]
    rw [List.getElem?_append_left (by rw [hf]; exact hj)]
  | x :: l, i + 1, j, hi, hj => by
    simp only [List.flatMap_cons, List.getElem_cons_succ]
    rw [List.getElem?_append_right (by rw [hf, Nat.add_mul]; omega), hf, show (i + 1) * n + j - n = i * n + j by rw [Nat.add_mul]; omega]
    exact flat_get f n hf l i j (by simpa using hi) hj
theorem flat_length {α : Type} (f : α → List Value) (n : Nat) (hf : ∀ x, (f x).length = n) (l : List α) : (l.flatMap f).length = l.length * n := by
  induction l with
  | nil => simp
  | cons x l ih => simp only [List.flatMap_cons, List.length_append, hf, ih, List.length_cons, Nat.add_mul]; omega
def okU (n : Int) : Prop := 0 ≤ n ∧ n < 18446744073709551616
def okI (n : Int) : Prop := 0 ≤ n ∧ n < 9223372036854775808
structure Place.ok (p : Place) : Prop where
  lv : okI p.lv
  num : okU p.num
structure Placed.ok (p : Placed) : Prop where
  lv : okI p.lv
  num : okU p.num
  weight : okI p.weight
  bytes : okI p.bytes
  entries : okI p.entries
  least : p.least.size ≤ 64
  greatest : p.greatest.size ≤ 64
def Place.enc (p : Place) : List Int := encUs [p.lv, p.num]
def Placed.enc (p : Placed) : List Int := encUs [p.lv, p.num, p.weight, p.bytes, p.entries] ++ encT p.least ++ encT p.greatest
/-- A record's bytes. -/
def recB (e : Edit) (last : Bool) : List Int :=
  (if last then 1 else 0) :: (encUs [e.log, e.next, e.seq, (e.out.length : Int)] ++ e.out.flatMap Place.enc ++ encUs [(e.inn.length : Int)] ++ e.inn.flatMap Placed.enc ++ encUs [(e.ptr.length : Int)] ++ e.ptr.flatMap encT)
theorem encT_length {s : ByteArray} (h : s.size ≤ 64) : (encT s).length ≤ 74 := by
  have := encU_length s.size
  unfold encT
  rw [List.length_append, bI_length]
  omega
theorem Place.enc_length (p : Place) : p.enc.length ≤ 20 := by
  have := encUs_length [p.lv, p.num]
  simpa [Place.enc] using this
theorem Placed.enc_length {p : Placed} (h : p.ok) : p.enc.length ≤ 198 := by
  have h1 := encUs_length [p.lv, p.num, p.weight, p.bytes, p.entries]
  have h2 := encT_length h.least
  have h3 := encT_length h.greatest
  simp only [Placed.enc, List.length_append]
  simp only [List.length_cons, List.length_nil] at h1
  omega
theorem Placed.ok.enc_length' {p : Placed} (h : p.ok) : p.enc.length ≤ 198 := Placed.enc_length h
theorem flatMap_le {α : Type} (f : α → List Int) (n : Nat) (l : List α) (h : ∀ x ∈ l, (f x).length ≤ n) : (l.flatMap f).length ≤ n * l.length := by
  induction l with
  | nil => simp
  | cons x l ih =>
    have h1 := h x List.mem_cons_self
    have h2 := ih fun y hy => h y (List.mem_cons_of_mem _ hy)
    simp only [List.flatMap_cons, List.length_append, List.length_cons, Nat.mul_add, Nat.mul_one]
    omega
theorem _root_.Go.Eng.Buf.n1 {h : Hp} {l : Sl} {xs : List Value} (B : Buf h l 1 5 xs) : l.n = xs.length := by have := B.len; omega
/-- A new block is off whatever was there. -/
theorem off_new {h : Hp} {l : Sl} {xs : List Value} {sz t : Nat} (B : Buf h l sz t xs) {b : Nat} (hb : h b = none) (n c : Nat) : Off ⟨some ⟨b, 0, none⟩, n, c⟩ l := by
  intro b' o o' e1 e2
  simp only [Option.some.injEq, Addr.mk.injEq] at e1
  rcases B.own with ⟨ha, _⟩ | ⟨k, cs, f, ha, hk, _⟩
  · rw [ha] at e2; cases e2
  · rw [ha] at e2
    simp only [Option.some.injEq, Addr.mk.injEq] at e2
    rw [e2.1, ← e1.1, hb] at hk; cases hk
theorem row_new (h : Hp) (b t : Nat) (vs : List Value) (n : Nat) (hn : vs.length = n) : (h.new b (.cells ⟨vs⟩ t (0, 0))).row (some ⟨b, 0, none⟩) n vs := by
  refine ⟨hn, .inr ⟨b, 0, rfl, fun j _ => ?_⟩⟩
  rw [Nat.zero_add, at_new]
  simp
/-- Numbers laid behind a buffer, out of a list that is made for it. -/
theorem uints_lit {h : Hp} {l : Sl} {xs : List Value} {ns : List Int} {Q : Value → Hp → Prop} (B : Buf h l 1 5 xs) (hu : ∀ n ∈ ns, 0 ≤ n ∧ n < 18446744073709551616) (hl : l.n + 10 * ns.length ≤ 70368744177664)
    (hQ : ∀ l' h', Buf h' l' 1 5 (xs ++ bv (encUs ns)) → Upd h h' l l' → Q (.slice l'.a l'.n l'.c) h') :
    ∀ b, h b = none → F80.T l ⟨some ⟨b, 0, none⟩, ns.length, ns.length⟩ (h.new b (.cells ⟨uv ns⟩ 55 (0, 0))) Q := by
  intro b hb
  refine uints_spec (B.keep (Keep.new hb _)) (row_new h b 55 (uv ns) _ (by simp [uv])) (off_new B hb _ _) hu hl fun l' h' B' U' => hQ l' h' B' ((Upd.of_new hb _ l).trans U')
theorem out_loop {h : Hp} {l lo : Sl} {xs : List Value} {out : List Place} {R : Sl → Hp → Prop} (B : Buf h l 1 5 xs) (hr : h.row lo.a (lo.n * 2) (outV out)) (ho : lo.n * 2 = 0 ∨ Off lo l) (hok : ∀ p ∈ out, p.ok) (hn : out.length ≤ 1000) (hl : l.n ≤ 1000000)
    (hR : ∀ l' h', Buf h' l' 1 5 (xs ++ bv (out.flatMap Place.enc)) → Upd h h' l l' → R l' h') :
    ∃ (I : Sl → Int → Hp → Prop) (m : Sl → Int → Hp → Nat), I l 0 h ∧ (∀ l4 : Sl, ∀ n3 : Int, ∀ h2 : Hp, I l4 n3 h2 → par (n3 < (lo.n : Int)) (∃ b2 o, (lo.a : Option Addr) = some ⟨b2, o, none⟩ ∧ ((0 : Int) ≤ n3 ∧ n3 < (lo.n : Int)) ∧ ∃ n4 : Int, h2.at b2 (o + n3.toNat * 2) = some (.int .i64 n4) ∧ ∃ n5 : Int, h2.at b2 ((o + n3.toNat * 2) + 1) = some (.int .u64 n5) ∧ ∀ b3, h2 b3 = none → F80.T l4 ⟨(some ⟨b3, 0, none⟩), 2, 2⟩ (h2.new b3 (.cells ⟨[.int .u64 (IntKind.wrap .u64 n4), .int .u64 n5]⟩ 55 (0, 0))) fun r1 h3 => ∃ l5 : Sl, r1 = .slice l5.a l5.n l5.c ∧ I l5 (IntKind.wrap .i64 (n3 + 1)) h3 ∧ m l5 (IntKind.wrap .i64 (n3 + 1)) h3 < m l4 n3 h2) (R l4 h2)) := by
  have hlo : lo.n = out.length := by
    have h1 := hr.1
    unfold outV at h1
    rw [flat_length Place.cells 2 (fun _ => rfl)] at h1
    omega
  refine ⟨fun l4 i h2 => ∃ k : Nat, i = (k : Int) ∧ k ≤ out.length ∧ Buf h2 l4 1 5 (xs ++ bv ((out.take k).flatMap Place.enc)) ∧ Upd h h2 l l4, fun _ i _ => out.length - i.toNat, ⟨0, rfl, Nat.zero_le _, by simpa [bv] using B, Upd.refl _ _⟩, ?_⟩
  rintro l4 i h2 ⟨k, rfl, hk, B1, U1⟩
  refine ⟨fun hlt => ?_, fun hge => ?_⟩
  · have hk1 : k < out.length := by omega
    obtain ⟨b, o, ha, hat⟩ := row_get (row_upd U1 ho hr) (i := k * 2) (by omega)
    have hp := hok _ (List.getElem_mem hk1)
    have c0 := flat_get Place.cells 2 (fun _ => rfl) out k 0 hk1 (by decide)
    have c1 := flat_get Place.cells 2 (fun _ => rfl) out k 1 hk1 (by decide)
    have hlen : l4.n ≤ 1000000 + 20 * 1000 := by
      have e1 := B1.n1
      have e2 := B.n1
      have e3 := flatMap_le Place.enc 20 (out.take k) (fun p _ => p.enc_length)
      rw [List.length_take, Nat.min_eq_left hk] at e3
      simp only [List.length_append, bv_length] at e1
      omega
    refine ⟨b, o, ha, ⟨by omega, hlt⟩, out[k].lv, ?_, out[k].num, ?_, fun b3 hb3 => ?_⟩
    · rw [Int.toNat_natCast, hat _ (by omega)]; exact c0
    · rw [Int.toNat_natCast, Nat.add_assoc, hat _ (by omega)]; exact c1
    · have hw1 : IntKind.wrap .u64 out[k].lv = out[k].lv := wrap_u64 hp.lv.1 (by have := hp.lv.2; omega)
      rw [hw1]
      refine uints_lit (ns := [out[k].lv, out[k].num]) B1 (fun n hn => ?_) (by simp; omega) (fun l5 h3 B5 U5 => ⟨l5, rfl, ?_, ?_⟩) b3 hb3
      · simp only [List.mem_cons, List.not_mem_nil, or_false] at hn
        rcases hn with rfl | rfl
        · exact ⟨hp.lv.1, by have := hp.lv.2; omega⟩
        · exact hp.num
      · have hw : IntKind.wrap .i64 ((k : Int) + 1) = ((k + 1 : Nat) : Int) := by rw [wrap_i64 (by omega) (by omega)]; omega
        rw [hw]
        refine ⟨k + 1, rfl, hk1, ?_, U1.trans U5⟩
        rw [List.take_succ_eq_append_getElem hk1, List.flatMap_append, bv_append, ← List.append_assoc]
        simpa [Place.enc] using B5
      · have hw : IntKind.wrap .i64 ((k : Int) + 1) = ((k + 1 : Nat) : Int) := by rw [wrap_i64 (by omega) (by omega)]; omega
        rw [hw]
        show out.length - ((k + 1 : Nat) : Int).toNat < out.length - (k : Int).toNat
        omega
  · have hkn : k = out.length := by omega
    subst hkn
    rw [List.take_length] at B1
    exact hR l4 h2 B1 U1
theorem in_loop {h : Hp} {l li : Sl} {xs : List Value} {inn : List Placed} {R : Sl → Hp → Prop} (B : Buf h l 1 5 xs) (hr : h.row li.a (li.n * 7) (inV inn)) (ho : li.n * 7 = 0 ∨ Off li l) (hok : ∀ p ∈ inn, p.ok) (hn : inn.length ≤ 1000) (hl : l.n ≤ 2000000)
    (hR : ∀ l' h', Buf h' l' 1 5 (xs ++ bv (inn.flatMap Placed.enc)) → Upd h h' l l' → R l' h') :
    ∃ (I1 : Sl → Int → Hp → Prop) (m1 : Sl → Int → Hp → Nat), I1 l 0 h ∧ (∀ l7 : Sl, ∀ n6 : Int, ∀ h5 : Hp, I1 l7 n6 h5 → par (n6 < (li.n : Int)) (∃ b6 o2, (li.a : Option Addr) = some ⟨b6, o2, none⟩ ∧ ((0 : Int) ≤ n6 ∧ n6 < (li.n : Int)) ∧ ∃ n7 : Int, h5.at b6 (o2 + n6.toNat * 7) = some (.int .i64 n7) ∧ ∃ n8 : Int, h5.at b6 ((o2 + n6.toNat * 7) + 1) = some (.int .u64 n8) ∧ ∃ n9 : Int, h5.at b6 ((o2 + n6.toNat * 7) + 2) = some (.int .i64 n9) ∧ ∃ n10 : Int, h5.at b6 ((o2 + n6.toNat * 7) + 3) = some (.int .i64 n10) ∧ ∃ n11 : Int, h5.at b6 ((o2 + n6.toNat * 7) + 4) = some (.int .i64 n11) ∧ ∃ s : ByteArray, h5.at b6 ((o2 + n6.toNat * 7) + 5) = some (.string s) ∧ ∃ s1 : ByteArray, h5.at b6 ((o2 + n6.toNat * 7) + 6) = some (.string s1) ∧ ∀ b7, h5 b7 = none → F80.T l7 ⟨(some ⟨b7, 0, none⟩), 5, 5⟩ (h5.new b7 (.cells ⟨[.int .u64 (IntKind.wrap .u64 n7), .int .u64 n8, .int .u64 (IntKind.wrap .u64 n9), .int .u64 (IntKind.wrap .u64 n10), .int .u64 (IntKind.wrap .u64 n11)]⟩ 55 (0, 0))) fun r3 h6 => ∃ l8 : Sl, r3 = .slice l8.a l8.n l8.c ∧ F81.T l8 s h6 fun r4 h7 => ∃ l9 : Sl, r4 = .slice l9.a l9.n l9.c ∧ F81.T l9 s1 h7 fun r5 h8 => ∃ l10 : Sl, r5 = .slice l10.a l10.n l10.c ∧ I1 l10 (IntKind.wrap .i64 (n6 + 1)) h8 ∧ m1 l10 (IntKind.wrap .i64 (n6 + 1)) h8 < m1 l7 n6 h5) (R l7 h5)) := by
  have hli : li.n = inn.length := by
    have h1 := hr.1
    unfold inV at h1
    rw [flat_length Placed.cells 7 (fun _ => rfl)] at h1
    omega
  refine ⟨fun l4 i h2 => ∃ k : Nat, i = (k : Int) ∧ k ≤ inn.length ∧ Buf h2 l4 1 5 (xs ++ bv ((inn.take k).flatMap Placed.enc)) ∧ Upd h h2 l l4, fun _ i _ => inn.length - i.toNat, ⟨0, rfl, Nat.zero_le _, by simpa [bv] using B, Upd.refl _ _⟩, ?_⟩
  rintro l4 i h2 ⟨k, rfl, hk, B1, U1⟩
  refine ⟨fun hlt => ?_, fun hge => ?_⟩
  · have hk1 : k < inn.length := by omega
    obtain ⟨b, o, ha, hat⟩ := row_get (row_upd U1 ho hr) (i := k * 7) (by omega)
    have hp := hok _ (List.getElem_mem hk1)
    have cc : ∀ j, j < 7 → h2.at b ((o + k * 7) + j) = (Placed.cells inn[k])[j]? := fun j hj => by
      rw [Nat.add_assoc, hat _ (by omega)]
      exact flat_get Placed.cells 7 (fun _ => rfl) inn k j hk1 hj
    have hlen : l4.n ≤ 2000000 + 198 * 1000 := by
      have e1 := B1.n1
      have e2 := B.n1
      have e3 := flatMap_le Placed.enc 198 (inn.take k) (fun p hp => (hok p (List.mem_of_mem_take hp)).enc_length')
      rw [List.length_take, Nat.min_eq_left hk] at e3
      simp only [List.length_append, bv_length] at e1
      omega
    refine ⟨b, o, ha, ⟨by omega, hlt⟩, inn[k].lv, ?_, inn[k].num, ?_, inn[k].weight, ?_, inn[k].bytes, ?_, inn[k].entries, ?_, inn[k].least, ?_, inn[k].greatest, ?_, fun b3 hb3 => ?_⟩
    · rw [Int.toNat_natCast]; exact cc 0 (by decide)
    · rw [Int.toNat_natCast]; exact cc 1 (by decide)
    · rw [Int.toNat_natCast]; exact cc 2 (by decide)
    · rw [Int.toNat_natCast]; exact cc 3 (by decide)
    · rw [Int.toNat_natCast]; exact cc 4 (by decide)
    · rw [Int.toNat_natCast]; exact cc 5 (by decide)
    · rw [Int.toNat_natCast]; exact cc 6 (by decide)
    · have uw : ∀ n, okI n → IntKind.wrap .u64 n = n := fun n h => wrap_u64 h.1 (by have := h.2; omega)
      rw [uw _ hp.lv, uw _ hp.weight, uw _ hp.bytes, uw _ hp.entries]
      have iu : ∀ n, okI n → 0 ≤ n ∧ n < 18446744073709551616 := fun n h => ⟨h.1, by have := h.2; omega⟩
      have hle := hp.least
      have hgr := hp.greatest
      have hw : IntKind.wrap .i64 ((k : Int) + 1) = ((k + 1 : Nat) : Int) := by rw [wrap_i64 (by omega) (by omega)]; omega
      refine uints_lit (ns := [inn[k].lv, inn[k].num, inn[k].weight, inn[k].bytes, inn[k].entries]) B1 (fun n hn => ?_) (by simp; omega) (fun l5 h3 B5 U5 => ⟨l5, rfl, ?_⟩) b3 hb3
      · simp only [List.mem_cons, List.not_mem_nil, or_false] at hn
        rcases hn with rfl | rfl | rfl | rfl | rfl
        · exact iu _ hp.lv
        · exact hp.num
        · exact iu _ hp.weight
        · exact iu _ hp.bytes
        · exact iu _ hp.entries
      · have e5 : l5.n ≤ l4.n + 50 := by
          have e1 := B5.n1
          have e2 := B1.n1
          have e3 := encUs_length [inn[k].lv, inn[k].num, inn[k].weight, inn[k].bytes, inn[k].entries]
          simp only [List.length_append, bv_length, List.length_cons, List.length_nil] at e1 e2 e3
          omega
        refine text_spec B5 (by omega) (by omega) fun l6 h4 B6 U6 => ⟨l6, rfl, ?_⟩
        have e6 : l6.n ≤ l5.n + 74 := by
          have e1 := B6.n1
          have e2 := B5.n1
          have e3 := encT_length hle
          rw [List.length_append, bv_length] at e1
          omega
        refine text_spec B6 (by omega) (by omega) fun l7 h5 B7 U7 => ⟨l7, rfl, ?_, ?_⟩
        · rw [hw]
          refine ⟨k + 1, rfl, hk1, ?_, ((U1.trans U5).trans U6).trans U7⟩
          rw [List.take_succ_eq_append_getElem hk1, List.flatMap_append, bv_append, ← List.append_assoc]
          simp only [List.flatMap_cons, List.flatMap_nil, List.append_nil, Placed.enc, bv_append, ← List.append_assoc]
          exact B7
        · rw [hw]
          show inn.length - ((k + 1 : Nat) : Int).toNat < inn.length - (k : Int).toNat
          omega
  · have hkn : k = inn.length := by omega
    subst hkn
    rw [List.take_length] at B1
    exact hR l4 h2 B1 U1
end Go.Eng.Ytblghgacokoklaa
end
section
/-
  SPECS, 3: a record's bytes.
-/
set_option linter.unusedSimpArgs false
set_option linter.unusedVariables false
namespace Go.Eng.Ytblghgacokoklaa
theorem ptr_loop {h : Hp} {l lp : Sl} {xs : List Value} {ptr : List ByteArray} {R : Sl → Hp → Prop} (B : Buf h l 1 5 xs) (hr : h.row lp.a lp.n (ptrV ptr)) (ho : lp.n = 0 ∨ Off lp l) (hok : ∀ p ∈ ptr, p.size ≤ 64) (hn : ptr.length ≤ 1000) (hl : l.n ≤ 3000000)
    (hR : ∀ l' h', Buf h' l' 1 5 (xs ++ bv (ptr.flatMap encT)) → Upd h h' l l' → R l' h') :
    ∃ (I2 : Sl → Int → Hp → Prop) (m2 : Sl → Int → Hp → Nat), I2 l 0 h ∧ (∀ l12 : Sl, ∀ n12 : Int, ∀ h10 : Hp, I2 l12 n12 h10 → par (n12 < (lp.n : Int)) (∃ b9 o3, (lp.a : Option Addr) = some ⟨b9, o3, none⟩ ∧ ((0 : Int) ≤ n12 ∧ n12 < (lp.n : Int)) ∧ ∃ s2 : ByteArray, h10.at b9 (o3 + n12.toNat) = some (.string s2) ∧ F81.T l12 s2 h10 fun r7 h11 => ∃ l13 : Sl, r7 = .slice l13.a l13.n l13.c ∧ I2 l13 (IntKind.wrap .i64 (n12 + 1)) h11 ∧ m2 l13 (IntKind.wrap .i64 (n12 + 1)) h11 < m2 l12 n12 h10) (R l12 h10)) := by
  have hlp : lp.n = ptr.length := by have h1 := hr.1; simpa [ptrV] using h1.symm
  refine ⟨fun l4 i h2 => ∃ k : Nat, i = (k : Int) ∧ k ≤ ptr.length ∧ Buf h2 l4 1 5 (xs ++ bv ((ptr.take k).flatMap encT)) ∧ Upd h h2 l l4, fun _ i _ => ptr.length - i.toNat, ⟨0, rfl, Nat.zero_le _, by simpa [bv] using B, Upd.refl _ _⟩, ?_⟩
  rintro l4 i h2 ⟨k, rfl, hk, B1, U1⟩
  refine ⟨fun hlt => ?_, fun hge => ?_⟩
  · have hk1 : k < ptr.length := by omega
    obtain ⟨b, o, ha, hat⟩ := row_get (row_upd U1 ho hr) (i := k) (by omega)
    have hp := hok _ (List.getElem_mem hk1)
    have hlen : l4.n ≤ 3000000 + 74 * 1000 := by
      have e1 := B1.n1
      have e2 := B.n1
      have e3 := flatMap_le encT 74 (ptr.take k) (fun p hp => encT_length (hok p (List.mem_of_mem_take hp)))
      rw [List.length_take, Nat.min_eq_left hk] at e3
      simp only [List.length_append, bv_length] at e1
      omega
    have hw : IntKind.wrap .i64 ((k : Int) + 1) = ((k + 1 : Nat) : Int) := by rw [wrap_i64 (by omega) (by omega)]; omega
    refine ⟨b, o, ha, ⟨by omega, hlt⟩, ptr[k], ?_, ?_⟩
    · rw [Int.toNat_natCast, hat _ (by omega)]; simp [ptrV, hk1]
    · refine text_spec B1 (by omega) (by omega) fun l5 h3 B5 U5 => ⟨l5, rfl, ?_, ?_⟩
      · rw [hw]
        refine ⟨k + 1, rfl, hk1, ?_, U1.trans U5⟩
        rw [List.take_succ_eq_append_getElem hk1, List.flatMap_append, bv_append, ← List.append_assoc]
        simpa using B5
      · rw [hw]
        show ptr.length - ((k + 1 : Nat) : Int).toNat < ptr.length - (k : Int).toNat
        omega
  · have hkn : k = ptr.length := by omega
    subst hkn
    rw [List.take_length] at B1
    exact hR l4 h2 B1 U1
/-- An edit's lists, in memory. -/
structure EdAt (h : Hp) (e : Edit) (l l1 l2 : Sl) : Prop where
  out : h.row l.a (l.n * 2) (outV e.out)
  inn : h.row l1.a (l1.n * 7) (inV e.inn)
  ptr : h.row l2.a l2.n (ptrV e.ptr)
/-- An edit whose record is no longer than a record may be. -/
structure Edit.small (e : Edit) : Prop where
  log : okU e.log
  next : okU e.next
  seq : okU e.seq
  out : ∀ p ∈ e.out, p.ok
  inn : ∀ p ∈ e.inn, p.ok
  ptr : ∀ p ∈ e.ptr, p.size ≤ 64
  nout : e.out.length ≤ 1000
  ninn : e.inn.length ≤ 1000
  nptr : e.ptr.length ≤ 1000
theorem EdAt.nout {h : Hp} {e : Edit} {l l1 l2 : Sl} (E : EdAt h e l l1 l2) : l.n = e.out.length := by
  have h1 := E.out.1
  unfold outV at h1
  rw [flat_length Place.cells 2 (fun _ => rfl)] at h1
  omega
theorem EdAt.ninn {h : Hp} {e : Edit} {l l1 l2 : Sl} (E : EdAt h e l l1 l2) : l1.n = e.inn.length := by
  have h1 := E.inn.1
  unfold inV at h1
  rw [flat_length Placed.cells 7 (fun _ => rfl)] at h1
  omega
theorem EdAt.nptr {h : Hp} {e : Edit} {l l1 l2 : Sl} (E : EdAt h e l l1 l2) : l2.n = e.ptr.length := by
  have h1 := E.ptr.1; simpa [ptrV] using h1.symm
/-- A slice in a block that was not there. -/
def New (h : Hp) (s : Sl) : Prop := ∃ b, s.a = some ⟨b, 0, none⟩ ∧ h b = none
theorem New.upd {h h' : Hp} {s s' : Sl} (N : New h s) (U : Upd h h' s s') : New h s' := by
  obtain ⟨b, hb, hn⟩ := N
  rcases U.at_ with h0 | h1
  · exact ⟨b, by rw [h0]; exact hb, hn⟩
  · exact h1
theorem New.keep {h h' : Hp} {s s' : Sl} (N : New h s) (U : Upd h h' s s') : Keep h h' := by
  obtain ⟨b, hb, hn⟩ := N
  exact fun k x e => U.keep k x (fun o hs => by rw [hb] at hs; simp only [Option.some.injEq, Addr.mk.injEq] at hs; rw [← hs.1, hn] at e; cases e) e
theorem New.off {h : Hp} {s r : Sl} (N : New h s) {n : Nat} {vs : List Value} (hr : h.row r.a n vs) : n = 0 ∨ Off r s := by
  obtain ⟨b, hb, hn⟩ := N
  exact off_fresh hr hb hn
theorem encs_len (ns : List Int) (k : Nat) (h : ns.length = k) : (encUs ns).length ≤ 10 * k := by have := encUs_length ns; omega
theorem record_f {h : Hp} {e : Edit} {l l1 l2 : Sl} {Q : Value → Hp → Prop} (E : EdAt h e l l1 l2) (S : e.small)
    (hQ : ∀ r h', Buf h' r 1 5 (bv (recB e false)) → Keep h h' → New h r → Q (.slice r.a r.n r.c) h') : F51.Tf e.log e.next e.seq l l1 l2 h Q := by
  have c1 : IntKind.wrap .u64 (l.n : Int) = (e.out.length : Int) := by rw [E.nout]; exact wrap_u64 (by omega) (by have := S.nout; omega)
  have c2 : IntKind.wrap .u64 (l1.n : Int) = (e.inn.length : Int) := by rw [E.ninn]; exact wrap_u64 (by omega) (by have := S.ninn; omega)
  have c3 : IntKind.wrap .u64 (l2.n : Int) = (e.ptr.length : Int) := by rw [E.nptr]; exact wrap_u64 (by omega) (by have := S.nptr; omega)
  unfold F51.Tf
  rw [c1, c2, c3]
  intro b hb
  let s0 : Sl := ⟨some ⟨b, 0, none⟩, 1, 1⟩
  have N0 : New h s0 := ⟨b, rfl, hb⟩
  have B0 : Buf (h.new b (.cells ⟨[.int .u8 0]⟩ 5 (0, 0))) s0 1 5 (bv [0]) := ⟨rfl, Nat.le_refl _, .inr ⟨b, _, (0, 0), rfl, by unfold Hp.new; rw [if_pos rfl], Nat.le_refl _, fun j _ => by simp, rfl⟩⟩
  have U0 : Upd h (h.new b (.cells ⟨[.int .u8 0]⟩ 5 (0, 0))) s0 s0 := Upd.of_new hb _ s0
  refine uints_lit (l := s0) (ns := [e.log, e.next, e.seq, (e.out.length : Int)]) B0 (fun n hn => ?_) (by simp [s0]) (fun l3 h1 B1 U1 => ⟨l3, rfl, ?_⟩)
  · simp only [List.mem_cons, List.not_mem_nil, or_false] at hn
    have := S.nout
    rcases hn with rfl | rfl | rfl | rfl
    · exact S.log
    · exact S.next
    · exact S.seq
    · omega
  · have U01 := U0.trans U1
    have m1 : l3.n ≤ 41 := by
      have e1 := B1.n1
      have e3 := encs_len [e.log, e.next, e.seq, (e.out.length : Int)] 4 rfl
      simp only [List.length_append, bv_length, List.length_singleton] at e1
      omega
    refine out_loop (lo := l) (out := e.out) B1 (row_upd U01 (N0.off E.out) E.out) ((N0.upd U01).off E.out) S.out S.nout (by omega) (fun l4 h2 B2 U2 => ?_)
    have U02 := U01.trans U2
    have m2 : l4.n ≤ 41 + 20 * 1000 := by
      have e1 := B2.n1
      have e2 := B1.n1
      have e3 := flatMap_le Place.enc 20 e.out (fun p _ => p.enc_length)
      have := S.nout
      rw [List.length_append, bv_length] at e1
      omega
    refine uints_lit (ns := [(e.inn.length : Int)]) B2 (fun n hn => ?_) (by simp; omega) (fun l5 h3 B3 U3 => ⟨l5, rfl, ?_⟩)
    · simp only [List.mem_cons, List.not_mem_nil, or_false] at hn
      have := S.ninn
      subst hn
      omega
    have U03 := U02.trans U3
    have m3 : l5.n ≤ 41 + 20 * 1000 + 10 := by
      have e1 := B3.n1
      have e2 := B2.n1
      have e3 := encs_len [(e.inn.length : Int)] 1 rfl
      rw [List.length_append, bv_length] at e1
      omega
    refine in_loop (li := l1) (inn := e.inn) B3 (row_upd U03 (N0.off E.inn) E.inn) ((N0.upd U03).off E.inn) S.inn S.ninn (by omega) (fun l6 h4 B4 U4 => ?_)
    have U04 := U03.trans U4
    have m4 : l6.n ≤ 41 + 20 * 1000 + 10 + 198 * 1000 := by
      have e1 := B4.n1
      have e2 := B3.n1
      have e3 := flatMap_le Placed.enc 198 e.inn (fun p hp => (S.inn p hp).enc_length')
      have := S.ninn
      rw [List.length_append, bv_length] at e1
      omega
    refine uints_lit (ns := [(e.ptr.length : Int)]) B4 (fun n hn => ?_) (by simp; omega) (fun l7 h5 B5 U5 => ⟨l7, rfl, ?_⟩)
    · simp only [List.mem_cons, List.not_mem_nil, or_false] at hn
      have := S.nptr
      subst hn
      omega
    have U05 := U04.trans U5
    have m5 : l7.n ≤ 41 + 20 * 1000 + 10 + 198 * 1000 + 10 := by
      have e1 := B5.n1
      have e2 := B4.n1
      have e3 := encs_len [(e.ptr.length : Int)] 1 rfl
      rw [List.length_append, bv_length] at e1
      omega
    refine ptr_loop (lp := l2) (ptr := e.ptr) (R := fun l' h' => Q (.slice l'.a l'.n l'.c) h') B5 (row_upd U05 (N0.off E.ptr) E.ptr) ((N0.upd U05).off E.ptr) S.ptr S.nptr (by omega) (fun l8 h6 B6 U6 => ?_)
    have U06 := U05.trans U6
    refine hQ l8 h6 ?_ (N0.keep U06) (N0.upd U06)
    simpa [recB, bv_append, bv, List.append_assoc] using B6
theorem record_t {h : Hp} {e : Edit} {l l1 l2 : Sl} {Q : Value → Hp → Prop} (E : EdAt h e l l1 l2) (S : e.small)
    (hQ : ∀ r h', Buf h' r 1 5 (bv (recB e true)) → Keep h h' → New h r → Q (.slice r.a r.n r.c) h') : F51.Tt e.log e.next e.seq l l1 l2 h Q := by
  have c1 : IntKind.wrap .u64 (l.n : Int) = (e.out.length : Int) := by rw [E.nout]; exact wrap_u64 (by omega) (by have := S.nout; omega)
  have c2 : IntKind.wrap .u64 (l1.n : Int) = (e.inn.length : Int) := by rw [E.ninn]; exact wrap_u64 (by omega) (by have := S.ninn; omega)
  have c3 : IntKind.wrap .u64 (l2.n : Int) = (e.ptr.length : Int) := by rw [E.nptr]; exact wrap_u64 (by omega) (by have := S.nptr; omega)
  unfold F51.Tt
  rw [c1, c2, c3]
  intro b hb
  let s0 : Sl := ⟨some ⟨b, 0, none⟩, 1, 1⟩
  have N0 : New h s0 := ⟨b, rfl, hb⟩
  have hcell : (h.new b (.cells ⟨[.int .u8 0]⟩ 5 (0, 0))) b = some (.cells ⟨[.int .u8 0]⟩ 5 (0, 0)) := by unfold Hp.new; rw [if_pos rfl]
  refine ⟨b, 0, rfl, ⟨by decide, by decide⟩, ⟨_, 5, (0, 0), hcell, by decide, fun j _ _ => by simp⟩, ?_⟩
  have B0 : Buf ((h.new b (.cells ⟨[.int .u8 0]⟩ 5 (0, 0))).wr b (0 + (0 : Int).toNat) [.int .u8 1]) s0 1 5 (bv [1]) := ⟨rfl, Nat.le_refl _, .inr ⟨b, ⟨[.int .u8 1]⟩, (0, 0), rfl, by unfold Hp.wr; rw [if_pos rfl, hcell]; rfl, Nat.le_refl _, fun j _ => by simp, rfl⟩⟩
  have U0 : Upd h ((h.new b (.cells ⟨[.int .u8 0]⟩ 5 (0, 0))).wr b (0 + (0 : Int).toNat) [.int .u8 1]) s0 s0 := by
    refine ⟨fun k x hk e => ?_, .inl rfl, fun k e => ?_⟩
    · have hkb : k ≠ b := fun q => hk 0 (by rw [q])
      unfold Hp.wr Hp.new
      rw [if_neg hkb, if_neg hkb]
      exact e
    · unfold Hp.wr at e
      by_cases hkb : k = b
      · rw [hkb]; exact hb
      · rw [if_neg hkb] at e
        unfold Hp.new at e
        rw [if_neg hkb] at e
        exact e
  refine uints_lit (l := s0) (ns := [e.log, e.next, e.seq, (e.out.length : Int)]) B0 (fun n hn => ?_) (by simp [s0]) (fun l3 h1 B1 U1 => ⟨l3, rfl, ?_⟩)
  · simp only [List.mem_cons, List.not_mem_nil, or_false] at hn
    have := S.nout
    rcases hn with rfl | rfl | rfl | rfl
    · exact S.log
    · exact S.next
    · exact S.seq
    · omega
  · have U01 := U0.trans U1
    have m1 : l3.n ≤ 41 := by
      have e1 := B1.n1
      have e3 := encs_len [e.log, e.next, e.seq, (e.out.length : Int)] 4 rfl
      simp only [List.length_append, bv_length, List.length_singleton] at e1
      omega
    refine out_loop (lo := l) (out := e.out) B1 (row_upd U01 (N0.off E.out) E.out) ((N0.upd U01).off E.out) S.out S.nout (by omega) (fun l4 h2 B2 U2 => ?_)
    have U02 := U01.trans U2
    have m2 : l4.n ≤ 41 + 20 * 1000 := by
      have e1 := B2.n1
      have e2 := B1.n1
      have e3 := flatMap_le Place.enc 20 e.out (fun p _ => p.enc_length)
      have := S.nout
      rw [List.length_append, bv_length] at e1
      omega
    refine uints_lit (ns := [(e.inn.length : Int)]) B2 (fun n hn => ?_) (by simp; omega) (fun l5 h3 B3 U3 => ⟨l5, rfl, ?_⟩)
    · simp only [List.mem_cons, List.not_mem_nil, or_false] at hn
      have := S.ninn
      subst hn
      omega
    have U03 := U02.trans U3
    have m3 : l5.n ≤ 41 + 20 * 1000 + 10 := by
      have e1 := B3.n1
      have e2 := B2.n1
      have e3 := encs_len [(e.inn.length : Int)] 1 rfl
      rw [List.length_append, bv_length] at e1
      omega
    refine in_loop (li := l1) (inn := e.inn) B3 (row_upd U03 (N0.off E.inn) E.inn) ((N0.upd U03).off E.inn) S.inn S.ninn (by omega) (fun l6 h4 B4 U4 => ?_)
    have U04 := U03.trans U4
    have m4 : l6.n ≤ 41 + 20 * 1000 + 10 + 198 * 1000 := by
      have e1 := B4.n1
      have e2 := B3.n1
      have e3 := flatMap_le Placed.enc 198 e.inn (fun p hp => (S.inn p hp).enc_length')
      have := S.ninn
      rw [List.length_append, bv_length] at e1
      omega
    refine uints_lit (ns := [(e.ptr.length : Int)]) B4 (fun n hn => ?_) (by simp; omega) (fun l7 h5 B5 U5 => ⟨l7, rfl, ?_⟩)
    · simp only [List.mem_cons, List.not_mem_nil, or_false] at hn
      have := S.nptr
      subst hn
      omega
    have U05 := U04.trans U5
    have m5 : l7.n ≤ 41 + 20 * 1000 + 10 + 198 * 1000 + 10 := by
      have e1 := B5.n1
      have e2 := B4.n1
      have e3 := encs_len [(e.ptr.length : Int)] 1 rfl
      rw [List.length_append, bv_length] at e1
      omega
    refine ptr_loop (lp := l2) (ptr := e.ptr) (R := fun l' h' => Q (.slice l'.a l'.n l'.c) h') B5 (row_upd U05 (N0.off E.ptr) E.ptr) ((N0.upd U05).off E.ptr) S.ptr S.nptr (by omega) (fun l8 h6 B6 U6 => ?_)
    have U06 := U05.trans U6
    refine hQ l8 h6 ?_ (N0.keep U06) (N0.upd U06)
    simpa [recB, bv_append, bv, List.append_assoc] using B6
end Go.Eng.Ytblghgacokoklaa
end
section
/-
  SPECS, 4: may an edit be written?
-/
set_option linter.unusedSimpArgs false
set_option linter.unusedVariables false
namespace Go.Eng.Ytblghgacokoklaa
def Place.told (p : Place) : Bool := decide (0 ≤ p.lv ∧ p.lv < 5)
def Placed.told (p : Placed) : Bool := decide (0 ≤ p.lv ∧ p.lv < 5 ∧ 0 ≤ p.weight ∧ 0 ≤ p.bytes ∧ 0 ≤ p.entries ∧ p.least.size ≤ 64 ∧ p.greatest.size ≤ 64)
def Edit.told (e : Edit) : Bool := e.out.all Place.told && (e.inn.all Placed.told && (e.ptr.all (fun s => decide (s.size ≤ 64)) && decide (e.ptr.length ≤ 5)))
theorem all_at {α : Type} (f : α → Bool) (l : List α) (k : Nat) (hk : k < l.length) (h0 : (l.take k).all f = true) : (l.take (k + 1)).all f = f l[k] := by
  rw [List.take_succ_eq_append_getElem hk, List.all_append, h0]
  simp
theorem all_not {α : Type} (f : α → Bool) (l : List α) (k : Nat) (hk : k < l.length) (h : f l[k] = false) : l.all f = false := by
  rw [List.all_eq_false]
  exact ⟨l[k], List.getElem_mem hk, by simp [h]⟩
theorem next_i {k n : Nat} (hk : k < n) (hn : n < 9223372036854775807) : IntKind.wrap .i64 ((k : Int) + 1) = ((k + 1 : Nat) : Int) := by rw [wrap_i64 (by omega) (by omega)]; omega
theorem tells_spec {h : Hp} {e : Edit} {l l1 l2 : Sl} {Q : Value → Hp → Prop} (E : EdAt h e l l1 l2) (n1 : e.out.length < 9223372036854775807) (n2 : e.inn.length < 9223372036854775807) (n3 : e.ptr.length < 9223372036854775807)
    (hQ : Q (.bool e.told) h) : F50.T e.log e.next e.seq l l1 l2 h Q := by
  have bad1 : e.out.all Place.told = false → Q (.bool false) h := fun hb => by
    have : e.told = false := by unfold Edit.told; rw [hb]; rfl
    rw [this] at hQ; exact hQ
  refine ⟨fun i h1 => ∃ k : Nat, i = (k : Int) ∧ k ≤ e.out.length ∧ h1 = h ∧ (e.out.take k).all Place.told = true, fun i _ => e.out.length - i.toNat, ⟨0, rfl, Nat.zero_le _, rfl, rfl⟩, ?_⟩
  rintro i h1 ⟨k, rfl, hk, rfl, ht⟩
  refine ⟨fun hlt => ?_, fun hge => ?_⟩
  · have hk1 : k < e.out.length := by have := E.nout; omega
    obtain ⟨b, o, ha, hat⟩ := row_get E.out (i := k * 2) (by have := E.nout; omega)
    have cc : ∀ j, j < 2 → h1.at b ((o + k * 2) + j) = (Place.cells e.out[k])[j]? := fun j hj => by
      rw [Nat.add_assoc, hat _ (by have := E.nout; omega)]
      exact flat_get Place.cells 2 (fun _ => rfl) e.out k j hk1 hj
    refine ⟨b, o, ha, ⟨by omega, hlt⟩, e.out[k].lv, ?_, e.out[k].num, ?_, ⟨fun hb => ?_, fun hb => ⟨fun hc => ?_, fun hc => ⟨⟨k + 1, next_i hk1 n1, hk1, rfl, ?_⟩, ?_⟩⟩⟩⟩
    · rw [Int.toNat_natCast]; exact cc 0 (by decide)
    · rw [Int.toNat_natCast]; exact cc 1 (by decide)
    · exact bad1 (all_not _ _ k hk1 (by unfold Place.told; rw [decide_eq_false]; omega))
    · exact bad1 (all_not _ _ k hk1 (by unfold Place.told; rw [decide_eq_false]; omega))
    · rw [all_at _ _ k hk1 ht]; unfold Place.told; rw [decide_eq_true]; omega
    · rw [next_i hk1 n1]
      show e.out.length - ((k + 1 : Nat) : Int).toNat < e.out.length - (k : Int).toNat
      omega
  have hkn : k = e.out.length := by have := E.nout; omega
  subst hkn
  rw [List.take_length] at ht
  have bad2 : e.inn.all Placed.told = false → Q (.bool false) h1 := fun hb => by
    have : e.told = false := by unfold Edit.told; rw [hb]; simp
    rw [this] at hQ; exact hQ
  refine ⟨fun i h2 => ∃ k : Nat, i = (k : Int) ∧ k ≤ e.inn.length ∧ h2 = h1 ∧ (e.inn.take k).all Placed.told = true, fun i _ => e.inn.length - i.toNat, ⟨0, rfl, Nat.zero_le _, rfl, rfl⟩, ?_⟩
  rintro i h2 ⟨k, rfl, hk, rfl, ht2⟩
  refine ⟨fun hlt => ?_, fun hge => ?_⟩
  · have hk1 : k < e.inn.length := by have := E.ninn; omega
    obtain ⟨b, o, ha, hat⟩ := row_get E.inn (i := k * 7) (by have := E.ninn; omega)
    have cc : ∀ j, j < 7 → h2.at b ((o + k * 7) + j) = (Placed.cells e.inn[k])[j]? := fun j hj => by
      rw [Nat.add_assoc, hat _ (by have := E.ninn; omega)]
      exact flat_get Placed.cells 7 (fun _ => rfl) e.inn k j hk1 hj
    have hbad : ¬ (0 ≤ e.inn[k].lv ∧ e.inn[k].lv < 5 ∧ 0 ≤ e.inn[k].weight ∧ 0 ≤ e.inn[k].bytes ∧ 0 ≤ e.inn[k].entries ∧ e.inn[k].least.size ≤ 64 ∧ e.inn[k].greatest.size ≤ 64) → Q (.bool false) h2 := fun hb => bad2 (all_not _ _ k hk1 (by unfold Placed.told; rw [decide_eq_false hb]))
    refine ⟨b, o, ha, ⟨by omega, hlt⟩, e.inn[k].lv, ?_, e.inn[k].num, ?_, e.inn[k].weight, ?_, e.inn[k].bytes, ?_, e.inn[k].entries, ?_, e.inn[k].least, ?_, e.inn[k].greatest, ?_, ⟨fun hb => hbad (by omega), fun hb => ⟨fun hc => hbad (by omega), fun hc => ⟨fun hd => hbad ?_, fun hd => ⟨fun hf => hbad ?_, fun hf => ⟨⟨k + 1, next_i hk1 n2, hk1, rfl, ?_⟩, ?_⟩⟩⟩⟩⟩⟩
    · rw [Int.toNat_natCast]; exact cc 0 (by decide)
    · rw [Int.toNat_natCast]; exact cc 1 (by decide)
    · rw [Int.toNat_natCast]; exact cc 2 (by decide)
    · rw [Int.toNat_natCast]; exact cc 3 (by decide)
    · rw [Int.toNat_natCast]; exact cc 4 (by decide)
    · rw [Int.toNat_natCast]; exact cc 5 (by decide)
    · rw [Int.toNat_natCast]; exact cc 6 (by decide)
    · unfold iMin at hd; repeat (split at hd) <;> omega
    · unfold iMax at hf; split at hf <;> omega
    · rw [all_at _ _ k hk1 ht2]
      unfold Placed.told
      rw [decide_eq_true]
      unfold iMin at hd
      unfold iMax at hf
      refine ⟨by omega, by omega, ?_, ?_, ?_, ?_, ?_⟩
      · split at hd <;> (try split at hd) <;> omega
      · split at hd <;> (try split at hd) <;> omega
      · split at hd <;> (try split at hd) <;> omega
      · split at hf <;> omega
      · split at hf <;> omega
    · rw [next_i hk1 n2]
      show e.inn.length - ((k + 1 : Nat) : Int).toNat < e.inn.length - (k : Int).toNat
      omega
  have hkn : k = e.inn.length := by have := E.ninn; omega
  subst hkn
  rw [List.take_length] at ht2
  have bad3 : e.ptr.all (fun s => decide (s.size ≤ 64)) = false → Q (.bool false) h2 := fun hb => by
    have : e.told = false := by unfold Edit.told; rw [hb]; simp
    rw [this] at hQ; exact hQ
  refine ⟨fun i h3 => ∃ k : Nat, i = (k : Int) ∧ k ≤ e.ptr.length ∧ h3 = h2 ∧ (e.ptr.take k).all (fun s => decide (s.size ≤ 64)) = true, fun i _ => e.ptr.length - i.toNat, ⟨0, rfl, Nat.zero_le _, rfl, rfl⟩, ?_⟩
  rintro i h3 ⟨k, rfl, hk, rfl, ht3⟩
  refine ⟨fun hlt => ?_, fun hge => ?_⟩
  · have hk1 : k < e.ptr.length := by have := E.nptr; omega
    obtain ⟨b, o, ha, hat⟩ := row_get E.ptr (i := k) (by have := E.nptr; omega)
    refine ⟨b, o, ha, ⟨by omega, hlt⟩, e.ptr[k], ?_, ⟨fun hb => ?_, fun hb => ⟨⟨k + 1, next_i hk1 n3, hk1, rfl, ?_⟩, ?_⟩⟩⟩
    · rw [Int.toNat_natCast, hat _ (by have := E.nptr; omega)]; simp [ptrV, hk1]
    · exact bad3 (all_not _ _ k hk1 (by rw [decide_eq_false]; omega))
    · rw [all_at _ _ k hk1 ht3, decide_eq_true]; omega
    · rw [next_i hk1 n3]
      show e.ptr.length - ((k + 1 : Nat) : Int).toNat < e.ptr.length - (k : Int).toNat
      omega
  have hkn : k = e.ptr.length := by have := E.nptr; omega
  subst hkn
  rw [List.take_length] at ht3
  have hn := E.nptr
  have htold : e.told = decide (e.ptr.length ≤ 5) := by unfold Edit.told; rw [ht, ht2, ht3]; simp
  rw [htold] at hQ
  refine ⟨fun hle => ?_, fun hgt => ?_⟩
  · rw [decide_eq_true (by omega)] at hQ; exact hQ
  · rw [decide_eq_false (by omega)] at hQ; exact hQ
end Go.Eng.Ytblghgacokoklaa
end
section
/-
  SPECS, 5: rows cut; the records of an edit.
-/
set_option linter.unusedSimpArgs false
set_option linter.unusedVariables false
namespace Go.Eng.Ytblghgacokoklaa
/-- A row's first elements. -/
theorem row_take {h : Hp} {A : Option Addr} {n k : Nat} {vs : List Value} (hr : h.row A n vs) (hk : k ≤ n) : h.row A k (vs.take k) := by
  refine ⟨by rw [List.length_take, hr.1]; omega, ?_⟩
  rcases hr.2 with h0 | ⟨b, o, hA, hat⟩
  · exact .inl (by omega)
  · refine .inr ⟨b, o, hA, fun j hj => ?_⟩
    rw [hat j (by omega), List.getElem?_take, if_pos hj]
/-- A row's last elements. -/
theorem row_drop {h : Hp} {A : Option Addr} {n k : Nat} {vs : List Value} (hr : h.row A n vs) (hk : k ≤ n) : h.row (A.map (·.add k)) (n - k) (vs.drop k) := by
  refine ⟨by rw [List.length_drop, hr.1], ?_⟩
  rcases hr.2 with h0 | ⟨b, o, hA, hat⟩
  · exact .inl (by omega)
  · refine .inr ⟨b, o + k, by rw [hA]; simp [addr_add], fun j hj => ?_⟩
    rw [Nat.add_assoc, hat (k + j) (by omega), List.getElem?_drop]
theorem row_congr {h : Hp} {A B : Option Addr} {n : Nat} {vs : List Value} (hr : h.row A n vs) (e : n = 0 ∨ A = B) : h.row B n vs := by
  rcases e with h0 | rfl
  · exact ⟨hr.1, .inl h0⟩
  · exact hr
/-- s[:k:k] -/
theorem cut_front {h : Hp} {s : Sl} {sz k : Nat} {vs : List Value} (hr : h.row s.a (s.n * sz) vs) (hk : k ≤ s.n) : h.row (Sl.cut s sz 0 (k : Int) (k : Int)).a ((Sl.cut s sz 0 (k : Int) (k : Int)).n * sz) (vs.take (k * sz)) := by
  have h1 := row_take hr (Nat.mul_le_mul_right sz hk)
  have hn : (Sl.cut s sz 0 (k : Int) (k : Int)).n = k := by simp [Sl.cut]
  rw [hn]
  refine row_congr h1 ?_
  unfold Sl.cut
  simp only [Int.toNat_natCast, Int.toNat_zero, Nat.zero_mul]
  by_cases hk0 : k = 0
  · left; rw [hk0]; simp
  · right
    rw [if_neg hk0]
    cases hA : s.a with
    | none => rfl
    | some ad => simp [Addr.add]
/-- s[k:] -/
theorem cut_back {h : Hp} {s : Sl} {sz k : Nat} {vs : List Value} (hr : h.row s.a (s.n * sz) vs) (hk : k ≤ s.n) (hc : s.n ≤ s.c) : h.row (Sl.cut s sz (k : Int) (s.n : Int) (s.c : Int)).a ((Sl.cut s sz (k : Int) (s.n : Int) (s.c : Int)).n * sz) (vs.drop (k * sz)) := by
  have h1 := row_drop hr (Nat.mul_le_mul_right sz hk)
  have hn : (Sl.cut s sz (k : Int) (s.n : Int) (s.c : Int)).n = s.n - k := by simp [Sl.cut]
  rw [hn, Nat.sub_mul]
  refine row_congr h1 ?_
  unfold Sl.cut
  simp only [Int.toNat_natCast]
  by_cases hck : s.c = k
  · left; have : s.n = k := by omega
    rw [this]; simp
  · right; rw [if_neg hck]
/-! ### The records of an edit -/
def front (e : Edit) : Edit := { e with out := e.out.take 256, inn := e.inn.take (256 - min e.out.length 256) }
def behind (e : Edit) : Edit := { e with out := e.out.drop 256, inn := e.inn.drop (256 - min e.out.length 256) }
def putF : Nat → Edit → List (List Int)
  | 0, _ => []
  | f + 1, e => if (behind e).out.length + (behind e).inn.length = 0 then [recB (front e) true] else recB { front e with ptr := [] } false :: putF f (behind e)
/-- The records of an edit. -/
def putS (e : Edit) : List (List Int) := if e.told then putF (e.out.length + e.inn.length + 1) e else []
/-- Buffers of bytes, behind a row of slices. -/
def RowsAt (h : Hp) (ss : List Sl) (bs : List (List Int)) : Prop := ss.length = bs.length ∧ ∀ (i : Nat) (hi : i < ss.length) (hj : i < bs.length), Buf h ss[i] 1 5 (bv bs[i])
def slV (ss : List Sl) : List Value := ss.map fun s => .slice s.a s.n s.c
theorem slV_length (ss : List Sl) : (slV ss).length = ss.length := List.length_map _
theorem RowsAt.keep {h h' : Hp} (k : Keep h h') {ss : List Sl} {bs : List (List Int)} (R : RowsAt h ss bs) : RowsAt h' ss bs := ⟨R.1, fun i hi hj => (R.2 i hi hj).keep k⟩
theorem RowsAt.upd {h h' : Hp} {s s' : Sl} {sz t : Nat} {vs : List Value} (U : Upd h h' s s') (B : Buf h s sz t vs) (ht : (5 : Nat) ≠ t) {ss : List Sl} {bs : List (List Int)} (R : RowsAt h ss bs) : RowsAt h' ss bs := ⟨R.1, fun i hi hj => (R.2 i hi hj).upd U (buf_off (R.2 i hi hj) B ht)⟩
theorem RowsAt.nil (h : Hp) : RowsAt h [] [] := ⟨rfl, fun i hi => absurd hi (Nat.not_lt_zero i)⟩
theorem RowsAt.snoc {h : Hp} {ss : List Sl} {bs : List (List Int)} (R : RowsAt h ss bs) {s : Sl} {b : List Int} (hr : Buf h s 1 5 (bv b)) : RowsAt h (ss ++ [s]) (bs ++ [b]) := by
  refine ⟨by simp [R.1], fun i hi hj => ?_⟩
  by_cases hl : i < ss.length
  · rw [List.getElem_append_left hl, List.getElem_append_left (by rw [← R.1]; exact hl)]
    exact R.2 i hl _
  · have h1 : i = ss.length := by simp at hi; omega
    subst h1
    have h2 : bs.length = ss.length := R.1.symm
    rw [List.getElem_append_right (Nat.le_refl _), List.getElem_append_right (by omega)]
    simp only [Nat.sub_self, h2, List.getElem_cons_zero]
    exact hr
/-- A list that lies nowhere, or in new memory, grows. -/
theorem keep_grow {h h1 h2 : Hp} {s s' : Sl} (K : Keep h h1) (N : s.a = none ∨ New h s) (U : Upd h1 h2 s s') : Keep h h2 ∧ (s'.a = none ∨ New h s') := by
  refine ⟨fun k x e => U.keep k x (fun o hs => ?_) (K k x e), ?_⟩
  · rcases N with h0 | ⟨b, hb, hn⟩
    · rw [h0] at hs; cases hs
    · rw [hb] at hs
      simp only [Option.some.injEq, Addr.mk.injEq] at hs
      rw [← hs.1, hn] at e; cases e
  · rcases U.at_ with h0 | ⟨b, hb, hn⟩
    · rcases N with h3 | ⟨b, hb, hn⟩
      · exact .inl (by rw [h0]; exact h3)
      · exact .inr ⟨b, by rw [h0]; exact hb, hn⟩
    · exact .inr ⟨b, hb, K.dom b hn⟩
theorem EdAt.keep {h h' : Hp} {e : Edit} {l l1 l2 : Sl} (k : Keep h h') (E : EdAt h e l l1 l2) : EdAt h' e l l1 l2 := ⟨k.row E.out, k.row E.inn, k.row E.ptr⟩
theorem record_f' {h : Hp} {e : Edit} {l l1 l2 : Sl} {a b c : Int} {Q : Value → Hp → Prop} (ha : e.log = a) (hb : e.next = b) (hc : e.seq = c) (E : EdAt h e l l1 l2) (S : e.small)
    (hQ : ∀ r h', Buf h' r 1 5 (bv (recB e false)) → Keep h h' → New h r → Q (.slice r.a r.n r.c) h') : F51.Tf a b c l l1 l2 h Q := by
  subst ha hb hc; exact record_f E S hQ
theorem record_t' {h : Hp} {e : Edit} {l l1 l2 : Sl} {a b c : Int} {Q : Value → Hp → Prop} (ha : e.log = a) (hb : e.next = b) (hc : e.seq = c) (E : EdAt h e l l1 l2) (S : e.small)
    (hQ : ∀ r h', Buf h' r 1 5 (bv (recB e true)) → Keep h h' → New h r → Q (.slice r.a r.n r.c) h') : F51.Tt a b c l l1 l2 h Q := by
  subst ha hb hc; exact record_t E S hQ
end Go.Eng.Ytblghgacokoklaa
end
section
/-
  SPECS, 6: Put.
-/
set_option linter.unusedSimpArgs false
set_option linter.unusedVariables false
namespace Go.Eng.Ytblghgacokoklaa
/-- Whole numbers of an edit lie where their kinds let them. -/
structure Edit.valid (e : Edit) : Prop where
  log : okU e.log
  next : okU e.next
  seq : okU e.seq
  out : ∀ p ∈ e.out, p.lv < 9223372036854775808 ∧ okU p.num
  inn : ∀ p ∈ e.inn, p.lv < 9223372036854775808 ∧ okU p.num ∧ p.weight < 9223372036854775808 ∧ p.bytes < 9223372036854775808 ∧ p.entries < 9223372036854775808
structure Told (e : Edit) : Prop where
  out : ∀ p ∈ e.out, p.ok
  inn : ∀ p ∈ e.inn, p.ok
  ptr : ∀ p ∈ e.ptr, p.size ≤ 64
  n : e.ptr.length ≤ 5
theorem told_spec {e : Edit} (V : e.valid) (h : e.told = true) : Told e := by
  unfold Edit.told at h
  simp only [Bool.and_eq_true, List.all_eq_true, decide_eq_true_eq] at h
  obtain ⟨h1, h2, h3, h4⟩ := h
  refine ⟨fun p hp => ?_, fun p hp => ?_, h3, h4⟩
  · have := h1 p hp
    unfold Place.told at this
    rw [decide_eq_true_eq] at this
    exact ⟨⟨this.1, (V.out p hp).1⟩, (V.out p hp).2⟩
  · have := h2 p hp
    unfold Placed.told at this
    rw [decide_eq_true_eq] at this
    have v := V.inn p hp
    exact ⟨⟨this.1, v.1⟩, v.2.1, ⟨this.2.2.1, v.2.2.1⟩, ⟨this.2.2.2.1, v.2.2.2.1⟩, ⟨this.2.2.2.2.1, v.2.2.2.2⟩, this.2.2.2.2.2.1, this.2.2.2.2.2.2⟩
theorem flat_take {α : Type} (f : α → List Value) (n : Nat) (hf : ∀ x, (f x).length = n) : ∀ (l : List α) (k : Nat), (l.flatMap f).take (k * n) = (l.take k).flatMap f
  | [], k => by simp
  | x :: l, 0 => by simp
  | x :: l, k + 1 => by
    simp only [List.flatMap_cons, List.take_succ_cons]
    rw [Nat.add_mul, Nat.one_mul, Nat.add_comm, List.take_append, hf, List.take_of_length_le (by rw [hf]; omega), Nat.add_sub_cancel_left, flat_take f n hf l k]
theorem flat_drop {α : Type} (f : α → List Value) (n : Nat) (hf : ∀ x, (f x).length = n) : ∀ (l : List α) (k : Nat), (l.flatMap f).drop (k * n) = (l.drop k).flatMap f
  | [], k => by simp
  | x :: l, 0 => by simp
  | x :: l, k + 1 => by
    simp only [List.flatMap_cons, List.drop_succ_cons]
    rw [Nat.add_mul, Nat.one_mul, Nat.add_comm, List.drop_append, hf, List.drop_of_length_le (by rw [hf]; omega), Nat.add_sub_cancel_left, List.nil_append, flat_drop f n hf l k]
theorem take_min {α : Type} (l : List α) (k : Nat) : l.take (min l.length k) = l.take k := by
  rcases Nat.le_total l.length k with h | h
  · rw [Nat.min_eq_left h, List.take_length, List.take_of_length_le h]
  · rw [Nat.min_eq_right h]
theorem drop_min {α : Type} (l : List α) (k : Nat) : l.drop (min l.length k) = l.drop k := by
  rcases Nat.le_total l.length k with h | h
  · rw [Nat.min_eq_left h, List.drop_length, List.drop_of_length_le h]
  · rw [Nat.min_eq_right h]
/-- The first part and what is behind it, in memory. -/
theorem ed_front {h : Hp} {e : Edit} {l l1 l2 : Sl} (E : EdAt h e l l1 l2) :
    EdAt h (front e) (Sl.cut l 2 0 ((min l.n 256 : Nat) : Int) ((min l.n 256 : Nat) : Int)) (Sl.cut l1 7 0 ((min l1.n (256 - min l.n 256) : Nat) : Int) ((min l1.n (256 - min l.n 256) : Nat) : Int)) l2 := by
  have h1 := cut_front E.out (k := min l.n 256) (Nat.min_le_left _ _)
  have h2 := cut_front E.inn (k := min l1.n (256 - min l.n 256)) (Nat.min_le_left _ _)
  refine ⟨?_, ?_, E.ptr⟩
  · have : outV (front e).out = (outV e.out).take (min l.n 256 * 2) := by
      unfold outV
      rw [flat_take Place.cells 2 (fun _ => rfl), E.nout, take_min]
      rfl
    rw [this]; exact h1
  · have : inV (front e).inn = (inV e.inn).take (min l1.n (256 - min l.n 256) * 7) := by
      unfold inV
      rw [flat_take Placed.cells 7 (fun _ => rfl), E.ninn, E.nout, take_min]
      rfl
    rw [this]; exact h2
theorem ed_behind {h : Hp} {e : Edit} {l l1 l2 : Sl} (E : EdAt h e l l1 l2) (c1 : l.n ≤ l.c) (c2 : l1.n ≤ l1.c) :
    EdAt h (behind e) (Sl.cut l 2 ((min l.n 256 : Nat) : Int) (l.n : Int) (l.c : Int)) (Sl.cut l1 7 ((min l1.n (256 - min l.n 256) : Nat) : Int) (l1.n : Int) (l1.c : Int)) l2 := by
  have h1 := cut_back E.out (k := min l.n 256) (Nat.min_le_left _ _) c1
  have h2 := cut_back E.inn (k := min l1.n (256 - min l.n 256)) (Nat.min_le_left _ _) c2
  refine ⟨?_, ?_, E.ptr⟩
  · have : outV (behind e).out = (outV e.out).drop (min l.n 256 * 2) := by
      unfold outV
      rw [flat_drop Place.cells 2 (fun _ => rfl), E.nout, drop_min]
      rfl
    rw [this]; exact h1
  · have : inV (behind e).inn = (inV e.inn).drop (min l1.n (256 - min l.n 256) * 7) := by
      unfold inV
      rw [flat_drop Placed.cells 7 (fun _ => rfl), E.ninn, E.nout, drop_min]
      rfl
    rw [this]; exact h2
theorem iMin_nat (a b : Nat) : iMin (a : Int) (b : Int) = ((min a b : Nat) : Int) := by
  unfold iMin
  split <;> omega
theorem Told.behind {e : Edit} (T : Told e) : Told (behind e) := ⟨fun p hp => T.out p (List.mem_of_mem_drop hp), fun p hp => T.inn p (List.mem_of_mem_drop hp), T.ptr, T.n⟩
theorem Told.small {e : Edit} (T : Told e) (h1 : okU e.log) (h2 : okU e.next) (h3 : okU e.seq) : (front e).small :=
  ⟨h1, h2, h3, fun p hp => T.out p (List.mem_of_mem_take hp), fun p hp => T.inn p (List.mem_of_mem_take hp), T.ptr,
    by have := List.length_take_le 256 e.out; show (e.out.take 256).length ≤ 1000; omega,
    by have := List.length_take_le (256 - min e.out.length 256) e.inn; show (e.inn.take (256 - min e.out.length 256)).length ≤ 1000; omega, by have := T.n; show e.ptr.length ≤ 1000; omega⟩
theorem Edit.small.noptr {e : Edit} (S : e.small) : ({ e with ptr := [] } : Edit).small := ⟨S.log, S.next, S.seq, S.out, S.inn, fun p hp => (by cases hp), S.nout, S.ninn, Nat.zero_le _⟩
/-- PUT TELLS THE RECORDS OF AN EDIT. -/
theorem put_spec {h : Hp} {e : Edit} {l l1 l2 : Sl} {Q : Value → Hp → Prop} (E : EdAt h e l l1 l2) (c1 : l.n ≤ l.c) (c2 : l1.n ≤ l1.c) (V : e.valid) (n1 : e.out.length + e.inn.length ≤ 1000000000000) (n3 : e.ptr.length < 9223372036854775807)
    (hQ : ∀ r h' ss, Buf h' r 1 25 (slV ss) → RowsAt h' ss (putS e) → Keep h h' → (r.a = none ∨ New h r) → Q (.slice r.a r.n r.c) h') : F18.T e.log e.next e.seq l l1 l2 h Q := by
  unfold F18.T
  refine tells_spec E (by omega) (by omega) n3 ⟨e.told, rfl, fun ht => ?_, fun hf => ?_⟩
  · have T := told_spec V ht
    refine ⟨fun l3 x y z l4 l5 l6 h2 => x = e.log ∧ y = e.next ∧ z = e.seq ∧ l6 = l2 ∧ ∃ f e' ss done, e'.log = e.log ∧ e'.next = e.next ∧ e'.seq = e.seq ∧ e'.ptr = e.ptr ∧ Told e' ∧ EdAt h e' l4 l5 l2 ∧ l4.n ≤ l4.c ∧ l5.n ≤ l5.c ∧ Buf h2 l3 1 25 (slV ss) ∧ RowsAt h2 ss done ∧ done ++ putF f e' = putS e ∧ e'.out.length + e'.inn.length < f ∧ Keep h h2 ∧ (l3.a = none ∨ New h l3) ∧ done.length + (e'.out.length + e'.inn.length) ≤ e.out.length + e.inn.length,
      fun _ _ _ _ l4 l5 _ _ => l4.n + l5.n, ⟨rfl, rfl, rfl, rfl, e.out.length + e.inn.length + 1, e, [], [], rfl, rfl, rfl, rfl, T, E, c1, c2, Buf.nil h 1 25, RowsAt.nil h, by unfold putS; rw [if_pos ht]; rfl, by omega, Keep.refl h, .inl rfl, by simp⟩, ?_⟩
    rintro l3 x y z l4 l5 l6 h2 ⟨rfl, rfl, rfl, rfl, f, e', ss, done, g1, g2, g3, g4, T', E', d1, d2, B, R, hput, hfuel, K, hN, hcnt⟩
    have k1 : iMin (l4.n : Int) 256 = ((min l4.n 256 : Nat) : Int) := iMin_nat l4.n 256
    have kw : IntKind.wrap .i64 (256 - ((min l4.n 256 : Nat) : Int)) = ((256 - min l4.n 256 : Nat) : Int) := by rw [wrap_i64 (by omega) (by omega)]; omega
    have k2 : iMin (l5.n : Int) ((256 - min l4.n 256 : Nat) : Int) = ((min l5.n (256 - min l4.n 256) : Nat) : Int) := iMin_nat _ _
    rw [k1, kw, k2]
    have Ef := ed_front E'
    have Eb := ed_behind E' d1 d2
    have no := Eb.nout
    have ni := Eb.ninn
    have n4 := E'.nout
    have n5 := E'.ninn
    have q4 : (Sl.cut l4 2 ((min l4.n 256 : Nat) : Int) (l4.n : Int) (l4.c : Int)).n = l4.n - min l4.n 256 := by simp [Sl.cut]
    have q5 : (Sl.cut l5 7 ((min l5.n (256 - min l4.n 256) : Nat) : Int) (l5.n : Int) (l5.c : Int)).n = l5.n - min l5.n (256 - min l4.n 256) := by simp [Sl.cut]
    have p4 : (Sl.cut l4 2 ((min l4.n 256 : Nat) : Int) (l4.n : Int) (l4.c : Int)).c = l4.c - min l4.n 256 := by simp [Sl.cut]
    have p5 : (Sl.cut l5 7 ((min l5.n (256 - min l4.n 256) : Nat) : Int) (l5.n : Int) (l5.c : Int)).c = l5.c - min l5.n (256 - min l4.n 256) := by simp [Sl.cut]
    have S := T'.small (by rw [g1]; exact V.log) (by rw [g2]; exact V.next) (by rw [g3]; exact V.seq)
    obtain ⟨f, rfl⟩ : ∃ g, f = g + 1 := ⟨f - 1, by omega⟩
    have hss : l3.n = ss.length := by have := B.len; rw [slV_length] at this; omega
    have hdn : ss.length = done.length := R.1
    refine ⟨⟨by omega, by omega, by omega, by omega⟩, ⟨by omega, by omega, by omega, by omega⟩, ⟨by omega, by omega, by omega, by omega⟩, ⟨by omega, by omega, by omega, by omega⟩, fun hz => ?_, fun hz => ?_⟩
    · have hz' : (behind e').out.length + (behind e').inn.length = 0 := by
        rw [wrap_i64 (by omega) (by omega)] at hz
        omega
      refine record_t' (e := front e') g1 g2 g3 (Ef.keep K) S fun r h3 B3 K3 N3 => ⟨r, rfl, ?_⟩
      refine append_buf (B.keep K3) rfl rfl (by omega) fun s' h4 B4 hn4 U4 => ?_
      obtain ⟨K4, N4⟩ := keep_grow (K.trans K3) hN U4
      refine hQ s' h4 (ss ++ [r]) (by simpa [slV] using B4) ?_ K4 N4
      rw [← hput]
      unfold putF
      rw [if_pos hz']
      exact RowsAt.snoc ((R.keep K3).upd U4 (B.keep K3) (by decide)) (B3.upd U4 (buf_off B3 (B.keep K3) (by decide)))
    · have hz' : ¬ (behind e').out.length + (behind e').inn.length = 0 := by
        rw [wrap_i64 (by omega) (by omega)] at hz
        omega
      refine record_f' (e := { front e' with ptr := [] }) g1 g2 g3 (EdAt.keep K ⟨Ef.out, Ef.inn, ⟨rfl, .inl rfl⟩⟩) S.noptr fun r h3 B3 K3 N3 => ⟨r, rfl, ?_⟩
      refine append_buf (B.keep K3) rfl rfl (by omega) fun s' h4 B4 hn4 U4 => ?_
      obtain ⟨K4, N4⟩ := keep_grow (K.trans K3) hN U4
      refine ⟨⟨rfl, rfl, rfl, rfl, f, behind e', ss ++ [r], done ++ [recB { front e' with ptr := [] } false], g1, g2, g3, g4, T'.behind, Eb, by omega, by omega, by simpa [slV] using B4, ?_, ?_, by omega, K4, N4, ?_⟩, by dsimp only; omega⟩
      · exact RowsAt.snoc ((R.keep K3).upd U4 (B.keep K3) (by decide)) (B3.upd U4 (buf_off B3 (B.keep K3) (by decide)))
      · rw [← hput]
        conv => rhs; unfold putF
        rw [if_neg hz', List.append_assoc]
        rfl
      · rw [List.length_append, List.length_singleton]; omega
  · refine hQ ⟨none, 0, 0⟩ h [] (Buf.nil h 1 25) ?_ (Keep.refl h) (.inl rfl)
    have : putS e = [] := by unfold putS; rw [if_neg (by rw [hf]; decide)]
    rw [this]
    exact RowsAt.nil h
end Go.Eng.Ytblghgacokoklaa
end
