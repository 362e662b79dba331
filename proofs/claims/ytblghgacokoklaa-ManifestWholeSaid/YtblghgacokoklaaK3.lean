/-
  TEXTS OF MINE, JOINED: M0 S1 S2 S3 S4 S5 S6 S7 S8 S9 S10 S11 S12 S13 S14 M1 S15 S16 W2 W3.
-/
import Derived.Test.YtblghgacokoklaaK2
import Derived.Test.YtblghgacokoklaaProg
import Derived.Lib.Bytealg
section

set_option maxRecDepth 100000
set_option linter.unusedVariables false
open Go.Proofs
namespace Go.Eng.Ytblghgacokoklaa
def F26.T (n : Int) : PT := fun h Q =>
  ∀ b, h b = none → Q (.pointer (some ⟨b, 0, none⟩)) (h.new b (.cells ⟨[.int .i64 n]⟩ 113 (0, 0)))
theorem F26.den (V : Value → List Value → PT) (n : Int) : denF Try.prog [] [] V [] Try.f26 [.v (.int .i64 n)] = F26.T n := by kernel_rfl
def F26.W (T26 : Int → PT) (args : List Value) : PT := match args with
  | [.int .i64 n] => T26 n
  | _ => fun _ _ => False
def F26.V : List Value → PT := F26.W F26.T
theorem F26.ok : FOk Try.prog 26 F26.V := by
  refine ⟨⟨_, Try.func26, rfl, rfl⟩, fun args => ?_⟩
  have hG : GOk Try.prog [] := GOk.nil
  have hV : VOk Try.prog noV := noV_ok
  unfold F26.V F26.W
  split
  · exact denF_okV hG hV Try.func26 (fun h Q hq => (F26.den _ _) ▸ hq)
  · exact fun h Q hq => hq.elim
def F28.T (p : Option Addr) : PT := fun h Q =>
  ∃ b o, (p : Option Addr) = some ⟨b, o, none⟩ ∧ ∃ n : Int, h.at b o = some (.int .i64 n) ∧ par ((0 : Int) ≤ n) (Q (.bool true) h) (Q (.bool false) h)
theorem F28.den (V : Value → List Value → PT) (p : Option Addr) : denF Try.prog [] [] V [] Try.f28 [.v (.pointer p)] = F28.T p := by kernel_rfl
def F28.W (T28 : Option Addr → PT) (args : List Value) : PT := match args with
  | [.pointer p] => T28 p
  | _ => fun _ _ => False
def F28.V : List Value → PT := F28.W F28.T
theorem F28.ok : FOk Try.prog 28 F28.V := by
  refine ⟨⟨_, Try.func28, rfl, rfl⟩, fun args => ?_⟩
  have hG : GOk Try.prog [] := GOk.nil
  have hV : VOk Try.prog noV := noV_ok
  unfold F28.V F28.W
  split
  · exact denF_okV hG hV Try.func28 (fun h Q hq => (F28.den _ _) ▸ hq)
  · exact fun h Q hq => hq.elim
def F66.T (p : Option Addr) (n : Int) : PT := fun h Q =>
  ∃ b o, (p : Option Addr) = some ⟨b, o, none⟩ ∧ ∃ n1 : Int, h.at b o = some (.int .i64 n1) ∧ par ((0 : Int) ≤ n1) (∃ b1 o1, (p : Option Addr) = some ⟨b1, o1, none⟩ ∧ ∃ n2 : Int, h.at b1 o1 = some (.int .i64 n2) ∧ ∃ b2 o2, (p : Option Addr) = some ⟨b2, o2, none⟩ ∧ h.canW b2 o2 1 ∧ ∃ b3 o3, (p : Option Addr) = some ⟨b3, o3, none⟩ ∧ ∃ n3 : Int, (h.wr b2 o2 [.int .i64 (IntKind.wrap .i64 (n2 - n))]).at b3 o3 = some (.int .i64 n3) ∧ par ((0 : Int) ≤ n3) (Q (.bool true) (h.wr b2 o2 [.int .i64 (IntKind.wrap .i64 (n2 - n))])) (Q (.bool false) (h.wr b2 o2 [.int .i64 (IntKind.wrap .i64 (n2 - n))]))) (∃ b4 o4, (p : Option Addr) = some ⟨b4, o4, none⟩ ∧ ∃ n4 : Int, h.at b4 o4 = some (.int .i64 n4) ∧ par ((0 : Int) ≤ n4) (Q (.bool true) h) (Q (.bool false) h))
theorem F66.den (V : Value → List Value → PT) (p : Option Addr) (n : Int) : denF Try.prog [] [] V [] Try.f66 [.v (.pointer p), .v (.int .i64 n)] = F66.T p n := by kernel_rfl
def F66.W (T66 : Option Addr → Int → PT) (args : List Value) : PT := match args with
  | [.pointer p, .int .i64 n] => T66 p n
  | _ => fun _ _ => False
def F66.V : List Value → PT := F66.W F66.T
theorem F66.ok : FOk Try.prog 66 F66.V := by
  refine ⟨⟨_, Try.func66, rfl, rfl⟩, fun args => ?_⟩
  have hG : GOk Try.prog [] := GOk.nil
  have hV : VOk Try.prog noV := noV_ok
  unfold F66.V F66.W
  split
  · exact denF_okV hG hV Try.func66 (fun h Q hq => (F66.den _ _ _) ▸ hq)
  · exact fun h Q hq => hq.elim
def F27.T (p : Option Addr) (l : Sl) : PT := fun h Q =>
  ∃ (I : Int → Hp → Prop) (m : Int → Hp → Nat), I 0 h ∧ (∀ n : Int, ∀ h1 : Hp, I n h1 → par (n < (l.n : Int)) (F28.T p h1 fun r h2 => ∃ b : Bool, r = .bool b ∧ parB b (∃ b1 o, (l.a : Option Addr) = some ⟨b1, o, none⟩ ∧ ((0 : Int) ≤ n ∧ n < (l.n : Int)) ∧ ∃ l1 : Sl, h2.at b1 (o + n.toNat) = some (.slice l1.a l1.n l1.c) ∧ F66.T p (IntKind.wrap .i64 (1 + (l1.n : Int))) h2 fun r1 h3 => ∃ b2 : Bool, r1 = .bool b2 ∧ parB b2 (I (IntKind.wrap .i64 (n + 1)) h3 ∧ m (IntKind.wrap .i64 (n + 1)) h3 < m n h1) (I (IntKind.wrap .i64 (n + 1)) h3 ∧ m (IntKind.wrap .i64 (n + 1)) h3 < m n h1)) (Q (.tuple ⟨[]⟩) h2)) (Q (.tuple ⟨[]⟩) h1))
def F27.W (T27 : Option Addr → Sl → PT) (args : List Value) : PT := match args with
  | [.pointer p, .slice l_a l_n l_c] => T27 p ⟨l_a, l_n, l_c⟩
  | _ => fun _ _ => False
def F27.V : List Value → PT := F27.W F27.T
def F8.T (l : Sl) : PT := fun h Q =>
  F26.T 400000 h fun r h1 => ∃ p : Option Addr, r = .pointer p ∧ F27.T p l h1 fun r1 h2 => F28.T p h2 fun r2 h3 => ∃ b : Bool, r2 = .bool b ∧ parB b (Q (.bool true) h3) (Q (.bool false) h3)
def F8.W (T8 : Sl → PT) (args : List Value) : PT := match args with
  | [.slice l_a l_n l_c] => T8 ⟨l_a, l_n, l_c⟩
  | _ => fun _ _ => False
def F8.V : List Value → PT := F8.W F8.T
def F92.T (l : Sl) : PT := fun h Q =>
  ∃ (I : Int → Int → Hp → Prop) (m : Int → Int → Hp → Nat), I 0 0 h ∧ (∀ n : Int, ∀ n1 : Int, ∀ h1 : Hp, I n n1 h1 → par (n1 < (l.n : Int)) (∃ b o, (l.a : Option Addr) = some ⟨b, o, none⟩ ∧ ((0 : Int) ≤ n1 ∧ n1 < (l.n : Int)) ∧ ∃ n2 : Int, h1.at b (o + n1.toNat) = some (.int .u8 n2) ∧ ∃ J : Hp → Prop, (∀ h2 : Hp, J h2 → (0 : Int) ≤ (IntKind.wrap .i64 (7 * n1)) ∧ par (n2 < 128) (Q (.tuple ⟨[.int .u64 (bitsI .or .u64 n (shlI .u64 (IntKind.wrap .u64 (bitsI .and .u8 n2 127)) (IntKind.wrap .i64 (7 * n1)))), .int .i64 (IntKind.wrap .i64 (n1 + 1)), .int .i64 0]⟩) h2) (I (bitsI .or .u64 n (shlI .u64 (IntKind.wrap .u64 (bitsI .and .u8 n2 127)) (IntKind.wrap .i64 (7 * n1)))) (IntKind.wrap .i64 (n1 + 1)) h2 ∧ m (bitsI .or .u64 n (shlI .u64 (IntKind.wrap .u64 (bitsI .and .u8 n2 127)) (IntKind.wrap .i64 (7 * n1)))) (IntKind.wrap .i64 (n1 + 1)) h2 < m n n1 h1)) ∧ (par (n2 = 0) (par ((0 : Int) < n1) (Q (.tuple ⟨[.int .u64 0, .int .i64 0, .int .i64 21]⟩) h1) (par (n1 = 9) (par (n2 = 1) (J h1) (Q (.tuple ⟨[.int .u64 0, .int .i64 0, .int .i64 21]⟩) h1)) (J h1))) (par (n1 = 9) (par (n2 = 1) (J h1) (Q (.tuple ⟨[.int .u64 0, .int .i64 0, .int .i64 21]⟩) h1)) (J h1)))) (Q (.tuple ⟨[.int .u64 0, .int .i64 0, .int .i64 20]⟩) h1))
def F92.W (T92 : Sl → PT) (args : List Value) : PT := match args with
  | [.slice l_a l_n l_c] => T92 ⟨l_a, l_n, l_c⟩
  | _ => fun _ _ => False
def F92.V : List Value → PT := F92.W F92.T
def F93.T (p : Option Addr) (n : Int) (n1 : Int) : PT := fun h Q =>
  par (n1 = 0) (∃ b o, (p : Option Addr) = some ⟨b, o, none⟩ ∧ ∃ l : Sl, h.at b o = some (.slice l.a l.n l.c) ∧ ∃ b1 o1, (p : Option Addr) = some ⟨b1, o1, none⟩ ∧ ∃ l1 : Sl, h.at b1 o1 = some (.slice l1.a l1.n l1.c) ∧ ∃ b2 o2, (p : Option Addr) = some ⟨b2, o2, none⟩ ∧ ∃ l2 : Sl, h.at b2 o2 = some (.slice l2.a l2.n l2.c) ∧ Sl.okCut l n (l1.n : Int) (l2.n : Int) ∧ ∃ b3 o3, (p : Option Addr) = some ⟨b3, o3, none⟩ ∧ h.canW b3 o3 1 ∧ Q (.tuple ⟨[]⟩) (h.wr b3 o3 [.slice (Sl.cut l 1 n (l1.n : Int) (l2.n : Int)).a (Sl.cut l 1 n (l1.n : Int) (l2.n : Int)).n (Sl.cut l 1 n (l1.n : Int) (l2.n : Int)).c])) (∃ b4 o4, (p : Option Addr) = some ⟨b4, o4, none⟩ ∧ ∃ l3 : Sl, h.at b4 o4 = some (.slice l3.a l3.n l3.c) ∧ ∃ b5 o5, (p : Option Addr) = some ⟨b5, o5, none⟩ ∧ h.canW b5 (o5 + 1) 1 ∧ ∃ b6 o6, (p : Option Addr) = some ⟨b6, o6, none⟩ ∧ ∃ l4 : Sl, (h.wr b5 (o5 + 1) [.bool true]).at b6 o6 = some (.slice l4.a l4.n l4.c) ∧ ∃ b7 o7, (p : Option Addr) = some ⟨b7, o7, none⟩ ∧ ∃ l5 : Sl, (h.wr b5 (o5 + 1) [.bool true]).at b7 o7 = some (.slice l5.a l5.n l5.c) ∧ ∃ b8 o8, (p : Option Addr) = some ⟨b8, o8, none⟩ ∧ ∃ l6 : Sl, (h.wr b5 (o5 + 1) [.bool true]).at b8 o8 = some (.slice l6.a l6.n l6.c) ∧ Sl.okCut l4 (l3.n : Int) (l5.n : Int) (l6.n : Int) ∧ ∃ b9 o9, (p : Option Addr) = some ⟨b9, o9, none⟩ ∧ (h.wr b5 (o5 + 1) [.bool true]).canW b9 o9 1 ∧ Q (.tuple ⟨[]⟩) ((h.wr b5 (o5 + 1) [.bool true]).wr b9 o9 [.slice (Sl.cut l4 1 (l3.n : Int) (l5.n : Int) (l6.n : Int)).a (Sl.cut l4 1 (l3.n : Int) (l5.n : Int) (l6.n : Int)).n (Sl.cut l4 1 (l3.n : Int) (l5.n : Int) (l6.n : Int)).c]))
def F93.W (T93 : Option Addr → Int → Int → PT) (args : List Value) : PT := match args with
  | [.pointer p, .int .i64 n, .int .i64 n1] => T93 p n n1
  | _ => fun _ _ => False
def F93.V : List Value → PT := F93.W F93.T
def F72.T (p : Option Addr) : PT := fun h Q =>
  ∃ b o, (p : Option Addr) = some ⟨b, o, none⟩ ∧ ∃ l : Sl, h.at b o = some (.slice l.a l.n l.c) ∧ F92.T l h fun r h1 => ∃ n : Int, ∃ n1 : Int, ∃ n2 : Int, r = .tuple ⟨[.int .u64 n, .int .i64 n1, .int .i64 n2]⟩ ∧ F93.T p n1 n2 h1 fun r1 h2 => Q (.int .u64 n) h2
def F72.W (T72 : Option Addr → PT) (args : List Value) : PT := match args with
  | [.pointer p] => T72 p
  | _ => fun _ _ => False
def F72.V : List Value → PT := F72.W F72.T
def F73.T (p : Option Addr) (n : Int) : PT := fun h Q =>
  F72.T p h fun r h1 => ∃ n1 : Int, r = .int .u64 n1 ∧ par (n < n1) (∃ b o, (p : Option Addr) = some ⟨b, o, none⟩ ∧ h1.canW b (o + 1) 1 ∧ Q (.int .i64 0) (h1.wr b (o + 1) [.bool true])) (Q (.int .i64 (IntKind.wrap .i64 n1)) h1)
def F73.W (T73 : Option Addr → Int → PT) (args : List Value) : PT := match args with
  | [.pointer p, .int .u64 n] => T73 p n
  | _ => fun _ _ => False
def F73.V : List Value → PT := F73.W F73.T
def F94.T (l : Sl) (n : Int) : PT := fun h Q =>
  F92.T l h fun r h1 => ∃ n1 : Int, ∃ n2 : Int, ∃ n3 : Int, r = .tuple ⟨[.int .u64 n1, .int .i64 n2, .int .i64 n3]⟩ ∧ par (n3 = 0) (par (n < 0) (Q (.tuple ⟨[.string (ByteArray.mk #[]), .int .i64 0, .int .i64 22]⟩) h1) (par ((IntKind.wrap .u64 n) < n1) (Q (.tuple ⟨[.string (ByteArray.mk #[]), .int .i64 0, .int .i64 22]⟩) h1) (par ((IntKind.wrap .u64 (IntKind.wrap .i64 ((l.n : Int) - n2))) < n1) (Q (.tuple ⟨[.string (ByteArray.mk #[]), .int .i64 0, .int .i64 20]⟩) h1) (Sl.okCut l n2 (IntKind.wrap .i64 (n2 + (IntKind.wrap .i64 n1))) (l.c : Int) ∧ ∃ s : ByteArray, h1.row ((Sl.cut l 1 n2 (IntKind.wrap .i64 (n2 + (IntKind.wrap .i64 n1))) (l.c : Int)).a) ((Sl.cut l 1 n2 (IntKind.wrap .i64 (n2 + (IntKind.wrap .i64 n1))) (l.c : Int)).n) (bytesV s) ∧ Q (.tuple ⟨[.string s, .int .i64 (IntKind.wrap .i64 (n2 + (IntKind.wrap .i64 n1))), .int .i64 0]⟩) h1)))) (Q (.tuple ⟨[.string (ByteArray.mk #[]), .int .i64 0, .int .i64 n3]⟩) h1)
def F94.W (T94 : Sl → Int → PT) (args : List Value) : PT := match args with
  | [.slice l_a l_n l_c, .int .i64 n] => T94 ⟨l_a, l_n, l_c⟩ n
  | _ => fun _ _ => False
def F94.V : List Value → PT := F94.W F94.T
def F74.T (p : Option Addr) : PT := fun h Q =>
  ∃ b o, (p : Option Addr) = some ⟨b, o, none⟩ ∧ ∃ l : Sl, h.at b o = some (.slice l.a l.n l.c) ∧ F94.T l 64 h fun r h1 => ∃ s : ByteArray, ∃ n : Int, ∃ n1 : Int, r = .tuple ⟨[.string s, .int .i64 n, .int .i64 n1]⟩ ∧ F93.T p n n1 h1 fun r1 h2 => Q (.string s) h2
def F74.W (T74 : Option Addr → PT) (args : List Value) : PT := match args with
  | [.pointer p] => T74 p
  | _ => fun _ _ => False
def F74.V : List Value → PT := F74.W F74.T
def F112.T (l : Sl) (n : Int) : PT := fun h Q =>
  ∃ (I : Sl → Int → Hp → Prop) (m : Sl → Int → Hp → Nat), I l n h ∧ (∀ l1 : Sl, ∀ n1 : Int, ∀ h1 : Hp, I l1 n1 h1 → par ((128 : Int) ≤ n1) (appendD l1 5 1 1 [.int .u8 0] 1 [.int .u8 (bitsI .or .u8 (IntKind.wrap .u8 n1) 128)] h1 fun l2 h2 => (0 : Int) ≤ 7 ∧ I l2 (shrI .u64 n1 7) h2 ∧ m l2 (shrI .u64 n1 7) h2 < m l1 n1 h1) (appendD l1 5 1 1 [.int .u8 0] 1 [.int .u8 (IntKind.wrap .u8 n1)] h1 fun l3 h3 => Q (.slice l3.a l3.n l3.c) h3))
def F112.W (T112 : Sl → Int → PT) (args : List Value) : PT := match args with
  | [.slice l_a l_n l_c, .int .u64 n] => T112 ⟨l_a, l_n, l_c⟩ n
  | _ => fun _ _ => False
def F112.V : List Value → PT := F112.W F112.T
def F113.T (l : Sl) (n : Int) : PT := fun h Q =>
  ((0 : Int) ≤ (l.n : Int) ∧ (l.n : Int) ≤ (IntKind.wrap .i64 ((l.n : Int) + n)) ∧ 1 * (IntKind.wrap .i64 ((l.n : Int) + n)) ≤ 281474976710656) ∧ ∀ b, h b = none → ∃ vs, (h.new b (.cells (Builtin.zeroCells (List.toArray [.int .u8 0]) ((IntKind.wrap .i64 ((l.n : Int) + n)) : Int).toNat) 5 (0, 0))).row l.a ((Nat.min l.n (((l.n : Int) : Int).toNat)) * 1) vs ∧ (∀ v ∈ vs, Value.oneCell' v = true) ∧ (h.new b (.cells (Builtin.zeroCells (List.toArray [.int .u8 0]) ((IntKind.wrap .i64 ((l.n : Int) + n)) : Int).toNat) 5 (0, 0))).canWA (some ⟨b, 0, none⟩) vs.length ∧ Q (.slice (some ⟨b, 0, none⟩) ((l.n : Int) : Int).toNat ((IntKind.wrap .i64 ((l.n : Int) + n)) : Int).toNat) ((h.new b (.cells (Builtin.zeroCells (List.toArray [.int .u8 0]) ((IntKind.wrap .i64 ((l.n : Int) + n)) : Int).toNat) 5 (0, 0))).wrA (some ⟨b, 0, none⟩) vs)
def F113.W (T113 : Sl → Int → PT) (args : List Value) : PT := match args with
  | [.slice l_a l_n l_c, .int .i64 n] => T113 ⟨l_a, l_n, l_c⟩ n
  | _ => fun _ _ => False
def F113.V : List Value → PT := F113.W F113.T
def F96.T (l : Sl) (n : Int) : PT := fun h Q =>
  F113.T l 10 h fun r h1 => ∃ l1 : Sl, r = .slice l1.a l1.n l1.c ∧ F112.T l1 n h1 fun r1 h2 => ∃ l2 : Sl, r1 = .slice l2.a l2.n l2.c ∧ Q (.slice l2.a l2.n l2.c) h2
def F96.W (T96 : Sl → Int → PT) (args : List Value) : PT := match args with
  | [.slice l_a l_n l_c, .int .u64 n] => T96 ⟨l_a, l_n, l_c⟩ n
  | _ => fun _ _ => False
def F96.V : List Value → PT := F96.W F96.T
def F80.T (l : Sl) (l1 : Sl) : PT := fun h Q =>
  ∃ (I : Sl → Int → Hp → Prop) (m : Sl → Int → Hp → Nat), I l 0 h ∧ (∀ l2 : Sl, ∀ n : Int, ∀ h1 : Hp, I l2 n h1 → par (n < (l1.n : Int)) (∃ b o, (l1.a : Option Addr) = some ⟨b, o, none⟩ ∧ ((0 : Int) ≤ n ∧ n < (l1.n : Int)) ∧ ∃ n1 : Int, h1.at b (o + n.toNat) = some (.int .u64 n1) ∧ F96.T ⟨none, 0, 0⟩ n1 h1 fun r h2 => ∃ l3 : Sl, r = .slice l3.a l3.n l3.c ∧ ∃ vs, h2.row l3.a (l3.n * 1) vs ∧ (∀ v ∈ vs, Value.oneCell' v = true) ∧ appendD l2 5 1 1 [.int .u8 0] l3.n vs h2 fun l4 h3 => I l4 (IntKind.wrap .i64 (n + 1)) h3 ∧ m l4 (IntKind.wrap .i64 (n + 1)) h3 < m l2 n h1) (Q (.slice l2.a l2.n l2.c) h1))
def F80.W (T80 : Sl → Sl → PT) (args : List Value) : PT := match args with
  | [.slice l_a l_n l_c, .slice l1_a l1_n l1_c] => T80 ⟨l_a, l_n, l_c⟩ ⟨l1_a, l1_n, l1_c⟩
  | _ => fun _ _ => False
def F80.V : List Value → PT := F80.W F80.T
def F97.T (l : Sl) (s : ByteArray) : PT := fun h Q =>
  F113.T l (IntKind.wrap .i64 (10 + (s.size : Int))) h fun r h1 => ∃ l1 : Sl, r = .slice l1.a l1.n l1.c ∧ F112.T l1 (IntKind.wrap .u64 (s.size : Int)) h1 fun r1 h2 => ∃ l2 : Sl, r1 = .slice l2.a l2.n l2.c ∧ appendD l2 5 1 1 [.int .u8 0] s.size (bytesV s) h2 fun l3 h3 => Q (.slice l3.a l3.n l3.c) h3
def F97.W (T97 : Sl → ByteArray → PT) (args : List Value) : PT := match args with
  | [.slice l_a l_n l_c, .string s] => T97 ⟨l_a, l_n, l_c⟩ s
  | _ => fun _ _ => False
def F97.V : List Value → PT := F97.W F97.T
def F81.T (l : Sl) (s : ByteArray) : PT := fun h Q =>
  F97.T ⟨none, 0, 0⟩ s h fun r h1 => ∃ l1 : Sl, r = .slice l1.a l1.n l1.c ∧ ∃ vs, h1.row l1.a (l1.n * 1) vs ∧ (∀ v ∈ vs, Value.oneCell' v = true) ∧ appendD l 5 1 1 [.int .u8 0] l1.n vs h1 fun l2 h2 => Q (.slice l2.a l2.n l2.c) h2
def F81.W (T81 : Sl → ByteArray → PT) (args : List Value) : PT := match args with
  | [.slice l_a l_n l_c, .string s] => T81 ⟨l_a, l_n, l_c⟩ s
  | _ => fun _ _ => False
def F81.V : List Value → PT := F81.W F81.T
def F20.T (l : Sl) (l1 : Sl) : PT := fun h Q =>
  par ((l.n : Int) = (l1.n : Int)) (∃ (I : Int → Hp → Prop) (m : Int → Hp → Nat), I 0 h ∧ (∀ n : Int, ∀ h1 : Hp, I n h1 → par (n < (l.n : Int)) (∃ b o, (l.a : Option Addr) = some ⟨b, o, none⟩ ∧ ((0 : Int) ≤ n ∧ n < (l.n : Int)) ∧ ∃ n1 : Int, h1.at b (o + n.toNat) = some (.int .u8 n1) ∧ ∃ b1 o1, (l1.a : Option Addr) = some ⟨b1, o1, none⟩ ∧ ((0 : Int) ≤ n ∧ n < (l1.n : Int)) ∧ ∃ n2 : Int, h1.at b1 (o1 + n.toNat) = some (.int .u8 n2) ∧ par (n1 = n2) (I (IntKind.wrap .i64 (n + 1)) h1 ∧ m (IntKind.wrap .i64 (n + 1)) h1 < m n h1) (Q (.bool false) h1)) (Q (.bool true) h1))) (Q (.bool false) h)
def F20.W (T20 : Sl → Sl → PT) (args : List Value) : PT := match args with
  | [.slice l_a l_n l_c, .slice l1_a l1_n l1_c] => T20 ⟨l_a, l_n, l_c⟩ ⟨l1_a, l1_n, l1_c⟩
  | _ => fun _ _ => False
def F20.V : List Value → PT := F20.W F20.T
def F60.T (l : Sl) (l1 : Sl) : PT := fun h Q =>
  par ((l.n : Int) = (l1.n : Int)) (∃ (I : Int → Hp → Prop) (m : Int → Hp → Nat), I 0 h ∧ (∀ n : Int, ∀ h1 : Hp, I n h1 → par (n < (l.n : Int)) (∃ b o, (l.a : Option Addr) = some ⟨b, o, none⟩ ∧ ((0 : Int) ≤ n ∧ n < (l.n : Int)) ∧ ∃ s : ByteArray, h1.at b (o + n.toNat) = some (.string s) ∧ ∃ b1 o1, (l1.a : Option Addr) = some ⟨b1, o1, none⟩ ∧ ((0 : Int) ≤ n ∧ n < (l1.n : Int)) ∧ ∃ s1 : ByteArray, h1.at b1 (o1 + n.toNat) = some (.string s1) ∧ par (s = s1) (I (IntKind.wrap .i64 (n + 1)) h1 ∧ m (IntKind.wrap .i64 (n + 1)) h1 < m n h1) (Q (.bool false) h1)) (Q (.bool true) h1))) (Q (.bool false) h)
theorem F60.den (V : Value → List Value → PT) (l : Sl) (l1 : Sl) : denF Try.prog [] [] V [(58, .loop [(5, .int .i64)] []), (1864, .order [0, 1, 2, 3, 4, 5, 6, 7, 8])] Try.f60 [.v (.slice l.a l.n l.c), .v (.slice l1.a l1.n l1.c)] = F60.T l l1 := by kernel_rfl
def F60.W (T60 : Sl → Sl → PT) (args : List Value) : PT := match args with
  | [.slice l_a l_n l_c, .slice l1_a l1_n l1_c] => T60 ⟨l_a, l_n, l_c⟩ ⟨l1_a, l1_n, l1_c⟩
  | _ => fun _ _ => False
def F60.V : List Value → PT := F60.W F60.T
theorem F60.ok : FOk Try.prog 60 F60.V := by
  refine ⟨⟨_, Try.func60, rfl, rfl⟩, fun args => ?_⟩
  have hG : GOk Try.prog [] := GOk.nil
  have hV : VOk Try.prog noV := noV_ok
  unfold F60.V F60.W
  split
  · exact denF_okV hG hV Try.func60 (fun h Q hq => (F60.den _ _ _) ▸ hq)
  · exact fun h Q hq => hq.elim
def F23.T (n : Int) (n1 : Int) (n2 : Int) (l : Sl) (l1 : Sl) (l2 : Sl) (n3 : Int) (n4 : Int) (n5 : Int) (l3 : Sl) (l4 : Sl) (l5 : Sl) : PT := fun h Q =>
  par (n = n3) (par (n1 = n4) (par (n2 = n5) (par ((l.n : Int) = (l3.n : Int)) (par ((l1.n : Int) = (l4.n : Int)) (F60.T l2 l5 h fun r h1 => ∃ b : Bool, r = .bool b ∧ parB b (∃ (I : Int → Hp → Prop) (m : Int → Hp → Nat), I 0 h1 ∧ (∀ n6 : Int, ∀ h2 : Hp, I n6 h2 → par (n6 < (l.n : Int)) (∃ b1 o, (l.a : Option Addr) = some ⟨b1, o, none⟩ ∧ ((0 : Int) ≤ n6 ∧ n6 < (l.n : Int)) ∧ ∃ n7 : Int, h2.at b1 (o + n6.toNat * 2) = some (.int .i64 n7) ∧ ∃ n8 : Int, h2.at b1 ((o + n6.toNat * 2) + 1) = some (.int .u64 n8) ∧ ∃ b2 o1, (l3.a : Option Addr) = some ⟨b2, o1, none⟩ ∧ ((0 : Int) ≤ n6 ∧ n6 < (l3.n : Int)) ∧ ∃ n9 : Int, h2.at b2 (o1 + n6.toNat * 2) = some (.int .i64 n9) ∧ ∃ n10 : Int, h2.at b2 ((o1 + n6.toNat * 2) + 1) = some (.int .u64 n10) ∧ par (([.int .i64 n7, .int .u64 n8] : List Value) = [.int .i64 n9, .int .u64 n10]) (I (IntKind.wrap .i64 (n6 + 1)) h2 ∧ m (IntKind.wrap .i64 (n6 + 1)) h2 < m n6 h2) (Q (.bool false) h2)) (∃ (I1 : Int → Hp → Prop) (m1 : Int → Hp → Nat), I1 0 h2 ∧ (∀ n11 : Int, ∀ h3 : Hp, I1 n11 h3 → par (n11 < (l1.n : Int)) (∃ b3 o2, (l1.a : Option Addr) = some ⟨b3, o2, none⟩ ∧ ((0 : Int) ≤ n11 ∧ n11 < (l1.n : Int)) ∧ ∃ n12 : Int, h3.at b3 (o2 + n11.toNat * 7) = some (.int .i64 n12) ∧ ∃ n13 : Int, h3.at b3 ((o2 + n11.toNat * 7) + 1) = some (.int .u64 n13) ∧ ∃ n14 : Int, h3.at b3 ((o2 + n11.toNat * 7) + 2) = some (.int .i64 n14) ∧ ∃ n15 : Int, h3.at b3 ((o2 + n11.toNat * 7) + 3) = some (.int .i64 n15) ∧ ∃ n16 : Int, h3.at b3 ((o2 + n11.toNat * 7) + 4) = some (.int .i64 n16) ∧ ∃ s : ByteArray, h3.at b3 ((o2 + n11.toNat * 7) + 5) = some (.string s) ∧ ∃ s1 : ByteArray, h3.at b3 ((o2 + n11.toNat * 7) + 6) = some (.string s1) ∧ ∃ b4 o3, (l4.a : Option Addr) = some ⟨b4, o3, none⟩ ∧ ((0 : Int) ≤ n11 ∧ n11 < (l4.n : Int)) ∧ ∃ n17 : Int, h3.at b4 (o3 + n11.toNat * 7) = some (.int .i64 n17) ∧ ∃ n18 : Int, h3.at b4 ((o3 + n11.toNat * 7) + 1) = some (.int .u64 n18) ∧ ∃ n19 : Int, h3.at b4 ((o3 + n11.toNat * 7) + 2) = some (.int .i64 n19) ∧ ∃ n20 : Int, h3.at b4 ((o3 + n11.toNat * 7) + 3) = some (.int .i64 n20) ∧ ∃ n21 : Int, h3.at b4 ((o3 + n11.toNat * 7) + 4) = some (.int .i64 n21) ∧ ∃ s2 : ByteArray, h3.at b4 ((o3 + n11.toNat * 7) + 5) = some (.string s2) ∧ ∃ s3 : ByteArray, h3.at b4 ((o3 + n11.toNat * 7) + 6) = some (.string s3) ∧ par (([.int .i64 n12, .int .u64 n13, .int .i64 n14, .int .i64 n15, .int .i64 n16, .string s, .string s1] : List Value) = [.int .i64 n17, .int .u64 n18, .int .i64 n19, .int .i64 n20, .int .i64 n21, .string s2, .string s3]) (I1 (IntKind.wrap .i64 (n11 + 1)) h3 ∧ m1 (IntKind.wrap .i64 (n11 + 1)) h3 < m1 n11 h3) (Q (.bool false) h3)) (Q (.bool true) h3))))) (Q (.bool false) h1)) (Q (.bool false) h)) (Q (.bool false) h)) (Q (.bool false) h)) (Q (.bool false) h)) (Q (.bool false) h)
theorem F23.gen (V : Value → List Value → PT) (T60 : Sl → Sl → PT) (n : Int) (n1 : Int) (n2 : Int) (l : Sl) (l1 : Sl) (l2 : Sl) (n3 : Int) (n4 : Int) (n5 : Int) (l3 : Sl) (l4 : Sl) (l5 : Sl) : denF Try.prog [2, 3] [(60, F60.W T60)] V [(58, .loop [(5, .int .i64)] []), (122, .loop [(6, .int .i64)] []), (1864, .order [0, 1, 2, 3, 4, 5, 6, 7, 8, 9, 10]), (3912, .order [0, 1, 2, 3, 4, 5, 6, 7, 8, 9, 10])] Try.f23 [.v (.agg ⟨[.int .u64 n, .int .u64 n1, .int .u64 n2, .slice l.a l.n l.c, .slice l1.a l1.n l1.c, .slice l2.a l2.n l2.c]⟩), .v (.agg ⟨[.int .u64 n3, .int .u64 n4, .int .u64 n5, .slice l3.a l3.n l3.c, .slice l4.a l4.n l4.c, .slice l5.a l5.n l5.c]⟩)] = fun h Q =>
  par (n = n3) (par (n1 = n4) (par (n2 = n5) (par ((l.n : Int) = (l3.n : Int)) (par ((l1.n : Int) = (l4.n : Int)) (T60 l2 l5 h fun r h1 => ∃ b : Bool, r = .bool b ∧ parB b (∃ (I : Int → Hp → Prop) (m : Int → Hp → Nat), I 0 h1 ∧ (∀ n6 : Int, ∀ h2 : Hp, I n6 h2 → par (n6 < (l.n : Int)) (∃ b1 o, (l.a : Option Addr) = some ⟨b1, o, none⟩ ∧ ((0 : Int) ≤ n6 ∧ n6 < (l.n : Int)) ∧ ∃ n7 : Int, h2.at b1 (o + n6.toNat * 2) = some (.int .i64 n7) ∧ ∃ n8 : Int, h2.at b1 ((o + n6.toNat * 2) + 1) = some (.int .u64 n8) ∧ ∃ b2 o1, (l3.a : Option Addr) = some ⟨b2, o1, none⟩ ∧ ((0 : Int) ≤ n6 ∧ n6 < (l3.n : Int)) ∧ ∃ n9 : Int, h2.at b2 (o1 + n6.toNat * 2) = some (.int .i64 n9) ∧ ∃ n10 : Int, h2.at b2 ((o1 + n6.toNat * 2) + 1) = some (.int .u64 n10) ∧ par (([.int .i64 n7, .int .u64 n8] : List Value) = [.int .i64 n9, .int .u64 n10]) (I (IntKind.wrap .i64 (n6 + 1)) h2 ∧ m (IntKind.wrap .i64 (n6 + 1)) h2 < m n6 h2) (Q (.bool false) h2)) (∃ (I1 : Int → Hp → Prop) (m1 : Int → Hp → Nat), I1 0 h2 ∧ (∀ n11 : Int, ∀ h3 : Hp, I1 n11 h3 → par (n11 < (l1.n : Int)) (∃ b3 o2, (l1.a : Option Addr) = some ⟨b3, o2, none⟩ ∧ ((0 : Int) ≤ n11 ∧ n11 < (l1.n : Int)) ∧ ∃ n12 : Int, h3.at b3 (o2 + n11.toNat * 7) = some (.int .i64 n12) ∧ ∃ n13 : Int, h3.at b3 ((o2 + n11.toNat * 7) + 1) = some (.int .u64 n13) ∧ ∃ n14 : Int, h3.at b3 ((o2 + n11.toNat * 7) + 2) = some (.int .i64 n14) ∧ ∃ n15 : Int, h3.at b3 ((o2 + n11.toNat * 7) + 3) = some (.int .i64 n15) ∧ ∃ n16 : Int, h3.at b3 ((o2 + n11.toNat * 7) + 4) = some (.int .i64 n16) ∧ ∃ s : ByteArray, h3.at b3 ((o2 + n11.toNat * 7) + 5) = some (.string s) ∧ ∃ s1 : ByteArray, h3.at b3 ((o2 + n11.toNat * 7) + 6) = some (.string s1) ∧ ∃ b4 o3, (l4.a : Option Addr) = some ⟨b4, o3, none⟩ ∧ ((0 : Int) ≤ n11 ∧ n11 < (l4.n : Int)) ∧ ∃ n17 : Int, h3.at b4 (o3 + n11.toNat * 7) = some (.int .i64 n17) ∧ ∃ n18 : Int, h3.at b4 ((o3 + n11.toNat * 7) + 1) = some (.int .u64 n18) ∧ ∃ n19 : Int, h3.at b4 ((o3 + n11.toNat * 7) + 2) = some (.int .i64 n19) ∧ ∃ n20 : Int, h3.at b4 ((o3 + n11.toNat * 7) + 3) = some (.int .i64 n20) ∧ ∃ n21 : Int, h3.at b4 ((o3 + n11.toNat * 7) + 4) = some (.int .i64 n21) ∧ ∃ s2 : ByteArray, h3.at b4 ((o3 + n11.toNat * 7) + 5) = some (.string s2) ∧ ∃ s3 : ByteArray, h3.at b4 ((o3 + n11.toNat * 7) + 6) = some (.string s3) ∧ par (([.int .i64 n12, .int .u64 n13, .int .i64 n14, .int .i64 n15, .int .i64 n16, .string s, .string s1] : List Value) = [.int .i64 n17, .int .u64 n18, .int .i64 n19, .int .i64 n20, .int .i64 n21, .string s2, .string s3]) (I1 (IntKind.wrap .i64 (n11 + 1)) h3 ∧ m1 (IntKind.wrap .i64 (n11 + 1)) h3 < m1 n11 h3) (Q (.bool false) h3)) (Q (.bool true) h3))))) (Q (.bool false) h1)) (Q (.bool false) h)) (Q (.bool false) h)) (Q (.bool false) h)) (Q (.bool false) h)) (Q (.bool false) h) := by kernel_rfl
theorem F23.den (V : Value → List Value → PT) (n : Int) (n1 : Int) (n2 : Int) (l : Sl) (l1 : Sl) (l2 : Sl) (n3 : Int) (n4 : Int) (n5 : Int) (l3 : Sl) (l4 : Sl) (l5 : Sl) : denF Try.prog [2, 3] [(60, F60.V)] V [(58, .loop [(5, .int .i64)] []), (122, .loop [(6, .int .i64)] []), (1864, .order [0, 1, 2, 3, 4, 5, 6, 7, 8, 9, 10]), (3912, .order [0, 1, 2, 3, 4, 5, 6, 7, 8, 9, 10])] Try.f23 [.v (.agg ⟨[.int .u64 n, .int .u64 n1, .int .u64 n2, .slice l.a l.n l.c, .slice l1.a l1.n l1.c, .slice l2.a l2.n l2.c]⟩), .v (.agg ⟨[.int .u64 n3, .int .u64 n4, .int .u64 n5, .slice l3.a l3.n l3.c, .slice l4.a l4.n l4.c, .slice l5.a l5.n l5.c]⟩)] = F23.T n n1 n2 l l1 l2 n3 n4 n5 l3 l4 l5 := F23.gen V F60.T n n1 n2 l l1 l2 n3 n4 n5 l3 l4 l5
def F23.W (T23 : Int → Int → Int → Sl → Sl → Sl → Int → Int → Int → Sl → Sl → Sl → PT) (args : List Value) : PT := match args with
  | [.agg ⟨[.int .u64 n, .int .u64 n1, .int .u64 n2, .slice l_a l_n l_c, .slice l1_a l1_n l1_c, .slice l2_a l2_n l2_c]⟩, .agg ⟨[.int .u64 n3, .int .u64 n4, .int .u64 n5, .slice l3_a l3_n l3_c, .slice l4_a l4_n l4_c, .slice l5_a l5_n l5_c]⟩] => T23 n n1 n2 ⟨l_a, l_n, l_c⟩ ⟨l1_a, l1_n, l1_c⟩ ⟨l2_a, l2_n, l2_c⟩ n3 n4 n5 ⟨l3_a, l3_n, l3_c⟩ ⟨l4_a, l4_n, l4_c⟩ ⟨l5_a, l5_n, l5_c⟩
  | _ => fun _ _ => False
def F23.V : List Value → PT := F23.W F23.T
theorem F23.ok : FOk Try.prog 23 F23.V := by
  refine ⟨⟨_, Try.func23, rfl, rfl⟩, fun args => ?_⟩
  have hG : GOk Try.prog [(60, F60.V)] := GOk.cons F60.ok (GOk.nil)
  have hV : VOk Try.prog noV := noV_ok
  unfold F23.V F23.W
  split
  · exact denF_okV hG hV Try.func23 (fun h Q hq => (F23.den _ _ _ _ _ _ _ _ _ _ _ _ _) ▸ hq)
  · exact fun h Q hq => hq.elim
def F78.T (n : Int) : PT := fun h Q =>
  par (n = 108) (Q (.bool true) h) (par (n = 109) (Q (.bool true) h) (par (n = 116) (Q (.bool true) h) (Q (.bool false) h)))
def F78.W (T78 : Int → PT) (args : List Value) : PT := match args with
  | [.int .u8 n] => T78 n
  | _ => fun _ _ => False
def F78.V : List Value → PT := F78.W F78.T
def F47.T (n : Int) (n1 : Int) : PT := fun h Q =>
  F78.T n h fun r h1 => ∃ b : Bool, r = .bool b ∧ parB b (par ((1000000000000 : Int) ≤ n1) (Q (.string (ByteArray.mk #[])) h1) (∀ b1, h1 b1 = none → ∃ cs t, (h1.new b1 (.cells ⟨[.int .u8 63, .int .u8 45, .int .u8 48, .int .u8 48, .int .u8 48, .int .u8 48, .int .u8 48, .int .u8 48, .int .u8 48, .int .u8 48, .int .u8 48, .int .u8 48, .int .u8 48, .int .u8 48]⟩ 5 (0, 0))) b1 = some (.cells cs t (0, 0)) ∧ ∃ b2 o, ((some ⟨b1, 0, none⟩) : Option Addr) = some ⟨b2, o, none⟩ ∧ ((0 : Int) ≤ 0 ∧ 0 < (14 : Int)) ∧ ((h1.new b1 (.cells ⟨[.int .u8 63, .int .u8 45, .int .u8 48, .int .u8 48, .int .u8 48, .int .u8 48, .int .u8 48, .int .u8 48, .int .u8 48, .int .u8 48, .int .u8 48, .int .u8 48, .int .u8 48, .int .u8 48]⟩ 5 (0, 0))).new b1 (.cells cs t (cs.size, cs.size + 1))).canW b2 (o + (0 : Int).toNat) 1 ∧ ∃ (I : Int → Int → Hp → Prop) (m : Int → Int → Hp → Nat), I n1 (IntKind.wrap .i64 ((14 : Int) - 1)) (((h1.new b1 (.cells ⟨[.int .u8 63, .int .u8 45, .int .u8 48, .int .u8 48, .int .u8 48, .int .u8 48, .int .u8 48, .int .u8 48, .int .u8 48, .int .u8 48, .int .u8 48, .int .u8 48, .int .u8 48, .int .u8 48]⟩ 5 (0, 0))).new b1 (.cells cs t (cs.size, cs.size + 1))).wr b2 (o + (0 : Int).toNat) [.int .u8 n]) ∧ (∀ n2 : Int, ∀ n3 : Int, ∀ h2 : Hp, I n2 n3 h2 → par ((0 : Int) < n2) (∃ b3 o1, ((some ⟨b1, 0, none⟩) : Option Addr) = some ⟨b3, o1, none⟩ ∧ ((0 : Int) ≤ n3 ∧ n3 < (14 : Int)) ∧ ∃ n4 : Int, h2.at b3 (o1 + n3.toNat) = some (.int .u8 n4) ∧ (10 : Int) ≠ 0 ∧ ∃ b4 o2, ((some ⟨b1, 0, none⟩) : Option Addr) = some ⟨b4, o2, none⟩ ∧ ((0 : Int) ≤ n3 ∧ n3 < (14 : Int)) ∧ h2.canW b4 (o2 + n3.toNat) 1 ∧ (10 : Int) ≠ 0 ∧ I (IntKind.wrap .u64 (Int.tdiv n2 10)) (IntKind.wrap .i64 (n3 - 1)) (h2.wr b4 (o2 + n3.toNat) [.int .u8 (IntKind.wrap .u8 (n4 + (IntKind.wrap .u8 (Int.tmod n2 10))))]) ∧ m (IntKind.wrap .u64 (Int.tdiv n2 10)) (IntKind.wrap .i64 (n3 - 1)) (h2.wr b4 (o2 + n3.toNat) [.int .u8 (IntKind.wrap .u8 (n4 + (IntKind.wrap .u8 (Int.tmod n2 10))))]) < m n2 n3 h2) (∃ s : ByteArray, h2.row (some ⟨b1, 0, none⟩) 14 (bytesV s) ∧ Q (.string s) h2)))) (Q (.string (ByteArray.mk #[])) h1)
def F47.W (T47 : Int → Int → PT) (args : List Value) : PT := match args with
  | [.int .u8 n, .int .u64 n1] => T47 n n1
  | _ => fun _ _ => False
def F47.V : List Value → PT := F47.W F47.T
def F50.T (n : Int) (n1 : Int) (n2 : Int) (l : Sl) (l1 : Sl) (l2 : Sl) : PT := fun h Q =>
  ∃ (I : Int → Hp → Prop) (m : Int → Hp → Nat), I 0 h ∧ (∀ n3 : Int, ∀ h1 : Hp, I n3 h1 → par (n3 < (l.n : Int)) (∃ b o, (l.a : Option Addr) = some ⟨b, o, none⟩ ∧ ((0 : Int) ≤ n3 ∧ n3 < (l.n : Int)) ∧ ∃ n4 : Int, h1.at b (o + n3.toNat * 2) = some (.int .i64 n4) ∧ ∃ n5 : Int, h1.at b ((o + n3.toNat * 2) + 1) = some (.int .u64 n5) ∧ par (n4 < 0) (Q (.bool false) h1) (par ((5 : Int) ≤ n4) (Q (.bool false) h1) (I (IntKind.wrap .i64 (n3 + 1)) h1 ∧ m (IntKind.wrap .i64 (n3 + 1)) h1 < m n3 h1))) (∃ (I1 : Int → Hp → Prop) (m1 : Int → Hp → Nat), I1 0 h1 ∧ (∀ n6 : Int, ∀ h2 : Hp, I1 n6 h2 → par (n6 < (l1.n : Int)) (∃ b1 o1, (l1.a : Option Addr) = some ⟨b1, o1, none⟩ ∧ ((0 : Int) ≤ n6 ∧ n6 < (l1.n : Int)) ∧ ∃ n7 : Int, h2.at b1 (o1 + n6.toNat * 7) = some (.int .i64 n7) ∧ ∃ n8 : Int, h2.at b1 ((o1 + n6.toNat * 7) + 1) = some (.int .u64 n8) ∧ ∃ n9 : Int, h2.at b1 ((o1 + n6.toNat * 7) + 2) = some (.int .i64 n9) ∧ ∃ n10 : Int, h2.at b1 ((o1 + n6.toNat * 7) + 3) = some (.int .i64 n10) ∧ ∃ n11 : Int, h2.at b1 ((o1 + n6.toNat * 7) + 4) = some (.int .i64 n11) ∧ ∃ s : ByteArray, h2.at b1 ((o1 + n6.toNat * 7) + 5) = some (.string s) ∧ ∃ s1 : ByteArray, h2.at b1 ((o1 + n6.toNat * 7) + 6) = some (.string s1) ∧ par (n7 < 0) (Q (.bool false) h2) (par ((5 : Int) ≤ n7) (Q (.bool false) h2) (par ((iMin (iMin n9 n10) n11) < 0) (Q (.bool false) h2) (par ((64 : Int) < (iMax (s.size : Int) (s1.size : Int))) (Q (.bool false) h2) (I1 (IntKind.wrap .i64 (n6 + 1)) h2 ∧ m1 (IntKind.wrap .i64 (n6 + 1)) h2 < m1 n6 h2))))) (∃ (I2 : Int → Hp → Prop) (m2 : Int → Hp → Nat), I2 0 h2 ∧ (∀ n12 : Int, ∀ h3 : Hp, I2 n12 h3 → par (n12 < (l2.n : Int)) (∃ b2 o2, (l2.a : Option Addr) = some ⟨b2, o2, none⟩ ∧ ((0 : Int) ≤ n12 ∧ n12 < (l2.n : Int)) ∧ ∃ s2 : ByteArray, h3.at b2 (o2 + n12.toNat) = some (.string s2) ∧ par ((64 : Int) < (s2.size : Int)) (Q (.bool false) h3) (I2 (IntKind.wrap .i64 (n12 + 1)) h3 ∧ m2 (IntKind.wrap .i64 (n12 + 1)) h3 < m2 n12 h3)) (par ((l2.n : Int) ≤ 5) (Q (.bool true) h3) (Q (.bool false) h3)))))))
def F50.W (T50 : Int → Int → Int → Sl → Sl → Sl → PT) (args : List Value) : PT := match args with
  | [.agg ⟨[.int .u64 n, .int .u64 n1, .int .u64 n2, .slice l_a l_n l_c, .slice l1_a l1_n l1_c, .slice l2_a l2_n l2_c]⟩] => T50 n n1 n2 ⟨l_a, l_n, l_c⟩ ⟨l1_a, l1_n, l1_c⟩ ⟨l2_a, l2_n, l2_c⟩
  | _ => fun _ _ => False
def F50.V : List Value → PT := F50.W F50.T
def F51.Tt (n : Int) (n1 : Int) (n2 : Int) (l : Sl) (l1 : Sl) (l2 : Sl) : PT := fun h Q =>
  ∀ b, h b = none → ∃ b1 o, ((some ⟨b, 0, none⟩) : Option Addr) = some ⟨b1, o, none⟩ ∧ ((0 : Int) ≤ 0 ∧ 0 < (1 : Int)) ∧ (h.new b (.cells ⟨[.int .u8 0]⟩ 5 (0, 0))).canW b1 (o + (0 : Int).toNat) 1 ∧ ∀ b2, ((h.new b (.cells ⟨[.int .u8 0]⟩ 5 (0, 0))).wr b1 (o + (0 : Int).toNat) [.int .u8 1]) b2 = none → F80.T ⟨(some ⟨b, 0, none⟩), 1, 1⟩ ⟨(some ⟨b2, 0, none⟩), 4, 4⟩ (((h.new b (.cells ⟨[.int .u8 0]⟩ 5 (0, 0))).wr b1 (o + (0 : Int).toNat) [.int .u8 1]).new b2 (.cells ⟨[.int .u64 n, .int .u64 n1, .int .u64 n2, .int .u64 (IntKind.wrap .u64 (l.n : Int))]⟩ 55 (0, 0))) fun r h1 => ∃ l3 : Sl, r = .slice l3.a l3.n l3.c ∧ ∃ (I : Sl → Int → Hp → Prop) (m : Sl → Int → Hp → Nat), I l3 0 h1 ∧ (∀ l4 : Sl, ∀ n3 : Int, ∀ h2 : Hp, I l4 n3 h2 → par (n3 < (l.n : Int)) (∃ b3 o1, (l.a : Option Addr) = some ⟨b3, o1, none⟩ ∧ ((0 : Int) ≤ n3 ∧ n3 < (l.n : Int)) ∧ ∃ n4 : Int, h2.at b3 (o1 + n3.toNat * 2) = some (.int .i64 n4) ∧ ∃ n5 : Int, h2.at b3 ((o1 + n3.toNat * 2) + 1) = some (.int .u64 n5) ∧ ∀ b4, h2 b4 = none → F80.T l4 ⟨(some ⟨b4, 0, none⟩), 2, 2⟩ (h2.new b4 (.cells ⟨[.int .u64 (IntKind.wrap .u64 n4), .int .u64 n5]⟩ 55 (0, 0))) fun r1 h3 => ∃ l5 : Sl, r1 = .slice l5.a l5.n l5.c ∧ I l5 (IntKind.wrap .i64 (n3 + 1)) h3 ∧ m l5 (IntKind.wrap .i64 (n3 + 1)) h3 < m l4 n3 h2) (∀ b5, h2 b5 = none → F80.T l4 ⟨(some ⟨b5, 0, none⟩), 1, 1⟩ (h2.new b5 (.cells ⟨[.int .u64 (IntKind.wrap .u64 (l1.n : Int))]⟩ 55 (0, 0))) fun r2 h4 => ∃ l6 : Sl, r2 = .slice l6.a l6.n l6.c ∧ ∃ (I1 : Sl → Int → Hp → Prop) (m1 : Sl → Int → Hp → Nat), I1 l6 0 h4 ∧ (∀ l7 : Sl, ∀ n6 : Int, ∀ h5 : Hp, I1 l7 n6 h5 → par (n6 < (l1.n : Int)) (∃ b6 o2, (l1.a : Option Addr) = some ⟨b6, o2, none⟩ ∧ ((0 : Int) ≤ n6 ∧ n6 < (l1.n : Int)) ∧ ∃ n7 : Int, h5.at b6 (o2 + n6.toNat * 7) = some (.int .i64 n7) ∧ ∃ n8 : Int, h5.at b6 ((o2 + n6.toNat * 7) + 1) = some (.int .u64 n8) ∧ ∃ n9 : Int, h5.at b6 ((o2 + n6.toNat * 7) + 2) = some (.int .i64 n9) ∧ ∃ n10 : Int, h5.at b6 ((o2 + n6.toNat * 7) + 3) = some (.int .i64 n10) ∧ ∃ n11 : Int, h5.at b6 ((o2 + n6.toNat * 7) + 4) = some (.int .i64 n11) ∧ ∃ s : ByteArray, h5.at b6 ((o2 + n6.toNat * 7) + 5) = some (.string s) ∧ ∃ s1 : ByteArray, h5.at b6 ((o2 + n6.toNat * 7) + 6) = some (.string s1) ∧ ∀ b7, h5 b7 = none → F80.T l7 ⟨(some ⟨b7, 0, none⟩), 5, 5⟩ (h5.new b7 (.cells ⟨[.int .u64 (IntKind.wrap .u64 n7), .int .u64 n8, .int .u64 (IntKind.wrap .u64 n9), .int .u64 (IntKind.wrap .u64 n10), .int .u64 (IntKind.wrap .u64 n11)]⟩ 55 (0, 0))) fun r3 h6 => ∃ l8 : Sl, r3 = .slice l8.a l8.n l8.c ∧ F81.T l8 s h6 fun r4 h7 => ∃ l9 : Sl, r4 = .slice l9.a l9.n l9.c ∧ F81.T l9 s1 h7 fun r5 h8 => ∃ l10 : Sl, r5 = .slice l10.a l10.n l10.c ∧ I1 l10 (IntKind.wrap .i64 (n6 + 1)) h8 ∧ m1 l10 (IntKind.wrap .i64 (n6 + 1)) h8 < m1 l7 n6 h5) (∀ b8, h5 b8 = none → F80.T l7 ⟨(some ⟨b8, 0, none⟩), 1, 1⟩ (h5.new b8 (.cells ⟨[.int .u64 (IntKind.wrap .u64 (l2.n : Int))]⟩ 55 (0, 0))) fun r6 h9 => ∃ l11 : Sl, r6 = .slice l11.a l11.n l11.c ∧ ∃ (I2 : Sl → Int → Hp → Prop) (m2 : Sl → Int → Hp → Nat), I2 l11 0 h9 ∧ (∀ l12 : Sl, ∀ n12 : Int, ∀ h10 : Hp, I2 l12 n12 h10 → par (n12 < (l2.n : Int)) (∃ b9 o3, (l2.a : Option Addr) = some ⟨b9, o3, none⟩ ∧ ((0 : Int) ≤ n12 ∧ n12 < (l2.n : Int)) ∧ ∃ s2 : ByteArray, h10.at b9 (o3 + n12.toNat) = some (.string s2) ∧ F81.T l12 s2 h10 fun r7 h11 => ∃ l13 : Sl, r7 = .slice l13.a l13.n l13.c ∧ I2 l13 (IntKind.wrap .i64 (n12 + 1)) h11 ∧ m2 l13 (IntKind.wrap .i64 (n12 + 1)) h11 < m2 l12 n12 h10) (Q (.slice l12.a l12.n l12.c) h10))))))
def F51.Tf (n : Int) (n1 : Int) (n2 : Int) (l : Sl) (l1 : Sl) (l2 : Sl) : PT := fun h Q =>
  ∀ b, h b = none → ∀ b1, (h.new b (.cells ⟨[.int .u8 0]⟩ 5 (0, 0))) b1 = none → F80.T ⟨(some ⟨b, 0, none⟩), 1, 1⟩ ⟨(some ⟨b1, 0, none⟩), 4, 4⟩ ((h.new b (.cells ⟨[.int .u8 0]⟩ 5 (0, 0))).new b1 (.cells ⟨[.int .u64 n, .int .u64 n1, .int .u64 n2, .int .u64 (IntKind.wrap .u64 (l.n : Int))]⟩ 55 (0, 0))) fun r h1 => ∃ l3 : Sl, r = .slice l3.a l3.n l3.c ∧ ∃ (I : Sl → Int → Hp → Prop) (m : Sl → Int → Hp → Nat), I l3 0 h1 ∧ (∀ l4 : Sl, ∀ n3 : Int, ∀ h2 : Hp, I l4 n3 h2 → par (n3 < (l.n : Int)) (∃ b2 o, (l.a : Option Addr) = some ⟨b2, o, none⟩ ∧ ((0 : Int) ≤ n3 ∧ n3 < (l.n : Int)) ∧ ∃ n4 : Int, h2.at b2 (o + n3.toNat * 2) = some (.int .i64 n4) ∧ ∃ n5 : Int, h2.at b2 ((o + n3.toNat * 2) + 1) = some (.int .u64 n5) ∧ ∀ b3, h2 b3 = none → F80.T l4 ⟨(some ⟨b3, 0, none⟩), 2, 2⟩ (h2.new b3 (.cells ⟨[.int .u64 (IntKind.wrap .u64 n4), .int .u64 n5]⟩ 55 (0, 0))) fun r1 h3 => ∃ l5 : Sl, r1 = .slice l5.a l5.n l5.c ∧ I l5 (IntKind.wrap .i64 (n3 + 1)) h3 ∧ m l5 (IntKind.wrap .i64 (n3 + 1)) h3 < m l4 n3 h2) (∀ b4, h2 b4 = none → F80.T l4 ⟨(some ⟨b4, 0, none⟩), 1, 1⟩ (h2.new b4 (.cells ⟨[.int .u64 (IntKind.wrap .u64 (l1.n : Int))]⟩ 55 (0, 0))) fun r2 h4 => ∃ l6 : Sl, r2 = .slice l6.a l6.n l6.c ∧ ∃ (I1 : Sl → Int → Hp → Prop) (m1 : Sl → Int → Hp → Nat), I1 l6 0 h4 ∧ (∀ l7 : Sl, ∀ n6 : Int, ∀ h5 : Hp, I1 l7 n6 h5 → par (n6 < (l1.n : Int)) (∃ b5 o1, (l1.a : Option Addr) = some ⟨b5, o1, none⟩ ∧ ((0 : Int) ≤ n6 ∧ n6 < (l1.n : Int)) ∧ ∃ n7 : Int, h5.at b5 (o1 + n6.toNat * 7) = some (.int .i64 n7) ∧ ∃ n8 : Int, h5.at b5 ((o1 + n6.toNat * 7) + 1) = some (.int .u64 n8) ∧ ∃ n9 : Int, h5.at b5 ((o1 + n6.toNat * 7) + 2) = some (.int .i64 n9) ∧ ∃ n10 : Int, h5.at b5 ((o1 + n6.toNat * 7) + 3) = some (.int .i64 n10) ∧ ∃ n11 : Int, h5.at b5 ((o1 + n6.toNat * 7) + 4) = some (.int .i64 n11) ∧ ∃ s : ByteArray, h5.at b5 ((o1 + n6.toNat * 7) + 5) = some (.string s) ∧ ∃ s1 : ByteArray, h5.at b5 ((o1 + n6.toNat * 7) + 6) = some (.string s1) ∧ ∀ b6, h5 b6 = none → F80.T l7 ⟨(some ⟨b6, 0, none⟩), 5, 5⟩ (h5.new b6 (.cells ⟨[.int .u64 (IntKind.wrap .u64 n7), .int .u64 n8, .int .u64 (IntKind.wrap .u64 n9), .int .u64 (IntKind.wrap .u64 n10), .int .u64 (IntKind.wrap .u64 n11)]⟩ 55 (0, 0))) fun r3 h6 => ∃ l8 : Sl, r3 = .slice l8.a l8.n l8.c ∧ F81.T l8 s h6 fun r4 h7 => ∃ l9 : Sl, r4 = .slice l9.a l9.n l9.c ∧ F81.T l9 s1 h7 fun r5 h8 => ∃ l10 : Sl, r5 = .slice l10.a l10.n l10.c ∧ I1 l10 (IntKind.wrap .i64 (n6 + 1)) h8 ∧ m1 l10 (IntKind.wrap .i64 (n6 + 1)) h8 < m1 l7 n6 h5) (∀ b7, h5 b7 = none → F80.T l7 ⟨(some ⟨b7, 0, none⟩), 1, 1⟩ (h5.new b7 (.cells ⟨[.int .u64 (IntKind.wrap .u64 (l2.n : Int))]⟩ 55 (0, 0))) fun r6 h9 => ∃ l11 : Sl, r6 = .slice l11.a l11.n l11.c ∧ ∃ (I2 : Sl → Int → Hp → Prop) (m2 : Sl → Int → Hp → Nat), I2 l11 0 h9 ∧ (∀ l12 : Sl, ∀ n12 : Int, ∀ h10 : Hp, I2 l12 n12 h10 → par (n12 < (l2.n : Int)) (∃ b8 o2, (l2.a : Option Addr) = some ⟨b8, o2, none⟩ ∧ ((0 : Int) ≤ n12 ∧ n12 < (l2.n : Int)) ∧ ∃ s2 : ByteArray, h10.at b8 (o2 + n12.toNat) = some (.string s2) ∧ F81.T l12 s2 h10 fun r7 h11 => ∃ l13 : Sl, r7 = .slice l13.a l13.n l13.c ∧ I2 l13 (IntKind.wrap .i64 (n12 + 1)) h11 ∧ m2 l13 (IntKind.wrap .i64 (n12 + 1)) h11 < m2 l12 n12 h10) (Q (.slice l12.a l12.n l12.c) h10))))))
def F51.W (T51t : Int → Int → Int → Sl → Sl → Sl → PT) (T51f : Int → Int → Int → Sl → Sl → Sl → PT) (args : List Value) : PT := match args with
  | [.agg ⟨[.int .u64 n, .int .u64 n1, .int .u64 n2, .slice l_a l_n l_c, .slice l1_a l1_n l1_c, .slice l2_a l2_n l2_c]⟩, .bool true] => T51t n n1 n2 ⟨l_a, l_n, l_c⟩ ⟨l1_a, l1_n, l1_c⟩ ⟨l2_a, l2_n, l2_c⟩
  | [.agg ⟨[.int .u64 n, .int .u64 n1, .int .u64 n2, .slice l_a l_n l_c, .slice l1_a l1_n l1_c, .slice l2_a l2_n l2_c]⟩, .bool false] => T51f n n1 n2 ⟨l_a, l_n, l_c⟩ ⟨l1_a, l1_n, l1_c⟩ ⟨l2_a, l2_n, l2_c⟩
  | _ => fun _ _ => False
def F51.V : List Value → PT := F51.W F51.Tt F51.Tf
def F18.T (n : Int) (n1 : Int) (n2 : Int) (l : Sl) (l1 : Sl) (l2 : Sl) : PT := fun h Q =>
  F50.T n n1 n2 l l1 l2 h fun r h1 => ∃ b : Bool, r = .bool b ∧ parB b (∃ (I : Sl → Int → Int → Int → Sl → Sl → Sl → Hp → Prop) (m : Sl → Int → Int → Int → Sl → Sl → Sl → Hp → Nat), I ⟨none, 0, 0⟩ n n1 n2 l l1 l2 h1 ∧ (∀ l3 : Sl, ∀ n3 : Int, ∀ n4 : Int, ∀ n5 : Int, ∀ l4 : Sl, ∀ l5 : Sl, ∀ l6 : Sl, ∀ h2 : Hp, I l3 n3 n4 n5 l4 l5 l6 h2 → Sl.okCut l4 0 (iMin (l4.n : Int) 256) (iMin (l4.n : Int) 256) ∧ Sl.okCut l5 0 (iMin (l5.n : Int) (IntKind.wrap .i64 (256 - (iMin (l4.n : Int) 256)))) (iMin (l5.n : Int) (IntKind.wrap .i64 (256 - (iMin (l4.n : Int) 256)))) ∧ Sl.okCut l4 (iMin (l4.n : Int) 256) (l4.n : Int) (l4.c : Int) ∧ Sl.okCut l5 (iMin (l5.n : Int) (IntKind.wrap .i64 (256 - (iMin (l4.n : Int) 256)))) (l5.n : Int) (l5.c : Int) ∧ par ((IntKind.wrap .i64 (((Sl.cut l4 2 (iMin (l4.n : Int) 256) (l4.n : Int) (l4.c : Int)).n : Int) + ((Sl.cut l5 7 (iMin (l5.n : Int) (IntKind.wrap .i64 (256 - (iMin (l4.n : Int) 256)))) (l5.n : Int) (l5.c : Int)).n : Int))) = 0) (F51.Tt n3 n4 n5 (Sl.cut l4 2 0 (iMin (l4.n : Int) 256) (iMin (l4.n : Int) 256)) (Sl.cut l5 7 0 (iMin (l5.n : Int) (IntKind.wrap .i64 (256 - (iMin (l4.n : Int) 256)))) (iMin (l5.n : Int) (IntKind.wrap .i64 (256 - (iMin (l4.n : Int) 256))))) l6 h2 fun r1 h3 => ∃ l7 : Sl, r1 = .slice l7.a l7.n l7.c ∧ appendD l3 25 1 24 [.slice none 0 0] 1 [.slice l7.a l7.n l7.c] h3 fun l8 h4 => Q (.slice l8.a l8.n l8.c) h4) (F51.Tf n3 n4 n5 (Sl.cut l4 2 0 (iMin (l4.n : Int) 256) (iMin (l4.n : Int) 256)) (Sl.cut l5 7 0 (iMin (l5.n : Int) (IntKind.wrap .i64 (256 - (iMin (l4.n : Int) 256)))) (iMin (l5.n : Int) (IntKind.wrap .i64 (256 - (iMin (l4.n : Int) 256))))) ⟨none, 0, 0⟩ h2 fun r2 h5 => ∃ l9 : Sl, r2 = .slice l9.a l9.n l9.c ∧ appendD l3 25 1 24 [.slice none 0 0] 1 [.slice l9.a l9.n l9.c] h5 fun l10 h6 => I l10 n3 n4 n5 (Sl.cut l4 2 (iMin (l4.n : Int) 256) (l4.n : Int) (l4.c : Int)) (Sl.cut l5 7 (iMin (l5.n : Int) (IntKind.wrap .i64 (256 - (iMin (l4.n : Int) 256)))) (l5.n : Int) (l5.c : Int)) l6 h6 ∧ m l10 n3 n4 n5 (Sl.cut l4 2 (iMin (l4.n : Int) 256) (l4.n : Int) (l4.c : Int)) (Sl.cut l5 7 (iMin (l5.n : Int) (IntKind.wrap .i64 (256 - (iMin (l4.n : Int) 256)))) (l5.n : Int) (l5.c : Int)) l6 h6 < m l3 n3 n4 n5 l4 l5 l6 h2))) (Q (.slice none 0 0) h1)
def F18.W (T18 : Int → Int → Int → Sl → Sl → Sl → PT) (args : List Value) : PT := match args with
  | [.agg ⟨[.int .u64 n, .int .u64 n1, .int .u64 n2, .slice l_a l_n l_c, .slice l1_a l1_n l1_c, .slice l2_a l2_n l2_c]⟩] => T18 n n1 n2 ⟨l_a, l_n, l_c⟩ ⟨l1_a, l1_n, l1_c⟩ ⟨l2_a, l2_n, l2_c⟩
  | _ => fun _ _ => False
def F18.V : List Value → PT := F18.W F18.T
def F31.T (l : Sl) : PT := fun h Q =>
  par ((l.n : Int) = 0) (Q (.tuple ⟨[.agg ⟨[.int .u64 0, .int .u64 0, .int .u64 0, .slice none 0 0, .slice none 0 0, .slice none 0 0]⟩, .bool false, .bool false]⟩) h) (∃ b o, (l.a : Option Addr) = some ⟨b, o, none⟩ ∧ ((0 : Int) ≤ 0 ∧ 0 < (l.n : Int)) ∧ ∃ n : Int, h.at b (o + (0 : Int).toNat) = some (.int .u8 n) ∧ par ((1 : Int) < n) (Q (.tuple ⟨[.agg ⟨[.int .u64 0, .int .u64 0, .int .u64 0, .slice none 0 0, .slice none 0 0, .slice none 0 0]⟩, .bool false, .bool false]⟩) h) (Sl.okCut l 1 (l.n : Int) (l.c : Int) ∧ ∀ b1, h b1 = none → F72.T (some ⟨b1, 0, none⟩) (h.new b1 (.cells ⟨[.slice (Sl.cut l 1 1 (l.n : Int) (l.c : Int)).a (Sl.cut l 1 1 (l.n : Int) (l.c : Int)).n (Sl.cut l 1 1 (l.n : Int) (l.c : Int)).c, .bool false]⟩ 125 (0, 0))) fun r h1 => ∃ n1 : Int, r = .int .u64 n1 ∧ F72.T (some ⟨b1, 0, none⟩) h1 fun r1 h2 => ∃ n2 : Int, r1 = .int .u64 n2 ∧ F72.T (some ⟨b1, 0, none⟩) h2 fun r2 h3 => ∃ n3 : Int, r2 = .int .u64 n3 ∧ F72.T (some ⟨b1, 0, none⟩) h3 fun r3 h4 => ∃ n4 : Int, r3 = .int .u64 n4 ∧ ∃ (I : Int → Int → Int → Int → Sl → Sl → Sl → Hp → Prop) (m : Int → Int → Int → Int → Sl → Sl → Sl → Hp → Nat), I n4 n1 n2 n3 ⟨none, 0, 0⟩ ⟨none, 0, 0⟩ ⟨none, 0, 0⟩ h4 ∧ (∀ n5 : Int, ∀ n6 : Int, ∀ n7 : Int, ∀ n8 : Int, ∀ l1 : Sl, ∀ l2 : Sl, ∀ l3 : Sl, ∀ h5 : Hp, I n5 n6 n7 n8 l1 l2 l3 h5 → par ((0 : Int) < n5) (F73.T (some ⟨b1, 0, none⟩) 4 h5 fun r4 h6 => ∃ n9 : Int, r4 = .int .i64 n9 ∧ F72.T (some ⟨b1, 0, none⟩) h6 fun r5 h7 => ∃ n10 : Int, r5 = .int .u64 n10 ∧ appendD l1 89 2 16 [.int .i64 0, .int .u64 0] 1 [.int .i64 n9, .int .u64 n10] h7 fun l4 h8 => ∃ b2 : Bool, h8.at b1 1 = some (.bool b2) ∧ parB b2 (Q (.tuple ⟨[.agg ⟨[.int .u64 0, .int .u64 0, .int .u64 0, .slice none 0 0, .slice none 0 0, .slice none 0 0]⟩, .bool false, .bool false]⟩) h8) (I (IntKind.wrap .u64 (n5 - 1)) n6 n7 n8 l4 l2 l3 h8 ∧ m (IntKind.wrap .u64 (n5 - 1)) n6 n7 n8 l4 l2 l3 h8 < m n5 n6 n7 n8 l1 l2 l3 h5)) (F72.T (some ⟨b1, 0, none⟩) h5 fun r6 h9 => ∃ n11 : Int, r6 = .int .u64 n11 ∧ ∃ (I1 : Int → Int → Int → Int → Sl → Sl → Sl → Hp → Prop) (m1 : Int → Int → Int → Int → Sl → Sl → Sl → Hp → Nat), I1 n11 n6 n7 n8 l1 l2 l3 h9 ∧ (∀ n12 : Int, ∀ n13 : Int, ∀ n14 : Int, ∀ n15 : Int, ∀ l5 : Sl, ∀ l6 : Sl, ∀ l7 : Sl, ∀ h10 : Hp, I1 n12 n13 n14 n15 l5 l6 l7 h10 → par ((0 : Int) < n12) (F73.T (some ⟨b1, 0, none⟩) 4 h10 fun r7 h11 => ∃ n16 : Int, r7 = .int .i64 n16 ∧ F72.T (some ⟨b1, 0, none⟩) h11 fun r8 h12 => ∃ n17 : Int, r8 = .int .u64 n17 ∧ F73.T (some ⟨b1, 0, none⟩) 9223372036854775807 h12 fun r9 h13 => ∃ n18 : Int, r9 = .int .i64 n18 ∧ F73.T (some ⟨b1, 0, none⟩) 9223372036854775807 h13 fun r10 h14 => ∃ n19 : Int, r10 = .int .i64 n19 ∧ F73.T (some ⟨b1, 0, none⟩) 9223372036854775807 h14 fun r11 h15 => ∃ n20 : Int, r11 = .int .i64 n20 ∧ F74.T (some ⟨b1, 0, none⟩) h15 fun r12 h16 => ∃ s : ByteArray, r12 = .string s ∧ F74.T (some ⟨b1, 0, none⟩) h16 fun r13 h17 => ∃ s1 : ByteArray, r13 = .string s1 ∧ appendD l6 87 7 72 [.int .i64 0, .int .u64 0, .int .i64 0, .int .i64 0, .int .i64 0, .string (ByteArray.mk #[]), .string (ByteArray.mk #[])] 1 [.int .i64 n16, .int .u64 n17, .int .i64 n18, .int .i64 n19, .int .i64 n20, .string s, .string s1] h17 fun l8 h18 => ∃ b3 : Bool, h18.at b1 1 = some (.bool b3) ∧ parB b3 (Q (.tuple ⟨[.agg ⟨[.int .u64 0, .int .u64 0, .int .u64 0, .slice none 0 0, .slice none 0 0, .slice none 0 0]⟩, .bool false, .bool false]⟩) h18) (I1 (IntKind.wrap .u64 (n12 - 1)) n13 n14 n15 l5 l8 l7 h18 ∧ m1 (IntKind.wrap .u64 (n12 - 1)) n13 n14 n15 l5 l8 l7 h18 < m1 n12 n13 n14 n15 l5 l6 l7 h10)) (F72.T (some ⟨b1, 0, none⟩) h10 fun r14 h19 => ∃ n21 : Int, r14 = .int .u64 n21 ∧ ∃ (I2 : Int → Int → Int → Int → Sl → Sl → Sl → Hp → Prop) (m2 : Int → Int → Int → Int → Sl → Sl → Sl → Hp → Nat), I2 n21 n13 n14 n15 l5 l6 l7 h19 ∧ (∀ n22 : Int, ∀ n23 : Int, ∀ n24 : Int, ∀ n25 : Int, ∀ l9 : Sl, ∀ l10 : Sl, ∀ l11 : Sl, ∀ h20 : Hp, I2 n22 n23 n24 n25 l9 l10 l11 h20 → par ((0 : Int) < n22) (F74.T (some ⟨b1, 0, none⟩) h20 fun r15 h21 => ∃ s2 : ByteArray, r15 = .string s2 ∧ appendD l11 9 1 16 [.string (ByteArray.mk #[])] 1 [.string s2] h21 fun l12 h22 => ∃ b4 : Bool, h22.at b1 1 = some (.bool b4) ∧ parB b4 (Q (.tuple ⟨[.agg ⟨[.int .u64 0, .int .u64 0, .int .u64 0, .slice none 0 0, .slice none 0 0, .slice none 0 0]⟩, .bool false, .bool false]⟩) h22) (I2 (IntKind.wrap .u64 (n22 - 1)) n23 n24 n25 l9 l10 l12 h22 ∧ m2 (IntKind.wrap .u64 (n22 - 1)) n23 n24 n25 l9 l10 l12 h22 < m2 n22 n23 n24 n25 l9 l10 l11 h20)) (∃ b5 : Bool, h20.at b1 1 = some (.bool b5) ∧ parB b5 (Q (.tuple ⟨[.agg ⟨[.int .u64 0, .int .u64 0, .int .u64 0, .slice none 0 0, .slice none 0 0, .slice none 0 0]⟩, .bool false, .bool false]⟩) h20) (∃ l13 : Sl, h20.at b1 0 = some (.slice l13.a l13.n l13.c) ∧ par ((l13.n : Int) = 0) (∃ b6 o1, (l.a : Option Addr) = some ⟨b6, o1, none⟩ ∧ ((0 : Int) ≤ 0 ∧ 0 < (l.n : Int)) ∧ ∃ n26 : Int, h20.at b6 (o1 + (0 : Int).toNat) = some (.int .u8 n26) ∧ par (n26 = 1) (h20.at b6 (o1 + (0 : Int).toNat) = some (.int .u8 n26) ∧ Q (.tuple ⟨[.agg ⟨[.int .u64 n23, .int .u64 n24, .int .u64 n25, .slice l9.a l9.n l9.c, .slice l10.a l10.n l10.c, .slice l11.a l11.n l11.c]⟩, .bool true, .bool true]⟩) h20) (h20.at b6 (o1 + (0 : Int).toNat) = some (.int .u8 n26) ∧ Q (.tuple ⟨[.agg ⟨[.int .u64 n23, .int .u64 n24, .int .u64 n25, .slice l9.a l9.n l9.c, .slice l10.a l10.n l10.c, .slice l11.a l11.n l11.c]⟩, .bool false, .bool true]⟩) h20)) (Q (.tuple ⟨[.agg ⟨[.int .u64 0, .int .u64 0, .int .u64 0, .slice none 0 0, .slice none 0 0, .slice none 0 0]⟩, .bool false, .bool false]⟩) h20))))))))))
def F31.W (T31 : Sl → PT) (args : List Value) : PT := match args with
  | [.slice l_a l_n l_c] => T31 ⟨l_a, l_n, l_c⟩
  | _ => fun _ _ => False
def F31.V : List Value → PT := F31.W F31.T
def F76.T (l : Sl) (l1 : Sl) : PT := fun h Q =>
  par ((l.n : Int) = (l1.n : Int)) (∃ (I : Int → Hp → Prop) (m : Int → Hp → Nat), I 0 h ∧ (∀ n : Int, ∀ h1 : Hp, I n h1 → par (n < (l.n : Int)) (∃ b o, (l.a : Option Addr) = some ⟨b, o, none⟩ ∧ ((0 : Int) ≤ n ∧ n < (l.n : Int)) ∧ ∃ n1 : Int, h1.at b (o + n.toNat) = some (.int .u8 n1) ∧ ∃ b1 o1, (l1.a : Option Addr) = some ⟨b1, o1, none⟩ ∧ ((0 : Int) ≤ n ∧ n < (l1.n : Int)) ∧ ∃ n2 : Int, h1.at b1 (o1 + n.toNat) = some (.int .u8 n2) ∧ par (n1 = n2) (I (IntKind.wrap .i64 (n + 1)) h1 ∧ m (IntKind.wrap .i64 (n + 1)) h1 < m n h1) (Q (.bool false) h1)) (Q (.bool true) h1))) (Q (.bool false) h)
def F76.W (T76 : Sl → Sl → PT) (args : List Value) : PT := match args with
  | [.slice l_a l_n l_c, .slice l1_a l1_n l1_c] => T76 ⟨l_a, l_n, l_c⟩ ⟨l1_a, l1_n, l1_c⟩
  | _ => fun _ _ => False
def F76.V : List Value → PT := F76.W F76.T
def F75.T (l : Sl) (l1 : Sl) : PT := fun h Q =>
  par ((l.n : Int) = (l1.n : Int)) (∃ (I : Int → Hp → Prop) (m : Int → Hp → Nat), I 0 h ∧ (∀ n : Int, ∀ h1 : Hp, I n h1 → par (n < (l.n : Int)) (∃ b o, (l.a : Option Addr) = some ⟨b, o, none⟩ ∧ ((0 : Int) ≤ n ∧ n < (l.n : Int)) ∧ ∃ l2 : Sl, h1.at b (o + n.toNat) = some (.slice l2.a l2.n l2.c) ∧ ∃ b1 o1, (l1.a : Option Addr) = some ⟨b1, o1, none⟩ ∧ ((0 : Int) ≤ n ∧ n < (l1.n : Int)) ∧ ∃ l3 : Sl, h1.at b1 (o1 + n.toNat) = some (.slice l3.a l3.n l3.c) ∧ F76.T l2 l3 h1 fun r h2 => ∃ b2 : Bool, r = .bool b2 ∧ parB b2 (I (IntKind.wrap .i64 (n + 1)) h2 ∧ m (IntKind.wrap .i64 (n + 1)) h2 < m n h1) (Q (.bool false) h2)) (Q (.bool true) h1))) (Q (.bool false) h)
def F75.W (T75 : Sl → Sl → PT) (args : List Value) : PT := match args with
  | [.slice l_a l_n l_c, .slice l1_a l1_n l1_c, .func (.func 76) ⟨[]⟩ ⟨[]⟩] => T75 ⟨l_a, l_n, l_c⟩ ⟨l1_a, l1_n, l1_c⟩
  | _ => fun _ _ => False
def F75.V : List Value → PT := F75.W F75.T
def F32.Tt (n : Int) (n1 : Int) (n2 : Int) (l : Sl) (l1 : Sl) (l2 : Sl) (l3 : Sl) : PT := fun h Q =>
  F18.T n n1 n2 l l1 l2 h fun r h1 => ∃ l4 : Sl, r = .slice l4.a l4.n l4.c ∧ par ((l4.n : Int) < (l3.n : Int)) (Q (.bool false) h1) (par ((l4.n : Int) = (l3.n : Int)) (Sl.okCut l4 0 (l3.n : Int) (l4.c : Int) ∧ F75.T (Sl.cut l4 1 0 (l3.n : Int) (l4.c : Int)) l3 h1 fun r1 h2 => ∃ b : Bool, r1 = .bool b ∧ parB b (Q (.bool true) h2) (Q (.bool false) h2)) (Q (.bool false) h1))
def F32.Tf (n : Int) (n1 : Int) (n2 : Int) (l : Sl) (l1 : Sl) (l2 : Sl) (l3 : Sl) : PT := fun h Q =>
  F18.T n n1 n2 l l1 l2 h fun r h1 => ∃ l4 : Sl, r = .slice l4.a l4.n l4.c ∧ par ((l4.n : Int) < (l3.n : Int)) (Q (.bool false) h1) (Sl.okCut l4 0 (l3.n : Int) (l4.c : Int) ∧ F75.T (Sl.cut l4 1 0 (l3.n : Int) (l4.c : Int)) l3 h1 fun r1 h2 => ∃ b : Bool, r1 = .bool b ∧ parB b (Q (.bool true) h2) (Q (.bool false) h2))
def F32.W (T32t : Int → Int → Int → Sl → Sl → Sl → Sl → PT) (T32f : Int → Int → Int → Sl → Sl → Sl → Sl → PT) (args : List Value) : PT := match args with
  | [.agg ⟨[.int .u64 n, .int .u64 n1, .int .u64 n2, .slice l_a l_n l_c, .slice l1_a l1_n l1_c, .slice l2_a l2_n l2_c]⟩, .slice l3_a l3_n l3_c, .bool true] => T32t n n1 n2 ⟨l_a, l_n, l_c⟩ ⟨l1_a, l1_n, l1_c⟩ ⟨l2_a, l2_n, l2_c⟩ ⟨l3_a, l3_n, l3_c⟩
  | [.agg ⟨[.int .u64 n, .int .u64 n1, .int .u64 n2, .slice l_a l_n l_c, .slice l1_a l1_n l1_c, .slice l2_a l2_n l2_c]⟩, .slice l3_a l3_n l3_c, .bool false] => T32f n n1 n2 ⟨l_a, l_n, l_c⟩ ⟨l1_a, l1_n, l1_c⟩ ⟨l2_a, l2_n, l2_c⟩ ⟨l3_a, l3_n, l3_c⟩
  | _ => fun _ _ => False
def F32.V : List Value → PT := F32.W F32.Tt F32.Tf
def F11.T (l : Sl) : PT := fun h Q =>
  ∃ (I : Sl → Int → Int → Int → Int → Int → Sl → Sl → Sl → Hp → Prop) (m : Sl → Int → Int → Int → Int → Int → Sl → Sl → Sl → Hp → Nat), I ⟨none, 0, 0⟩ 0 0 0 0 0 ⟨none, 0, 0⟩ ⟨none, 0, 0⟩ ⟨none, 0, 0⟩ h ∧ (∀ l1 : Sl, ∀ n : Int, ∀ n1 : Int, ∀ n2 : Int, ∀ n3 : Int, ∀ n4 : Int, ∀ l2 : Sl, ∀ l3 : Sl, ∀ l4 : Sl, ∀ h1 : Hp, I l1 n n1 n2 n3 n4 l2 l3 l4 h1 → par (n1 < (l.n : Int)) (∃ b o, (l.a : Option Addr) = some ⟨b, o, none⟩ ∧ ((0 : Int) ≤ n1 ∧ n1 < (l.n : Int)) ∧ ∃ l5 : Sl, h1.at b (o + n1.toNat) = some (.slice l5.a l5.n l5.c) ∧ F31.T l5 h1 fun r h2 => ∃ n5 : Int, ∃ n6 : Int, ∃ n7 : Int, ∃ l6 : Sl, ∃ l7 : Sl, ∃ l8 : Sl, ∃ b1 : Bool, parB b1 (∃ b2 : Bool, parB b2 (r = .tuple ⟨[.agg ⟨[.int .u64 n5, .int .u64 n6, .int .u64 n7, .slice l6.a l6.n l6.c, .slice l7.a l7.n l7.c, .slice l8.a l8.n l8.c]⟩, .bool true, .bool true]⟩ ∧ par (n < n1) (∃ vs, h2.row l6.a (l6.n * 2) vs ∧ (∀ v ∈ vs, Value.oneCell' v = true) ∧ appendD l2 89 2 16 [.int .i64 0, .int .u64 0] l6.n vs h2 fun l9 h3 => ∃ vs1, h3.row l7.a (l7.n * 7) vs1 ∧ (∀ v ∈ vs1, Value.oneCell' v = true) ∧ appendD l3 87 7 72 [.int .i64 0, .int .u64 0, .int .i64 0, .int .i64 0, .int .i64 0, .string (ByteArray.mk #[]), .string (ByteArray.mk #[])] l7.n vs1 h3 fun l10 h4 => Sl.okCut l n (IntKind.wrap .i64 (n1 + 1)) (l.c : Int) ∧ F32.Tt n5 n6 n7 l9 l10 l8 (Sl.cut l 1 n (IntKind.wrap .i64 (n1 + 1)) (l.c : Int)) h4 fun r1 h5 => ∃ b3 : Bool, r1 = .bool b3 ∧ parB b3 (appendD l1 60 6 96 [.int .u64 0, .int .u64 0, .int .u64 0, .slice none 0 0, .slice none 0 0, .slice none 0 0] 1 [.int .u64 n5, .int .u64 n6, .int .u64 n7, .slice l9.a l9.n l9.c, .slice l10.a l10.n l10.c, .slice l8.a l8.n l8.c] h5 fun l11 h6 => I l11 (IntKind.wrap .i64 (n1 + 1)) (IntKind.wrap .i64 (n1 + 1)) 0 0 0 ⟨none, 0, 0⟩ ⟨none, 0, 0⟩ ⟨none, 0, 0⟩ h6 ∧ m l11 (IntKind.wrap .i64 (n1 + 1)) (IntKind.wrap .i64 (n1 + 1)) 0 0 0 ⟨none, 0, 0⟩ ⟨none, 0, 0⟩ ⟨none, 0, 0⟩ h6 < m l1 n n1 n2 n3 n4 l2 l3 l4 h1) (Q (.tuple ⟨[.slice none 0 0, .int .i64 140]⟩) h5)) (Sl.okCut l n (IntKind.wrap .i64 (n1 + 1)) (l.c : Int) ∧ F32.Tt n5 n6 n7 l6 l7 l8 (Sl.cut l 1 n (IntKind.wrap .i64 (n1 + 1)) (l.c : Int)) h2 fun r2 h7 => ∃ b4 : Bool, r2 = .bool b4 ∧ parB b4 (appendD l1 60 6 96 [.int .u64 0, .int .u64 0, .int .u64 0, .slice none 0 0, .slice none 0 0, .slice none 0 0] 1 [.int .u64 n5, .int .u64 n6, .int .u64 n7, .slice l6.a l6.n l6.c, .slice l7.a l7.n l7.c, .slice l8.a l8.n l8.c] h7 fun l12 h8 => I l12 (IntKind.wrap .i64 (n1 + 1)) (IntKind.wrap .i64 (n1 + 1)) 0 0 0 ⟨none, 0, 0⟩ ⟨none, 0, 0⟩ ⟨none, 0, 0⟩ h8 ∧ m l12 (IntKind.wrap .i64 (n1 + 1)) (IntKind.wrap .i64 (n1 + 1)) 0 0 0 ⟨none, 0, 0⟩ ⟨none, 0, 0⟩ ⟨none, 0, 0⟩ h8 < m l1 n n1 n2 n3 n4 l2 l3 l4 h1) (Q (.tuple ⟨[.slice none 0 0, .int .i64 140]⟩) h7))) (r = .tuple ⟨[.agg ⟨[.int .u64 n5, .int .u64 n6, .int .u64 n7, .slice l6.a l6.n l6.c, .slice l7.a l7.n l7.c, .slice l8.a l8.n l8.c]⟩, .bool true, .bool false]⟩ ∧ Q (.tuple ⟨[.slice none 0 0, .int .i64 140]⟩) h2)) (∃ b5 : Bool, parB b5 (r = .tuple ⟨[.agg ⟨[.int .u64 n5, .int .u64 n6, .int .u64 n7, .slice l6.a l6.n l6.c, .slice l7.a l7.n l7.c, .slice l8.a l8.n l8.c]⟩, .bool false, .bool true]⟩ ∧ par (n < n1) (∃ vs2, h2.row l6.a (l6.n * 2) vs2 ∧ (∀ v ∈ vs2, Value.oneCell' v = true) ∧ appendD l2 89 2 16 [.int .i64 0, .int .u64 0] l6.n vs2 h2 fun l13 h9 => ∃ vs3, h9.row l7.a (l7.n * 7) vs3 ∧ (∀ v ∈ vs3, Value.oneCell' v = true) ∧ appendD l3 87 7 72 [.int .i64 0, .int .u64 0, .int .i64 0, .int .i64 0, .int .i64 0, .string (ByteArray.mk #[]), .string (ByteArray.mk #[])] l7.n vs3 h9 fun l14 h10 => I l1 n (IntKind.wrap .i64 (n1 + 1)) n5 n6 n7 l13 l14 l8 h10 ∧ m l1 n (IntKind.wrap .i64 (n1 + 1)) n5 n6 n7 l13 l14 l8 h10 < m l1 n n1 n2 n3 n4 l2 l3 l4 h1) (I l1 n (IntKind.wrap .i64 (n1 + 1)) n5 n6 n7 l6 l7 l8 h2 ∧ m l1 n (IntKind.wrap .i64 (n1 + 1)) n5 n6 n7 l6 l7 l8 h2 < m l1 n n1 n2 n3 n4 l2 l3 l4 h1)) (r = .tuple ⟨[.agg ⟨[.int .u64 n5, .int .u64 n6, .int .u64 n7, .slice l6.a l6.n l6.c, .slice l7.a l7.n l7.c, .slice l8.a l8.n l8.c]⟩, .bool false, .bool false]⟩ ∧ Q (.tuple ⟨[.slice none 0 0, .int .i64 140]⟩) h2))) (appendD l3 87 7 72 [.int .i64 0, .int .u64 0, .int .i64 0, .int .i64 0, .int .i64 0, .string (ByteArray.mk #[]), .string (ByteArray.mk #[])] 1 [.int .i64 0, .int .u64 0, .int .i64 0, .int .i64 0, .int .i64 0, .string (ByteArray.mk #[]), .string (ByteArray.mk #[])] h1 fun l15 h11 => par (n < (l.n : Int)) (Sl.okCut l n (l.n : Int) (l.c : Int) ∧ F32.Tf n2 n3 n4 l2 l15 l4 (Sl.cut l 1 n (l.n : Int) (l.c : Int)) h11 fun r3 h12 => ∃ b6 : Bool, r3 = .bool b6 ∧ parB b6 (Q (.tuple ⟨[.slice l1.a l1.n l1.c, .int .i64 0]⟩) h12) (Q (.tuple ⟨[.slice none 0 0, .int .i64 140]⟩) h12)) (Q (.tuple ⟨[.slice l1.a l1.n l1.c, .int .i64 0]⟩) h11)))
def F11.W (T11 : Sl → PT) (args : List Value) : PT := match args with
  | [.slice l_a l_n l_c] => T11 ⟨l_a, l_n, l_c⟩
  | _ => fun _ _ => False
def F11.V : List Value → PT := F11.W F11.T
def F15.T  : PT := fun h Q =>
  ∀ b, h b = none → ∀ b1, (h.new b (.cells ⟨[.int .i64 0, .int .u64 4]⟩ 89 (0, 0))) b1 = none → F18.T 2 9 300 ⟨(some ⟨b, 0, none⟩), 1, 1⟩ ⟨(some ⟨b1, 0, none⟩), 1, 1⟩ ⟨none, 0, 0⟩ ((h.new b (.cells ⟨[.int .i64 0, .int .u64 4]⟩ 89 (0, 0))).new b1 (.cells ⟨[.int .i64 1, .int .u64 8, .int .i64 455, .int .i64 90, .int .i64 1, .string (ByteArray.mk #[97]), .string (ByteArray.mk #[97])]⟩ 87 (0, 0))) fun r h1 => ∃ l : Sl, r = .slice l.a l.n l.c ∧ F11.T l h1 fun r1 h2 => ∃ l1 : Sl, ∃ n : Int, r1 = .tuple ⟨[.slice l1.a l1.n l1.c, .int .i64 n]⟩ ∧ par ((l.n : Int) = 1) (∃ b2 o, (l.a : Option Addr) = some ⟨b2, o, none⟩ ∧ ((0 : Int) ≤ 0 ∧ 0 < (l.n : Int)) ∧ ∃ l2 : Sl, h2.at b2 (o + (0 : Int).toNat) = some (.slice l2.a l2.n l2.c) ∧ ∀ b3, h2 b3 = none → (h2.new b3 (.cells ⟨[.int .u8 1, .int .u8 2, .int .u8 9, .int .u8 172, .int .u8 2, .int .u8 1, .int .u8 0, .int .u8 4, .int .u8 1, .int .u8 1, .int .u8 8, .int .u8 199, .int .u8 3, .int .u8 90, .int .u8 1, .int .u8 1, .int .u8 97, .int .u8 1, .int .u8 97, .int .u8 0]⟩ 5 (0, 0))).at b2 (o + (0 : Int).toNat) = some (.slice l2.a l2.n l2.c) ∧ F20.T l2 ⟨(some ⟨b3, 0, none⟩), 20, 20⟩ (h2.new b3 (.cells ⟨[.int .u8 1, .int .u8 2, .int .u8 9, .int .u8 172, .int .u8 2, .int .u8 1, .int .u8 0, .int .u8 4, .int .u8 1, .int .u8 1, .int .u8 8, .int .u8 199, .int .u8 3, .int .u8 90, .int .u8 1, .int .u8 1, .int .u8 97, .int .u8 1, .int .u8 97, .int .u8 0]⟩ 5 (0, 0))) fun r2 h3 => ∃ b4 : Bool, r2 = .bool b4 ∧ parB b4 (par (n = 0) (par ((l1.n : Int) = 1) (∃ b5 o1, (l1.a : Option Addr) = some ⟨b5, o1, none⟩ ∧ ((0 : Int) ≤ 0 ∧ 0 < (l1.n : Int)) ∧ ∃ n1 : Int, h3.at b5 (o1 + (0 : Int).toNat * 6) = some (.int .u64 n1) ∧ ∃ n2 : Int, h3.at b5 ((o1 + (0 : Int).toNat * 6) + 1) = some (.int .u64 n2) ∧ ∃ n3 : Int, h3.at b5 ((o1 + (0 : Int).toNat * 6) + 2) = some (.int .u64 n3) ∧ ∃ l3 : Sl, h3.at b5 ((o1 + (0 : Int).toNat * 6) + 3) = some (.slice l3.a l3.n l3.c) ∧ ∃ l4 : Sl, h3.at b5 ((o1 + (0 : Int).toNat * 6) + 4) = some (.slice l4.a l4.n l4.c) ∧ ∃ l5 : Sl, h3.at b5 ((o1 + (0 : Int).toNat * 6) + 5) = some (.slice l5.a l5.n l5.c) ∧ F23.T n1 n2 n3 l3 l4 l5 2 9 300 ⟨(some ⟨b, 0, none⟩), 1, 1⟩ ⟨(some ⟨b1, 0, none⟩), 1, 1⟩ ⟨none, 0, 0⟩ h3 fun r3 h4 => ∃ b6 : Bool, r3 = .bool b6 ∧ parB b6 (F47.T 116 7 h4 fun r4 h5 => ∃ s : ByteArray, r4 = .string s ∧ par (s = (ByteArray.mk #[116, 45, 48, 48, 48, 48, 48, 48, 48, 48, 48, 48, 48, 55])) (Q (.bool true) h5) (Q (.bool false) h5)) (Q (.bool false) h4)) (Q (.bool false) h3)) (Q (.bool false) h3)) (Q (.bool false) h3)) (Q (.bool false) h2)
def F15.W (T15 : PT) (args : List Value) : PT := match args with
  | [] => T15 
  | _ => fun _ _ => False
def F15.V : List Value → PT := F15.W F15.T
def F6.T (l : Sl) : PT := fun h Q =>
  F15.T h fun r h1 => ∃ b : Bool, r = .bool b ∧ parB b (F8.T l h1 fun r1 h2 => ∃ b1 : Bool, r1 = .bool b1 ∧ parB b1 (F11.T l h2 fun r2 h3 => ∃ l1 : Sl, ∃ n : Int, r2 = .tuple ⟨[.slice l1.a l1.n l1.c, .int .i64 n]⟩ ∧ par (n = 0) (∃ (I : Int → Int → Hp → Prop) (m : Int → Int → Hp → Nat), I 0 0 h3 ∧ (∀ n1 : Int, ∀ n2 : Int, ∀ h4 : Hp, I n1 n2 h4 → par (n2 < (l1.n : Int)) (∃ b2 o, (l1.a : Option Addr) = some ⟨b2, o, none⟩ ∧ ((0 : Int) ≤ n2 ∧ n2 < (l1.n : Int)) ∧ ∃ n3 : Int, h4.at b2 (o + n2.toNat * 6) = some (.int .u64 n3) ∧ ∃ n4 : Int, h4.at b2 ((o + n2.toNat * 6) + 1) = some (.int .u64 n4) ∧ ∃ n5 : Int, h4.at b2 ((o + n2.toNat * 6) + 2) = some (.int .u64 n5) ∧ ∃ l2 : Sl, h4.at b2 ((o + n2.toNat * 6) + 3) = some (.slice l2.a l2.n l2.c) ∧ ∃ l3 : Sl, h4.at b2 ((o + n2.toNat * 6) + 4) = some (.slice l3.a l3.n l3.c) ∧ ∃ l4 : Sl, h4.at b2 ((o + n2.toNat * 6) + 5) = some (.slice l4.a l4.n l4.c) ∧ F18.T n3 n4 n5 l2 l3 l4 h4 fun r3 h5 => ∃ l5 : Sl, r3 = .slice l5.a l5.n l5.c ∧ ∃ (I1 : Int → Int → Hp → Prop) (m1 : Int → Int → Hp → Nat), I1 n1 0 h5 ∧ (∀ n6 : Int, ∀ n7 : Int, ∀ h6 : Hp, I1 n6 n7 h6 → par (n7 < (l5.n : Int)) (par ((l.n : Int) ≤ n6) (Q (.bool false) h6) (∃ b3 o1, (l.a : Option Addr) = some ⟨b3, o1, none⟩ ∧ ((0 : Int) ≤ n6 ∧ n6 < (l.n : Int)) ∧ ∃ l6 : Sl, h6.at b3 (o1 + n6.toNat) = some (.slice l6.a l6.n l6.c) ∧ ∃ b4 o2, (l5.a : Option Addr) = some ⟨b4, o2, none⟩ ∧ ((0 : Int) ≤ n7 ∧ n7 < (l5.n : Int)) ∧ ∃ l7 : Sl, h6.at b4 (o2 + n7.toNat) = some (.slice l7.a l7.n l7.c) ∧ F20.T l6 l7 h6 fun r4 h7 => ∃ b5 : Bool, r4 = .bool b5 ∧ parB b5 (I1 (IntKind.wrap .i64 (n6 + 1)) (IntKind.wrap .i64 (n7 + 1)) h7 ∧ m1 (IntKind.wrap .i64 (n6 + 1)) (IntKind.wrap .i64 (n7 + 1)) h7 < m1 n6 n7 h6) (Q (.bool false) h7))) (I n6 (IntKind.wrap .i64 (n2 + 1)) h6 ∧ m n6 (IntKind.wrap .i64 (n2 + 1)) h6 < m n1 n2 h4))) (par (n1 ≤ (l.n : Int)) (Q (.bool true) h4) (Q (.bool false) h4)))) (par (n = 140) (par ((l1.n : Int) = 0) (Q (.bool true) h3) (Q (.bool false) h3)) (Q (.bool false) h3))) (Q (.bool true) h2)) (Q (.bool false) h1)
def F6.W (T6 : Sl → PT) (args : List Value) : PT := match args with
  | [.slice l_a l_n l_c] => T6 ⟨l_a, l_n, l_c⟩
  | _ => fun _ _ => False
def F6.V : List Value → PT := F6.W F6.T
end Go.Eng.Ytblghgacokoklaa
end
section

/-
  SPECS, 1: numbers and texts as bytes.
-/
set_option linter.unusedSimpArgs false
set_option linter.unusedVariables false
namespace Go.Eng
def encF : Nat → Nat → List Int
  | 0, _ => []
  | f + 1, n => if n < 128 then [(n : Int)] else ((n % 128 + 128 : Nat) : Int) :: encF f (n / 128)
/-- A number's bytes. -/
def encU (n : Nat) : List Int := encF 10 n
/-- Bytes as cells. -/
def bv (l : List Int) : List Value := l.map (Value.int .u8)
end Go.Eng
namespace Go.Eng.Ytblghgacokoklaa
/-- Numbers' bytes, one behind the other. -/
def encUs (ns : List Int) : List Int := ns.flatMap fun n => encU n.toNat
def uv (ns : List Int) : List Value := ns.map (Value.int .u64)
/-- A text's bytes behind their number. -/
def bI (s : ByteArray) : List Int := s.data.toList.map fun b => (b.toNat : Int)
def encT (s : ByteArray) : List Int := encU s.size ++ bI s
end Go.Eng.Ytblghgacokoklaa
end
section

/-
  SPECS, 2: edits; a record's bytes.
-/
set_option linter.unusedSimpArgs false
set_option linter.unusedVariables false
namespace Go.Eng.Ytblghgacokoklaa
structure Place where
  lv : Int
  num : Int
structure Placed where
  lv : Int
  num : Int
  weight : Int
  bytes : Int
  entries : Int
  least : ByteArray
  greatest : ByteArray
structure Edit where
  log : Int
  next : Int
  seq : Int
  out : List Place
  inn : List Placed
  ptr : List ByteArray
def Place.cells (p : Place) : List Value := [.int .i64 p.lv, .int .u64 p.num]
def Placed.cells (p : Placed) : List Value := [.int .i64 p.lv, .int .u64 p.num, .int .i64 p.weight, .int .i64 p.bytes, .int .i64 p.entries, .string p.least, .string p.greatest]
def outV (l : List Place) : List Value := l.flatMap Place.cells
def inV (l : List Placed) : List Value := l.flatMap Placed.cells
def ptrV (l : List ByteArray) : List Value := l.map Value.string
/-- Every element has as many cells: where the cells of one stand. -/
theorem flat_get {α : Type} (f : α → List Value) (n : Nat) (hf : ∀ x, (f x).length = n) : ∀ (l : List α) (i j : Nat) (hi : i < l.length), j < n → (l.flatMap f)[i * n + j]? = (f l[i])[j]?
  | [], i, j, hi, _ => by simp at hi
  | x :: l, 0, j, hi, hj => by
    simp only [List.flatMap_cons, Nat.zero_mul, Nat.zero_add, List.getElem_cons_zero]
    rw [List.getElem?_append_left (by rw [hf]; exact hj)]
  | x :: l, i + 1, j, hi, hj => by
    simp only [List.flatMap_cons, List.getElem_cons_succ]
    rw [List.getElem?_append_right (by rw [hf, Nat.add_mul]; omega), hf, show (i + 1) * n + j - n = i * n + j by rw [Nat.add_mul]; omega]
    exact flat_get f n hf l i j (by simpa using hi) hj
theorem flat_length {α : Type} (f : α → List Value) (n : Nat) (hf : ∀ x, (f x).length = n) (l : List α) : (l.flatMap f).length = l.length * n := by
  induction l with
  | nil => simp
  | cons x l ih => simp only [List.flatMap_cons, List.length_append, hf, ih, List.length_cons, Nat.add_mul]; omega
def okU (n : Int) : Prop := 0 ≤ n ∧ n < 18446744073709551616
def okI (n : Int) : Prop := 0 ≤ n ∧ n < 9223372036854775808
structure Place.ok (p : Place) : Prop where
  lv : okI p.lv
  num : okU p.num
structure Placed.ok (p : Placed) : Prop where
  lv : okI p.lv
  num : okU p.num
  weight : okI p.weight
  bytes : okI p.bytes
  entries : okI p.entries
  least : p.least.size ≤ 64
  greatest : p.greatest.size ≤ 64
def Place.enc (p : Place) : List Int := encUs [p.lv, p.num]
def Placed.enc (p : Placed) : List Int := encUs [p.lv, p.num, p.weight, p.bytes, p.entries] ++ encT p.least ++ encT p.greatest
/-- A record's bytes. -/
def recB (e : Edit) (last : Bool) : List Int :=
  (if last then 1 else 0) :: (encUs [e.log, e.next, e.seq, (e.out.length : Int)] ++ e.out.flatMap Place.enc ++ encUs [(e.inn.length : Int)] ++ e.inn.flatMap Placed.enc ++ encUs [(e.ptr.length : Int)] ++ e.ptr.flatMap encT)
end Go.Eng.Ytblghgacokoklaa
end
section

/-
  SPECS, 3: a record's bytes.
-/
set_option linter.unusedSimpArgs false
set_option linter.unusedVariables false
namespace Go.Eng.Ytblghgacokoklaa
/-- An edit's lists, in memory. -/
structure EdAt (h : Hp) (e : Edit) (l l1 l2 : Sl) : Prop where
  out : h.row l.a (l.n * 2) (outV e.out)
  inn : h.row l1.a (l1.n * 7) (inV e.inn)
  ptr : h.row l2.a l2.n (ptrV e.ptr)
/-- An edit whose record is no longer than a record may be. -/
structure Edit.small (e : Edit) : Prop where
  log : okU e.log
  next : okU e.next
  seq : okU e.seq
  out : ∀ p ∈ e.out, p.ok
  inn : ∀ p ∈ e.inn, p.ok
  ptr : ∀ p ∈ e.ptr, p.size ≤ 64
  nout : e.out.length ≤ 1000
  ninn : e.inn.length ≤ 1000
  nptr : e.ptr.length ≤ 1000
theorem EdAt.nout {h : Hp} {e : Edit} {l l1 l2 : Sl} (E : EdAt h e l l1 l2) : l.n = e.out.length := by
  have h1 := E.out.1
  unfold outV at h1
  rw [flat_length Place.cells 2 (fun _ => rfl)] at h1
  omega
theorem EdAt.ninn {h : Hp} {e : Edit} {l l1 l2 : Sl} (E : EdAt h e l l1 l2) : l1.n = e.inn.length := by
  have h1 := E.inn.1
  unfold inV at h1
  rw [flat_length Placed.cells 7 (fun _ => rfl)] at h1
  omega
/-- A slice in a block that was not there. -/
def New (h : Hp) (s : Sl) : Prop := ∃ b, s.a = some ⟨b, 0, none⟩ ∧ h b = none
end Go.Eng.Ytblghgacokoklaa
end
section

/-
  SPECS, 4: may an edit be written?
-/
set_option linter.unusedSimpArgs false
set_option linter.unusedVariables false
namespace Go.Eng.Ytblghgacokoklaa
def Place.told (p : Place) : Bool := decide (0 ≤ p.lv ∧ p.lv < 5)
def Placed.told (p : Placed) : Bool := decide (0 ≤ p.lv ∧ p.lv < 5 ∧ 0 ≤ p.weight ∧ 0 ≤ p.bytes ∧ 0 ≤ p.entries ∧ p.least.size ≤ 64 ∧ p.greatest.size ≤ 64)
def Edit.told (e : Edit) : Bool := e.out.all Place.told && (e.inn.all Placed.told && (e.ptr.all (fun s => decide (s.size ≤ 64)) && decide (e.ptr.length ≤ 5)))
theorem next_i {k n : Nat} (hk : k < n) (hn : n < 9223372036854775807) : IntKind.wrap .i64 ((k : Int) + 1) = ((k + 1 : Nat) : Int) := by rw [wrap_i64 (by omega) (by omega)]; omega
end Go.Eng.Ytblghgacokoklaa
end
section

/-
  SPECS, 5: rows cut; the records of an edit.
-/
set_option linter.unusedSimpArgs false
set_option linter.unusedVariables false
namespace Go.Eng.Ytblghgacokoklaa
/-- A row's first elements. -/
theorem row_take {h : Hp} {A : Option Addr} {n k : Nat} {vs : List Value} (hr : h.row A n vs) (hk : k ≤ n) : h.row A k (vs.take k) := by
  refine ⟨by rw [List.length_take, hr.1]; omega, ?_⟩
  rcases hr.2 with h0 | ⟨b, o, hA, hat⟩
  · exact .inl (by omega)
  · refine .inr ⟨b, o, hA, fun j hj => ?_⟩
    rw [hat j (by omega), List.getElem?_take, if_pos hj]
/-- A row's last elements. -/
theorem row_drop {h : Hp} {A : Option Addr} {n k : Nat} {vs : List Value} (hr : h.row A n vs) (hk : k ≤ n) : h.row (A.map (·.add k)) (n - k) (vs.drop k) := by
  refine ⟨by rw [List.length_drop, hr.1], ?_⟩
  rcases hr.2 with h0 | ⟨b, o, hA, hat⟩
  · exact .inl (by omega)
  · refine .inr ⟨b, o + k, by rw [hA]; simp [addr_add], fun j hj => ?_⟩
    rw [Nat.add_assoc, hat (k + j) (by omega), List.getElem?_drop]
theorem row_congr {h : Hp} {A B : Option Addr} {n : Nat} {vs : List Value} (hr : h.row A n vs) (e : n = 0 ∨ A = B) : h.row B n vs := by
  rcases e with h0 | rfl
  · exact ⟨hr.1, .inl h0⟩
  · exact hr
/-- s[k:] -/
theorem cut_back {h : Hp} {s : Sl} {sz k : Nat} {vs : List Value} (hr : h.row s.a (s.n * sz) vs) (hk : k ≤ s.n) (hc : s.n ≤ s.c) : h.row (Sl.cut s sz (k : Int) (s.n : Int) (s.c : Int)).a ((Sl.cut s sz (k : Int) (s.n : Int) (s.c : Int)).n * sz) (vs.drop (k * sz)) := by
  have h1 := row_drop hr (Nat.mul_le_mul_right sz hk)
  have hn : (Sl.cut s sz (k : Int) (s.n : Int) (s.c : Int)).n = s.n - k := by simp [Sl.cut]
  rw [hn, Nat.sub_mul]
  refine row_congr h1 ?_
  unfold Sl.cut
  simp only [Int.toNat_natCast]
  by_cases hck : s.c = k
  · left; have : s.n = k := by omega
    rw [this]; simp
  · right; rw [if_neg hck]
/-! ### The records of an edit -/
def front (e : Edit) : Edit := { e with out := e.out.take 256, inn := e.inn.take (256 - min e.out.length 256) }
def behind (e : Edit) : Edit := { e with out := e.out.drop 256, inn := e.inn.drop (256 - min e.out.length 256) }
def putF : Nat → Edit → List (List Int)
  | 0, _ => []
  | f + 1, e => if (behind e).out.length + (behind e).inn.length = 0 then [recB (front e) true] else recB { front e with ptr := [] } false :: putF f (behind e)
/-- The records of an edit. -/
def putS (e : Edit) : List (List Int) := if e.told then putF (e.out.length + e.inn.length + 1) e else []
/-- Buffers of bytes, behind a row of slices. -/
def RowsAt (h : Hp) (ss : List Sl) (bs : List (List Int)) : Prop := ss.length = bs.length ∧ ∀ (i : Nat) (hi : i < ss.length) (hj : i < bs.length), Buf h ss[i] 1 5 (bv bs[i])
def slV (ss : List Sl) : List Value := ss.map fun s => .slice s.a s.n s.c
theorem slV_length (ss : List Sl) : (slV ss).length = ss.length := List.length_map _
theorem EdAt.keep {h h' : Hp} {e : Edit} {l l1 l2 : Sl} (k : Keep h h') (E : EdAt h e l l1 l2) : EdAt h' e l l1 l2 := ⟨k.row E.out, k.row E.inn, k.row E.ptr⟩
end Go.Eng.Ytblghgacokoklaa
end
section

/-
  SPECS, 6: Put.
-/
set_option linter.unusedSimpArgs false
set_option linter.unusedVariables false
namespace Go.Eng.Ytblghgacokoklaa
/-- Whole numbers of an edit lie where their kinds let them. -/
structure Edit.valid (e : Edit) : Prop where
  log : okU e.log
  next : okU e.next
  seq : okU e.seq
  out : ∀ p ∈ e.out, p.lv < 9223372036854775808 ∧ okU p.num
  inn : ∀ p ∈ e.inn, p.lv < 9223372036854775808 ∧ okU p.num ∧ p.weight < 9223372036854775808 ∧ p.bytes < 9223372036854775808 ∧ p.entries < 9223372036854775808
structure Told (e : Edit) : Prop where
  out : ∀ p ∈ e.out, p.ok
  inn : ∀ p ∈ e.inn, p.ok
  ptr : ∀ p ∈ e.ptr, p.size ≤ 64
  n : e.ptr.length ≤ 5
end Go.Eng.Ytblghgacokoklaa
end
section

/-
  SPECS, 7: reading numbers and texts.
-/
set_option linter.unusedSimpArgs false
set_option linter.unusedVariables false
namespace Go.Eng.Ytblghgacokoklaa
/-- A number, and one more byte of it. -/
def nx (i : Nat) (n c : Int) : Int := bitsI .or .u64 n (shlI .u64 (IntKind.wrap .u64 (bitsI .and .u8 c 127)) (7 * (i : Int)))
/-- Reading a number: it, how many bytes it takes, the error. -/
def uR : Nat → Int → List Int → Int × Nat × Int
  | _, _, [] => (0, 0, 20)
  | i, n, c :: l =>
    if (c = 0 ∧ 0 < i) ∨ (i = 9 ∧ c ≠ 1) then (0, 0, 21)
    else if c < 128 then (nx i n c, i + 1, 0) else uR (i + 1) (nx i n c) l
/-! ### The reader -/
structure RS where
  b : List Int
  bad : Bool
def RS.skip (s : RS) (k : Nat) (e : Int) : RS := if e = 0 then ⟨s.b.drop k, s.bad⟩ else ⟨[], true⟩
def rU (s : RS) : Int × RS := ((uR 0 0 s.b).1, s.skip (uR 0 0 s.b).2.1 (uR 0 0 s.b).2.2)
def rW (m : Int) (s : RS) : Int × RS := if m < (rU s).1 then (0, ⟨(rU s).2.b, true⟩) else rU s
def toB (l : List Int) : ByteArray := ⟨(l.map fun n => UInt8.ofNat n.toNat).toArray⟩
def tR (l : List Int) : ByteArray × Nat × Int :=
  if (uR 0 0 l).2.2 = 0 then
    (if 64 < (uR 0 0 l).1 then (⟨#[]⟩, 0, 22)
    else if ((l.length - (uR 0 0 l).2.1 : Nat) : Int) < (uR 0 0 l).1 then (⟨#[]⟩, 0, 20)
    else (toB ((l.drop (uR 0 0 l).2.1).take (uR 0 0 l).1.toNat), (uR 0 0 l).2.1 + (uR 0 0 l).1.toNat, 0))
  else (⟨#[]⟩, 0, (uR 0 0 l).2.2)
def rT (s : RS) : ByteArray × RS := ((tR s.b).1, s.skip (tR s.b).2.1 (tR s.b).2.2)
/-- The reader's box. -/
def rb (b : Nat) : Sl := ⟨some ⟨b, 0, none⟩, 1, 1⟩
structure RdAt (h0 h : Hp) (b : Nat) (s : RS) : Prop where
  cell : ∃ l : Sl, h b = some (.cells ⟨[.slice l.a l.n l.c, .bool s.bad]⟩ 125 (0, 0)) ∧ h0.row l.a l.n (bv s.b) ∧ l.n ≤ l.c
  new : h0 b = none
  keep : Keep h0 h
  ok : ∀ c ∈ s.b, 0 ≤ c ∧ c < 256
  small : s.b.length ≤ 1000000000000
theorem wr_at {h : Hp} {b o t : Nat} {c : Array Value} {f : Nat × Nat} {vs : List Value} (hb : h b = some (.cells c t f)) : (h.wr b o vs) b = some (.cells (setL c.toList o vs).toArray t f) := by
  unfold Hp.wr; rw [if_pos rfl, hb]
end Go.Eng.Ytblghgacokoklaa
end
section

/-
  SPECS, 8: reading a record.
-/
set_option linter.unusedSimpArgs false
set_option linter.unusedVariables false
namespace Go.Eng.Ytblghgacokoklaa
def maxI : Int := 9223372036854775807
def outR : Nat → List Place → RS → Option (List Place × RS)
  | 0, acc, s => some (acc, s)
  | f + 1, acc, s => if (rU (rW 4 s).2).2.bad = true then none else outR f (acc ++ [⟨(rW 4 s).1, (rU (rW 4 s).2).1⟩]) (rU (rW 4 s).2).2
def plS (s : RS) : Placed × RS :=
  let a := rW 4 s
  let b := rU a.2
  let c := rW 9223372036854775807 b.2
  let d := rW 9223372036854775807 c.2
  let e := rW 9223372036854775807 d.2
  let x := rT e.2
  let y := rT x.2
  (⟨a.1, b.1, c.1, d.1, e.1, x.1, y.1⟩, y.2)
def inR : Nat → List Placed → RS → Option (List Placed × RS)
  | 0, acc, s => some (acc, s)
  | f + 1, acc, s => if (plS s).2.bad = true then none else inR f (acc ++ [(plS s).1]) (plS s).2
def ptR : Nat → List ByteArray → RS → Option (List ByteArray × RS)
  | 0, acc, s => some (acc, s)
  | f + 1, acc, s => if (rT s).2.bad = true then none else ptR f (acc ++ [(rT s).1]) (rT s).2
def rdP (c a b d : Int) (o : List Place) (i : List Placed) (s : RS) : Option (Edit × Bool) :=
  match ptR (rU s).1.toNat [] (rU s).2 with
  | none => none
  | some x => if x.2.bad = true then none else if x.2.b.length = 0 then some (⟨a, b, d, o, i, x.1⟩, decide (c = 1)) else none
def rdI (c a b d : Int) (o : List Place) (s : RS) : Option (Edit × Bool) :=
  match inR (rU s).1.toNat [] (rU s).2 with
  | none => none
  | some x => rdP c a b d o x.1 x.2
def rdO (c a b d : Int) (s : RS) : Option (Edit × Bool) :=
  match outR (rU s).1.toNat [] (rU s).2 with
  | none => none
  | some x => rdI c a b d x.1 x.2
/-- What a record tells. -/
def rd : List Int → Option (Edit × Bool)
  | [] => none
  | c :: l => if 1 < c then none else rdO c (rU ⟨l, false⟩).1 (rU (rU ⟨l, false⟩).2).1 (rU (rU (rU ⟨l, false⟩).2).2).1 (rU (rU (rU ⟨l, false⟩).2).2).2
def Place.val (p : Place) : Prop := p.lv < 9223372036854775808 ∧ okU p.num
def Placed.val (p : Placed) : Prop := p.lv < 9223372036854775808 ∧ okU p.num ∧ p.weight < 9223372036854775808 ∧ p.bytes < 9223372036854775808 ∧ p.entries < 9223372036854775808
/-- A reader and the lists that it has told so far. -/
structure St (h0 h : Hp) (b : Nat) (s : RS) (l1 l2 l3 : Sl) (o : List Place) (i : List Placed) (p : List ByteArray) (N : Nat) : Prop where
  rd : RdAt h0 h b s
  out : Buf h l1 2 89 (outV o)
  inn : Buf h l2 7 87 (inV i)
  ptr : Buf h l3 1 9 (ptrV p)
  n1 : l1.a = none ∨ New h0 l1
  n2 : l2.a = none ∨ New h0 l2
  n3 : l3.a = none ∨ New h0 l3
  room : o.length + i.length + p.length + s.b.length ≤ N
  vo : ∀ x ∈ o, x.val
  vi : ∀ x ∈ i, x.val
@[reducible] def noneV : Value := .tuple ⟨[.agg ⟨[.int .u64 0, .int .u64 0, .int .u64 0, .slice none 0 0, .slice none 0 0, .slice none 0 0]⟩, .bool false, .bool false]⟩
/-- The lists of an edit, each in a block of its own that was not in h0. -/
structure EdB (h0 h : Hp) (e : Edit) (l1 l2 l3 : Sl) : Prop where
  out : Buf h l1 2 89 (outV e.out)
  inn : Buf h l2 7 87 (inV e.inn)
  ptr : Buf h l3 1 9 (ptrV e.ptr)
  n1 : l1.a = none ∨ New h0 l1
  n2 : l2.a = none ∨ New h0 l2
  n3 : l3.a = none ∨ New h0 l3
end Go.Eng.Ytblghgacokoklaa
end
section

/-
  SPECS, 9: are rows of bytes alike; same.
-/
set_option linter.unusedSimpArgs false
set_option linter.unusedVariables false
namespace Go.Eng.Ytblghgacokoklaa
theorem take_step {α : Type} {a b : List α} {i : Nat} (ha : i < a.length) (hb : i < b.length) (h : a.take i = b.take i) (he : a[i] = b[i]) : a.take (i + 1) = b.take (i + 1) := by
  rw [List.take_succ_eq_append_getElem ha, List.take_succ_eq_append_getElem hb, h, he]
theorem ne_at {α : Type} {a b : List α} {i : Nat} (ha : i < a.length) (hb : i < b.length) (he : a[i] ≠ b[i]) : a ≠ b := by
  intro h
  subst h
  exact he rfl
theorem all_take {α : Type} {a b : List α} (hl : a.length = b.length) (h : a.take a.length = b.take a.length) : a = b := by
  rw [List.take_length] at h
  rw [hl, List.take_length] at h
  exact h
theorem all_take2 {α : Type} {a b : List α} {i : Nat} (hl : a.length = b.length) (hi : i = a.length) (h : a.take i = b.take i) : a = b := by
  subst hi
  exact all_take hl h
/-- Rows of bytes, behind a row of slices (read alone). -/
def Rows (h : Hp) (ss : List Sl) (bs : List (List Int)) : Prop := ss.length = bs.length ∧ ∀ (i : Nat) (hi : i < ss.length) (hj : i < bs.length), h.row ss[i].a ss[i].n (bv bs[i])
/-- Are these just the first records of an edit? -/
def sameP (e : Edit) (recs : List (List Int)) (whole : Bool) : Bool :=
  if (putS e).length < recs.length then false else if whole = true ∧ (putS e).length ≠ recs.length then false else decide ((putS e).take recs.length = recs)
end Go.Eng.Ytblghgacokoklaa
end
section

/-
  SPECS, 10: Get.
-/
set_option linter.unusedSimpArgs false
set_option linter.unusedVariables false
namespace Go.Eng.Ytblghgacokoklaa
def zE : Edit := ⟨0, 0, 0, [], [], []⟩
def pl0 : Placed := ⟨0, 0, 0, 0, 0, ⟨#[]⟩, ⟨#[]⟩⟩
def joinE (cur x : Edit) (part : List (List Int)) : Edit := if part.length = 0 then x else ⟨x.log, x.next, x.seq, cur.out ++ x.out, cur.inn ++ x.inn, x.ptr⟩
def withP (e : Edit) : Edit := ⟨e.log, e.next, e.seq, e.out, e.inn ++ [pl0], e.ptr⟩
/-- What Get tells: of the records that are left; the edits so far, the edit that is read, its records. -/
def getR : List (List Int) → List Edit → Edit → List (List Int) → Option (List Edit)
  | [], acc, cur, part => if part.length = 0 then some acc else if sameP (withP cur) part false = true then some acc else none
  | r :: rs, acc, cur, part =>
    match rd r with
    | none => none
    | some x => if x.2 = true then (if sameP (joinE cur x.1 part) (part ++ [r]) true = true then getR rs (acc ++ [joinE cur x.1 part]) zE [] else none) else getR rs acc (joinE cur x.1 part) (part ++ [r])
/-- How much records hold. -/
def tot (l : List (List Int)) : Nat := (l.map fun r => r.length + 1).sum
/-- An edit and where its lists lie. -/
structure EdS where
  e : Edit
  a : Sl
  b : Sl
  c : Sl
def EdS.cells (x : EdS) : List Value := [.int .u64 x.e.log, .int .u64 x.e.next, .int .u64 x.e.seq, .slice x.a.a x.a.n x.a.c, .slice x.b.a x.b.n x.b.c, .slice x.c.a x.c.n x.c.c]
def edV (l : List EdS) : List Value := l.flatMap EdS.cells
structure EdOk (h : Hp) (x : EdS) : Prop where
  out : Buf h x.a 2 89 (outV x.e.out)
  inn : Buf h x.b 7 87 (inV x.e.inn)
  ptr : Buf h x.c 1 9 (ptrV x.e.ptr)
  val : x.e.valid
  size : x.e.out.length + x.e.inn.length ≤ 400000000000
  nptr : x.e.ptr.length ≤ 1000000000
/-- The records that Get is given. -/
structure Recs (h : Hp) (l : Sl) (ss : List Sl) (recs : List (List Int)) : Prop where
  row : h.row l.a l.n (slV ss)
  cap : l.n ≤ l.c
  rows : Rows h ss recs
  caps : ∀ s ∈ ss, s.n ≤ s.c
  ok : ∀ r ∈ recs, ∀ c ∈ r, 0 ≤ c ∧ c < 256
  each : ∀ r ∈ recs, r.length ≤ 1000000000
  tot : tot recs ≤ 200000000000
end Go.Eng.Ytblghgacokoklaa
end
section

/-
  SPECS, 11: are edits alike; a name; the chapter's example; are there few enough.
-/
set_option linter.unusedSimpArgs false
set_option linter.unusedVariables false
namespace Go.Eng.Ytblghgacokoklaa
theorem texts_eq {h : Hp} {l l1 : Sl} {a b : List ByteArray} {Q : Value → Hp → Prop} (ha : h.row l.a l.n (ptrV a)) (hb : h.row l1.a l1.n (ptrV b)) (hs : b.length ≤ 1000000000000)
    (hT : a = b → Q (.bool true) h) (hF : a ≠ b → Q (.bool false) h) : F60.T l l1 h Q := by
  have hla : l.n = a.length := by have := ha.1; unfold ptrV at this; rw [List.length_map] at this; exact this.symm
  have hlb : l1.n = b.length := by have := hb.1; unfold ptrV at this; rw [List.length_map] at this; exact this.symm
  unfold F60.T
  refine ⟨fun he => ?_, fun hne => hF fun e => hne (by rw [hla, hlb, e])⟩
  have hl : a.length = b.length := by omega
  refine ⟨fun n h1 => h1 = h ∧ ∃ i : Nat, n = (i : Int) ∧ i ≤ a.length ∧ a.take i = b.take i, fun n _ => a.length - n.toNat, ⟨rfl, 0, rfl, Nat.zero_le _, by simp⟩, ?_⟩
  rintro n h1 ⟨rfl, i, rfl, hi, ht⟩
  refine ⟨fun hlt => ?_, fun hge => hT (all_take2 hl (by omega) ht)⟩
  have ia : i < a.length := by omega
  have ib : i < b.length := by omega
  obtain ⟨b0, o0, ha0, hat⟩ := row_get ha (i := i) (by omega)
  obtain ⟨b1, o1, hb1, hbt⟩ := row_get hb (i := i) (by omega)
  refine ⟨b0, o0, ha0, ⟨by omega, hlt⟩, a[i], ?_, b1, o1, hb1, ⟨by omega, by omega⟩, b[i], ?_, fun e => ⟨⟨rfl, i + 1, next_i ia (by omega), ia, take_step ia ib ht e⟩, ?_⟩, fun e => hF (ne_at ia ib e)⟩
  · rw [Int.toNat_natCast, hat i (by omega)]; simp [ptrV, ia]
  · rw [Int.toNat_natCast, hbt i (by omega)]; simp [ptrV, ib]
  · rw [next_i ia (by omega)]
    show a.length - ((i + 1 : Nat) : Int).toNat < a.length - (i : Int).toNat
    omega
theorem place_inj {p q : Place} (h : p.cells = q.cells) : p = q := by
  cases p; cases q
  simp only [Place.cells, List.cons.injEq, Value.int.injEq, true_and, and_true] at h
  rw [h.1, h.2]
theorem placed_inj {p q : Placed} (h : p.cells = q.cells) : p = q := by
  cases p; cases q
  simp only [Placed.cells, List.cons.injEq, Value.int.injEq, Value.string.injEq, true_and, and_true] at h
  obtain ⟨h1, h2, h3, h4, h5, h6, h7⟩ := h
  rw [h1, h2, h3, h4, h5, h6, h7]
theorem edit_eq {h : Hp} {e g : Edit} {l l1 l2 m m1 m2 : Sl} {Q : Value → Hp → Prop} (E : EdAt h e l l1 l2) (G : EdAt h g m m1 m2) (n1 : g.out.length ≤ 1000000000000) (n2 : g.inn.length ≤ 1000000000000) (n3 : g.ptr.length ≤ 1000000000000)
    (hT : e = g → Q (.bool true) h) (hF : e ≠ g → Q (.bool false) h) : F23.T e.log e.next e.seq l l1 l2 g.log g.next g.seq m m1 m2 h Q := by
  have e1 := E.nout; have e2 := E.ninn; have g1 := G.nout; have g2 := G.ninn
  unfold F23.T
  refine ⟨fun h1 => ⟨fun h2 => ⟨fun h3 => ⟨fun h4 => ⟨fun h5 => ?_, fun h5 => hF fun q => h5 (by rw [e2, g2, q])⟩, fun h4 => hF fun q => h4 (by rw [e1, g1, q])⟩, fun h3 => hF fun q => h3 (by rw [q])⟩, fun h2 => hF fun q => h2 (by rw [q])⟩, fun h1 => hF fun q => h1 (by rw [q])⟩
  refine texts_eq E.ptr G.ptr n3 (fun hp => ⟨true, rfl, fun _ => ?_, fun h0 => (by cases h0)⟩) (fun hp => ⟨false, rfl, fun h0 => (by cases h0), fun _ => hF fun q => hp (by rw [q])⟩)
  have lo : e.out.length = g.out.length := by omega
  have li : e.inn.length = g.inn.length := by omega
  refine ⟨fun n h1 => h1 = h ∧ ∃ i : Nat, n = (i : Int) ∧ i ≤ e.out.length ∧ e.out.take i = g.out.take i, fun n _ => e.out.length - n.toNat, ⟨rfl, 0, rfl, Nat.zero_le _, by simp⟩, ?_⟩
  rintro n h1 ⟨rfl, i, rfl, hi, ht⟩
  refine ⟨fun hlt => ?_, fun hge => ?_⟩
  · have ia : i < e.out.length := by omega
    have ib : i < g.out.length := by omega
    obtain ⟨b0, o0, ha0, hat⟩ := row_get E.out (i := i * 2) (by omega)
    obtain ⟨b1, o1, hb1, hbt⟩ := row_get G.out (i := i * 2) (by omega)
    have cc : ∀ j, j < 2 → h1.at b0 ((o0 + i * 2) + j) = (Place.cells e.out[i])[j]? := fun j hj => by
      rw [Nat.add_assoc, hat _ (by omega)]
      exact flat_get Place.cells 2 (fun _ => rfl) e.out i j ia hj
    have dd : ∀ j, j < 2 → h1.at b1 ((o1 + i * 2) + j) = (Place.cells g.out[i])[j]? := fun j hj => by
      rw [Nat.add_assoc, hbt _ (by omega)]
      exact flat_get Place.cells 2 (fun _ => rfl) g.out i j ib hj
    rw [Int.toNat_natCast, next_i ia (by omega)]
    refine ⟨b0, o0, ha0, ⟨by omega, hlt⟩, e.out[i].lv, cc 0 (by decide), e.out[i].num, cc 1 (by decide), b1, o1, hb1, ⟨by omega, by omega⟩, g.out[i].lv, dd 0 (by decide), g.out[i].num, dd 1 (by decide), fun q => ⟨⟨rfl, i + 1, rfl, ia, take_step ia ib ht (place_inj q)⟩, by dsimp only; omega⟩, fun q => hF fun r => ?_⟩
    have hne : e.out[i] ≠ g.out[i] := fun t => q (show Place.cells e.out[i] = Place.cells g.out[i] by rw [t])
    exact ne_at ia ib hne (by rw [r])
  have heo : e.out = g.out := all_take2 lo (by omega) ht
  refine ⟨fun n h2 => h2 = h1 ∧ ∃ i : Nat, n = (i : Int) ∧ i ≤ e.inn.length ∧ e.inn.take i = g.inn.take i, fun n _ => e.inn.length - n.toNat, ⟨rfl, 0, rfl, Nat.zero_le _, by simp⟩, ?_⟩
  rintro n h2 ⟨rfl, i, rfl, hi, ht⟩
  refine ⟨fun hlt => ?_, fun hge => ?_⟩
  · have ia : i < e.inn.length := by omega
    have ib : i < g.inn.length := by omega
    obtain ⟨b0, o0, ha0, hat⟩ := row_get E.inn (i := i * 7) (by omega)
    obtain ⟨b1, o1, hb1, hbt⟩ := row_get G.inn (i := i * 7) (by omega)
    have cc : ∀ j, j < 7 → h2.at b0 ((o0 + i * 7) + j) = (Placed.cells e.inn[i])[j]? := fun j hj => by
      rw [Nat.add_assoc, hat _ (by omega)]
      exact flat_get Placed.cells 7 (fun _ => rfl) e.inn i j ia hj
    have dd : ∀ j, j < 7 → h2.at b1 ((o1 + i * 7) + j) = (Placed.cells g.inn[i])[j]? := fun j hj => by
      rw [Nat.add_assoc, hbt _ (by omega)]
      exact flat_get Placed.cells 7 (fun _ => rfl) g.inn i j ib hj
    rw [Int.toNat_natCast, next_i ia (by omega)]
    refine ⟨b0, o0, ha0, ⟨by omega, hlt⟩, _, cc 0 (by decide), _, cc 1 (by decide), _, cc 2 (by decide), _, cc 3 (by decide), _, cc 4 (by decide), _, cc 5 (by decide), _, cc 6 (by decide), b1, o1, hb1, ⟨by omega, by omega⟩, _, dd 0 (by decide), _, dd 1 (by decide), _, dd 2 (by decide), _, dd 3 (by decide), _, dd 4 (by decide), _, dd 5 (by decide), _, dd 6 (by decide), fun q => ⟨⟨rfl, i + 1, rfl, ia, take_step ia ib ht (placed_inj q)⟩, by dsimp only; omega⟩, fun q => hF fun r => ?_⟩
    have hne : e.inn[i] ≠ g.inn[i] := fun t => q (show Placed.cells e.inn[i] = Placed.cells g.inn[i] by rw [t])
    exact ne_at ia ib hne (by rw [r])
  have hei : e.inn = g.inn := all_take2 li (by omega) ht
  refine hT ?_
  cases e; cases g
  simp only at h1 h2 h3 hp heo hei
  rw [h1, h2, h3, hp, heo, hei]
theorem keep_wr_new {h h1 : Hp} {b : Nat} (hb : h b = none) (K : Keep h h1) (o : Nat) (vs : List Value) : Keep h (h1.wr b o vs) := by
  intro k x e
  unfold Hp.wr
  by_cases hk : k = b
  · rw [hk, hb] at e; cases e
  · rw [if_neg hk]; exact K k x e
theorem new_self (h : Hp) (b : Nat) (o : Obj) : (h.new b o) b = some o := by unfold Hp.new; rw [if_pos rfl]
/-! ### Few enough -/
def totS (l : List Sl) : Nat := (l.map fun s => s.n + 1).sum
theorem ok_q {h : Hp} {b : Nat} {c : Int} {Q : Value → Hp → Prop} (hb : h b = some (.cells ⟨[.int .i64 c]⟩ 113 (0, 0))) (hT : 0 ≤ c → Q (.bool true) h) (hF : ¬ 0 ≤ c → Q (.bool false) h) : F28.T (some ⟨b, 0, none⟩) h Q :=
  ⟨b, 0, rfl, c, by unfold Hp.at; rw [hb]; rfl, hT, hF⟩
end Go.Eng.Ytblghgacokoklaa
end
section

/-
  SPECS, 12: the chapter's example; what Get takes is what Put writes.
-/
set_option linter.unusedSimpArgs false
set_option linter.unusedVariables false
namespace Go.Eng.Ytblghgacokoklaa
def eK : Edit := ⟨2, 9, 300, [⟨0, 4⟩], [⟨1, 8, 455, 90, 1, ⟨#[97]⟩, ⟨#[97]⟩⟩], []⟩
def rK : List Int := [1, 2, 9, 172, 2, 1, 0, 4, 1, 1, 8, 199, 3, 90, 1, 1, 97, 1, 97, 0]
end Go.Eng.Ytblghgacokoklaa
end
section

/-
  SPECS, 13: what is written is read again.
-/
set_option linter.unusedSimpArgs false
set_option linter.unusedVariables false
namespace Go.Eng.Ytblghgacokoklaa
/-- An edit that may be written. -/
structure PGood (p : Place) : Prop where
  l0 : 0 ≤ p.lv
  l4 : p.lv ≤ 4
  num : okU p.num
structure DGood (p : Placed) : Prop where
  l0 : 0 ≤ p.lv
  l4 : p.lv ≤ 4
  num : okU p.num
  w0 : 0 ≤ p.weight
  w1 : p.weight ≤ 9223372036854775807
  b0 : 0 ≤ p.bytes
  b1 : p.bytes ≤ 9223372036854775807
  e0 : 0 ≤ p.entries
  e1 : p.entries ≤ 9223372036854775807
  least : p.least.size ≤ 64
  greatest : p.greatest.size ≤ 64
structure Good (e : Edit) : Prop where
  log : okU e.log
  next : okU e.next
  seq : okU e.seq
  out : ∀ p ∈ e.out, PGood p
  inn : ∀ p ∈ e.inn, DGood p
  ptr : ∀ p ∈ e.ptr, p.size ≤ 64
  nptr : e.ptr.length ≤ 5
end Go.Eng.Ytblghgacokoklaa
end
section

/-
  SPECS, 14: what Get tells of what Put wrote, whole or cut.
-/
set_option linter.unusedSimpArgs false
set_option linter.unusedVariables false
namespace Go.Eng.Ytblghgacokoklaa
def Edit.size (e : Edit) : Nat := e.out.length + e.inn.length
/-- What of an edit a record tells that is not its last. -/
def piece (e : Edit) : Edit := { front e with ptr := [] }
/-- What the first k records (none of them the last) tell. -/
def pre : Nat → Edit → Edit
  | 0, e => ⟨e.log, e.next, e.seq, [], [], []⟩
  | k + 1, e => ⟨e.log, e.next, e.seq, (front e).out ++ (pre k (behind e)).out, (front e).inn ++ (pre k (behind e)).inn, []⟩
end Go.Eng.Ytblghgacokoklaa
end
section

set_option maxRecDepth 100000
set_option linter.unusedVariables false
open Go.Proofs
namespace Go.Eng.Ytblghgacokoklaa
def F95.T (p : Option Addr) (s : ByteArray) : PT := fun h Q =>
  F66.T p (IntKind.wrap .i64 (1 + (s.size : Int))) h fun r h1 => ∃ b : Bool, r = .bool b ∧ parB b (Q (.tuple ⟨[]⟩) h1) (Q (.tuple ⟨[]⟩) h1)
theorem F95.gen (V : Value → List Value → PT) (T66 : Option Addr → Int → PT) (p : Option Addr) (s : ByteArray) : denF Try.prog [] [(66, F66.W T66)] V [] Try.f95 [.v (.pointer p), .v (.string s)] = fun h Q =>
  T66 p (IntKind.wrap .i64 (1 + (s.size : Int))) h fun r h1 => ∃ b : Bool, r = .bool b ∧ parB b (Q (.tuple ⟨[]⟩) h1) (Q (.tuple ⟨[]⟩) h1) := by kernel_rfl
theorem F95.den (V : Value → List Value → PT) (p : Option Addr) (s : ByteArray) : denF Try.prog [] [(66, F66.V)] V [] Try.f95 [.v (.pointer p), .v (.string s)] = F95.T p s := F95.gen V F66.T p s
def F95.W (T95 : Option Addr → ByteArray → PT) (args : List Value) : PT := match args with
  | [.pointer p, .string s] => T95 p s
  | _ => fun _ _ => False
def F95.V : List Value → PT := F95.W F95.T
theorem F95.ok : FOk Try.prog 95 F95.V := by
  refine ⟨⟨_, Try.func95, rfl, rfl⟩, fun args => ?_⟩
  have hG : GOk Try.prog [(66, F66.V)] := GOk.cons F66.ok (GOk.nil)
  have hV : VOk Try.prog noV := noV_ok
  unfold F95.V F95.W
  split
  · exact denF_okV hG hV Try.func95 (fun h Q hq => (F95.den _ _ _) ▸ hq)
  · exact fun h Q hq => hq.elim
def F79.T (p : Option Addr) (n : Int) (n1 : Int) (n2 : Int) (l : Sl) (l1 : Sl) (l2 : Sl) : PT := fun h Q =>
  F66.T p (IntKind.wrap .i64 (1 + (l.n : Int))) h fun r h1 => ∃ b : Bool, r = .bool b ∧ parB b (∃ J : Hp → Prop, (∀ h2 : Hp, J h2 → ∃ (I : Int → Hp → Prop) (m : Int → Hp → Nat), I 0 h2 ∧ (∀ n3 : Int, ∀ h3 : Hp, I n3 h3 → par (n3 < (l2.n : Int)) (F28.T p h3 fun r1 h4 => ∃ b1 : Bool, r1 = .bool b1 ∧ parB b1 (∃ b2 o, (l2.a : Option Addr) = some ⟨b2, o, none⟩ ∧ ((0 : Int) ≤ n3 ∧ n3 < (l2.n : Int)) ∧ ∃ s : ByteArray, h4.at b2 (o + n3.toNat) = some (.string s) ∧ F95.T p s h4 fun r2 h5 => I (IntKind.wrap .i64 (n3 + 1)) h5 ∧ m (IntKind.wrap .i64 (n3 + 1)) h5 < m n3 h3) (Q (.tuple ⟨[]⟩) h4)) (Q (.tuple ⟨[]⟩) h3))) ∧ (∃ (I1 : Int → Hp → Prop) (m1 : Int → Hp → Nat), I1 0 h1 ∧ (∀ n4 : Int, ∀ h6 : Hp, I1 n4 h6 → par (n4 < (l1.n : Int)) (F28.T p h6 fun r3 h7 => ∃ b3 : Bool, r3 = .bool b3 ∧ parB b3 (∃ b4 o1, (l1.a : Option Addr) = some ⟨b4, o1, none⟩ ∧ ((0 : Int) ≤ n4 ∧ n4 < (l1.n : Int)) ∧ ∃ s1 : ByteArray, h7.at b4 (((o1 + n4.toNat * 7) + 1) + 4) = some (.string s1) ∧ F95.T p s1 h7 fun r4 h8 => ∃ b5 o2, (l1.a : Option Addr) = some ⟨b5, o2, none⟩ ∧ ((0 : Int) ≤ n4 ∧ n4 < (l1.n : Int)) ∧ ∃ s2 : ByteArray, h8.at b5 (((o2 + n4.toNat * 7) + 1) + 5) = some (.string s2) ∧ F66.T p (s2.size : Int) h8 fun r5 h9 => ∃ b6 : Bool, r5 = .bool b6 ∧ parB b6 (I1 (IntKind.wrap .i64 (n4 + 1)) h9 ∧ m1 (IntKind.wrap .i64 (n4 + 1)) h9 < m1 n4 h6) (I1 (IntKind.wrap .i64 (n4 + 1)) h9 ∧ m1 (IntKind.wrap .i64 (n4 + 1)) h9 < m1 n4 h6)) (J h7)) (J h6)))) (∃ J1 : Hp → Prop, (∀ h10 : Hp, J1 h10 → ∃ (I2 : Int → Hp → Prop) (m2 : Int → Hp → Nat), I2 0 h10 ∧ (∀ n5 : Int, ∀ h11 : Hp, I2 n5 h11 → par (n5 < (l2.n : Int)) (F28.T p h11 fun r6 h12 => ∃ b7 : Bool, r6 = .bool b7 ∧ parB b7 (∃ b8 o3, (l2.a : Option Addr) = some ⟨b8, o3, none⟩ ∧ ((0 : Int) ≤ n5 ∧ n5 < (l2.n : Int)) ∧ ∃ s3 : ByteArray, h12.at b8 (o3 + n5.toNat) = some (.string s3) ∧ F95.T p s3 h12 fun r7 h13 => I2 (IntKind.wrap .i64 (n5 + 1)) h13 ∧ m2 (IntKind.wrap .i64 (n5 + 1)) h13 < m2 n5 h11) (Q (.tuple ⟨[]⟩) h12)) (Q (.tuple ⟨[]⟩) h11))) ∧ (∃ (I3 : Int → Hp → Prop) (m3 : Int → Hp → Nat), I3 0 h1 ∧ (∀ n6 : Int, ∀ h14 : Hp, I3 n6 h14 → par (n6 < (l1.n : Int)) (F28.T p h14 fun r8 h15 => ∃ b9 : Bool, r8 = .bool b9 ∧ parB b9 (∃ b10 o4, (l1.a : Option Addr) = some ⟨b10, o4, none⟩ ∧ ((0 : Int) ≤ n6 ∧ n6 < (l1.n : Int)) ∧ ∃ s4 : ByteArray, h15.at b10 (((o4 + n6.toNat * 7) + 1) + 4) = some (.string s4) ∧ F95.T p s4 h15 fun r9 h16 => ∃ b11 o5, (l1.a : Option Addr) = some ⟨b11, o5, none⟩ ∧ ((0 : Int) ≤ n6 ∧ n6 < (l1.n : Int)) ∧ ∃ s5 : ByteArray, h16.at b11 (((o5 + n6.toNat * 7) + 1) + 5) = some (.string s5) ∧ F66.T p (s5.size : Int) h16 fun r10 h17 => ∃ b12 : Bool, r10 = .bool b12 ∧ parB b12 (I3 (IntKind.wrap .i64 (n6 + 1)) h17 ∧ m3 (IntKind.wrap .i64 (n6 + 1)) h17 < m3 n6 h14) (I3 (IntKind.wrap .i64 (n6 + 1)) h17 ∧ m3 (IntKind.wrap .i64 (n6 + 1)) h17 < m3 n6 h14)) (J1 h15)) (J1 h14))))
theorem F79.gen (V : Value → List Value → PT) (T28 : Option Addr → PT) (T66 : Option Addr → Int → PT) (T95 : Option Addr → ByteArray → PT) (p : Option Addr) (n : Int) (n1 : Int) (n2 : Int) (l : Sl) (l1 : Sl) (l2 : Sl) : denF Try.prog [3] [(28, F28.W T28), (66, F66.W T66), (95, F95.W T95)] V [(7, .join [] []), (58, .loop [(4, .int .i64)] []), (62, .loop [(5, .int .i64)] [])] Try.f79 [.v (.pointer p), .v (.agg ⟨[.int .u64 n, .int .u64 n1, .int .u64 n2, .slice l.a l.n l.c, .slice l1.a l1.n l1.c, .slice l2.a l2.n l2.c]⟩)] = fun h Q =>
  T66 p (IntKind.wrap .i64 (1 + (l.n : Int))) h fun r h1 => ∃ b : Bool, r = .bool b ∧ parB b (∃ J : Hp → Prop, (∀ h2 : Hp, J h2 → ∃ (I : Int → Hp → Prop) (m : Int → Hp → Nat), I 0 h2 ∧ (∀ n3 : Int, ∀ h3 : Hp, I n3 h3 → par (n3 < (l2.n : Int)) (T28 p h3 fun r1 h4 => ∃ b1 : Bool, r1 = .bool b1 ∧ parB b1 (∃ b2 o, (l2.a : Option Addr) = some ⟨b2, o, none⟩ ∧ ((0 : Int) ≤ n3 ∧ n3 < (l2.n : Int)) ∧ ∃ s : ByteArray, h4.at b2 (o + n3.toNat) = some (.string s) ∧ T95 p s h4 fun r2 h5 => I (IntKind.wrap .i64 (n3 + 1)) h5 ∧ m (IntKind.wrap .i64 (n3 + 1)) h5 < m n3 h3) (Q (.tuple ⟨[]⟩) h4)) (Q (.tuple ⟨[]⟩) h3))) ∧ (∃ (I1 : Int → Hp → Prop) (m1 : Int → Hp → Nat), I1 0 h1 ∧ (∀ n4 : Int, ∀ h6 : Hp, I1 n4 h6 → par (n4 < (l1.n : Int)) (T28 p h6 fun r3 h7 => ∃ b3 : Bool, r3 = .bool b3 ∧ parB b3 (∃ b4 o1, (l1.a : Option Addr) = some ⟨b4, o1, none⟩ ∧ ((0 : Int) ≤ n4 ∧ n4 < (l1.n : Int)) ∧ ∃ s1 : ByteArray, h7.at b4 (((o1 + n4.toNat * 7) + 1) + 4) = some (.string s1) ∧ T95 p s1 h7 fun r4 h8 => ∃ b5 o2, (l1.a : Option Addr) = some ⟨b5, o2, none⟩ ∧ ((0 : Int) ≤ n4 ∧ n4 < (l1.n : Int)) ∧ ∃ s2 : ByteArray, h8.at b5 (((o2 + n4.toNat * 7) + 1) + 5) = some (.string s2) ∧ T66 p (s2.size : Int) h8 fun r5 h9 => ∃ b6 : Bool, r5 = .bool b6 ∧ parB b6 (I1 (IntKind.wrap .i64 (n4 + 1)) h9 ∧ m1 (IntKind.wrap .i64 (n4 + 1)) h9 < m1 n4 h6) (I1 (IntKind.wrap .i64 (n4 + 1)) h9 ∧ m1 (IntKind.wrap .i64 (n4 + 1)) h9 < m1 n4 h6)) (J h7)) (J h6)))) (∃ J1 : Hp → Prop, (∀ h10 : Hp, J1 h10 → ∃ (I2 : Int → Hp → Prop) (m2 : Int → Hp → Nat), I2 0 h10 ∧ (∀ n5 : Int, ∀ h11 : Hp, I2 n5 h11 → par (n5 < (l2.n : Int)) (T28 p h11 fun r6 h12 => ∃ b7 : Bool, r6 = .bool b7 ∧ parB b7 (∃ b8 o3, (l2.a : Option Addr) = some ⟨b8, o3, none⟩ ∧ ((0 : Int) ≤ n5 ∧ n5 < (l2.n : Int)) ∧ ∃ s3 : ByteArray, h12.at b8 (o3 + n5.toNat) = some (.string s3) ∧ T95 p s3 h12 fun r7 h13 => I2 (IntKind.wrap .i64 (n5 + 1)) h13 ∧ m2 (IntKind.wrap .i64 (n5 + 1)) h13 < m2 n5 h11) (Q (.tuple ⟨[]⟩) h12)) (Q (.tuple ⟨[]⟩) h11))) ∧ (∃ (I3 : Int → Hp → Prop) (m3 : Int → Hp → Nat), I3 0 h1 ∧ (∀ n6 : Int, ∀ h14 : Hp, I3 n6 h14 → par (n6 < (l1.n : Int)) (T28 p h14 fun r8 h15 => ∃ b9 : Bool, r8 = .bool b9 ∧ parB b9 (∃ b10 o4, (l1.a : Option Addr) = some ⟨b10, o4, none⟩ ∧ ((0 : Int) ≤ n6 ∧ n6 < (l1.n : Int)) ∧ ∃ s4 : ByteArray, h15.at b10 (((o4 + n6.toNat * 7) + 1) + 4) = some (.string s4) ∧ T95 p s4 h15 fun r9 h16 => ∃ b11 o5, (l1.a : Option Addr) = some ⟨b11, o5, none⟩ ∧ ((0 : Int) ≤ n6 ∧ n6 < (l1.n : Int)) ∧ ∃ s5 : ByteArray, h16.at b11 (((o5 + n6.toNat * 7) + 1) + 5) = some (.string s5) ∧ T66 p (s5.size : Int) h16 fun r10 h17 => ∃ b12 : Bool, r10 = .bool b12 ∧ parB b12 (I3 (IntKind.wrap .i64 (n6 + 1)) h17 ∧ m3 (IntKind.wrap .i64 (n6 + 1)) h17 < m3 n6 h14) (I3 (IntKind.wrap .i64 (n6 + 1)) h17 ∧ m3 (IntKind.wrap .i64 (n6 + 1)) h17 < m3 n6 h14)) (J1 h15)) (J1 h14)))) := by kernel_rfl
theorem F79.den (V : Value → List Value → PT) (p : Option Addr) (n : Int) (n1 : Int) (n2 : Int) (l : Sl) (l1 : Sl) (l2 : Sl) : denF Try.prog [3] [(28, F28.V), (66, F66.V), (95, F95.V)] V [(7, .join [] []), (58, .loop [(4, .int .i64)] []), (62, .loop [(5, .int .i64)] [])] Try.f79 [.v (.pointer p), .v (.agg ⟨[.int .u64 n, .int .u64 n1, .int .u64 n2, .slice l.a l.n l.c, .slice l1.a l1.n l1.c, .slice l2.a l2.n l2.c]⟩)] = F79.T p n n1 n2 l l1 l2 := F79.gen V F28.T F66.T F95.T p n n1 n2 l l1 l2
def F79.W (T79 : Option Addr → Int → Int → Int → Sl → Sl → Sl → PT) (args : List Value) : PT := match args with
  | [.pointer p, .agg ⟨[.int .u64 n, .int .u64 n1, .int .u64 n2, .slice l_a l_n l_c, .slice l1_a l1_n l1_c, .slice l2_a l2_n l2_c]⟩] => T79 p n n1 n2 ⟨l_a, l_n, l_c⟩ ⟨l1_a, l1_n, l1_c⟩ ⟨l2_a, l2_n, l2_c⟩
  | _ => fun _ _ => False
def F79.V : List Value → PT := F79.W F79.T
theorem F79.ok : FOk Try.prog 79 F79.V := by
  refine ⟨⟨_, Try.func79, rfl, rfl⟩, fun args => ?_⟩
  have hG : GOk Try.prog [(28, F28.V), (66, F66.V), (95, F95.V)] := GOk.cons F28.ok (GOk.cons F66.ok (GOk.cons F95.ok (GOk.nil)))
  have hV : VOk Try.prog noV := noV_ok
  unfold F79.V F79.W
  split
  · exact denF_okV hG hV Try.func79 (fun h Q hq => (F79.den _ _ _ _ _ _ _ _) ▸ hq)
  · exact fun h Q hq => hq.elim
def F48.T (p : Option Addr) (l : Sl) : PT := fun h Q =>
  ∃ (I : Int → Hp → Prop) (m : Int → Hp → Nat), I 0 h ∧ (∀ n : Int, ∀ h1 : Hp, I n h1 → par (n < (l.n : Int)) (F28.T p h1 fun r h2 => ∃ b : Bool, r = .bool b ∧ parB b (∃ b1 o, (l.a : Option Addr) = some ⟨b1, o, none⟩ ∧ ((0 : Int) ≤ n ∧ n < (l.n : Int)) ∧ ∃ n1 : Int, h2.at b1 (o + n.toNat * 6) = some (.int .u64 n1) ∧ ∃ n2 : Int, h2.at b1 ((o + n.toNat * 6) + 1) = some (.int .u64 n2) ∧ ∃ n3 : Int, h2.at b1 ((o + n.toNat * 6) + 2) = some (.int .u64 n3) ∧ ∃ l1 : Sl, h2.at b1 ((o + n.toNat * 6) + 3) = some (.slice l1.a l1.n l1.c) ∧ ∃ l2 : Sl, h2.at b1 ((o + n.toNat * 6) + 4) = some (.slice l2.a l2.n l2.c) ∧ ∃ l3 : Sl, h2.at b1 ((o + n.toNat * 6) + 5) = some (.slice l3.a l3.n l3.c) ∧ F79.T p n1 n2 n3 l1 l2 l3 h2 fun r1 h3 => I (IntKind.wrap .i64 (n + 1)) h3 ∧ m (IntKind.wrap .i64 (n + 1)) h3 < m n h1) (Q (.tuple ⟨[]⟩) h2)) (Q (.tuple ⟨[]⟩) h1))
theorem F48.gen (V : Value → List Value → PT) (T28 : Option Addr → PT) (T79 : Option Addr → Int → Int → Int → Sl → Sl → Sl → PT) (p : Option Addr) (l : Sl) : denF Try.prog [] [(28, F28.W T28), (79, F79.W T79)] V [(6, .loop [(4, .int .i64)] [])] Try.f48 [.v (.pointer p), .v (.slice l.a l.n l.c)] = fun h Q =>
  ∃ (I : Int → Hp → Prop) (m : Int → Hp → Nat), I 0 h ∧ (∀ n : Int, ∀ h1 : Hp, I n h1 → par (n < (l.n : Int)) (T28 p h1 fun r h2 => ∃ b : Bool, r = .bool b ∧ parB b (∃ b1 o, (l.a : Option Addr) = some ⟨b1, o, none⟩ ∧ ((0 : Int) ≤ n ∧ n < (l.n : Int)) ∧ ∃ n1 : Int, h2.at b1 (o + n.toNat * 6) = some (.int .u64 n1) ∧ ∃ n2 : Int, h2.at b1 ((o + n.toNat * 6) + 1) = some (.int .u64 n2) ∧ ∃ n3 : Int, h2.at b1 ((o + n.toNat * 6) + 2) = some (.int .u64 n3) ∧ ∃ l1 : Sl, h2.at b1 ((o + n.toNat * 6) + 3) = some (.slice l1.a l1.n l1.c) ∧ ∃ l2 : Sl, h2.at b1 ((o + n.toNat * 6) + 4) = some (.slice l2.a l2.n l2.c) ∧ ∃ l3 : Sl, h2.at b1 ((o + n.toNat * 6) + 5) = some (.slice l3.a l3.n l3.c) ∧ T79 p n1 n2 n3 l1 l2 l3 h2 fun r1 h3 => I (IntKind.wrap .i64 (n + 1)) h3 ∧ m (IntKind.wrap .i64 (n + 1)) h3 < m n h1) (Q (.tuple ⟨[]⟩) h2)) (Q (.tuple ⟨[]⟩) h1)) := by kernel_rfl
theorem F48.den (V : Value → List Value → PT) (p : Option Addr) (l : Sl) : denF Try.prog [] [(28, F28.V), (79, F79.V)] V [(6, .loop [(4, .int .i64)] [])] Try.f48 [.v (.pointer p), .v (.slice l.a l.n l.c)] = F48.T p l := F48.gen V F28.T F79.T p l
def F48.W (T48 : Option Addr → Sl → PT) (args : List Value) : PT := match args with
  | [.pointer p, .slice l_a l_n l_c] => T48 p ⟨l_a, l_n, l_c⟩
  | _ => fun _ _ => False
def F48.V : List Value → PT := F48.W F48.T
theorem F48.ok : FOk Try.prog 48 F48.V := by
  refine ⟨⟨_, Try.func48, rfl, rfl⟩, fun args => ?_⟩
  have hG : GOk Try.prog [(28, F28.V), (79, F79.V)] := GOk.cons F28.ok (GOk.cons F79.ok (GOk.nil))
  have hV : VOk Try.prog noV := noV_ok
  unfold F48.V F48.W
  split
  · exact denF_okV hG hV Try.func48 (fun h Q hq => (F48.den _ _ _) ▸ hq)
  · exact fun h Q hq => hq.elim
def F16.T (l : Sl) : PT := fun h Q =>
  F26.T 10000 h fun r h1 => ∃ p : Option Addr, r = .pointer p ∧ F48.T p l h1 fun r1 h2 => F28.T p h2 fun r2 h3 => ∃ b : Bool, r2 = .bool b ∧ parB b (Q (.bool true) h3) (Q (.bool false) h3)
theorem F16.gen (V : Value → List Value → PT) (T26 : Int → PT) (T28 : Option Addr → PT) (T48 : Option Addr → Sl → PT) (l : Sl) : denF Try.prog [] [(26, F26.W T26), (28, F28.W T28), (48, F48.W T48)] V [] Try.f16 [.v (.slice l.a l.n l.c)] = fun h Q =>
  T26 10000 h fun r h1 => ∃ p : Option Addr, r = .pointer p ∧ T48 p l h1 fun r1 h2 => T28 p h2 fun r2 h3 => ∃ b : Bool, r2 = .bool b ∧ parB b (Q (.bool true) h3) (Q (.bool false) h3) := by kernel_rfl
theorem F16.den (V : Value → List Value → PT) (l : Sl) : denF Try.prog [] [(26, F26.V), (28, F28.V), (48, F48.V)] V [] Try.f16 [.v (.slice l.a l.n l.c)] = F16.T l := F16.gen V F26.T F28.T F48.T l
def F16.W (T16 : Sl → PT) (args : List Value) : PT := match args with
  | [.slice l_a l_n l_c] => T16 ⟨l_a, l_n, l_c⟩
  | _ => fun _ _ => False
def F16.V : List Value → PT := F16.W F16.T
theorem F16.ok : FOk Try.prog 16 F16.V := by
  refine ⟨⟨_, Try.func16, rfl, rfl⟩, fun args => ?_⟩
  have hG : GOk Try.prog [(26, F26.V), (28, F28.V), (48, F48.V)] := GOk.cons F26.ok (GOk.cons F28.ok (GOk.cons F48.ok (GOk.nil)))
  have hV : VOk Try.prog noV := noV_ok
  unfold F16.V F16.W
  split
  · exact denF_okV hG hV Try.func16 (fun h Q hq => (F16.den _ _) ▸ hq)
  · exact fun h Q hq => hq.elim
def F19.T (n : Int) (n1 : Int) : PT := fun h Q =>
  par (n < 0) (n1 ≠ 0 ∧ Q (.int .i64 (Int.tmod (IntKind.wrap .i64 (0 - (IntKind.wrap .i64 (n + 1)))) n1)) h) (n1 ≠ 0 ∧ Q (.int .i64 (Int.tmod n n1)) h)
theorem F19.den (V : Value → List Value → PT) (n : Int) (n1 : Int) : denF Try.prog [] [] V [] Try.f19 [.v (.int .i64 n), .v (.int .i64 n1)] = F19.T n n1 := by kernel_rfl
def F19.W (T19 : Int → Int → PT) (args : List Value) : PT := match args with
  | [.int .i64 n, .int .i64 n1] => T19 n n1
  | _ => fun _ _ => False
def F19.V : List Value → PT := F19.W F19.T
theorem F19.ok : FOk Try.prog 19 F19.V := by
  refine ⟨⟨_, Try.func19, rfl, rfl⟩, fun args => ?_⟩
  have hG : GOk Try.prog [] := GOk.nil
  have hV : VOk Try.prog noV := noV_ok
  unfold F19.V F19.W
  split
  · exact denF_okV hG hV Try.func19 (fun h Q hq => (F19.den _ _ _) ▸ hq)
  · exact fun h Q hq => hq.elim
def F49.T (l : Sl) : PT := fun h Q =>
  ∃ (I : Sl → Int → Hp → Prop) (m : Sl → Int → Hp → Nat), I ⟨none, 0, 0⟩ 0 h ∧ (∀ l1 : Sl, ∀ n : Int, ∀ h1 : Hp, I l1 n h1 → par (n < (l.n : Int)) (∃ b o, (l.a : Option Addr) = some ⟨b, o, none⟩ ∧ ((0 : Int) ≤ n ∧ n < (l.n : Int)) ∧ ∃ n1 : Int, h1.at b (o + n.toNat * 6) = some (.int .u64 n1) ∧ ∃ n2 : Int, h1.at b ((o + n.toNat * 6) + 1) = some (.int .u64 n2) ∧ ∃ n3 : Int, h1.at b ((o + n.toNat * 6) + 2) = some (.int .u64 n3) ∧ ∃ l2 : Sl, h1.at b ((o + n.toNat * 6) + 3) = some (.slice l2.a l2.n l2.c) ∧ ∃ l3 : Sl, h1.at b ((o + n.toNat * 6) + 4) = some (.slice l3.a l3.n l3.c) ∧ ∃ l4 : Sl, h1.at b ((o + n.toNat * 6) + 5) = some (.slice l4.a l4.n l4.c) ∧ ∃ vs, h1.row l2.a (l2.n * 2) vs ∧ (∀ v ∈ vs, Value.oneCell' v = true) ∧ appendD ⟨none, 0, 0⟩ 89 2 16 [.int .i64 0, .int .u64 0] l2.n vs h1 fun l5 h2 => ∃ vs1, h2.row l3.a (l3.n * 7) vs1 ∧ (∀ v ∈ vs1, Value.oneCell' v = true) ∧ appendD ⟨none, 0, 0⟩ 87 7 72 [.int .i64 0, .int .u64 0, .int .i64 0, .int .i64 0, .int .i64 0, .string (ByteArray.mk #[]), .string (ByteArray.mk #[])] l3.n vs1 h2 fun l6 h3 => ∃ vs2, h3.row l4.a (l4.n * 1) vs2 ∧ (∀ v ∈ vs2, Value.oneCell' v = true) ∧ appendD ⟨none, 0, 0⟩ 9 1 16 [.string (ByteArray.mk #[])] l4.n vs2 h3 fun l7 h4 => appendD l1 60 6 96 [.int .u64 0, .int .u64 0, .int .u64 0, .slice none 0 0, .slice none 0 0, .slice none 0 0] 1 [.int .u64 n1, .int .u64 n2, .int .u64 n3, .slice l5.a l5.n l5.c, .slice l6.a l6.n l6.c, .slice l7.a l7.n l7.c] h4 fun l8 h5 => I l8 (IntKind.wrap .i64 (n + 1)) h5 ∧ m l8 (IntKind.wrap .i64 (n + 1)) h5 < m l1 n h1) (Q (.slice l1.a l1.n l1.c) h1))
def F49.W (T49 : Sl → PT) (args : List Value) : PT := match args with
  | [.slice l_a l_n l_c] => T49 ⟨l_a, l_n, l_c⟩
  | _ => fun _ _ => False
def F49.V : List Value → PT := F49.W F49.T
def F12.T (l : Sl) (l1 : Sl) : PT := fun h Q =>
  par ((l.n : Int) = (l1.n : Int)) (∃ (I : Int → Hp → Prop) (m : Int → Hp → Nat), I 0 h ∧ (∀ n : Int, ∀ h1 : Hp, I n h1 → par (n < (l.n : Int)) (∃ b o, (l.a : Option Addr) = some ⟨b, o, none⟩ ∧ ((0 : Int) ≤ n ∧ n < (l.n : Int)) ∧ ∃ n1 : Int, h1.at b (o + n.toNat * 6) = some (.int .u64 n1) ∧ ∃ n2 : Int, h1.at b ((o + n.toNat * 6) + 1) = some (.int .u64 n2) ∧ ∃ n3 : Int, h1.at b ((o + n.toNat * 6) + 2) = some (.int .u64 n3) ∧ ∃ l2 : Sl, h1.at b ((o + n.toNat * 6) + 3) = some (.slice l2.a l2.n l2.c) ∧ ∃ l3 : Sl, h1.at b ((o + n.toNat * 6) + 4) = some (.slice l3.a l3.n l3.c) ∧ ∃ l4 : Sl, h1.at b ((o + n.toNat * 6) + 5) = some (.slice l4.a l4.n l4.c) ∧ ∃ b1 o1, (l1.a : Option Addr) = some ⟨b1, o1, none⟩ ∧ ((0 : Int) ≤ n ∧ n < (l1.n : Int)) ∧ ∃ n4 : Int, h1.at b1 (o1 + n.toNat * 6) = some (.int .u64 n4) ∧ ∃ n5 : Int, h1.at b1 ((o1 + n.toNat * 6) + 1) = some (.int .u64 n5) ∧ ∃ n6 : Int, h1.at b1 ((o1 + n.toNat * 6) + 2) = some (.int .u64 n6) ∧ ∃ l5 : Sl, h1.at b1 ((o1 + n.toNat * 6) + 3) = some (.slice l5.a l5.n l5.c) ∧ ∃ l6 : Sl, h1.at b1 ((o1 + n.toNat * 6) + 4) = some (.slice l6.a l6.n l6.c) ∧ ∃ l7 : Sl, h1.at b1 ((o1 + n.toNat * 6) + 5) = some (.slice l7.a l7.n l7.c) ∧ F23.T n1 n2 n3 l2 l3 l4 n4 n5 n6 l5 l6 l7 h1 fun r h2 => ∃ b2 : Bool, r = .bool b2 ∧ parB b2 (I (IntKind.wrap .i64 (n + 1)) h2 ∧ m (IntKind.wrap .i64 (n + 1)) h2 < m n h1) (Q (.bool false) h2)) (Q (.bool true) h1))) (Q (.bool false) h)
def F12.W (T12 : Sl → Sl → PT) (args : List Value) : PT := match args with
  | [.slice l_a l_n l_c, .slice l1_a l1_n l1_c] => T12 ⟨l_a, l_n, l_c⟩ ⟨l1_a, l1_n, l1_c⟩
  | _ => fun _ _ => False
def F12.V : List Value → PT := F12.W F12.T
end Go.Eng.Ytblghgacokoklaa
end
section

/-
  SPECS, 15: edits as they are handed in; few; place; copied.
-/
set_option linter.unusedSimpArgs false
set_option linter.unusedVariables false
namespace Go.Eng.Ytblghgacokoklaa
def iI (n : Int) : Prop := -9223372036854775808 ≤ n ∧ n < 9223372036854775808
/-- An edit whose numbers fit their kinds. -/
structure Raw (e : Edit) : Prop where
  log : okU e.log
  next : okU e.next
  seq : okU e.seq
  out : ∀ p ∈ e.out, iI p.lv ∧ okU p.num
  inn : ∀ p ∈ e.inn, iI p.lv ∧ okU p.num ∧ iI p.weight ∧ iI p.bytes ∧ iI p.entries ∧ p.least.size ≤ 9223372036854775807 ∧ p.greatest.size ≤ 9223372036854775807
  ptr : ∀ p ∈ e.ptr, p.size ≤ 9223372036854775807
/-- A list of edits that was handed in. -/
structure Args (h : Hp) (l : Sl) (L : List EdS) : Prop where
  row : h.row l.a (l.n * 6) (edV L)
  at_ : ∀ x ∈ L, EdAt h x.e x.a x.b x.c
  raw : ∀ x ∈ L, Raw x.e
  big : ∀ x ∈ L, x.e.out.length ≤ 9223372036854775807 ∧ x.e.inn.length ≤ 9223372036854775807 ∧ x.e.ptr.length ≤ 9223372036854775807
theorem Args.keep {h h' : Hp} (k : Keep h h') {l : Sl} {L : List EdS} (A : Args h l L) : Args h' l L := ⟨k.row A.row, fun x hx => (A.at_ x hx).keep k, A.raw, A.big⟩
theorem Args.n {h : Hp} {l : Sl} {L : List EdS} (A : Args h l L) : l.n = L.length := by
  have h1 := A.row.1
  unfold edV at h1
  rw [flat_length EdS.cells 6 (fun _ => rfl)] at h1
  omega
def adv (c m : Int) : Int := if 0 ≤ c then c - m else c
theorem add_q {h0 h : Hp} {b : Nat} {c n m : Int} {Q : Value → Hp → Prop} (hb0 : h0 b = none) (K : Keep h0 h) (hb : h b = some (.cells ⟨[.int .i64 c]⟩ 113 (0, 0))) (hn : n = IntKind.wrap .i64 m) (hm0 : 0 ≤ m) (hm1 : m ≤ 9223372036854775808) (hc : c ≤ 1000000)
    (hQ : ∀ r h', Keep h0 h' → h' b = some (.cells ⟨[.int .i64 (adv c m)]⟩ 113 (0, 0)) → Q (.bool r) h') : F66.T (some ⟨b, 0, none⟩) n h Q := by
  have hat2 : h.at b 0 = some (.int .i64 c) := by unfold Hp.at; rw [hb]; rfl
  refine ⟨b, 0, rfl, c, hat2, fun hc0 => ⟨b, 0, rfl, c, hat2, ?_⟩, fun hc0 => ⟨b, 0, rfl, c, hat2, fun h0 => absurd h0 hc0, fun h0 => ?_⟩⟩
  · have w2 : IntKind.wrap .i64 (c - n) = c - m := by
      rw [hn]
      simp [IntKind.wrap, IntKind.signed, IntKind.bits]
      omega
    rw [w2]
    have hw := wr_at (o := 0) (vs := [.int .i64 (c - m)]) hb
    have kw := keep_wr_new hb0 K 0 [.int .i64 (c - m)]
    have ha : adv c m = c - m := by unfold adv; rw [if_pos hc0]
    rw [ha] at hQ
    exact ⟨b, 0, rfl, ⟨_, _, _, hb, Nat.le_of_ble_eq_true rfl, fun j _ _ => by simp⟩, b, 0, rfl, c - m, by unfold Hp.at; rw [hw]; rfl, fun _ => hQ true _ kw hw, fun _ => hQ false _ kw hw⟩
  · have ha : adv c m = c := by unfold adv; rw [if_neg hc0]
    rw [ha] at hQ
    exact hQ false h K hb
theorem text_q {h0 h : Hp} {b : Nat} {c : Int} {s : ByteArray} {Q : Value → Hp → Prop} (hb0 : h0 b = none) (K : Keep h0 h) (hb : h b = some (.cells ⟨[.int .i64 c]⟩ 113 (0, 0))) (hs : s.size ≤ 9223372036854775807) (hc : c ≤ 1000000)
    (hQ : ∀ h', Keep h0 h' → h' b = some (.cells ⟨[.int .i64 (adv c (1 + (s.size : Int)))]⟩ 113 (0, 0)) → Q (.tuple ⟨[]⟩) h') : F95.T (some ⟨b, 0, none⟩) s h Q :=
  add_q hb0 K hb rfl (by omega) (by omega) hc fun r h' K' hb' => ⟨r, rfl, fun _ => hQ h' K' hb', fun _ => hQ h' K' hb'⟩
theorem wrap_id {n : Nat} (h : n ≤ 9223372036854775807) : (n : Int) = IntKind.wrap .i64 (n : Int) := (wrap_i64 (by omega) (by omega)).symm
theorem ptr_q {h0 h : Hp} {l2 : Sl} {ptr : List ByteArray} {b : Nat} {c d : Int} {Q : Value → Hp → Prop} (hr : h0.row l2.a l2.n (ptrV ptr)) (hs : ∀ s ∈ ptr, s.size ≤ 9223372036854775807) (hb0 : h0 b = none) (K : Keep h0 h) (hb : h b = some (.cells ⟨[.int .i64 c]⟩ 113 (0, 0))) (hc : c ≤ 1000000) (hd : 0 ≤ c → c ≤ d)
    (hQ : ∀ h' c', Keep h0 h' → h' b = some (.cells ⟨[.int .i64 c']⟩ 113 (0, 0)) → c' ≤ 1000000 → (0 ≤ c' → c' + (ptr.length : Int) ≤ d) → Q (.tuple ⟨[]⟩) h') :
    ∃ (I : Int → Hp → Prop) (m : Int → Hp → Nat), I 0 h ∧ (∀ n3 : Int, ∀ h3 : Hp, I n3 h3 → par (n3 < (l2.n : Int)) (F28.T (some ⟨b, 0, none⟩) h3 fun r1 h4 => ∃ b1 : Bool, r1 = .bool b1 ∧ parB b1 (∃ b2 o, (l2.a : Option Addr) = some ⟨b2, o, none⟩ ∧ ((0 : Int) ≤ n3 ∧ n3 < (l2.n : Int)) ∧ ∃ s : ByteArray, h4.at b2 (o + n3.toNat) = some (.string s) ∧ F95.T (some ⟨b, 0, none⟩) s h4 fun r2 h5 => I (IntKind.wrap .i64 (n3 + 1)) h5 ∧ m (IntKind.wrap .i64 (n3 + 1)) h5 < m n3 h3) (Q (.tuple ⟨[]⟩) h4)) (Q (.tuple ⟨[]⟩) h3)) := by
  have hln : l2.n = ptr.length := by have := hr.1; unfold ptrV at this; rw [List.length_map] at this; exact this.symm
  refine ⟨fun n h1 => ∃ (i : Nat) (c1 : Int), n = (i : Int) ∧ i ≤ ptr.length ∧ Keep h0 h1 ∧ h1 b = some (.cells ⟨[.int .i64 c1]⟩ 113 (0, 0)) ∧ c1 ≤ 1000000 ∧ (0 ≤ c1 → c1 + (i : Int) ≤ c), fun n _ => ptr.length - n.toNat, ⟨0, c, rfl, Nat.zero_le _, K, hb, hc, fun h => by omega⟩, ?_⟩
  rintro n h1 ⟨i, c1, rfl, hi, K1, hb1, hc1, hsum⟩
  refine ⟨fun hlt => ?_, fun hge => hQ h1 c1 K1 hb1 hc1 fun h0' => by have := hsum h0'; have := hd (by omega); omega⟩
  have ia : i < ptr.length := by omega
  refine ok_q hb1 (fun hp => ⟨true, rfl, fun _ => ?_, fun h0' => (by cases h0')⟩) (fun hp => ⟨false, rfl, fun h0' => (by cases h0'), fun _ => hQ h1 c1 K1 hb1 hc1 fun h0' => absurd h0' hp⟩)
  obtain ⟨b0, o0, ha0, hat⟩ := row_get (K1.row hr) (i := i) (by omega)
  have hsz := hs _ (List.getElem_mem ia)
  have hsm := hsum hp
  have w3 : IntKind.wrap .i64 ((i : Int) + 1) = ((i + 1 : Nat) : Int) := by rw [wrap_i64 (by omega) (by omega)]; omega
  refine ⟨b0, o0, ha0, ⟨by omega, hlt⟩, ptr[i], by rw [Int.toNat_natCast, hat i (by omega)]; simp [ptrV, ia], ?_⟩
  refine text_q hb0 K1 hb1 hsz hc1 fun h' K' hb' => ?_
  rw [w3]
  refine ⟨⟨i + 1, _, rfl, ia, K', hb', ?_, ?_⟩, by dsimp only; omega⟩
  · unfold adv; rw [if_pos hp]; omega
  · unfold adv; rw [if_pos hp]; intro _; omega
theorem inn_q {h0 h : Hp} {l1 : Sl} {inn : List Placed} {b : Nat} {c d : Int} {J : Hp → Prop} (hr : h0.row l1.a (l1.n * 7) (inV inn)) (hs : ∀ p ∈ inn, p.least.size ≤ 9223372036854775807 ∧ p.greatest.size ≤ 9223372036854775807) (hb0 : h0 b = none) (K : Keep h0 h) (hb : h b = some (.cells ⟨[.int .i64 c]⟩ 113 (0, 0))) (hc : c ≤ 1000000) (hd : 0 ≤ c → c ≤ d)
    (hJ : ∀ h' c', Keep h0 h' → h' b = some (.cells ⟨[.int .i64 c']⟩ 113 (0, 0)) → c' ≤ 1000000 → (0 ≤ c' → c' + (inn.length : Int) ≤ d) → J h') :
    ∃ (I1 : Int → Hp → Prop) (m1 : Int → Hp → Nat), I1 0 h ∧ (∀ n4 : Int, ∀ h6 : Hp, I1 n4 h6 → par (n4 < (l1.n : Int)) (F28.T (some ⟨b, 0, none⟩) h6 fun r3 h7 => ∃ b3 : Bool, r3 = .bool b3 ∧ parB b3 (∃ b4 o1, (l1.a : Option Addr) = some ⟨b4, o1, none⟩ ∧ ((0 : Int) ≤ n4 ∧ n4 < (l1.n : Int)) ∧ ∃ s1 : ByteArray, h7.at b4 (((o1 + n4.toNat * 7) + 1) + 4) = some (.string s1) ∧ F95.T (some ⟨b, 0, none⟩) s1 h7 fun r4 h8 => ∃ b5 o2, (l1.a : Option Addr) = some ⟨b5, o2, none⟩ ∧ ((0 : Int) ≤ n4 ∧ n4 < (l1.n : Int)) ∧ ∃ s2 : ByteArray, h8.at b5 (((o2 + n4.toNat * 7) + 1) + 5) = some (.string s2) ∧ F66.T (some ⟨b, 0, none⟩) (s2.size : Int) h8 fun r5 h9 => ∃ b6 : Bool, r5 = .bool b6 ∧ parB b6 (I1 (IntKind.wrap .i64 (n4 + 1)) h9 ∧ m1 (IntKind.wrap .i64 (n4 + 1)) h9 < m1 n4 h6) (I1 (IntKind.wrap .i64 (n4 + 1)) h9 ∧ m1 (IntKind.wrap .i64 (n4 + 1)) h9 < m1 n4 h6)) (J h7)) (J h6)) := by
  have hln : l1.n = inn.length := by
    have h1 := hr.1
    unfold inV at h1
    rw [flat_length Placed.cells 7 (fun _ => rfl)] at h1
    omega
  refine ⟨fun n h1 => ∃ (i : Nat) (c1 : Int), n = (i : Int) ∧ i ≤ inn.length ∧ Keep h0 h1 ∧ h1 b = some (.cells ⟨[.int .i64 c1]⟩ 113 (0, 0)) ∧ c1 ≤ 1000000 ∧ (0 ≤ c1 → c1 + (i : Int) ≤ c), fun n _ => inn.length - n.toNat, ⟨0, c, rfl, Nat.zero_le _, K, hb, hc, fun h => by omega⟩, ?_⟩
  rintro n h1 ⟨i, c1, rfl, hi, K1, hb1, hc1, hsum⟩
  refine ⟨fun hlt => ?_, fun hge => hJ h1 c1 K1 hb1 hc1 fun h0' => by have := hsum h0'; have := hd (by omega); omega⟩
  have ia : i < inn.length := by omega
  refine ok_q hb1 (fun hp => ⟨true, rfl, fun _ => ?_, fun h0' => (by cases h0')⟩) (fun hp => ⟨false, rfl, fun h0' => (by cases h0'), fun _ => hJ h1 c1 K1 hb1 hc1 fun h0' => absurd h0' hp⟩)
  obtain ⟨b0, o0, ha0, hat⟩ := row_get (hr) (i := i * 7) (by omega)
  have cc : ∀ j, j < 7 → h0.at b0 ((o0 + i * 7) + j) = (Placed.cells inn[i])[j]? := fun j hj => by
    rw [Nat.add_assoc, hat _ (by omega)]
    exact flat_get Placed.cells 7 (fun _ => rfl) inn i j ia hj
  have hsz := hs _ (List.getElem_mem ia)
  have hsm := hsum hp
  have w3 : IntKind.wrap .i64 ((i : Int) + 1) = ((i + 1 : Nat) : Int) := by rw [wrap_i64 (by omega) (by omega)]; omega
  refine ⟨b0, o0, ha0, ⟨by omega, hlt⟩, inn[i].least, by rw [Int.toNat_natCast]; exact K1.at (cc 5 (by decide)), ?_⟩
  refine text_q hb0 K1 hb1 hsz.1 hc1 fun h2 K2 hb2 => ?_
  refine ⟨b0, o0, ha0, ⟨by omega, hlt⟩, inn[i].greatest, by rw [Int.toNat_natCast]; exact K2.at (cc 6 (by decide)), ?_⟩
  have ha : adv c1 (1 + (inn[i].least.size : Int)) = c1 - (1 + (inn[i].least.size : Int)) := by unfold adv; rw [if_pos hp]
  rw [ha] at hb2
  refine add_q hb0 K2 hb2 (wrap_id hsz.2) (by omega) (by omega) (by omega) fun r h3 K3 hb3 => ?_
  rw [w3]
  have fin : (∃ (i' : Nat) (c1' : Int), ((i + 1 : Nat) : Int) = (i' : Int) ∧ i' ≤ inn.length ∧ Keep h0 h3 ∧ h3 b = some (.cells ⟨[.int .i64 c1']⟩ 113 (0, 0)) ∧ c1' ≤ 1000000 ∧ (0 ≤ c1' → c1' + (i' : Int) ≤ c)) ∧ inn.length - (((i + 1 : Nat) : Int)).toNat < inn.length - ((i : Int)).toNat := by
    refine ⟨⟨i + 1, _, rfl, ia, K3, hb3, ?_, ?_⟩, by omega⟩
    · unfold adv; split <;> omega
    · unfold adv; split <;> (intro _; omega)
  exact ⟨r, rfl, fun _ => fin, fun _ => fin⟩
theorem edit_q {h0 h : Hp} {x : EdS} {b : Nat} {c : Int} {Q : Value → Hp → Prop} (E : EdAt h0 x.e x.a x.b x.c) (R : Raw x.e) (hbig : x.e.out.length ≤ 9223372036854775807) (hb0 : h0 b = none) (K : Keep h0 h) (hb : h b = some (.cells ⟨[.int .i64 c]⟩ 113 (0, 0))) (hc : c ≤ 1000000)
    (hQ : ∀ h' c', Keep h0 h' → h' b = some (.cells ⟨[.int .i64 c']⟩ 113 (0, 0)) → c' ≤ 1000000 → (0 ≤ c' → c' + (1 + (x.e.out.length : Int) + x.e.inn.length + x.e.ptr.length) ≤ c) → Q (.tuple ⟨[]⟩) h') : F79.T (some ⟨b, 0, none⟩) x.e.log x.e.next x.e.seq x.a x.b x.c h Q := by
  have n1 := E.nout
  have go : ∀ h1 : Hp, Keep h0 h1 → h1 b = some (.cells ⟨[.int .i64 (adv c (1 + (x.e.out.length : Int)))]⟩ 113 (0, 0)) → (∃ J : Hp → Prop, (∀ h2 : Hp, J h2 → ∃ (I : Int → Hp → Prop) (m : Int → Hp → Nat), I 0 h2 ∧ (∀ n3 : Int, ∀ h3 : Hp, I n3 h3 → par (n3 < (x.c.n : Int)) (F28.T (some ⟨b, 0, none⟩) h3 fun r1 h4 => ∃ b1 : Bool, r1 = .bool b1 ∧ parB b1 (∃ b2 o, (x.c.a : Option Addr) = some ⟨b2, o, none⟩ ∧ ((0 : Int) ≤ n3 ∧ n3 < (x.c.n : Int)) ∧ ∃ s : ByteArray, h4.at b2 (o + n3.toNat) = some (.string s) ∧ F95.T (some ⟨b, 0, none⟩) s h4 fun r2 h5 => I (IntKind.wrap .i64 (n3 + 1)) h5 ∧ m (IntKind.wrap .i64 (n3 + 1)) h5 < m n3 h3) (Q (.tuple ⟨[]⟩) h4)) (Q (.tuple ⟨[]⟩) h3))) ∧ (∃ (I1 : Int → Hp → Prop) (m1 : Int → Hp → Nat), I1 0 h1 ∧ (∀ n4 : Int, ∀ h6 : Hp, I1 n4 h6 → par (n4 < (x.b.n : Int)) (F28.T (some ⟨b, 0, none⟩) h6 fun r3 h7 => ∃ b3 : Bool, r3 = .bool b3 ∧ parB b3 (∃ b4 o1, (x.b.a : Option Addr) = some ⟨b4, o1, none⟩ ∧ ((0 : Int) ≤ n4 ∧ n4 < (x.b.n : Int)) ∧ ∃ s1 : ByteArray, h7.at b4 (((o1 + n4.toNat * 7) + 1) + 4) = some (.string s1) ∧ F95.T (some ⟨b, 0, none⟩) s1 h7 fun r4 h8 => ∃ b5 o2, (x.b.a : Option Addr) = some ⟨b5, o2, none⟩ ∧ ((0 : Int) ≤ n4 ∧ n4 < (x.b.n : Int)) ∧ ∃ s2 : ByteArray, h8.at b5 (((o2 + n4.toNat * 7) + 1) + 5) = some (.string s2) ∧ F66.T (some ⟨b, 0, none⟩) (s2.size : Int) h8 fun r5 h9 => ∃ b6 : Bool, r5 = .bool b6 ∧ parB b6 (I1 (IntKind.wrap .i64 (n4 + 1)) h9 ∧ m1 (IntKind.wrap .i64 (n4 + 1)) h9 < m1 n4 h6) (I1 (IntKind.wrap .i64 (n4 + 1)) h9 ∧ m1 (IntKind.wrap .i64 (n4 + 1)) h9 < m1 n4 h6)) (J h7)) (J h6)))) := by
    intro h1 K1 hb1
    have hc1 : adv c (1 + (x.e.out.length : Int)) ≤ 1000000 := by unfold adv; split <;> omega
    have hd1 : 0 ≤ adv c (1 + (x.e.out.length : Int)) → adv c (1 + (x.e.out.length : Int)) + (1 + (x.e.out.length : Int)) ≤ c := by unfold adv; split <;> (intro _; omega)
    refine ⟨fun h2 => ∃ c2, Keep h0 h2 ∧ h2 b = some (.cells ⟨[.int .i64 c2]⟩ 113 (0, 0)) ∧ c2 ≤ 1000000 ∧ (0 ≤ c2 → c2 + (x.e.inn.length : Int) ≤ adv c (1 + (x.e.out.length : Int))), ?_, ?_⟩
    · rintro h2 ⟨c2, K2, hb2, hc2, hs2⟩
      refine ptr_q (d := c2) E.ptr R.ptr hb0 K2 hb2 hc2 (fun _ => Int.le_refl _) fun h3 c3 K3 hb3 hc3 hs3 => hQ h3 c3 K3 hb3 hc3 fun h0' => ?_
      have := hs3 h0'
      have := hs2 (by omega)
      have := hd1 (by omega)
      omega
    · exact inn_q (d := adv c (1 + (x.e.out.length : Int))) E.inn (fun p hp => (R.inn p hp).2.2.2.2.2) hb0 K1 hb1 hc1 (fun _ => Int.le_refl _) fun h3 c3 K3 hb3 hc3 hs3 => ⟨c3, K3, hb3, hc3, hs3⟩
  refine add_q hb0 K hb (m := 1 + (x.e.out.length : Int)) (by rw [n1]) (by omega) (by omega) hc fun r h1 K1 hb1 => ⟨r, rfl, fun _ => go h1 K1 hb1, fun _ => go h1 K1 hb1⟩
/-- How many parts. -/
def parts (L : List EdS) : Nat := (L.map fun x => 1 + x.e.out.length + x.e.inn.length + x.e.ptr.length).sum
theorem parts_succ {L : List EdS} {i : Nat} (h : i < L.length) : parts (L.take (i + 1)) = parts (L.take i) + (1 + L[i].e.out.length + L[i].e.inn.length + L[i].e.ptr.length) := by
  rw [List.take_succ_eq_append_getElem h]
  unfold parts
  rw [List.map_append, List.sum_append]
  simp only [List.map_cons, List.map_nil, List.sum_cons, List.sum_nil, Nat.add_zero]
theorem parts_cons (x : EdS) (L : List EdS) : parts (x :: L) = 1 + x.e.out.length + x.e.inn.length + x.e.ptr.length + parts L := by simp [parts]
theorem parts_len (L : List EdS) : L.length ≤ parts L := by
  induction L with
  | nil => simp
  | cons a l ih => rw [parts_cons, List.length_cons]; omega
theorem few_spec {h : Hp} {l : Sl} {L : List EdS} {Q : Value → Hp → Prop} (A : Args h l L) (hT : ∀ h', Keep h h' → parts L ≤ 10000 → Q (.bool true) h') (hF : ∀ h', Keep h h' → Q (.bool false) h') : F16.T l h Q := by
  have hln := A.n
  intro b hb
  refine ⟨some ⟨b, 0, none⟩, rfl, ?_⟩
  have hb1 : (h.new b (.cells ⟨[.int .i64 10000]⟩ 113 (0, 0))) b = some (.cells ⟨[.int .i64 10000]⟩ 113 (0, 0)) := new_self _ _ _
  have fin : ∀ h' c, Keep h h' → h' b = some (.cells ⟨[.int .i64 c]⟩ 113 (0, 0)) → (0 ≤ c → parts L ≤ 10000) → F28.T (some ⟨b, 0, none⟩) h' fun r2 h3 => ∃ b : Bool, r2 = .bool b ∧ parB b (Q (.bool true) h3) (Q (.bool false) h3) := fun h' c K' hc ht =>
    ok_q hc (fun h0 => ⟨true, rfl, fun _ => hT h' K' (ht h0), fun h1 => (by cases h1)⟩) (fun h0 => ⟨false, rfl, fun h1 => (by cases h1), fun _ => hF h' K'⟩)
  refine ⟨fun n h1 => ∃ (i : Nat) (c : Int), n = (i : Int) ∧ i ≤ L.length ∧ Keep h h1 ∧ h1 b = some (.cells ⟨[.int .i64 c]⟩ 113 (0, 0)) ∧ c ≤ 1000000 ∧ (0 ≤ c → c + (parts (L.take i) : Int) ≤ 10000), fun n _ => L.length - n.toNat, ⟨0, 10000, rfl, Nat.zero_le _, Keep.new hb _, hb1, by decide, fun _ => by simp [parts]⟩, ?_⟩
  rintro n h1 ⟨i, c, rfl, hi, K1, hbc, hc, hsum⟩
  refine ⟨fun hlt => ?_, fun hge => ?_⟩
  · have ia : i < L.length := by omega
    refine ok_q hbc (fun hp => ⟨true, rfl, fun _ => ?_, fun h0 => (by cases h0)⟩) (fun hp => ⟨false, rfl, fun h0 => (by cases h0), fun _ => fin h1 c K1 hbc fun h0 => absurd h0 hp⟩)
    obtain ⟨b0, o0, ha0, hat⟩ := row_get (K1.row A.row) (i := i * 6) (by omega)
    have cc : ∀ j, j < 6 → h1.at b0 ((o0 + i * 6) + j) = (EdS.cells L[i])[j]? := fun j hj => by
      rw [Nat.add_assoc, hat _ (by omega)]
      exact flat_get EdS.cells 6 (fun _ => rfl) L i j ia hj
    have hx := List.getElem_mem ia
    have hs := hsum hp
    have hpl := parts_len (L.take i)
    rw [List.length_take, Nat.min_eq_left hi] at hpl
    have hps := parts_succ ia
    have w3 : IntKind.wrap .i64 ((i : Int) + 1) = ((i + 1 : Nat) : Int) := by rw [wrap_i64 (by omega) (by omega)]; omega
    rw [Int.toNat_natCast, w3]
    refine ⟨b0, o0, ha0, ⟨by omega, hlt⟩, _, cc 0 (by decide), _, cc 1 (by decide), _, cc 2 (by decide), _, cc 3 (by decide), _, cc 4 (by decide), _, cc 5 (by decide), ?_⟩
    refine edit_q (x := L[i]) (A.at_ _ hx) (A.raw _ hx) (A.big _ hx).1 hb K1 hbc hc fun h2 c2 K2 hb2 hc2 hs2 => ⟨⟨i + 1, c2, rfl, ia, K2, hb2, hc2, fun h0 => ?_⟩, by dsimp only; omega⟩
    have := hs2 h0
    rw [hps]
    omega
  · have hie : i = L.length := by omega
    subst hie
    rw [List.take_length] at hsum
    exact fin h1 c K1 hbc fun h0 => by have := hsum h0; omega
theorem place_spec {h : Hp} {n m : Int} {Q : Value → Hp → Prop} (hn : iI n) (hm : 0 < m) (hQ : ∀ r, 0 ≤ r → r < m → Q (.int .i64 r) h) : F19.T n m h Q := by
  have key : ∀ a : Int, 0 ≤ a → 0 ≤ Int.tmod a m ∧ Int.tmod a m < m := fun a ha => ⟨Int.tmod_nonneg m ha, Int.tmod_lt_of_pos a hm⟩
  have h1 := hn.1
  have h2 := hn.2
  refine ⟨fun hlt => ⟨by omega, ?_⟩, fun hge => ⟨by omega, ?_⟩⟩
  · have w1 : IntKind.wrap .i64 (n + 1) = n + 1 := wrap_i64 (by omega) (by omega)
    have w2 : IntKind.wrap .i64 (0 - (n + 1)) = 0 - (n + 1) := wrap_i64 (by omega) (by omega)
    rw [w1, w2]
    have := key (0 - (n + 1)) (by omega)
    exact hQ _ this.1 this.2
  · have := key n (by omega)
    exact hQ _ this.1 this.2
end Go.Eng.Ytblghgacokoklaa
end
section

/-
  SPECS, 16: copies; writing into one's own lists.
-/
set_option linter.unusedSimpArgs false
set_option linter.unusedVariables false
namespace Go.Eng.Ytblghgacokoklaa
structure Three (h : Hp) (x : EdS) : Prop where
  a : Buf h x.a 2 89 (outV x.e.out)
  b : Buf h x.b 7 87 (inV x.e.inn)
  c : Buf h x.c 1 9 (ptrV x.e.ptr)
def Ap (y z : EdS) : Prop := Off y.a z.a ∧ Off y.b z.b ∧ Off y.c z.c
def PW (L : List EdS) : Prop := L.Pairwise fun y z => Ap y z ∧ Ap z y
/-- A list of edits of one's own. -/
structure Ws (h0 h : Hp) (l1 : Sl) (L : List EdS) : Prop where
  B : Buf h l1 6 60 (edV L)
  T : ∀ y ∈ L, Three h y
  N : ∀ y ∈ L, (y.a.a = none ∨ New h0 y.a) ∧ (y.b.a = none ∨ New h0 y.b) ∧ (y.c.a = none ∨ New h0 y.c)
  N1 : l1.a = none ∨ New h0 l1
  K : Keep h0 h
/-- WRITING A CELL of a buffer. -/
theorem buf_set {h : Hp} {s : Sl} {sz t k : Nat} {vs : List Value} (B : Buf h s sz t vs) (hk : k < vs.length) : ∃ b, s.a = some ⟨b, 0, none⟩ ∧ h.at b k = vs[k]? ∧ h.canW b k 1 ∧ ∀ v, Upd h (h.wr b k [v]) s s ∧ Buf (h.wr b k [v]) s sz t (vs.set k v) := by
  rcases B.own with ⟨ha, hc⟩ | ⟨b, c, f, ha, hb, hsz, hf, ht⟩
  · have h1 := B.len
    have h2 := B.cap
    have : s.n = 0 := by omega
    rw [this, Nat.zero_mul] at h1
    omega
  · have hlen : vs.length ≤ c.size := by
      rw [B.len]
      exact Nat.le_trans (Nat.mul_le_mul_right _ B.cap) hsz
    have hget : c[k]? = vs[k]? := by
      rw [← ht, List.getElem?_take, if_pos hk, Array.getElem?_toList]
    refine ⟨b, ha, by unfold Hp.at; rw [hb]; exact hget, ⟨c, t, f, hb, by omega, fun j h1 h2 => hf j (by omega)⟩, fun v => ⟨⟨fun j x hj e => ?_, .inl rfl, fun j e => ?_⟩, ⟨by rw [List.length_set]; exact B.len, B.cap, .inr ⟨b, (setL c.toList k [v]).toArray, f, ha, wr_at hb, ?_, ?_, ?_⟩⟩⟩⟩
    · have hjb : j ≠ b := fun q => hj 0 (by rw [q]; exact ha)
      unfold Hp.wr
      rw [if_neg hjb]
      exact e
    · unfold Hp.wr at e
      by_cases hjb : j = b
      · rw [if_pos hjb, hb] at e; cases e
      · rw [if_neg hjb] at e; exact e
    · simp only [List.size_toArray, setL_length, Array.length_toList]; exact hsz
    · intro j hj
      simp only [List.size_toArray, setL_length, Array.length_toList] at hj
      exact hf j hj
    · show ((c.toList.set k v).take (vs.set k v).length) = vs.set k v
      rw [List.length_set, List.take_set, ht]
theorem outV_len (o : List Place) : (outV o).length = o.length * 2 := flat_length Place.cells 2 (fun _ => rfl) o
theorem inV_len (o : List Placed) : (inV o).length = o.length * 7 := flat_length Placed.cells 7 (fun _ => rfl) o
theorem edV_len (o : List EdS) : (edV o).length = o.length * 6 := flat_length EdS.cells 6 (fun _ => rfl) o
end Go.Eng.Ytblghgacokoklaa
end
section

/-
  What the model answers for itself: how two strings stand to one another.
-/
set_option linter.unusedVariables false
open Go.Proofs
namespace Go.Eng.Ytblghgacokoklaa
def cmpI (a b : ByteArray) : Int := Go.Lib.compareBytes a.data.toList b.data.toList
def F121.T (s s1 : ByteArray) : PT := fun h Q => Q (.int .i64 (cmpI s s1)) h
def F121.W (T121 : ByteArray → ByteArray → PT) (args : List Value) : PT := match args with
  | [.string s, .string s1] => T121 s s1
  | _ => fun _ _ => False
def F121.V : List Value → PT := F121.W F121.T
theorem F121.fd : Extern.findNext Try.f121 = none := by kernel_rfl
theorem F121.fx : Extern.find Try.f121 = some Extern.BytealgCompare.compare := by kernel_rfl
theorem F121.ok : ExtOk Try.prog 121 F121.V := by
  intro args h Q hq w
  unfold F121.V F121.W at hq
  split at hq
  · refine ⟨_, ?_, hq⟩
    unfold callFunc
    simp only [Sem.run_bind, run_program, Result.andThen_ok, Try.func121]
    have h1 : (Try.f121.name == "runtime.NumGoroutine") = false := by kernel_rfl
    have h2 : Try.f121.body.isNone = true := by kernel_rfl
    simp only [h1, Bool.false_eq_true, if_false, h2, if_true, F121.fd, F121.fx, Sem.run_bind]
    have hm : (mark (.extern 121)).run Try.prog w = .ok () w := rfl
    simp only [hm, Go.Lib.run_compareString, Result.andThen_ok, Sem.run_pure]
    rfl
  · exact hq.elim
end Go.Eng.Ytblghgacokoklaa
end
section

set_option maxRecDepth 100000
set_option linter.unusedVariables false
open Go.Proofs
namespace Go.Eng.Ytblghgacokoklaa
def F115.T (s : ByteArray) (s1 : ByteArray) : PT := fun h Q =>
  F121.T s s1 h fun r h1 => ∃ n : Int, r = .int .i64 n ∧ Q (.int .i64 n) h1
theorem F115.gen (V : Value → List Value → PT) (T121 : ByteArray → ByteArray → PT) (s : ByteArray) (s1 : ByteArray) : denF Try.prog [] [(121, F121.W T121)] V [] Try.f115 [.v (.string s), .v (.string s1)] = fun h Q =>
  T121 s s1 h fun r h1 => ∃ n : Int, r = .int .i64 n ∧ Q (.int .i64 n) h1 := by kernel_rfl
theorem F115.den (V : Value → List Value → PT) (s : ByteArray) (s1 : ByteArray) : denF Try.prog [] [(121, F121.V)] V [] Try.f115 [.v (.string s), .v (.string s1)] = F115.T s s1 := F115.gen V F121.T s s1
def F115.W (T115 : ByteArray → ByteArray → PT) (args : List Value) : PT := match args with
  | [.string s, .string s1] => T115 s s1
  | _ => fun _ _ => False
def F115.V : List Value → PT := F115.W F115.T
theorem F115.ok : FOk Try.prog 115 F115.V := by
  refine ⟨⟨_, Try.func115, rfl, rfl⟩, fun args => ?_⟩
  have hG : GOk Try.prog [(121, F121.V)] := GOk.consX F121.ok (GOk.nil)
  have hV : VOk Try.prog noV := noV_ok
  unfold F115.V F115.W
  split
  · exact denF_okV hG hV Try.func115 (fun h Q hq => (F115.den _ _ _) ▸ hq)
  · exact fun h Q hq => hq.elim
def F104.T (s : ByteArray) (s1 : ByteArray) : PT := fun h Q =>
  F115.T s s1 h fun r h1 => ∃ n : Int, r = .int .i64 n ∧ Q (.int .i64 n) h1
theorem F104.gen (V : Value → List Value → PT) (T115 : ByteArray → ByteArray → PT) (s : ByteArray) (s1 : ByteArray) : denF Try.prog [] [(115, F115.W T115)] V [] Try.f104 [.v (.string s), .v (.string s1)] = fun h Q =>
  T115 s s1 h fun r h1 => ∃ n : Int, r = .int .i64 n ∧ Q (.int .i64 n) h1 := by kernel_rfl
theorem F104.den (V : Value → List Value → PT) (s : ByteArray) (s1 : ByteArray) : denF Try.prog [] [(115, F115.V)] V [] Try.f104 [.v (.string s), .v (.string s1)] = F104.T s s1 := F104.gen V F115.T s s1
def F104.W (T104 : ByteArray → ByteArray → PT) (args : List Value) : PT := match args with
  | [.string s, .string s1] => T104 s s1
  | _ => fun _ _ => False
def F104.V : List Value → PT := F104.W F104.T
theorem F104.ok : FOk Try.prog 104 F104.V := by
  refine ⟨⟨_, Try.func104, rfl, rfl⟩, fun args => ?_⟩
  have hG : GOk Try.prog [(115, F115.V)] := GOk.cons F115.ok (GOk.nil)
  have hV : VOk Try.prog noV := noV_ok
  unfold F104.V F104.W
  split
  · exact denF_okV hG hV Try.func104 (fun h Q hq => (F104.den _ _ _) ▸ hq)
  · exact fun h Q hq => hq.elim
def F103.T (n : Int) (n1 : Int) (n2 : Int) (n3 : Int) (s : ByteArray) (s1 : ByteArray) (n4 : Int) (n5 : Int) (n6 : Int) (n7 : Int) (s2 : ByteArray) (s3 : ByteArray) : PT := fun h Q =>
  F104.T s s2 h fun r h1 => ∃ n8 : Int, r = .int .i64 n8 ∧ Q (.int .i64 n8) h1
theorem F103.gen (V : Value → List Value → PT) (T104 : ByteArray → ByteArray → PT) (n : Int) (n1 : Int) (n2 : Int) (n3 : Int) (s : ByteArray) (s1 : ByteArray) (n4 : Int) (n5 : Int) (n6 : Int) (n7 : Int) (s2 : ByteArray) (s3 : ByteArray) : denF Try.prog [2, 3] [(104, F104.W T104)] V [] Try.f103 [.v (.agg ⟨[.int .u64 n, .int .i64 n1, .int .i64 n2, .int .i64 n3, .string s, .string s1]⟩), .v (.agg ⟨[.int .u64 n4, .int .i64 n5, .int .i64 n6, .int .i64 n7, .string s2, .string s3]⟩)] = fun h Q =>
  T104 s s2 h fun r h1 => ∃ n8 : Int, r = .int .i64 n8 ∧ Q (.int .i64 n8) h1 := by kernel_rfl
theorem F103.den (V : Value → List Value → PT) (n : Int) (n1 : Int) (n2 : Int) (n3 : Int) (s : ByteArray) (s1 : ByteArray) (n4 : Int) (n5 : Int) (n6 : Int) (n7 : Int) (s2 : ByteArray) (s3 : ByteArray) : denF Try.prog [2, 3] [(104, F104.V)] V [] Try.f103 [.v (.agg ⟨[.int .u64 n, .int .i64 n1, .int .i64 n2, .int .i64 n3, .string s, .string s1]⟩), .v (.agg ⟨[.int .u64 n4, .int .i64 n5, .int .i64 n6, .int .i64 n7, .string s2, .string s3]⟩)] = F103.T n n1 n2 n3 s s1 n4 n5 n6 n7 s2 s3 := F103.gen V F104.T n n1 n2 n3 s s1 n4 n5 n6 n7 s2 s3
def F103.W (T103 : Int → Int → Int → Int → ByteArray → ByteArray → Int → Int → Int → Int → ByteArray → ByteArray → PT) (args : List Value) : PT := match args with
  | [.agg ⟨[.int .u64 n, .int .i64 n1, .int .i64 n2, .int .i64 n3, .string s, .string s1]⟩, .agg ⟨[.int .u64 n4, .int .i64 n5, .int .i64 n6, .int .i64 n7, .string s2, .string s3]⟩] => T103 n n1 n2 n3 s s1 n4 n5 n6 n7 s2 s3
  | _ => fun _ _ => False
def F103.V : List Value → PT := F103.W F103.T
theorem F103.ok : FOk Try.prog 103 F103.V := by
  refine ⟨⟨_, Try.func103, rfl, rfl⟩, fun args => ?_⟩
  have hG : GOk Try.prog [(104, F104.V)] := GOk.cons F104.ok (GOk.nil)
  have hV : VOk Try.prog noV := noV_ok
  unfold F103.V F103.W
  split
  · exact denF_okV hG hV Try.func103 (fun h Q hq => (F103.den _ _ _ _ _ _ _ _ _ _ _ _ _) ▸ hq)
  · exact fun h Q hq => hq.elim
def F119.T (l : Sl) (n : Int) (n1 : Int) : PT := fun h Q =>
  ∃ (I : Int → Hp → Prop) (m : Int → Hp → Nat), I (IntKind.wrap .i64 (n + 1)) h ∧ (∀ n2 : Int, ∀ h1 : Hp, I n2 h1 → par (n2 < n1) (∃ (I1 : Int → Hp → Prop) (m1 : Int → Hp → Nat), I1 n2 h1 ∧ (∀ n3 : Int, ∀ h2 : Hp, I1 n3 h2 → par (n < n3) (∃ b o, (l.a : Option Addr) = some ⟨b, o, none⟩ ∧ ((0 : Int) ≤ n3 ∧ n3 < (l.n : Int)) ∧ ∃ n4 : Int, h2.at b (o + n3.toNat * 6) = some (.int .u64 n4) ∧ ∃ n5 : Int, h2.at b ((o + n3.toNat * 6) + 1) = some (.int .i64 n5) ∧ ∃ n6 : Int, h2.at b ((o + n3.toNat * 6) + 2) = some (.int .i64 n6) ∧ ∃ n7 : Int, h2.at b ((o + n3.toNat * 6) + 3) = some (.int .i64 n7) ∧ ∃ s : ByteArray, h2.at b ((o + n3.toNat * 6) + 4) = some (.string s) ∧ ∃ s1 : ByteArray, h2.at b ((o + n3.toNat * 6) + 5) = some (.string s1) ∧ ∃ b1 o1, (l.a : Option Addr) = some ⟨b1, o1, none⟩ ∧ ((0 : Int) ≤ (IntKind.wrap .i64 (n3 - 1)) ∧ (IntKind.wrap .i64 (n3 - 1)) < (l.n : Int)) ∧ ∃ n8 : Int, h2.at b1 (o1 + ((IntKind.wrap .i64 (n3 - 1))).toNat * 6) = some (.int .u64 n8) ∧ ∃ n9 : Int, h2.at b1 ((o1 + ((IntKind.wrap .i64 (n3 - 1))).toNat * 6) + 1) = some (.int .i64 n9) ∧ ∃ n10 : Int, h2.at b1 ((o1 + ((IntKind.wrap .i64 (n3 - 1))).toNat * 6) + 2) = some (.int .i64 n10) ∧ ∃ n11 : Int, h2.at b1 ((o1 + ((IntKind.wrap .i64 (n3 - 1))).toNat * 6) + 3) = some (.int .i64 n11) ∧ ∃ s2 : ByteArray, h2.at b1 ((o1 + ((IntKind.wrap .i64 (n3 - 1))).toNat * 6) + 4) = some (.string s2) ∧ ∃ s3 : ByteArray, h2.at b1 ((o1 + ((IntKind.wrap .i64 (n3 - 1))).toNat * 6) + 5) = some (.string s3) ∧ F103.T n4 n5 n6 n7 s s1 n8 n9 n10 n11 s2 s3 h2 fun r h3 => ∃ n12 : Int, r = .int .i64 n12 ∧ par (n12 < 0) (∃ b2 o2, (l.a : Option Addr) = some ⟨b2, o2, none⟩ ∧ ((0 : Int) ≤ (IntKind.wrap .i64 (n3 - 1)) ∧ (IntKind.wrap .i64 (n3 - 1)) < (l.n : Int)) ∧ ∃ n13 : Int, h3.at b2 (o2 + ((IntKind.wrap .i64 (n3 - 1))).toNat * 6) = some (.int .u64 n13) ∧ ∃ n14 : Int, h3.at b2 ((o2 + ((IntKind.wrap .i64 (n3 - 1))).toNat * 6) + 1) = some (.int .i64 n14) ∧ ∃ n15 : Int, h3.at b2 ((o2 + ((IntKind.wrap .i64 (n3 - 1))).toNat * 6) + 2) = some (.int .i64 n15) ∧ ∃ n16 : Int, h3.at b2 ((o2 + ((IntKind.wrap .i64 (n3 - 1))).toNat * 6) + 3) = some (.int .i64 n16) ∧ ∃ s4 : ByteArray, h3.at b2 ((o2 + ((IntKind.wrap .i64 (n3 - 1))).toNat * 6) + 4) = some (.string s4) ∧ ∃ s5 : ByteArray, h3.at b2 ((o2 + ((IntKind.wrap .i64 (n3 - 1))).toNat * 6) + 5) = some (.string s5) ∧ ∃ b3 o3, (l.a : Option Addr) = some ⟨b3, o3, none⟩ ∧ ((0 : Int) ≤ n3 ∧ n3 < (l.n : Int)) ∧ ∃ n17 : Int, h3.at b3 (o3 + n3.toNat * 6) = some (.int .u64 n17) ∧ ∃ n18 : Int, h3.at b3 ((o3 + n3.toNat * 6) + 1) = some (.int .i64 n18) ∧ ∃ n19 : Int, h3.at b3 ((o3 + n3.toNat * 6) + 2) = some (.int .i64 n19) ∧ ∃ n20 : Int, h3.at b3 ((o3 + n3.toNat * 6) + 3) = some (.int .i64 n20) ∧ ∃ s6 : ByteArray, h3.at b3 ((o3 + n3.toNat * 6) + 4) = some (.string s6) ∧ ∃ s7 : ByteArray, h3.at b3 ((o3 + n3.toNat * 6) + 5) = some (.string s7) ∧ ∃ b4 o4, (l.a : Option Addr) = some ⟨b4, o4, none⟩ ∧ ((0 : Int) ≤ n3 ∧ n3 < (l.n : Int)) ∧ h3.canW b4 (o4 + n3.toNat * 6) 6 ∧ ∃ b5 o5, (l.a : Option Addr) = some ⟨b5, o5, none⟩ ∧ ((0 : Int) ≤ (IntKind.wrap .i64 (n3 - 1)) ∧ (IntKind.wrap .i64 (n3 - 1)) < (l.n : Int)) ∧ (h3.wr b4 (o4 + n3.toNat * 6) [.int .u64 n13, .int .i64 n14, .int .i64 n15, .int .i64 n16, .string s4, .string s5]).canW b5 (o5 + ((IntKind.wrap .i64 (n3 - 1))).toNat * 6) 6 ∧ I1 (IntKind.wrap .i64 (n3 - 1)) ((h3.wr b4 (o4 + n3.toNat * 6) [.int .u64 n13, .int .i64 n14, .int .i64 n15, .int .i64 n16, .string s4, .string s5]).wr b5 (o5 + ((IntKind.wrap .i64 (n3 - 1))).toNat * 6) [.int .u64 n17, .int .i64 n18, .int .i64 n19, .int .i64 n20, .string s6, .string s7]) ∧ m1 (IntKind.wrap .i64 (n3 - 1)) ((h3.wr b4 (o4 + n3.toNat * 6) [.int .u64 n13, .int .i64 n14, .int .i64 n15, .int .i64 n16, .string s4, .string s5]).wr b5 (o5 + ((IntKind.wrap .i64 (n3 - 1))).toNat * 6) [.int .u64 n17, .int .i64 n18, .int .i64 n19, .int .i64 n20, .string s6, .string s7]) < m1 n3 h2) (I (IntKind.wrap .i64 (n2 + 1)) h3 ∧ m (IntKind.wrap .i64 (n2 + 1)) h3 < m n2 h1)) (I (IntKind.wrap .i64 (n2 + 1)) h2 ∧ m (IntKind.wrap .i64 (n2 + 1)) h2 < m n2 h1))) (Q (.tuple ⟨[]⟩) h1))
theorem F119.gen (V : Value → List Value → PT) (T103 : Int → Int → Int → Int → ByteArray → ByteArray → Int → Int → Int → Int → ByteArray → ByteArray → PT) (l : Sl) (n : Int) (n1 : Int) : denF Try.prog [] [(103, F103.W T103)] V [(6, .loop [(8, .int .i64)] []), (402, .loop [(9, .int .i64)] []), (3216, .order [0, 1, 2, 3, 4, 5, 6, 7, 8, 9, 10, 11, 12, 13, 14, 15, 16]), (6436, .order [0, 1, 2, 3, 4, 5, 6, 7, 8, 9, 10, 11, 12, 13, 14, 15, 16, 17])] Try.f119 [.v (.slice l.a l.n l.c), .v (.int .i64 n), .v (.int .i64 n1), .v (.func (.func 103) ⟨[]⟩ ⟨[]⟩)] = fun h Q =>
  ∃ (I : Int → Hp → Prop) (m : Int → Hp → Nat), I (IntKind.wrap .i64 (n + 1)) h ∧ (∀ n2 : Int, ∀ h1 : Hp, I n2 h1 → par (n2 < n1) (∃ (I1 : Int → Hp → Prop) (m1 : Int → Hp → Nat), I1 n2 h1 ∧ (∀ n3 : Int, ∀ h2 : Hp, I1 n3 h2 → par (n < n3) (∃ b o, (l.a : Option Addr) = some ⟨b, o, none⟩ ∧ ((0 : Int) ≤ n3 ∧ n3 < (l.n : Int)) ∧ ∃ n4 : Int, h2.at b (o + n3.toNat * 6) = some (.int .u64 n4) ∧ ∃ n5 : Int, h2.at b ((o + n3.toNat * 6) + 1) = some (.int .i64 n5) ∧ ∃ n6 : Int, h2.at b ((o + n3.toNat * 6) + 2) = some (.int .i64 n6) ∧ ∃ n7 : Int, h2.at b ((o + n3.toNat * 6) + 3) = some (.int .i64 n7) ∧ ∃ s : ByteArray, h2.at b ((o + n3.toNat * 6) + 4) = some (.string s) ∧ ∃ s1 : ByteArray, h2.at b ((o + n3.toNat * 6) + 5) = some (.string s1) ∧ ∃ b1 o1, (l.a : Option Addr) = some ⟨b1, o1, none⟩ ∧ ((0 : Int) ≤ (IntKind.wrap .i64 (n3 - 1)) ∧ (IntKind.wrap .i64 (n3 - 1)) < (l.n : Int)) ∧ ∃ n8 : Int, h2.at b1 (o1 + ((IntKind.wrap .i64 (n3 - 1))).toNat * 6) = some (.int .u64 n8) ∧ ∃ n9 : Int, h2.at b1 ((o1 + ((IntKind.wrap .i64 (n3 - 1))).toNat * 6) + 1) = some (.int .i64 n9) ∧ ∃ n10 : Int, h2.at b1 ((o1 + ((IntKind.wrap .i64 (n3 - 1))).toNat * 6) + 2) = some (.int .i64 n10) ∧ ∃ n11 : Int, h2.at b1 ((o1 + ((IntKind.wrap .i64 (n3 - 1))).toNat * 6) + 3) = some (.int .i64 n11) ∧ ∃ s2 : ByteArray, h2.at b1 ((o1 + ((IntKind.wrap .i64 (n3 - 1))).toNat * 6) + 4) = some (.string s2) ∧ ∃ s3 : ByteArray, h2.at b1 ((o1 + ((IntKind.wrap .i64 (n3 - 1))).toNat * 6) + 5) = some (.string s3) ∧ T103 n4 n5 n6 n7 s s1 n8 n9 n10 n11 s2 s3 h2 fun r h3 => ∃ n12 : Int, r = .int .i64 n12 ∧ par (n12 < 0) (∃ b2 o2, (l.a : Option Addr) = some ⟨b2, o2, none⟩ ∧ ((0 : Int) ≤ (IntKind.wrap .i64 (n3 - 1)) ∧ (IntKind.wrap .i64 (n3 - 1)) < (l.n : Int)) ∧ ∃ n13 : Int, h3.at b2 (o2 + ((IntKind.wrap .i64 (n3 - 1))).toNat * 6) = some (.int .u64 n13) ∧ ∃ n14 : Int, h3.at b2 ((o2 + ((IntKind.wrap .i64 (n3 - 1))).toNat * 6) + 1) = some (.int .i64 n14) ∧ ∃ n15 : Int, h3.at b2 ((o2 + ((IntKind.wrap .i64 (n3 - 1))).toNat * 6) + 2) = some (.int .i64 n15) ∧ ∃ n16 : Int, h3.at b2 ((o2 + ((IntKind.wrap .i64 (n3 - 1))).toNat * 6) + 3) = some (.int .i64 n16) ∧ ∃ s4 : ByteArray, h3.at b2 ((o2 + ((IntKind.wrap .i64 (n3 - 1))).toNat * 6) + 4) = some (.string s4) ∧ ∃ s5 : ByteArray, h3.at b2 ((o2 + ((IntKind.wrap .i64 (n3 - 1))).toNat * 6) + 5) = some (.string s5) ∧ ∃ b3 o3, (l.a : Option Addr) = some ⟨b3, o3, none⟩ ∧ ((0 : Int) ≤ n3 ∧ n3 < (l.n : Int)) ∧ ∃ n17 : Int, h3.at b3 (o3 + n3.toNat * 6) = some (.int .u64 n17) ∧ ∃ n18 : Int, h3.at b3 ((o3 + n3.toNat * 6) + 1) = some (.int .i64 n18) ∧ ∃ n19 : Int, h3.at b3 ((o3 + n3.toNat * 6) + 2) = some (.int .i64 n19) ∧ ∃ n20 : Int, h3.at b3 ((o3 + n3.toNat * 6) + 3) = some (.int .i64 n20) ∧ ∃ s6 : ByteArray, h3.at b3 ((o3 + n3.toNat * 6) + 4) = some (.string s6) ∧ ∃ s7 : ByteArray, h3.at b3 ((o3 + n3.toNat * 6) + 5) = some (.string s7) ∧ ∃ b4 o4, (l.a : Option Addr) = some ⟨b4, o4, none⟩ ∧ ((0 : Int) ≤ n3 ∧ n3 < (l.n : Int)) ∧ h3.canW b4 (o4 + n3.toNat * 6) 6 ∧ ∃ b5 o5, (l.a : Option Addr) = some ⟨b5, o5, none⟩ ∧ ((0 : Int) ≤ (IntKind.wrap .i64 (n3 - 1)) ∧ (IntKind.wrap .i64 (n3 - 1)) < (l.n : Int)) ∧ (h3.wr b4 (o4 + n3.toNat * 6) [.int .u64 n13, .int .i64 n14, .int .i64 n15, .int .i64 n16, .string s4, .string s5]).canW b5 (o5 + ((IntKind.wrap .i64 (n3 - 1))).toNat * 6) 6 ∧ I1 (IntKind.wrap .i64 (n3 - 1)) ((h3.wr b4 (o4 + n3.toNat * 6) [.int .u64 n13, .int .i64 n14, .int .i64 n15, .int .i64 n16, .string s4, .string s5]).wr b5 (o5 + ((IntKind.wrap .i64 (n3 - 1))).toNat * 6) [.int .u64 n17, .int .i64 n18, .int .i64 n19, .int .i64 n20, .string s6, .string s7]) ∧ m1 (IntKind.wrap .i64 (n3 - 1)) ((h3.wr b4 (o4 + n3.toNat * 6) [.int .u64 n13, .int .i64 n14, .int .i64 n15, .int .i64 n16, .string s4, .string s5]).wr b5 (o5 + ((IntKind.wrap .i64 (n3 - 1))).toNat * 6) [.int .u64 n17, .int .i64 n18, .int .i64 n19, .int .i64 n20, .string s6, .string s7]) < m1 n3 h2) (I (IntKind.wrap .i64 (n2 + 1)) h3 ∧ m (IntKind.wrap .i64 (n2 + 1)) h3 < m n2 h1)) (I (IntKind.wrap .i64 (n2 + 1)) h2 ∧ m (IntKind.wrap .i64 (n2 + 1)) h2 < m n2 h1))) (Q (.tuple ⟨[]⟩) h1)) := by kernel_rfl
theorem F119.den (V : Value → List Value → PT) (l : Sl) (n : Int) (n1 : Int) : denF Try.prog [] [(103, F103.V)] V [(6, .loop [(8, .int .i64)] []), (402, .loop [(9, .int .i64)] []), (3216, .order [0, 1, 2, 3, 4, 5, 6, 7, 8, 9, 10, 11, 12, 13, 14, 15, 16]), (6436, .order [0, 1, 2, 3, 4, 5, 6, 7, 8, 9, 10, 11, 12, 13, 14, 15, 16, 17])] Try.f119 [.v (.slice l.a l.n l.c), .v (.int .i64 n), .v (.int .i64 n1), .v (.func (.func 103) ⟨[]⟩ ⟨[]⟩)] = F119.T l n n1 := F119.gen V F103.T l n n1
def F119.W (T119 : Sl → Int → Int → PT) (args : List Value) : PT := match args with
  | [.slice l_a l_n l_c, .int .i64 n, .int .i64 n1, .func (.func 103) ⟨[]⟩ ⟨[]⟩] => T119 ⟨l_a, l_n, l_c⟩ n n1
  | _ => fun _ _ => False
def F119.V : List Value → PT := F119.W F119.T
theorem F119.ok : FOk Try.prog 119 F119.V := by
  refine ⟨⟨_, Try.func119, rfl, rfl⟩, fun args => ?_⟩
  have hG : GOk Try.prog [(103, F103.V)] := GOk.cons F103.ok (GOk.nil)
  have hV : VOk Try.prog noV := noV_ok
  unfold F119.V F119.W
  split
  · exact denF_okV hG hV Try.func119 (fun h Q hq => (F119.den _ _ _ _) ▸ hq)
  · exact fun h Q hq => hq.elim
def F141.T (l : Sl) (n : Int) (n1 : Int) (n2 : Int) : PT := fun h Q =>
  ∃ (I : Int → Hp → Prop) (m : Int → Hp → Nat), I 0 h ∧ (∀ n3 : Int, ∀ h1 : Hp, I n3 h1 → par (n3 < n2) (∃ b o, (l.a : Option Addr) = some ⟨b, o, none⟩ ∧ ((0 : Int) ≤ (IntKind.wrap .i64 (n1 + n3)) ∧ (IntKind.wrap .i64 (n1 + n3)) < (l.n : Int)) ∧ ∃ n4 : Int, h1.at b (o + ((IntKind.wrap .i64 (n1 + n3))).toNat * 6) = some (.int .u64 n4) ∧ ∃ n5 : Int, h1.at b ((o + ((IntKind.wrap .i64 (n1 + n3))).toNat * 6) + 1) = some (.int .i64 n5) ∧ ∃ n6 : Int, h1.at b ((o + ((IntKind.wrap .i64 (n1 + n3))).toNat * 6) + 2) = some (.int .i64 n6) ∧ ∃ n7 : Int, h1.at b ((o + ((IntKind.wrap .i64 (n1 + n3))).toNat * 6) + 3) = some (.int .i64 n7) ∧ ∃ s : ByteArray, h1.at b ((o + ((IntKind.wrap .i64 (n1 + n3))).toNat * 6) + 4) = some (.string s) ∧ ∃ s1 : ByteArray, h1.at b ((o + ((IntKind.wrap .i64 (n1 + n3))).toNat * 6) + 5) = some (.string s1) ∧ ∃ b1 o1, (l.a : Option Addr) = some ⟨b1, o1, none⟩ ∧ ((0 : Int) ≤ (IntKind.wrap .i64 (n + n3)) ∧ (IntKind.wrap .i64 (n + n3)) < (l.n : Int)) ∧ ∃ n8 : Int, h1.at b1 (o1 + ((IntKind.wrap .i64 (n + n3))).toNat * 6) = some (.int .u64 n8) ∧ ∃ n9 : Int, h1.at b1 ((o1 + ((IntKind.wrap .i64 (n + n3))).toNat * 6) + 1) = some (.int .i64 n9) ∧ ∃ n10 : Int, h1.at b1 ((o1 + ((IntKind.wrap .i64 (n + n3))).toNat * 6) + 2) = some (.int .i64 n10) ∧ ∃ n11 : Int, h1.at b1 ((o1 + ((IntKind.wrap .i64 (n + n3))).toNat * 6) + 3) = some (.int .i64 n11) ∧ ∃ s2 : ByteArray, h1.at b1 ((o1 + ((IntKind.wrap .i64 (n + n3))).toNat * 6) + 4) = some (.string s2) ∧ ∃ s3 : ByteArray, h1.at b1 ((o1 + ((IntKind.wrap .i64 (n + n3))).toNat * 6) + 5) = some (.string s3) ∧ ∃ b2 o2, (l.a : Option Addr) = some ⟨b2, o2, none⟩ ∧ ((0 : Int) ≤ (IntKind.wrap .i64 (n + n3)) ∧ (IntKind.wrap .i64 (n + n3)) < (l.n : Int)) ∧ h1.canW b2 (o2 + ((IntKind.wrap .i64 (n + n3))).toNat * 6) 6 ∧ ∃ b3 o3, (l.a : Option Addr) = some ⟨b3, o3, none⟩ ∧ ((0 : Int) ≤ (IntKind.wrap .i64 (n1 + n3)) ∧ (IntKind.wrap .i64 (n1 + n3)) < (l.n : Int)) ∧ (h1.wr b2 (o2 + ((IntKind.wrap .i64 (n + n3))).toNat * 6) [.int .u64 n4, .int .i64 n5, .int .i64 n6, .int .i64 n7, .string s, .string s1]).canW b3 (o3 + ((IntKind.wrap .i64 (n1 + n3))).toNat * 6) 6 ∧ I (IntKind.wrap .i64 (n3 + 1)) ((h1.wr b2 (o2 + ((IntKind.wrap .i64 (n + n3))).toNat * 6) [.int .u64 n4, .int .i64 n5, .int .i64 n6, .int .i64 n7, .string s, .string s1]).wr b3 (o3 + ((IntKind.wrap .i64 (n1 + n3))).toNat * 6) [.int .u64 n8, .int .i64 n9, .int .i64 n10, .int .i64 n11, .string s2, .string s3]) ∧ m (IntKind.wrap .i64 (n3 + 1)) ((h1.wr b2 (o2 + ((IntKind.wrap .i64 (n + n3))).toNat * 6) [.int .u64 n4, .int .i64 n5, .int .i64 n6, .int .i64 n7, .string s, .string s1]).wr b3 (o3 + ((IntKind.wrap .i64 (n1 + n3))).toNat * 6) [.int .u64 n8, .int .i64 n9, .int .i64 n10, .int .i64 n11, .string s2, .string s3]) < m n3 h1) (Q (.tuple ⟨[]⟩) h1))
theorem F141.den (V : Value → List Value → PT) (l : Sl) (n : Int) (n1 : Int) (n2 : Int) : denF Try.prog [] [] V [(6, .loop [(10, .int .i64)] []), (100, .order [0, 1, 2, 3, 4, 5, 6, 7, 8, 9, 10, 11, 12, 13, 14, 15, 16, 17, 18, 19, 20, 21, 22, 23])] Try.f141 [.v (.slice l.a l.n l.c), .v (.int .i64 n), .v (.int .i64 n1), .v (.int .i64 n2), .v (.func (.func 103) ⟨[]⟩ ⟨[]⟩)] = F141.T l n n1 n2 := by kernel_rfl
def F141.W (T141 : Sl → Int → Int → Int → PT) (args : List Value) : PT := match args with
  | [.slice l_a l_n l_c, .int .i64 n, .int .i64 n1, .int .i64 n2, .func (.func 103) ⟨[]⟩ ⟨[]⟩] => T141 ⟨l_a, l_n, l_c⟩ n n1 n2
  | _ => fun _ _ => False
def F141.V : List Value → PT := F141.W F141.T
theorem F141.ok : FOk Try.prog 141 F141.V := by
  refine ⟨⟨_, Try.func141, rfl, rfl⟩, fun args => ?_⟩
  have hG : GOk Try.prog [] := GOk.nil
  have hV : VOk Try.prog noV := noV_ok
  unfold F141.V F141.W
  split
  · exact denF_okV hG hV Try.func141 (fun h Q hq => (F141.den _ _ _ _ _) ▸ hq)
  · exact fun h Q hq => hq.elim
def F134.T (l : Sl) (n : Int) (n1 : Int) (n2 : Int) : PT := fun h Q =>
  ∃ (I : Int → Int → Hp → Prop) (m : Int → Int → Hp → Nat), I (IntKind.wrap .i64 (n1 - n)) (IntKind.wrap .i64 (n2 - n1)) h ∧ (∀ n3 : Int, ∀ n4 : Int, ∀ h1 : Hp, I n3 n4 h1 → par (n3 = n4) (F141.T l (IntKind.wrap .i64 (n1 - n3)) n1 n3 h1 fun r h2 => Q (.tuple ⟨[]⟩) h2) (par (n4 < n3) (F141.T l (IntKind.wrap .i64 (n1 - n3)) n1 n4 h1 fun r1 h3 => I (IntKind.wrap .i64 (n3 - n4)) n4 h3 ∧ m (IntKind.wrap .i64 (n3 - n4)) n4 h3 < m n3 n4 h1) (F141.T l (IntKind.wrap .i64 (n1 - n3)) (IntKind.wrap .i64 ((IntKind.wrap .i64 (n1 + n4)) - n3)) n3 h1 fun r2 h4 => I n3 (IntKind.wrap .i64 (n4 - n3)) h4 ∧ m n3 (IntKind.wrap .i64 (n4 - n3)) h4 < m n3 n4 h1)))
theorem F134.gen (V : Value → List Value → PT) (T141 : Sl → Int → Int → Int → PT) (l : Sl) (n : Int) (n1 : Int) (n2 : Int) : denF Try.prog [] [(141, F141.W T141)] V [(28, .loop [(10, .int .i64), (11, .int .i64)] [])] Try.f134 [.v (.slice l.a l.n l.c), .v (.int .i64 n), .v (.int .i64 n1), .v (.int .i64 n2), .v (.func (.func 103) ⟨[]⟩ ⟨[]⟩)] = fun h Q =>
  ∃ (I : Int → Int → Hp → Prop) (m : Int → Int → Hp → Nat), I (IntKind.wrap .i64 (n1 - n)) (IntKind.wrap .i64 (n2 - n1)) h ∧ (∀ n3 : Int, ∀ n4 : Int, ∀ h1 : Hp, I n3 n4 h1 → par (n3 = n4) (T141 l (IntKind.wrap .i64 (n1 - n3)) n1 n3 h1 fun r h2 => Q (.tuple ⟨[]⟩) h2) (par (n4 < n3) (T141 l (IntKind.wrap .i64 (n1 - n3)) n1 n4 h1 fun r1 h3 => I (IntKind.wrap .i64 (n3 - n4)) n4 h3 ∧ m (IntKind.wrap .i64 (n3 - n4)) n4 h3 < m n3 n4 h1) (T141 l (IntKind.wrap .i64 (n1 - n3)) (IntKind.wrap .i64 ((IntKind.wrap .i64 (n1 + n4)) - n3)) n3 h1 fun r2 h4 => I n3 (IntKind.wrap .i64 (n4 - n3)) h4 ∧ m n3 (IntKind.wrap .i64 (n4 - n3)) h4 < m n3 n4 h1))) := by kernel_rfl
theorem F134.den (V : Value → List Value → PT) (l : Sl) (n : Int) (n1 : Int) (n2 : Int) : denF Try.prog [] [(141, F141.V)] V [(28, .loop [(10, .int .i64), (11, .int .i64)] [])] Try.f134 [.v (.slice l.a l.n l.c), .v (.int .i64 n), .v (.int .i64 n1), .v (.int .i64 n2), .v (.func (.func 103) ⟨[]⟩ ⟨[]⟩)] = F134.T l n n1 n2 := F134.gen V F141.T l n n1 n2
def F134.W (T134 : Sl → Int → Int → Int → PT) (args : List Value) : PT := match args with
  | [.slice l_a l_n l_c, .int .i64 n, .int .i64 n1, .int .i64 n2, .func (.func 103) ⟨[]⟩ ⟨[]⟩] => T134 ⟨l_a, l_n, l_c⟩ n n1 n2
  | _ => fun _ _ => False
def F134.V : List Value → PT := F134.W F134.T
theorem F134.ok : FOk Try.prog 134 F134.V := by
  refine ⟨⟨_, Try.func134, rfl, rfl⟩, fun args => ?_⟩
  have hG : GOk Try.prog [(141, F141.V)] := GOk.cons F141.ok (GOk.nil)
  have hV : VOk Try.prog noV := noV_ok
  unfold F134.V F134.W
  split
  · exact denF_okV hG hV Try.func134 (fun h Q hq => (F134.den _ _ _ _ _) ▸ hq)
  · exact fun h Q hq => hq.elim
def F120.G (T120 : Sl → Int → Int → Int → PT) (l : Sl) (n : Int) (n1 : Int) (n2 : Int) : PT := fun h Q =>
  par ((IntKind.wrap .i64 (n1 - n)) = 1) (∃ (I : Int → Int → Hp → Prop) (m : Int → Int → Hp → Nat), I n1 n2 h ∧ (∀ n3 : Int, ∀ n4 : Int, ∀ h1 : Hp, I n3 n4 h1 → par (n3 < n4) ((0 : Int) ≤ 1 ∧ ∃ b o, (l.a : Option Addr) = some ⟨b, o, none⟩ ∧ ((0 : Int) ≤ (IntKind.wrap .i64 (shrI .u64 (IntKind.wrap .u64 (IntKind.wrap .i64 (n3 + n4))) 1)) ∧ (IntKind.wrap .i64 (shrI .u64 (IntKind.wrap .u64 (IntKind.wrap .i64 (n3 + n4))) 1)) < (l.n : Int)) ∧ ∃ n5 : Int, h1.at b (o + ((IntKind.wrap .i64 (shrI .u64 (IntKind.wrap .u64 (IntKind.wrap .i64 (n3 + n4))) 1))).toNat * 6) = some (.int .u64 n5) ∧ ∃ n6 : Int, h1.at b ((o + ((IntKind.wrap .i64 (shrI .u64 (IntKind.wrap .u64 (IntKind.wrap .i64 (n3 + n4))) 1))).toNat * 6) + 1) = some (.int .i64 n6) ∧ ∃ n7 : Int, h1.at b ((o + ((IntKind.wrap .i64 (shrI .u64 (IntKind.wrap .u64 (IntKind.wrap .i64 (n3 + n4))) 1))).toNat * 6) + 2) = some (.int .i64 n7) ∧ ∃ n8 : Int, h1.at b ((o + ((IntKind.wrap .i64 (shrI .u64 (IntKind.wrap .u64 (IntKind.wrap .i64 (n3 + n4))) 1))).toNat * 6) + 3) = some (.int .i64 n8) ∧ ∃ s : ByteArray, h1.at b ((o + ((IntKind.wrap .i64 (shrI .u64 (IntKind.wrap .u64 (IntKind.wrap .i64 (n3 + n4))) 1))).toNat * 6) + 4) = some (.string s) ∧ ∃ s1 : ByteArray, h1.at b ((o + ((IntKind.wrap .i64 (shrI .u64 (IntKind.wrap .u64 (IntKind.wrap .i64 (n3 + n4))) 1))).toNat * 6) + 5) = some (.string s1) ∧ ∃ b1 o1, (l.a : Option Addr) = some ⟨b1, o1, none⟩ ∧ ((0 : Int) ≤ n ∧ n < (l.n : Int)) ∧ ∃ n9 : Int, h1.at b1 (o1 + n.toNat * 6) = some (.int .u64 n9) ∧ ∃ n10 : Int, h1.at b1 ((o1 + n.toNat * 6) + 1) = some (.int .i64 n10) ∧ ∃ n11 : Int, h1.at b1 ((o1 + n.toNat * 6) + 2) = some (.int .i64 n11) ∧ ∃ n12 : Int, h1.at b1 ((o1 + n.toNat * 6) + 3) = some (.int .i64 n12) ∧ ∃ s2 : ByteArray, h1.at b1 ((o1 + n.toNat * 6) + 4) = some (.string s2) ∧ ∃ s3 : ByteArray, h1.at b1 ((o1 + n.toNat * 6) + 5) = some (.string s3) ∧ F103.T n5 n6 n7 n8 s s1 n9 n10 n11 n12 s2 s3 h1 fun r h2 => ∃ n13 : Int, r = .int .i64 n13 ∧ par (n13 < 0) (I (IntKind.wrap .i64 ((IntKind.wrap .i64 (shrI .u64 (IntKind.wrap .u64 (IntKind.wrap .i64 (n3 + n4))) 1)) + 1)) n4 h2 ∧ m (IntKind.wrap .i64 ((IntKind.wrap .i64 (shrI .u64 (IntKind.wrap .u64 (IntKind.wrap .i64 (n3 + n4))) 1)) + 1)) n4 h2 < m n3 n4 h1) (I n3 (IntKind.wrap .i64 (shrI .u64 (IntKind.wrap .u64 (IntKind.wrap .i64 (n3 + n4))) 1)) h2 ∧ m n3 (IntKind.wrap .i64 (shrI .u64 (IntKind.wrap .u64 (IntKind.wrap .i64 (n3 + n4))) 1)) h2 < m n3 n4 h1)) (∃ (I1 : Int → Hp → Prop) (m1 : Int → Hp → Nat), I1 n h1 ∧ (∀ n14 : Int, ∀ h3 : Hp, I1 n14 h3 → par (n14 < (IntKind.wrap .i64 (n3 - 1))) (∃ b2 o2, (l.a : Option Addr) = some ⟨b2, o2, none⟩ ∧ ((0 : Int) ≤ (IntKind.wrap .i64 (n14 + 1)) ∧ (IntKind.wrap .i64 (n14 + 1)) < (l.n : Int)) ∧ ∃ n15 : Int, h3.at b2 (o2 + ((IntKind.wrap .i64 (n14 + 1))).toNat * 6) = some (.int .u64 n15) ∧ ∃ n16 : Int, h3.at b2 ((o2 + ((IntKind.wrap .i64 (n14 + 1))).toNat * 6) + 1) = some (.int .i64 n16) ∧ ∃ n17 : Int, h3.at b2 ((o2 + ((IntKind.wrap .i64 (n14 + 1))).toNat * 6) + 2) = some (.int .i64 n17) ∧ ∃ n18 : Int, h3.at b2 ((o2 + ((IntKind.wrap .i64 (n14 + 1))).toNat * 6) + 3) = some (.int .i64 n18) ∧ ∃ s4 : ByteArray, h3.at b2 ((o2 + ((IntKind.wrap .i64 (n14 + 1))).toNat * 6) + 4) = some (.string s4) ∧ ∃ s5 : ByteArray, h3.at b2 ((o2 + ((IntKind.wrap .i64 (n14 + 1))).toNat * 6) + 5) = some (.string s5) ∧ ∃ b3 o3, (l.a : Option Addr) = some ⟨b3, o3, none⟩ ∧ ((0 : Int) ≤ n14 ∧ n14 < (l.n : Int)) ∧ ∃ n19 : Int, h3.at b3 (o3 + n14.toNat * 6) = some (.int .u64 n19) ∧ ∃ n20 : Int, h3.at b3 ((o3 + n14.toNat * 6) + 1) = some (.int .i64 n20) ∧ ∃ n21 : Int, h3.at b3 ((o3 + n14.toNat * 6) + 2) = some (.int .i64 n21) ∧ ∃ n22 : Int, h3.at b3 ((o3 + n14.toNat * 6) + 3) = some (.int .i64 n22) ∧ ∃ s6 : ByteArray, h3.at b3 ((o3 + n14.toNat * 6) + 4) = some (.string s6) ∧ ∃ s7 : ByteArray, h3.at b3 ((o3 + n14.toNat * 6) + 5) = some (.string s7) ∧ ∃ b4 o4, (l.a : Option Addr) = some ⟨b4, o4, none⟩ ∧ ((0 : Int) ≤ n14 ∧ n14 < (l.n : Int)) ∧ h3.canW b4 (o4 + n14.toNat * 6) 6 ∧ ∃ b5 o5, (l.a : Option Addr) = some ⟨b5, o5, none⟩ ∧ ((0 : Int) ≤ (IntKind.wrap .i64 (n14 + 1)) ∧ (IntKind.wrap .i64 (n14 + 1)) < (l.n : Int)) ∧ (h3.wr b4 (o4 + n14.toNat * 6) [.int .u64 n15, .int .i64 n16, .int .i64 n17, .int .i64 n18, .string s4, .string s5]).canW b5 (o5 + ((IntKind.wrap .i64 (n14 + 1))).toNat * 6) 6 ∧ I1 (IntKind.wrap .i64 (n14 + 1)) ((h3.wr b4 (o4 + n14.toNat * 6) [.int .u64 n15, .int .i64 n16, .int .i64 n17, .int .i64 n18, .string s4, .string s5]).wr b5 (o5 + ((IntKind.wrap .i64 (n14 + 1))).toNat * 6) [.int .u64 n19, .int .i64 n20, .int .i64 n21, .int .i64 n22, .string s6, .string s7]) ∧ m1 (IntKind.wrap .i64 (n14 + 1)) ((h3.wr b4 (o4 + n14.toNat * 6) [.int .u64 n15, .int .i64 n16, .int .i64 n17, .int .i64 n18, .string s4, .string s5]).wr b5 (o5 + ((IntKind.wrap .i64 (n14 + 1))).toNat * 6) [.int .u64 n19, .int .i64 n20, .int .i64 n21, .int .i64 n22, .string s6, .string s7]) < m1 n14 h3) (Q (.tuple ⟨[]⟩) h3))))) (par ((IntKind.wrap .i64 (n2 - n1)) = 1) (∃ (I2 : Int → Int → Hp → Prop) (m2 : Int → Int → Hp → Nat), I2 n n1 h ∧ (∀ n23 : Int, ∀ n24 : Int, ∀ h4 : Hp, I2 n23 n24 h4 → par (n23 < n24) ((0 : Int) ≤ 1 ∧ ∃ b6 o6, (l.a : Option Addr) = some ⟨b6, o6, none⟩ ∧ ((0 : Int) ≤ n1 ∧ n1 < (l.n : Int)) ∧ ∃ n25 : Int, h4.at b6 (o6 + n1.toNat * 6) = some (.int .u64 n25) ∧ ∃ n26 : Int, h4.at b6 ((o6 + n1.toNat * 6) + 1) = some (.int .i64 n26) ∧ ∃ n27 : Int, h4.at b6 ((o6 + n1.toNat * 6) + 2) = some (.int .i64 n27) ∧ ∃ n28 : Int, h4.at b6 ((o6 + n1.toNat * 6) + 3) = some (.int .i64 n28) ∧ ∃ s8 : ByteArray, h4.at b6 ((o6 + n1.toNat * 6) + 4) = some (.string s8) ∧ ∃ s9 : ByteArray, h4.at b6 ((o6 + n1.toNat * 6) + 5) = some (.string s9) ∧ ∃ b7 o7, (l.a : Option Addr) = some ⟨b7, o7, none⟩ ∧ ((0 : Int) ≤ (IntKind.wrap .i64 (shrI .u64 (IntKind.wrap .u64 (IntKind.wrap .i64 (n23 + n24))) 1)) ∧ (IntKind.wrap .i64 (shrI .u64 (IntKind.wrap .u64 (IntKind.wrap .i64 (n23 + n24))) 1)) < (l.n : Int)) ∧ ∃ n29 : Int, h4.at b7 (o7 + ((IntKind.wrap .i64 (shrI .u64 (IntKind.wrap .u64 (IntKind.wrap .i64 (n23 + n24))) 1))).toNat * 6) = some (.int .u64 n29) ∧ ∃ n30 : Int, h4.at b7 ((o7 + ((IntKind.wrap .i64 (shrI .u64 (IntKind.wrap .u64 (IntKind.wrap .i64 (n23 + n24))) 1))).toNat * 6) + 1) = some (.int .i64 n30) ∧ ∃ n31 : Int, h4.at b7 ((o7 + ((IntKind.wrap .i64 (shrI .u64 (IntKind.wrap .u64 (IntKind.wrap .i64 (n23 + n24))) 1))).toNat * 6) + 2) = some (.int .i64 n31) ∧ ∃ n32 : Int, h4.at b7 ((o7 + ((IntKind.wrap .i64 (shrI .u64 (IntKind.wrap .u64 (IntKind.wrap .i64 (n23 + n24))) 1))).toNat * 6) + 3) = some (.int .i64 n32) ∧ ∃ s10 : ByteArray, h4.at b7 ((o7 + ((IntKind.wrap .i64 (shrI .u64 (IntKind.wrap .u64 (IntKind.wrap .i64 (n23 + n24))) 1))).toNat * 6) + 4) = some (.string s10) ∧ ∃ s11 : ByteArray, h4.at b7 ((o7 + ((IntKind.wrap .i64 (shrI .u64 (IntKind.wrap .u64 (IntKind.wrap .i64 (n23 + n24))) 1))).toNat * 6) + 5) = some (.string s11) ∧ F103.T n25 n26 n27 n28 s8 s9 n29 n30 n31 n32 s10 s11 h4 fun r1 h5 => ∃ n33 : Int, r1 = .int .i64 n33 ∧ par (n33 < 0) (I2 n23 (IntKind.wrap .i64 (shrI .u64 (IntKind.wrap .u64 (IntKind.wrap .i64 (n23 + n24))) 1)) h5 ∧ m2 n23 (IntKind.wrap .i64 (shrI .u64 (IntKind.wrap .u64 (IntKind.wrap .i64 (n23 + n24))) 1)) h5 < m2 n23 n24 h4) (I2 (IntKind.wrap .i64 ((IntKind.wrap .i64 (shrI .u64 (IntKind.wrap .u64 (IntKind.wrap .i64 (n23 + n24))) 1)) + 1)) n24 h5 ∧ m2 (IntKind.wrap .i64 ((IntKind.wrap .i64 (shrI .u64 (IntKind.wrap .u64 (IntKind.wrap .i64 (n23 + n24))) 1)) + 1)) n24 h5 < m2 n23 n24 h4)) (∃ (I3 : Int → Hp → Prop) (m3 : Int → Hp → Nat), I3 n1 h4 ∧ (∀ n34 : Int, ∀ h6 : Hp, I3 n34 h6 → par (n23 < n34) (∃ b8 o8, (l.a : Option Addr) = some ⟨b8, o8, none⟩ ∧ ((0 : Int) ≤ (IntKind.wrap .i64 (n34 - 1)) ∧ (IntKind.wrap .i64 (n34 - 1)) < (l.n : Int)) ∧ ∃ n35 : Int, h6.at b8 (o8 + ((IntKind.wrap .i64 (n34 - 1))).toNat * 6) = some (.int .u64 n35) ∧ ∃ n36 : Int, h6.at b8 ((o8 + ((IntKind.wrap .i64 (n34 - 1))).toNat * 6) + 1) = some (.int .i64 n36) ∧ ∃ n37 : Int, h6.at b8 ((o8 + ((IntKind.wrap .i64 (n34 - 1))).toNat * 6) + 2) = some (.int .i64 n37) ∧ ∃ n38 : Int, h6.at b8 ((o8 + ((IntKind.wrap .i64 (n34 - 1))).toNat * 6) + 3) = some (.int .i64 n38) ∧ ∃ s12 : ByteArray, h6.at b8 ((o8 + ((IntKind.wrap .i64 (n34 - 1))).toNat * 6) + 4) = some (.string s12) ∧ ∃ s13 : ByteArray, h6.at b8 ((o8 + ((IntKind.wrap .i64 (n34 - 1))).toNat * 6) + 5) = some (.string s13) ∧ ∃ b9 o9, (l.a : Option Addr) = some ⟨b9, o9, none⟩ ∧ ((0 : Int) ≤ n34 ∧ n34 < (l.n : Int)) ∧ ∃ n39 : Int, h6.at b9 (o9 + n34.toNat * 6) = some (.int .u64 n39) ∧ ∃ n40 : Int, h6.at b9 ((o9 + n34.toNat * 6) + 1) = some (.int .i64 n40) ∧ ∃ n41 : Int, h6.at b9 ((o9 + n34.toNat * 6) + 2) = some (.int .i64 n41) ∧ ∃ n42 : Int, h6.at b9 ((o9 + n34.toNat * 6) + 3) = some (.int .i64 n42) ∧ ∃ s14 : ByteArray, h6.at b9 ((o9 + n34.toNat * 6) + 4) = some (.string s14) ∧ ∃ s15 : ByteArray, h6.at b9 ((o9 + n34.toNat * 6) + 5) = some (.string s15) ∧ ∃ b10 o10, (l.a : Option Addr) = some ⟨b10, o10, none⟩ ∧ ((0 : Int) ≤ n34 ∧ n34 < (l.n : Int)) ∧ h6.canW b10 (o10 + n34.toNat * 6) 6 ∧ ∃ b11 o11, (l.a : Option Addr) = some ⟨b11, o11, none⟩ ∧ ((0 : Int) ≤ (IntKind.wrap .i64 (n34 - 1)) ∧ (IntKind.wrap .i64 (n34 - 1)) < (l.n : Int)) ∧ (h6.wr b10 (o10 + n34.toNat * 6) [.int .u64 n35, .int .i64 n36, .int .i64 n37, .int .i64 n38, .string s12, .string s13]).canW b11 (o11 + ((IntKind.wrap .i64 (n34 - 1))).toNat * 6) 6 ∧ I3 (IntKind.wrap .i64 (n34 - 1)) ((h6.wr b10 (o10 + n34.toNat * 6) [.int .u64 n35, .int .i64 n36, .int .i64 n37, .int .i64 n38, .string s12, .string s13]).wr b11 (o11 + ((IntKind.wrap .i64 (n34 - 1))).toNat * 6) [.int .u64 n39, .int .i64 n40, .int .i64 n41, .int .i64 n42, .string s14, .string s15]) ∧ m3 (IntKind.wrap .i64 (n34 - 1)) ((h6.wr b10 (o10 + n34.toNat * 6) [.int .u64 n35, .int .i64 n36, .int .i64 n37, .int .i64 n38, .string s12, .string s13]).wr b11 (o11 + ((IntKind.wrap .i64 (n34 - 1))).toNat * 6) [.int .u64 n39, .int .i64 n40, .int .i64 n41, .int .i64 n42, .string s14, .string s15]) < m3 n34 h6) (Q (.tuple ⟨[]⟩) h6))))) ((0 : Int) ≤ 1 ∧ ∃ J : Int → Int → Hp → Prop, (∀ n43 : Int, ∀ n44 : Int, ∀ h7 : Hp, J n43 n44 h7 → ∃ (I4 : Int → Int → Hp → Prop) (m4 : Int → Int → Hp → Nat), I4 n43 n44 h7 ∧ (∀ n45 : Int, ∀ n46 : Int, ∀ h8 : Hp, I4 n45 n46 h8 → par (n45 < n46) ((0 : Int) ≤ 1 ∧ ∃ b12 o12, (l.a : Option Addr) = some ⟨b12, o12, none⟩ ∧ ((0 : Int) ≤ (IntKind.wrap .i64 ((IntKind.wrap .i64 ((IntKind.wrap .i64 ((IntKind.wrap .i64 (shrI .u64 (IntKind.wrap .u64 (IntKind.wrap .i64 (n + n2))) 1)) + n1)) - 1)) - (IntKind.wrap .i64 (shrI .u64 (IntKind.wrap .u64 (IntKind.wrap .i64 (n45 + n46))) 1)))) ∧ (IntKind.wrap .i64 ((IntKind.wrap .i64 ((IntKind.wrap .i64 ((IntKind.wrap .i64 (shrI .u64 (IntKind.wrap .u64 (IntKind.wrap .i64 (n + n2))) 1)) + n1)) - 1)) - (IntKind.wrap .i64 (shrI .u64 (IntKind.wrap .u64 (IntKind.wrap .i64 (n45 + n46))) 1)))) < (l.n : Int)) ∧ ∃ n47 : Int, h8.at b12 (o12 + ((IntKind.wrap .i64 ((IntKind.wrap .i64 ((IntKind.wrap .i64 ((IntKind.wrap .i64 (shrI .u64 (IntKind.wrap .u64 (IntKind.wrap .i64 (n + n2))) 1)) + n1)) - 1)) - (IntKind.wrap .i64 (shrI .u64 (IntKind.wrap .u64 (IntKind.wrap .i64 (n45 + n46))) 1))))).toNat * 6) = some (.int .u64 n47) ∧ ∃ n48 : Int, h8.at b12 ((o12 + ((IntKind.wrap .i64 ((IntKind.wrap .i64 ((IntKind.wrap .i64 ((IntKind.wrap .i64 (shrI .u64 (IntKind.wrap .u64 (IntKind.wrap .i64 (n + n2))) 1)) + n1)) - 1)) - (IntKind.wrap .i64 (shrI .u64 (IntKind.wrap .u64 (IntKind.wrap .i64 (n45 + n46))) 1))))).toNat * 6) + 1) = some (.int .i64 n48) ∧ ∃ n49 : Int, h8.at b12 ((o12 + ((IntKind.wrap .i64 ((IntKind.wrap .i64 ((IntKind.wrap .i64 ((IntKind.wrap .i64 (shrI .u64 (IntKind.wrap .u64 (IntKind.wrap .i64 (n + n2))) 1)) + n1)) - 1)) - (IntKind.wrap .i64 (shrI .u64 (IntKind.wrap .u64 (IntKind.wrap .i64 (n45 + n46))) 1))))).toNat * 6) + 2) = some (.int .i64 n49) ∧ ∃ n50 : Int, h8.at b12 ((o12 + ((IntKind.wrap .i64 ((IntKind.wrap .i64 ((IntKind.wrap .i64 ((IntKind.wrap .i64 (shrI .u64 (IntKind.wrap .u64 (IntKind.wrap .i64 (n + n2))) 1)) + n1)) - 1)) - (IntKind.wrap .i64 (shrI .u64 (IntKind.wrap .u64 (IntKind.wrap .i64 (n45 + n46))) 1))))).toNat * 6) + 3) = some (.int .i64 n50) ∧ ∃ s16 : ByteArray, h8.at b12 ((o12 + ((IntKind.wrap .i64 ((IntKind.wrap .i64 ((IntKind.wrap .i64 ((IntKind.wrap .i64 (shrI .u64 (IntKind.wrap .u64 (IntKind.wrap .i64 (n + n2))) 1)) + n1)) - 1)) - (IntKind.wrap .i64 (shrI .u64 (IntKind.wrap .u64 (IntKind.wrap .i64 (n45 + n46))) 1))))).toNat * 6) + 4) = some (.string s16) ∧ ∃ s17 : ByteArray, h8.at b12 ((o12 + ((IntKind.wrap .i64 ((IntKind.wrap .i64 ((IntKind.wrap .i64 ((IntKind.wrap .i64 (shrI .u64 (IntKind.wrap .u64 (IntKind.wrap .i64 (n + n2))) 1)) + n1)) - 1)) - (IntKind.wrap .i64 (shrI .u64 (IntKind.wrap .u64 (IntKind.wrap .i64 (n45 + n46))) 1))))).toNat * 6) + 5) = some (.string s17) ∧ ∃ b13 o13, (l.a : Option Addr) = some ⟨b13, o13, none⟩ ∧ ((0 : Int) ≤ (IntKind.wrap .i64 (shrI .u64 (IntKind.wrap .u64 (IntKind.wrap .i64 (n45 + n46))) 1)) ∧ (IntKind.wrap .i64 (shrI .u64 (IntKind.wrap .u64 (IntKind.wrap .i64 (n45 + n46))) 1)) < (l.n : Int)) ∧ ∃ n51 : Int, h8.at b13 (o13 + ((IntKind.wrap .i64 (shrI .u64 (IntKind.wrap .u64 (IntKind.wrap .i64 (n45 + n46))) 1))).toNat * 6) = some (.int .u64 n51) ∧ ∃ n52 : Int, h8.at b13 ((o13 + ((IntKind.wrap .i64 (shrI .u64 (IntKind.wrap .u64 (IntKind.wrap .i64 (n45 + n46))) 1))).toNat * 6) + 1) = some (.int .i64 n52) ∧ ∃ n53 : Int, h8.at b13 ((o13 + ((IntKind.wrap .i64 (shrI .u64 (IntKind.wrap .u64 (IntKind.wrap .i64 (n45 + n46))) 1))).toNat * 6) + 2) = some (.int .i64 n53) ∧ ∃ n54 : Int, h8.at b13 ((o13 + ((IntKind.wrap .i64 (shrI .u64 (IntKind.wrap .u64 (IntKind.wrap .i64 (n45 + n46))) 1))).toNat * 6) + 3) = some (.int .i64 n54) ∧ ∃ s18 : ByteArray, h8.at b13 ((o13 + ((IntKind.wrap .i64 (shrI .u64 (IntKind.wrap .u64 (IntKind.wrap .i64 (n45 + n46))) 1))).toNat * 6) + 4) = some (.string s18) ∧ ∃ s19 : ByteArray, h8.at b13 ((o13 + ((IntKind.wrap .i64 (shrI .u64 (IntKind.wrap .u64 (IntKind.wrap .i64 (n45 + n46))) 1))).toNat * 6) + 5) = some (.string s19) ∧ F103.T n47 n48 n49 n50 s16 s17 n51 n52 n53 n54 s18 s19 h8 fun r2 h9 => ∃ n55 : Int, r2 = .int .i64 n55 ∧ par (n55 < 0) (I4 n45 (IntKind.wrap .i64 (shrI .u64 (IntKind.wrap .u64 (IntKind.wrap .i64 (n45 + n46))) 1)) h9 ∧ m4 n45 (IntKind.wrap .i64 (shrI .u64 (IntKind.wrap .u64 (IntKind.wrap .i64 (n45 + n46))) 1)) h9 < m4 n45 n46 h8) (I4 (IntKind.wrap .i64 ((IntKind.wrap .i64 (shrI .u64 (IntKind.wrap .u64 (IntKind.wrap .i64 (n45 + n46))) 1)) + 1)) n46 h9 ∧ m4 (IntKind.wrap .i64 ((IntKind.wrap .i64 (shrI .u64 (IntKind.wrap .u64 (IntKind.wrap .i64 (n45 + n46))) 1)) + 1)) n46 h9 < m4 n45 n46 h8)) (∃ J1 : Hp → Prop, (∀ h10 : Hp, J1 h10 → ∃ J2 : Hp → Prop, (∀ h11 : Hp, J2 h11 → par ((IntKind.wrap .i64 (shrI .u64 (IntKind.wrap .u64 (IntKind.wrap .i64 (n + n2))) 1)) < (IntKind.wrap .i64 ((IntKind.wrap .i64 ((IntKind.wrap .i64 (shrI .u64 (IntKind.wrap .u64 (IntKind.wrap .i64 (n + n2))) 1)) + n1)) - n45))) (par ((IntKind.wrap .i64 ((IntKind.wrap .i64 ((IntKind.wrap .i64 (shrI .u64 (IntKind.wrap .u64 (IntKind.wrap .i64 (n + n2))) 1)) + n1)) - n45)) < n2) (T120 l (IntKind.wrap .i64 (shrI .u64 (IntKind.wrap .u64 (IntKind.wrap .i64 (n + n2))) 1)) (IntKind.wrap .i64 ((IntKind.wrap .i64 ((IntKind.wrap .i64 (shrI .u64 (IntKind.wrap .u64 (IntKind.wrap .i64 (n + n2))) 1)) + n1)) - n45)) n2 h11 fun r3 h12 => Q (.tuple ⟨[]⟩) h12) (Q (.tuple ⟨[]⟩) h11)) (Q (.tuple ⟨[]⟩) h11)) ∧ (par (n < n45) (par (n45 < (IntKind.wrap .i64 (shrI .u64 (IntKind.wrap .u64 (IntKind.wrap .i64 (n + n2))) 1))) (T120 l n n45 (IntKind.wrap .i64 (shrI .u64 (IntKind.wrap .u64 (IntKind.wrap .i64 (n + n2))) 1)) h10 fun r4 h13 => J2 h13) (J2 h10)) (J2 h10))) ∧ (par (n45 < n1) (par (n1 < (IntKind.wrap .i64 ((IntKind.wrap .i64 ((IntKind.wrap .i64 (shrI .u64 (IntKind.wrap .u64 (IntKind.wrap .i64 (n + n2))) 1)) + n1)) - n45))) (F134.T l n45 n1 (IntKind.wrap .i64 ((IntKind.wrap .i64 ((IntKind.wrap .i64 (shrI .u64 (IntKind.wrap .u64 (IntKind.wrap .i64 (n + n2))) 1)) + n1)) - n45)) h8 fun r5 h14 => J1 h14) (J1 h8)) (J1 h8))))) ∧ (par ((IntKind.wrap .i64 (shrI .u64 (IntKind.wrap .u64 (IntKind.wrap .i64 (n + n2))) 1)) < n1) (J (IntKind.wrap .i64 ((IntKind.wrap .i64 ((IntKind.wrap .i64 (shrI .u64 (IntKind.wrap .u64 (IntKind.wrap .i64 (n + n2))) 1)) + n1)) - n2)) (IntKind.wrap .i64 (shrI .u64 (IntKind.wrap .u64 (IntKind.wrap .i64 (n + n2))) 1)) h) (J n n1 h))))
def F120.TN : Nat → Sl → Int → Int → Int → PT
  | 0 => fun _ _ _ _ _ _ => False
  | n + 1 => F120.G (F120.TN n)
def F120.T (l : Sl) (n : Int) (n1 : Int) (n2 : Int) : PT := fun h Q => ∃ nf, F120.TN nf l n n1 n2 h Q
def F120.W (T120 : Sl → Int → Int → Int → PT) (args : List Value) : PT := match args with
  | [.slice l_a l_n l_c, .int .i64 n, .int .i64 n1, .int .i64 n2, .func (.func 103) ⟨[]⟩ ⟨[]⟩] => T120 ⟨l_a, l_n, l_c⟩ n n1 n2
  | _ => fun _ _ => False
def F120.V : List Value → PT := F120.W F120.T
theorem F120.gen (V : Value → List Value → PT) (T103 : Int → Int → Int → Int → ByteArray → ByteArray → Int → Int → Int → Int → ByteArray → ByteArray → PT) (T120 : Sl → Int → Int → Int → PT) (T134 : Sl → Int → Int → Int → PT) (l : Sl) (n : Int) (n1 : Int) (n2 : Int) : denF Try.prog [] [(103, F103.W T103), (120, F120.W T120), (134, F134.W T134)] V [(63, .join [(20, .int .i64), (21, .int .i64)] []), (172, .loop [(10, .int .i64), (11, .int .i64)] []), (428, .loop [(14, .int .i64), (15, .int .i64)] []), (698, .loop [(13, .int .i64)] []), (1020, .loop [(20, .int .i64), (21, .int .i64)] []), (1023, .join [] []), (1722, .loop [(17, .int .i64)] []), (2047, .join [] []), (5514, .order [0, 1, 2, 3, 4, 5, 6, 7, 8, 9, 10]), (11172, .order [0, 1, 2, 3, 4, 5, 6, 7, 8, 9, 10, 11, 12, 13, 14, 15, 16, 17]), (13706, .order [0, 1, 2, 3, 4, 5, 6, 7, 8, 9, 10, 11]), (27556, .order [0, 1, 2, 3, 4, 5, 6, 7, 8, 9, 10, 11, 12, 13, 14, 15, 16, 17]), (32650, .order [0, 1, 2, 3, 4, 5, 6, 7, 8, 9, 10, 11, 12, 13])] Try.f120 [.v (.slice l.a l.n l.c), .v (.int .i64 n), .v (.int .i64 n1), .v (.int .i64 n2), .v (.func (.func 103) ⟨[]⟩ ⟨[]⟩)] = fun h Q =>
  par ((IntKind.wrap .i64 (n1 - n)) = 1) (∃ (I : Int → Int → Hp → Prop) (m : Int → Int → Hp → Nat), I n1 n2 h ∧ (∀ n3 : Int, ∀ n4 : Int, ∀ h1 : Hp, I n3 n4 h1 → par (n3 < n4) ((0 : Int) ≤ 1 ∧ ∃ b o, (l.a : Option Addr) = some ⟨b, o, none⟩ ∧ ((0 : Int) ≤ (IntKind.wrap .i64 (shrI .u64 (IntKind.wrap .u64 (IntKind.wrap .i64 (n3 + n4))) 1)) ∧ (IntKind.wrap .i64 (shrI .u64 (IntKind.wrap .u64 (IntKind.wrap .i64 (n3 + n4))) 1)) < (l.n : Int)) ∧ ∃ n5 : Int, h1.at b (o + ((IntKind.wrap .i64 (shrI .u64 (IntKind.wrap .u64 (IntKind.wrap .i64 (n3 + n4))) 1))).toNat * 6) = some (.int .u64 n5) ∧ ∃ n6 : Int, h1.at b ((o + ((IntKind.wrap .i64 (shrI .u64 (IntKind.wrap .u64 (IntKind.wrap .i64 (n3 + n4))) 1))).toNat * 6) + 1) = some (.int .i64 n6) ∧ ∃ n7 : Int, h1.at b ((o + ((IntKind.wrap .i64 (shrI .u64 (IntKind.wrap .u64 (IntKind.wrap .i64 (n3 + n4))) 1))).toNat * 6) + 2) = some (.int .i64 n7) ∧ ∃ n8 : Int, h1.at b ((o + ((IntKind.wrap .i64 (shrI .u64 (IntKind.wrap .u64 (IntKind.wrap .i64 (n3 + n4))) 1))).toNat * 6) + 3) = some (.int .i64 n8) ∧ ∃ s : ByteArray, h1.at b ((o + ((IntKind.wrap .i64 (shrI .u64 (IntKind.wrap .u64 (IntKind.wrap .i64 (n3 + n4))) 1))).toNat * 6) + 4) = some (.string s) ∧ ∃ s1 : ByteArray, h1.at b ((o + ((IntKind.wrap .i64 (shrI .u64 (IntKind.wrap .u64 (IntKind.wrap .i64 (n3 + n4))) 1))).toNat * 6) + 5) = some (.string s1) ∧ ∃ b1 o1, (l.a : Option Addr) = some ⟨b1, o1, none⟩ ∧ ((0 : Int) ≤ n ∧ n < (l.n : Int)) ∧ ∃ n9 : Int, h1.at b1 (o1 + n.toNat * 6) = some (.int .u64 n9) ∧ ∃ n10 : Int, h1.at b1 ((o1 + n.toNat * 6) + 1) = some (.int .i64 n10) ∧ ∃ n11 : Int, h1.at b1 ((o1 + n.toNat * 6) + 2) = some (.int .i64 n11) ∧ ∃ n12 : Int, h1.at b1 ((o1 + n.toNat * 6) + 3) = some (.int .i64 n12) ∧ ∃ s2 : ByteArray, h1.at b1 ((o1 + n.toNat * 6) + 4) = some (.string s2) ∧ ∃ s3 : ByteArray, h1.at b1 ((o1 + n.toNat * 6) + 5) = some (.string s3) ∧ T103 n5 n6 n7 n8 s s1 n9 n10 n11 n12 s2 s3 h1 fun r h2 => ∃ n13 : Int, r = .int .i64 n13 ∧ par (n13 < 0) (I (IntKind.wrap .i64 ((IntKind.wrap .i64 (shrI .u64 (IntKind.wrap .u64 (IntKind.wrap .i64 (n3 + n4))) 1)) + 1)) n4 h2 ∧ m (IntKind.wrap .i64 ((IntKind.wrap .i64 (shrI .u64 (IntKind.wrap .u64 (IntKind.wrap .i64 (n3 + n4))) 1)) + 1)) n4 h2 < m n3 n4 h1) (I n3 (IntKind.wrap .i64 (shrI .u64 (IntKind.wrap .u64 (IntKind.wrap .i64 (n3 + n4))) 1)) h2 ∧ m n3 (IntKind.wrap .i64 (shrI .u64 (IntKind.wrap .u64 (IntKind.wrap .i64 (n3 + n4))) 1)) h2 < m n3 n4 h1)) (∃ (I1 : Int → Hp → Prop) (m1 : Int → Hp → Nat), I1 n h1 ∧ (∀ n14 : Int, ∀ h3 : Hp, I1 n14 h3 → par (n14 < (IntKind.wrap .i64 (n3 - 1))) (∃ b2 o2, (l.a : Option Addr) = some ⟨b2, o2, none⟩ ∧ ((0 : Int) ≤ (IntKind.wrap .i64 (n14 + 1)) ∧ (IntKind.wrap .i64 (n14 + 1)) < (l.n : Int)) ∧ ∃ n15 : Int, h3.at b2 (o2 + ((IntKind.wrap .i64 (n14 + 1))).toNat * 6) = some (.int .u64 n15) ∧ ∃ n16 : Int, h3.at b2 ((o2 + ((IntKind.wrap .i64 (n14 + 1))).toNat * 6) + 1) = some (.int .i64 n16) ∧ ∃ n17 : Int, h3.at b2 ((o2 + ((IntKind.wrap .i64 (n14 + 1))).toNat * 6) + 2) = some (.int .i64 n17) ∧ ∃ n18 : Int, h3.at b2 ((o2 + ((IntKind.wrap .i64 (n14 + 1))).toNat * 6) + 3) = some (.int .i64 n18) ∧ ∃ s4 : ByteArray, h3.at b2 ((o2 + ((IntKind.wrap .i64 (n14 + 1))).toNat * 6) + 4) = some (.string s4) ∧ ∃ s5 : ByteArray, h3.at b2 ((o2 + ((IntKind.wrap .i64 (n14 + 1))).toNat * 6) + 5) = some (.string s5) ∧ ∃ b3 o3, (l.a : Option Addr) = some ⟨b3, o3, none⟩ ∧ ((0 : Int) ≤ n14 ∧ n14 < (l.n : Int)) ∧ ∃ n19 : Int, h3.at b3 (o3 + n14.toNat * 6) = some (.int .u64 n19) ∧ ∃ n20 : Int, h3.at b3 ((o3 + n14.toNat * 6) + 1) = some (.int .i64 n20) ∧ ∃ n21 : Int, h3.at b3 ((o3 + n14.toNat * 6) + 2) = some (.int .i64 n21) ∧ ∃ n22 : Int, h3.at b3 ((o3 + n14.toNat * 6) + 3) = some (.int .i64 n22) ∧ ∃ s6 : ByteArray, h3.at b3 ((o3 + n14.toNat * 6) + 4) = some (.string s6) ∧ ∃ s7 : ByteArray, h3.at b3 ((o3 + n14.toNat * 6) + 5) = some (.string s7) ∧ ∃ b4 o4, (l.a : Option Addr) = some ⟨b4, o4, none⟩ ∧ ((0 : Int) ≤ n14 ∧ n14 < (l.n : Int)) ∧ h3.canW b4 (o4 + n14.toNat * 6) 6 ∧ ∃ b5 o5, (l.a : Option Addr) = some ⟨b5, o5, none⟩ ∧ ((0 : Int) ≤ (IntKind.wrap .i64 (n14 + 1)) ∧ (IntKind.wrap .i64 (n14 + 1)) < (l.n : Int)) ∧ (h3.wr b4 (o4 + n14.toNat * 6) [.int .u64 n15, .int .i64 n16, .int .i64 n17, .int .i64 n18, .string s4, .string s5]).canW b5 (o5 + ((IntKind.wrap .i64 (n14 + 1))).toNat * 6) 6 ∧ I1 (IntKind.wrap .i64 (n14 + 1)) ((h3.wr b4 (o4 + n14.toNat * 6) [.int .u64 n15, .int .i64 n16, .int .i64 n17, .int .i64 n18, .string s4, .string s5]).wr b5 (o5 + ((IntKind.wrap .i64 (n14 + 1))).toNat * 6) [.int .u64 n19, .int .i64 n20, .int .i64 n21, .int .i64 n22, .string s6, .string s7]) ∧ m1 (IntKind.wrap .i64 (n14 + 1)) ((h3.wr b4 (o4 + n14.toNat * 6) [.int .u64 n15, .int .i64 n16, .int .i64 n17, .int .i64 n18, .string s4, .string s5]).wr b5 (o5 + ((IntKind.wrap .i64 (n14 + 1))).toNat * 6) [.int .u64 n19, .int .i64 n20, .int .i64 n21, .int .i64 n22, .string s6, .string s7]) < m1 n14 h3) (Q (.tuple ⟨[]⟩) h3))))) (par ((IntKind.wrap .i64 (n2 - n1)) = 1) (∃ (I2 : Int → Int → Hp → Prop) (m2 : Int → Int → Hp → Nat), I2 n n1 h ∧ (∀ n23 : Int, ∀ n24 : Int, ∀ h4 : Hp, I2 n23 n24 h4 → par (n23 < n24) ((0 : Int) ≤ 1 ∧ ∃ b6 o6, (l.a : Option Addr) = some ⟨b6, o6, none⟩ ∧ ((0 : Int) ≤ n1 ∧ n1 < (l.n : Int)) ∧ ∃ n25 : Int, h4.at b6 (o6 + n1.toNat * 6) = some (.int .u64 n25) ∧ ∃ n26 : Int, h4.at b6 ((o6 + n1.toNat * 6) + 1) = some (.int .i64 n26) ∧ ∃ n27 : Int, h4.at b6 ((o6 + n1.toNat * 6) + 2) = some (.int .i64 n27) ∧ ∃ n28 : Int, h4.at b6 ((o6 + n1.toNat * 6) + 3) = some (.int .i64 n28) ∧ ∃ s8 : ByteArray, h4.at b6 ((o6 + n1.toNat * 6) + 4) = some (.string s8) ∧ ∃ s9 : ByteArray, h4.at b6 ((o6 + n1.toNat * 6) + 5) = some (.string s9) ∧ ∃ b7 o7, (l.a : Option Addr) = some ⟨b7, o7, none⟩ ∧ ((0 : Int) ≤ (IntKind.wrap .i64 (shrI .u64 (IntKind.wrap .u64 (IntKind.wrap .i64 (n23 + n24))) 1)) ∧ (IntKind.wrap .i64 (shrI .u64 (IntKind.wrap .u64 (IntKind.wrap .i64 (n23 + n24))) 1)) < (l.n : Int)) ∧ ∃ n29 : Int, h4.at b7 (o7 + ((IntKind.wrap .i64 (shrI .u64 (IntKind.wrap .u64 (IntKind.wrap .i64 (n23 + n24))) 1))).toNat * 6) = some (.int .u64 n29) ∧ ∃ n30 : Int, h4.at b7 ((o7 + ((IntKind.wrap .i64 (shrI .u64 (IntKind.wrap .u64 (IntKind.wrap .i64 (n23 + n24))) 1))).toNat * 6) + 1) = some (.int .i64 n30) ∧ ∃ n31 : Int, h4.at b7 ((o7 + ((IntKind.wrap .i64 (shrI .u64 (IntKind.wrap .u64 (IntKind.wrap .i64 (n23 + n24))) 1))).toNat * 6) + 2) = some (.int .i64 n31) ∧ ∃ n32 : Int, h4.at b7 ((o7 + ((IntKind.wrap .i64 (shrI .u64 (IntKind.wrap .u64 (IntKind.wrap .i64 (n23 + n24))) 1))).toNat * 6) + 3) = some (.int .i64 n32) ∧ ∃ s10 : ByteArray, h4.at b7 ((o7 + ((IntKind.wrap .i64 (shrI .u64 (IntKind.wrap .u64 (IntKind.wrap .i64 (n23 + n24))) 1))).toNat * 6) + 4) = some (.string s10) ∧ ∃ s11 : ByteArray, h4.at b7 ((o7 + ((IntKind.wrap .i64 (shrI .u64 (IntKind.wrap .u64 (IntKind.wrap .i64 (n23 + n24))) 1))).toNat * 6) + 5) = some (.string s11) ∧ T103 n25 n26 n27 n28 s8 s9 n29 n30 n31 n32 s10 s11 h4 fun r1 h5 => ∃ n33 : Int, r1 = .int .i64 n33 ∧ par (n33 < 0) (I2 n23 (IntKind.wrap .i64 (shrI .u64 (IntKind.wrap .u64 (IntKind.wrap .i64 (n23 + n24))) 1)) h5 ∧ m2 n23 (IntKind.wrap .i64 (shrI .u64 (IntKind.wrap .u64 (IntKind.wrap .i64 (n23 + n24))) 1)) h5 < m2 n23 n24 h4) (I2 (IntKind.wrap .i64 ((IntKind.wrap .i64 (shrI .u64 (IntKind.wrap .u64 (IntKind.wrap .i64 (n23 + n24))) 1)) + 1)) n24 h5 ∧ m2 (IntKind.wrap .i64 ((IntKind.wrap .i64 (shrI .u64 (IntKind.wrap .u64 (IntKind.wrap .i64 (n23 + n24))) 1)) + 1)) n24 h5 < m2 n23 n24 h4)) (∃ (I3 : Int → Hp → Prop) (m3 : Int → Hp → Nat), I3 n1 h4 ∧ (∀ n34 : Int, ∀ h6 : Hp, I3 n34 h6 → par (n23 < n34) (∃ b8 o8, (l.a : Option Addr) = some ⟨b8, o8, none⟩ ∧ ((0 : Int) ≤ (IntKind.wrap .i64 (n34 - 1)) ∧ (IntKind.wrap .i64 (n34 - 1)) < (l.n : Int)) ∧ ∃ n35 : Int, h6.at b8 (o8 + ((IntKind.wrap .i64 (n34 - 1))).toNat * 6) = some (.int .u64 n35) ∧ ∃ n36 : Int, h6.at b8 ((o8 + ((IntKind.wrap .i64 (n34 - 1))).toNat * 6) + 1) = some (.int .i64 n36) ∧ ∃ n37 : Int, h6.at b8 ((o8 + ((IntKind.wrap .i64 (n34 - 1))).toNat * 6) + 2) = some (.int .i64 n37) ∧ ∃ n38 : Int, h6.at b8 ((o8 + ((IntKind.wrap .i64 (n34 - 1))).toNat * 6) + 3) = some (.int .i64 n38) ∧ ∃ s12 : ByteArray, h6.at b8 ((o8 + ((IntKind.wrap .i64 (n34 - 1))).toNat * 6) + 4) = some (.string s12) ∧ ∃ s13 : ByteArray, h6.at b8 ((o8 + ((IntKind.wrap .i64 (n34 - 1))).toNat * 6) + 5) = some (.string s13) ∧ ∃ b9 o9, (l.a : Option Addr) = some ⟨b9, o9, none⟩ ∧ ((0 : Int) ≤ n34 ∧ n34 < (l.n : Int)) ∧ ∃ n39 : Int, h6.at b9 (o9 + n34.toNat * 6) = some (.int .u64 n39) ∧ ∃ n40 : Int, h6.at b9 ((o9 + n34.toNat * 6) + 1) = some (.int .i64 n40) ∧ ∃ n41 : Int, h6.at b9 ((o9 + n34.toNat * 6) + 2) = some (.int .i64 n41) ∧ ∃ n42 : Int, h6.at b9 ((o9 + n34.toNat * 6) + 3) = some (.int .i64 n42) ∧ ∃ s14 : ByteArray, h6.at b9 ((o9 + n34.toNat * 6) + 4) = some (.string s14) ∧ ∃ s15 : ByteArray, h6.at b9 ((o9 + n34.toNat * 6) + 5) = some (.string s15) ∧ ∃ b10 o10, (l.a : Option Addr) = some ⟨b10, o10, none⟩ ∧ ((0 : Int) ≤ n34 ∧ n34 < (l.n : Int)) ∧ h6.canW b10 (o10 + n34.toNat * 6) 6 ∧ ∃ b11 o11, (l.a : Option Addr) = some ⟨b11, o11, none⟩ ∧ ((0 : Int) ≤ (IntKind.wrap .i64 (n34 - 1)) ∧ (IntKind.wrap .i64 (n34 - 1)) < (l.n : Int)) ∧ (h6.wr b10 (o10 + n34.toNat * 6) [.int .u64 n35, .int .i64 n36, .int .i64 n37, .int .i64 n38, .string s12, .string s13]).canW b11 (o11 + ((IntKind.wrap .i64 (n34 - 1))).toNat * 6) 6 ∧ I3 (IntKind.wrap .i64 (n34 - 1)) ((h6.wr b10 (o10 + n34.toNat * 6) [.int .u64 n35, .int .i64 n36, .int .i64 n37, .int .i64 n38, .string s12, .string s13]).wr b11 (o11 + ((IntKind.wrap .i64 (n34 - 1))).toNat * 6) [.int .u64 n39, .int .i64 n40, .int .i64 n41, .int .i64 n42, .string s14, .string s15]) ∧ m3 (IntKind.wrap .i64 (n34 - 1)) ((h6.wr b10 (o10 + n34.toNat * 6) [.int .u64 n35, .int .i64 n36, .int .i64 n37, .int .i64 n38, .string s12, .string s13]).wr b11 (o11 + ((IntKind.wrap .i64 (n34 - 1))).toNat * 6) [.int .u64 n39, .int .i64 n40, .int .i64 n41, .int .i64 n42, .string s14, .string s15]) < m3 n34 h6) (Q (.tuple ⟨[]⟩) h6))))) ((0 : Int) ≤ 1 ∧ ∃ J : Int → Int → Hp → Prop, (∀ n43 : Int, ∀ n44 : Int, ∀ h7 : Hp, J n43 n44 h7 → ∃ (I4 : Int → Int → Hp → Prop) (m4 : Int → Int → Hp → Nat), I4 n43 n44 h7 ∧ (∀ n45 : Int, ∀ n46 : Int, ∀ h8 : Hp, I4 n45 n46 h8 → par (n45 < n46) ((0 : Int) ≤ 1 ∧ ∃ b12 o12, (l.a : Option Addr) = some ⟨b12, o12, none⟩ ∧ ((0 : Int) ≤ (IntKind.wrap .i64 ((IntKind.wrap .i64 ((IntKind.wrap .i64 ((IntKind.wrap .i64 (shrI .u64 (IntKind.wrap .u64 (IntKind.wrap .i64 (n + n2))) 1)) + n1)) - 1)) - (IntKind.wrap .i64 (shrI .u64 (IntKind.wrap .u64 (IntKind.wrap .i64 (n45 + n46))) 1)))) ∧ (IntKind.wrap .i64 ((IntKind.wrap .i64 ((IntKind.wrap .i64 ((IntKind.wrap .i64 (shrI .u64 (IntKind.wrap .u64 (IntKind.wrap .i64 (n + n2))) 1)) + n1)) - 1)) - (IntKind.wrap .i64 (shrI .u64 (IntKind.wrap .u64 (IntKind.wrap .i64 (n45 + n46))) 1)))) < (l.n : Int)) ∧ ∃ n47 : Int, h8.at b12 (o12 + ((IntKind.wrap .i64 ((IntKind.wrap .i64 ((IntKind.wrap .i64 ((IntKind.wrap .i64 (shrI .u64 (IntKind.wrap .u64 (IntKind.wrap .i64 (n + n2))) 1)) + n1)) - 1)) - (IntKind.wrap .i64 (shrI .u64 (IntKind.wrap .u64 (IntKind.wrap .i64 (n45 + n46))) 1))))).toNat * 6) = some (.int .u64 n47) ∧ ∃ n48 : Int, h8.at b12 ((o12 + ((IntKind.wrap .i64 ((IntKind.wrap .i64 ((IntKind.wrap .i64 ((IntKind.wrap .i64 (shrI .u64 (IntKind.wrap .u64 (IntKind.wrap .i64 (n + n2))) 1)) + n1)) - 1)) - (IntKind.wrap .i64 (shrI .u64 (IntKind.wrap .u64 (IntKind.wrap .i64 (n45 + n46))) 1))))).toNat * 6) + 1) = some (.int .i64 n48) ∧ ∃ n49 : Int, h8.at b12 ((o12 + ((IntKind.wrap .i64 ((IntKind.wrap .i64 ((IntKind.wrap .i64 ((IntKind.wrap .i64 (shrI .u64 (IntKind.wrap .u64 (IntKind.wrap .i64 (n + n2))) 1)) + n1)) - 1)) - (IntKind.wrap .i64 (shrI .u64 (IntKind.wrap .u64 (IntKind.wrap .i64 (n45 + n46))) 1))))).toNat * 6) + 2) = some (.int .i64 n49) ∧ ∃ n50 : Int, h8.at b12 ((o12 + ((IntKind.wrap .i64 ((IntKind.wrap .i64 ((IntKind.wrap .i64 ((IntKind.wrap .i64 (shrI .u64 (IntKind.wrap .u64 (IntKind.wrap .i64 (n + n2))) 1)) + n1)) - 1)) - (IntKind.wrap .i64 (shrI .u64 (IntKind.wrap .u64 (IntKind.wrap .i64 (n45 + n46))) 1))))).toNat * 6) + 3) = some (.int .i64 n50) ∧ ∃ s16 : ByteArray, h8.at b12 ((o12 + ((IntKind.wrap .i64 ((IntKind.wrap .i64 ((IntKind.wrap .i64 ((IntKind.wrap .i64 (shrI .u64 (IntKind.wrap .u64 (IntKind.wrap .i64 (n + n2))) 1)) + n1)) - 1)) - (IntKind.wrap .i64 (shrI .u64 (IntKind.wrap .u64 (IntKind.wrap .i64 (n45 + n46))) 1))))).toNat * 6) + 4) = some (.string s16) ∧ ∃ s17 : ByteArray, h8.at b12 ((o12 + ((IntKind.wrap .i64 ((IntKind.wrap .i64 ((IntKind.wrap .i64 ((IntKind.wrap .i64 (shrI .u64 (IntKind.wrap .u64 (IntKind.wrap .i64 (n + n2))) 1)) + n1)) - 1)) - (IntKind.wrap .i64 (shrI .u64 (IntKind.wrap .u64 (IntKind.wrap .i64 (n45 + n46))) 1))))).toNat * 6) + 5) = some (.string s17) ∧ ∃ b13 o13, (l.a : Option Addr) = some ⟨b13, o13, none⟩ ∧ ((0 : Int) ≤ (IntKind.wrap .i64 (shrI .u64 (IntKind.wrap .u64 (IntKind.wrap .i64 (n45 + n46))) 1)) ∧ (IntKind.wrap .i64 (shrI .u64 (IntKind.wrap .u64 (IntKind.wrap .i64 (n45 + n46))) 1)) < (l.n : Int)) ∧ ∃ n51 : Int, h8.at b13 (o13 + ((IntKind.wrap .i64 (shrI .u64 (IntKind.wrap .u64 (IntKind.wrap .i64 (n45 + n46))) 1))).toNat * 6) = some (.int .u64 n51) ∧ ∃ n52 : Int, h8.at b13 ((o13 + ((IntKind.wrap .i64 (shrI .u64 (IntKind.wrap .u64 (IntKind.wrap .i64 (n45 + n46))) 1))).toNat * 6) + 1) = some (.int .i64 n52) ∧ ∃ n53 : Int, h8.at b13 ((o13 + ((IntKind.wrap .i64 (shrI .u64 (IntKind.wrap .u64 (IntKind.wrap .i64 (n45 + n46))) 1))).toNat * 6) + 2) = some (.int .i64 n53) ∧ ∃ n54 : Int, h8.at b13 ((o13 + ((IntKind.wrap .i64 (shrI .u64 (IntKind.wrap .u64 (IntKind.wrap .i64 (n45 + n46))) 1))).toNat * 6) + 3) = some (.int .i64 n54) ∧ ∃ s18 : ByteArray, h8.at b13 ((o13 + ((IntKind.wrap .i64 (shrI .u64 (IntKind.wrap .u64 (IntKind.wrap .i64 (n45 + n46))) 1))).toNat * 6) + 4) = some (.string s18) ∧ ∃ s19 : ByteArray, h8.at b13 ((o13 + ((IntKind.wrap .i64 (shrI .u64 (IntKind.wrap .u64 (IntKind.wrap .i64 (n45 + n46))) 1))).toNat * 6) + 5) = some (.string s19) ∧ T103 n47 n48 n49 n50 s16 s17 n51 n52 n53 n54 s18 s19 h8 fun r2 h9 => ∃ n55 : Int, r2 = .int .i64 n55 ∧ par (n55 < 0) (I4 n45 (IntKind.wrap .i64 (shrI .u64 (IntKind.wrap .u64 (IntKind.wrap .i64 (n45 + n46))) 1)) h9 ∧ m4 n45 (IntKind.wrap .i64 (shrI .u64 (IntKind.wrap .u64 (IntKind.wrap .i64 (n45 + n46))) 1)) h9 < m4 n45 n46 h8) (I4 (IntKind.wrap .i64 ((IntKind.wrap .i64 (shrI .u64 (IntKind.wrap .u64 (IntKind.wrap .i64 (n45 + n46))) 1)) + 1)) n46 h9 ∧ m4 (IntKind.wrap .i64 ((IntKind.wrap .i64 (shrI .u64 (IntKind.wrap .u64 (IntKind.wrap .i64 (n45 + n46))) 1)) + 1)) n46 h9 < m4 n45 n46 h8)) (∃ J1 : Hp → Prop, (∀ h10 : Hp, J1 h10 → ∃ J2 : Hp → Prop, (∀ h11 : Hp, J2 h11 → par ((IntKind.wrap .i64 (shrI .u64 (IntKind.wrap .u64 (IntKind.wrap .i64 (n + n2))) 1)) < (IntKind.wrap .i64 ((IntKind.wrap .i64 ((IntKind.wrap .i64 (shrI .u64 (IntKind.wrap .u64 (IntKind.wrap .i64 (n + n2))) 1)) + n1)) - n45))) (par ((IntKind.wrap .i64 ((IntKind.wrap .i64 ((IntKind.wrap .i64 (shrI .u64 (IntKind.wrap .u64 (IntKind.wrap .i64 (n + n2))) 1)) + n1)) - n45)) < n2) (T120 l (IntKind.wrap .i64 (shrI .u64 (IntKind.wrap .u64 (IntKind.wrap .i64 (n + n2))) 1)) (IntKind.wrap .i64 ((IntKind.wrap .i64 ((IntKind.wrap .i64 (shrI .u64 (IntKind.wrap .u64 (IntKind.wrap .i64 (n + n2))) 1)) + n1)) - n45)) n2 h11 fun r3 h12 => Q (.tuple ⟨[]⟩) h12) (Q (.tuple ⟨[]⟩) h11)) (Q (.tuple ⟨[]⟩) h11)) ∧ (par (n < n45) (par (n45 < (IntKind.wrap .i64 (shrI .u64 (IntKind.wrap .u64 (IntKind.wrap .i64 (n + n2))) 1))) (T120 l n n45 (IntKind.wrap .i64 (shrI .u64 (IntKind.wrap .u64 (IntKind.wrap .i64 (n + n2))) 1)) h10 fun r4 h13 => J2 h13) (J2 h10)) (J2 h10))) ∧ (par (n45 < n1) (par (n1 < (IntKind.wrap .i64 ((IntKind.wrap .i64 ((IntKind.wrap .i64 (shrI .u64 (IntKind.wrap .u64 (IntKind.wrap .i64 (n + n2))) 1)) + n1)) - n45))) (T134 l n45 n1 (IntKind.wrap .i64 ((IntKind.wrap .i64 ((IntKind.wrap .i64 (shrI .u64 (IntKind.wrap .u64 (IntKind.wrap .i64 (n + n2))) 1)) + n1)) - n45)) h8 fun r5 h14 => J1 h14) (J1 h8)) (J1 h8))))) ∧ (par ((IntKind.wrap .i64 (shrI .u64 (IntKind.wrap .u64 (IntKind.wrap .i64 (n + n2))) 1)) < n1) (J (IntKind.wrap .i64 ((IntKind.wrap .i64 ((IntKind.wrap .i64 (shrI .u64 (IntKind.wrap .u64 (IntKind.wrap .i64 (n + n2))) 1)) + n1)) - n2)) (IntKind.wrap .i64 (shrI .u64 (IntKind.wrap .u64 (IntKind.wrap .i64 (n + n2))) 1)) h) (J n n1 h)))) := by kernel_rfl
theorem F120.den (V : Value → List Value → PT) (nf : Nat) (l : Sl) (n : Int) (n1 : Int) (n2 : Int) : denF Try.prog [] [(103, F103.V), (120, F120.W (F120.TN nf)), (134, F134.V)] V [(63, .join [(20, .int .i64), (21, .int .i64)] []), (172, .loop [(10, .int .i64), (11, .int .i64)] []), (428, .loop [(14, .int .i64), (15, .int .i64)] []), (698, .loop [(13, .int .i64)] []), (1020, .loop [(20, .int .i64), (21, .int .i64)] []), (1023, .join [] []), (1722, .loop [(17, .int .i64)] []), (2047, .join [] []), (5514, .order [0, 1, 2, 3, 4, 5, 6, 7, 8, 9, 10]), (11172, .order [0, 1, 2, 3, 4, 5, 6, 7, 8, 9, 10, 11, 12, 13, 14, 15, 16, 17]), (13706, .order [0, 1, 2, 3, 4, 5, 6, 7, 8, 9, 10, 11]), (27556, .order [0, 1, 2, 3, 4, 5, 6, 7, 8, 9, 10, 11, 12, 13, 14, 15, 16, 17]), (32650, .order [0, 1, 2, 3, 4, 5, 6, 7, 8, 9, 10, 11, 12, 13])] Try.f120 [.v (.slice l.a l.n l.c), .v (.int .i64 n), .v (.int .i64 n1), .v (.int .i64 n2), .v (.func (.func 103) ⟨[]⟩ ⟨[]⟩)] = F120.TN (nf + 1) l n n1 n2 := F120.gen V F103.T (F120.TN nf) F134.T l n n1 n2
theorem F120.okN : ∀ n, FOk Try.prog 120 (F120.W (F120.TN n))
  | 0 => by
    refine ⟨⟨_, Try.func120, rfl, rfl⟩, fun args => ?_⟩
    unfold F120.W
    split
    · exact fun h Q hq => hq.elim
    · exact fun h Q hq => hq.elim
  | nf + 1 => by
    refine ⟨⟨_, Try.func120, rfl, rfl⟩, fun args => ?_⟩
    have hG : GOk Try.prog [(103, F103.V), (120, F120.W (F120.TN nf)), (134, F134.V)] := GOk.cons F103.ok (GOk.cons (F120.okN nf) (GOk.cons F134.ok (GOk.nil)))
    have hV : VOk Try.prog noV := noV_ok
    unfold F120.W
    split
    · exact denF_okV hG hV Try.func120 (fun h Q hq => (F120.den _ nf _ _ _ _) ▸ hq)
    · exact fun h Q hq => hq.elim
theorem F120.ok : FOk Try.prog 120 F120.V := by
  refine ⟨(F120.okN 0).1, fun args h Q hq => ?_⟩
  unfold F120.V F120.W at hq
  split at hq
  · obtain ⟨nf, hn⟩ := hq
    exact (F120.okN nf).2 _ h Q hn
  · exact hq.elim
def F114.T (l : Sl) (n : Int) : PT := fun h Q =>
  ∃ (I : Int → Int → Hp → Prop) (m : Int → Int → Hp → Nat), I 0 20 h ∧ (∀ n1 : Int, ∀ n2 : Int, ∀ h1 : Hp, I n1 n2 h1 → par (n2 ≤ n) (F119.T l n1 n2 h1 fun r h2 => I n2 (IntKind.wrap .i64 (n2 + 20)) h2 ∧ m n2 (IntKind.wrap .i64 (n2 + 20)) h2 < m n1 n2 h1) (F119.T l n1 n h1 fun r1 h3 => ∃ (I1 : Int → Hp → Prop) (m1 : Int → Hp → Nat), I1 20 h3 ∧ (∀ n3 : Int, ∀ h4 : Hp, I1 n3 h4 → par (n3 < n) (∃ (I2 : Int → Int → Hp → Prop) (m2 : Int → Int → Hp → Nat), I2 0 (IntKind.wrap .i64 (2 * n3)) h4 ∧ (∀ n4 : Int, ∀ n5 : Int, ∀ h5 : Hp, I2 n4 n5 h5 → par (n5 ≤ n) (F120.T l n4 (IntKind.wrap .i64 (n4 + n3)) n5 h5 fun r2 h6 => I2 n5 (IntKind.wrap .i64 (n5 + (IntKind.wrap .i64 (2 * n3)))) h6 ∧ m2 n5 (IntKind.wrap .i64 (n5 + (IntKind.wrap .i64 (2 * n3)))) h6 < m2 n4 n5 h5) (par ((IntKind.wrap .i64 (n4 + n3)) < n) (F120.T l n4 (IntKind.wrap .i64 (n4 + n3)) n h5 fun r3 h7 => I1 (IntKind.wrap .i64 (n3 * 2)) h7 ∧ m1 (IntKind.wrap .i64 (n3 * 2)) h7 < m1 n3 h4) (I1 (IntKind.wrap .i64 (n3 * 2)) h5 ∧ m1 (IntKind.wrap .i64 (n3 * 2)) h5 < m1 n3 h4)))) (Q (.tuple ⟨[]⟩) h4))))
theorem F114.gen (V : Value → List Value → PT) (T119 : Sl → Int → Int → PT) (T120 : Sl → Int → Int → Int → PT) (l : Sl) (n : Int) : denF Try.prog [] [(119, F119.W T119), (120, F120.W T120)] V [(28, .loop [(7, .int .i64), (8, .int .i64)] []), (62, .loop [(6, .int .i64)] []), (3988, .loop [(7, .int .i64), (8, .int .i64)] [])] Try.f114 [.v (.slice l.a l.n l.c), .v (.int .i64 n), .v (.func (.func 103) ⟨[]⟩ ⟨[]⟩)] = fun h Q =>
  ∃ (I : Int → Int → Hp → Prop) (m : Int → Int → Hp → Nat), I 0 20 h ∧ (∀ n1 : Int, ∀ n2 : Int, ∀ h1 : Hp, I n1 n2 h1 → par (n2 ≤ n) (T119 l n1 n2 h1 fun r h2 => I n2 (IntKind.wrap .i64 (n2 + 20)) h2 ∧ m n2 (IntKind.wrap .i64 (n2 + 20)) h2 < m n1 n2 h1) (T119 l n1 n h1 fun r1 h3 => ∃ (I1 : Int → Hp → Prop) (m1 : Int → Hp → Nat), I1 20 h3 ∧ (∀ n3 : Int, ∀ h4 : Hp, I1 n3 h4 → par (n3 < n) (∃ (I2 : Int → Int → Hp → Prop) (m2 : Int → Int → Hp → Nat), I2 0 (IntKind.wrap .i64 (2 * n3)) h4 ∧ (∀ n4 : Int, ∀ n5 : Int, ∀ h5 : Hp, I2 n4 n5 h5 → par (n5 ≤ n) (T120 l n4 (IntKind.wrap .i64 (n4 + n3)) n5 h5 fun r2 h6 => I2 n5 (IntKind.wrap .i64 (n5 + (IntKind.wrap .i64 (2 * n3)))) h6 ∧ m2 n5 (IntKind.wrap .i64 (n5 + (IntKind.wrap .i64 (2 * n3)))) h6 < m2 n4 n5 h5) (par ((IntKind.wrap .i64 (n4 + n3)) < n) (T120 l n4 (IntKind.wrap .i64 (n4 + n3)) n h5 fun r3 h7 => I1 (IntKind.wrap .i64 (n3 * 2)) h7 ∧ m1 (IntKind.wrap .i64 (n3 * 2)) h7 < m1 n3 h4) (I1 (IntKind.wrap .i64 (n3 * 2)) h5 ∧ m1 (IntKind.wrap .i64 (n3 * 2)) h5 < m1 n3 h4)))) (Q (.tuple ⟨[]⟩) h4)))) := by kernel_rfl
theorem F114.den (V : Value → List Value → PT) (l : Sl) (n : Int) : denF Try.prog [] [(119, F119.V), (120, F120.V)] V [(28, .loop [(7, .int .i64), (8, .int .i64)] []), (62, .loop [(6, .int .i64)] []), (3988, .loop [(7, .int .i64), (8, .int .i64)] [])] Try.f114 [.v (.slice l.a l.n l.c), .v (.int .i64 n), .v (.func (.func 103) ⟨[]⟩ ⟨[]⟩)] = F114.T l n := F114.gen V F119.T F120.T l n
def F114.W (T114 : Sl → Int → PT) (args : List Value) : PT := match args with
  | [.slice l_a l_n l_c, .int .i64 n, .func (.func 103) ⟨[]⟩ ⟨[]⟩] => T114 ⟨l_a, l_n, l_c⟩ n
  | _ => fun _ _ => False
def F114.V : List Value → PT := F114.W F114.T
theorem F114.ok : FOk Try.prog 114 F114.V := by
  refine ⟨⟨_, Try.func114, rfl, rfl⟩, fun args => ?_⟩
  have hG : GOk Try.prog [(119, F119.V), (120, F120.V)] := GOk.cons F119.ok (GOk.cons F120.ok (GOk.nil))
  have hV : VOk Try.prog noV := noV_ok
  unfold F114.V F114.W
  split
  · exact denF_okV hG hV Try.func114 (fun h Q hq => (F114.den _ _ _) ▸ hq)
  · exact fun h Q hq => hq.elim
def F102.T (l : Sl) : PT := fun h Q =>
  F114.T l (l.n : Int) h fun r h1 => Q (.tuple ⟨[]⟩) h1
theorem F102.gen (V : Value → List Value → PT) (T114 : Sl → Int → PT) (l : Sl) : denF Try.prog [] [(114, F114.W T114)] V [] Try.f102 [.v (.slice l.a l.n l.c), .v (.func (.func 103) ⟨[]⟩ ⟨[]⟩)] = fun h Q =>
  T114 l (l.n : Int) h fun r h1 => Q (.tuple ⟨[]⟩) h1 := by kernel_rfl
theorem F102.den (V : Value → List Value → PT) (l : Sl) : denF Try.prog [] [(114, F114.V)] V [] Try.f102 [.v (.slice l.a l.n l.c), .v (.func (.func 103) ⟨[]⟩ ⟨[]⟩)] = F102.T l := F102.gen V F114.T l
def F102.W (T102 : Sl → PT) (args : List Value) : PT := match args with
  | [.slice l_a l_n l_c, .func (.func 103) ⟨[]⟩ ⟨[]⟩] => T102 ⟨l_a, l_n, l_c⟩
  | _ => fun _ _ => False
def F102.V : List Value → PT := F102.W F102.T
theorem F102.ok : FOk Try.prog 102 F102.V := by
  refine ⟨⟨_, Try.func102, rfl, rfl⟩, fun args => ?_⟩
  have hG : GOk Try.prog [(114, F114.V)] := GOk.cons F114.ok (GOk.nil)
  have hV : VOk Try.prog noV := noV_ok
  unfold F102.V F102.W
  split
  · exact denF_okV hG hV Try.func102 (fun h Q hq => (F102.den _ _) ▸ hq)
  · exact fun h Q hq => hq.elim
end Go.Eng.Ytblghgacokoklaa
end
