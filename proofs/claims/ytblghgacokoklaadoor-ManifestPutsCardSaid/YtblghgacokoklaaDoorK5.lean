/-
  TEXTS OF MINE, JOINED: N2 T7 C0 D1 D2 D4 D5 D7 T8 T9.
-/
import Derived.Test.YtblghgacokoklaaDoorK4
import Derived.Test.YtblghgacokoklaaDoorK2
import Derived.Test.YtblghgacokoklaaDoorProg
import Derived.Test.YtblghgacokoklaaDoorK0
section
set_option maxRecDepth 100000
set_option linter.unusedVariables false
open Go.Proofs
namespace Go.Eng.YtblghgacokoklaaDoor
def F134.T (l : Sl) (n : Int) : PT := fun h Q =>
  F86.T l h fun r h1 => ∃ n1 : Int, ∃ n2 : Int, ∃ n3 : Int, r = .tuple ⟨[.int .u64 n1, .int .i64 n2, .int .i64 n3]⟩ ∧ par (n3 = 0) (par (n < 0) (Q (.tuple ⟨[.string (ByteArray.mk #[]), .int .i64 0, .int .i64 22]⟩) h1) (par ((IntKind.wrap .u64 n) < n1) (Q (.tuple ⟨[.string (ByteArray.mk #[]), .int .i64 0, .int .i64 22]⟩) h1) (par ((IntKind.wrap .u64 (IntKind.wrap .i64 ((l.n : Int) - n2))) < n1) (Q (.tuple ⟨[.string (ByteArray.mk #[]), .int .i64 0, .int .i64 20]⟩) h1) (Sl.okCut l n2 (IntKind.wrap .i64 (n2 + (IntKind.wrap .i64 n1))) (l.c : Int) ∧ ∃ s : ByteArray, h1.row ((Sl.cut l 1 n2 (IntKind.wrap .i64 (n2 + (IntKind.wrap .i64 n1))) (l.c : Int)).a) ((Sl.cut l 1 n2 (IntKind.wrap .i64 (n2 + (IntKind.wrap .i64 n1))) (l.c : Int)).n) (bytesV s) ∧ Q (.tuple ⟨[.string s, .int .i64 (IntKind.wrap .i64 (n2 + (IntKind.wrap .i64 n1))), .int .i64 0]⟩) h1)))) (Q (.tuple ⟨[.string (ByteArray.mk #[]), .int .i64 0, .int .i64 n3]⟩) h1)
theorem F134.gen (V : Value → List Value → PT) (T86 : Sl → PT) (l : Sl) (n : Int) : denF Tryd.prog [] [(86, F86.W T86)] V [] Tryd.f134 [.v (.slice l.a l.n l.c), .v (.int .i64 n)] = fun h Q =>
  T86 l h fun r h1 => ∃ n1 : Int, ∃ n2 : Int, ∃ n3 : Int, r = .tuple ⟨[.int .u64 n1, .int .i64 n2, .int .i64 n3]⟩ ∧ par (n3 = 0) (par (n < 0) (Q (.tuple ⟨[.string (ByteArray.mk #[]), .int .i64 0, .int .i64 22]⟩) h1) (par ((IntKind.wrap .u64 n) < n1) (Q (.tuple ⟨[.string (ByteArray.mk #[]), .int .i64 0, .int .i64 22]⟩) h1) (par ((IntKind.wrap .u64 (IntKind.wrap .i64 ((l.n : Int) - n2))) < n1) (Q (.tuple ⟨[.string (ByteArray.mk #[]), .int .i64 0, .int .i64 20]⟩) h1) (Sl.okCut l n2 (IntKind.wrap .i64 (n2 + (IntKind.wrap .i64 n1))) (l.c : Int) ∧ ∃ s : ByteArray, h1.row ((Sl.cut l 1 n2 (IntKind.wrap .i64 (n2 + (IntKind.wrap .i64 n1))) (l.c : Int)).a) ((Sl.cut l 1 n2 (IntKind.wrap .i64 (n2 + (IntKind.wrap .i64 n1))) (l.c : Int)).n) (bytesV s) ∧ Q (.tuple ⟨[.string s, .int .i64 (IntKind.wrap .i64 (n2 + (IntKind.wrap .i64 n1))), .int .i64 0]⟩) h1)))) (Q (.tuple ⟨[.string (ByteArray.mk #[]), .int .i64 0, .int .i64 n3]⟩) h1) := by kernel_rfl
theorem F134.den (V : Value → List Value → PT) (l : Sl) (n : Int) : denF Tryd.prog [] [(86, F86.V)] V [] Tryd.f134 [.v (.slice l.a l.n l.c), .v (.int .i64 n)] = F134.T l n := F134.gen V F86.T l n
def F134.W (T134 : Sl → Int → PT) (args : List Value) : PT := match args with
  | [.slice l_a l_n l_c, .int .i64 n] => T134 ⟨l_a, l_n, l_c⟩ n
  | _ => fun _ _ => False
def F134.V : List Value → PT := F134.W F134.T
theorem F134.ok : FOk Tryd.prog 134 F134.V := by
  refine ⟨⟨_, Tryd.func134, rfl, rfl⟩, fun args => ?_⟩
  have hG : GOk Tryd.prog [(86, F86.V)] := GOk.cons F86.ok (GOk.nil)
  have hV : VOk Tryd.prog noV := noV_ok
  unfold F134.V F134.W
  split
  · exact denF_okV hG hV Tryd.func134 (fun h Q hq => (F134.den _ _ _) ▸ hq)
  · exact fun h Q hq => hq.elim
def F133.T (p : Option Addr) (n : Int) (n1 : Int) : PT := fun h Q =>
  par (n1 = 0) (∃ b o, (p : Option Addr) = some ⟨b, o, none⟩ ∧ ∃ l : Sl, h.at b o = some (.slice l.a l.n l.c) ∧ ∃ b1 o1, (p : Option Addr) = some ⟨b1, o1, none⟩ ∧ ∃ l1 : Sl, h.at b1 o1 = some (.slice l1.a l1.n l1.c) ∧ ∃ b2 o2, (p : Option Addr) = some ⟨b2, o2, none⟩ ∧ ∃ l2 : Sl, h.at b2 o2 = some (.slice l2.a l2.n l2.c) ∧ Sl.okCut l n (l1.n : Int) (l2.n : Int) ∧ ∃ b3 o3, (p : Option Addr) = some ⟨b3, o3, none⟩ ∧ h.canW b3 o3 1 ∧ Q (.tuple ⟨[]⟩) (h.wr b3 o3 [.slice (Sl.cut l 1 n (l1.n : Int) (l2.n : Int)).a (Sl.cut l 1 n (l1.n : Int) (l2.n : Int)).n (Sl.cut l 1 n (l1.n : Int) (l2.n : Int)).c])) (∃ b4 o4, (p : Option Addr) = some ⟨b4, o4, none⟩ ∧ ∃ l3 : Sl, h.at b4 o4 = some (.slice l3.a l3.n l3.c) ∧ ∃ b5 o5, (p : Option Addr) = some ⟨b5, o5, none⟩ ∧ h.canW b5 (o5 + 1) 1 ∧ ∃ b6 o6, (p : Option Addr) = some ⟨b6, o6, none⟩ ∧ ∃ l4 : Sl, (h.wr b5 (o5 + 1) [.bool true]).at b6 o6 = some (.slice l4.a l4.n l4.c) ∧ ∃ b7 o7, (p : Option Addr) = some ⟨b7, o7, none⟩ ∧ ∃ l5 : Sl, (h.wr b5 (o5 + 1) [.bool true]).at b7 o7 = some (.slice l5.a l5.n l5.c) ∧ ∃ b8 o8, (p : Option Addr) = some ⟨b8, o8, none⟩ ∧ ∃ l6 : Sl, (h.wr b5 (o5 + 1) [.bool true]).at b8 o8 = some (.slice l6.a l6.n l6.c) ∧ Sl.okCut l4 (l3.n : Int) (l5.n : Int) (l6.n : Int) ∧ ∃ b9 o9, (p : Option Addr) = some ⟨b9, o9, none⟩ ∧ (h.wr b5 (o5 + 1) [.bool true]).canW b9 o9 1 ∧ Q (.tuple ⟨[]⟩) ((h.wr b5 (o5 + 1) [.bool true]).wr b9 o9 [.slice (Sl.cut l4 1 (l3.n : Int) (l5.n : Int) (l6.n : Int)).a (Sl.cut l4 1 (l3.n : Int) (l5.n : Int) (l6.n : Int)).n (Sl.cut l4 1 (l3.n : Int) (l5.n : Int) (l6.n : Int)).c]))
theorem F133.den (V : Value → List Value → PT) (p : Option Addr) (n : Int) (n1 : Int) : denF Tryd.prog [] [] V [(3, .order [0, 1, 2, 3, 4, 5, 6, 7, 8, 9, 10, 11, 12, 13, 14, 15, 16, 17, 18, 19])] Tryd.f133 [.v (.pointer p), .v (.int .i64 n), .v (.int .i64 n1)] = F133.T p n n1 := by kernel_rfl
def F133.W (T133 : Option Addr → Int → Int → PT) (args : List Value) : PT := match args with
  | [.pointer p, .int .i64 n, .int .i64 n1] => T133 p n n1
  | _ => fun _ _ => False
def F133.V : List Value → PT := F133.W F133.T
theorem F133.ok : FOk Tryd.prog 133 F133.V := by
  refine ⟨⟨_, Tryd.func133, rfl, rfl⟩, fun args => ?_⟩
  have hG : GOk Tryd.prog [] := GOk.nil
  have hV : VOk Tryd.prog noV := noV_ok
  unfold F133.V F133.W
  split
  · exact denF_okV hG hV Tryd.func133 (fun h Q hq => (F133.den _ _ _ _) ▸ hq)
  · exact fun h Q hq => hq.elim
def F123.T (p : Option Addr) : PT := fun h Q =>
  ∃ b o, (p : Option Addr) = some ⟨b, o, none⟩ ∧ ∃ l : Sl, h.at b o = some (.slice l.a l.n l.c) ∧ F86.T l h fun r h1 => ∃ n : Int, ∃ n1 : Int, ∃ n2 : Int, r = .tuple ⟨[.int .u64 n, .int .i64 n1, .int .i64 n2]⟩ ∧ F133.T p n1 n2 h1 fun r1 h2 => Q (.int .u64 n) h2
theorem F123.gen (V : Value → List Value → PT) (T86 : Sl → PT) (T133 : Option Addr → Int → Int → PT) (p : Option Addr) : denF Tryd.prog [] [(86, F86.W T86), (133, F133.W T133)] V [] Tryd.f123 [.v (.pointer p)] = fun h Q =>
  ∃ b o, (p : Option Addr) = some ⟨b, o, none⟩ ∧ ∃ l : Sl, h.at b o = some (.slice l.a l.n l.c) ∧ T86 l h fun r h1 => ∃ n : Int, ∃ n1 : Int, ∃ n2 : Int, r = .tuple ⟨[.int .u64 n, .int .i64 n1, .int .i64 n2]⟩ ∧ T133 p n1 n2 h1 fun r1 h2 => Q (.int .u64 n) h2 := by kernel_rfl
theorem F123.den (V : Value → List Value → PT) (p : Option Addr) : denF Tryd.prog [] [(86, F86.V), (133, F133.V)] V [] Tryd.f123 [.v (.pointer p)] = F123.T p := F123.gen V F86.T F133.T p
def F123.W (T123 : Option Addr → PT) (args : List Value) : PT := match args with
  | [.pointer p] => T123 p
  | _ => fun _ _ => False
def F123.V : List Value → PT := F123.W F123.T
theorem F123.ok : FOk Tryd.prog 123 F123.V := by
  refine ⟨⟨_, Tryd.func123, rfl, rfl⟩, fun args => ?_⟩
  have hG : GOk Tryd.prog [(86, F86.V), (133, F133.V)] := GOk.cons F86.ok (GOk.cons F133.ok (GOk.nil))
  have hV : VOk Tryd.prog noV := noV_ok
  unfold F123.V F123.W
  split
  · exact denF_okV hG hV Tryd.func123 (fun h Q hq => (F123.den _ _) ▸ hq)
  · exact fun h Q hq => hq.elim
def F124.T (p : Option Addr) (n : Int) : PT := fun h Q =>
  F123.T p h fun r h1 => ∃ n1 : Int, r = .int .u64 n1 ∧ par (n < n1) (∃ b o, (p : Option Addr) = some ⟨b, o, none⟩ ∧ h1.canW b (o + 1) 1 ∧ Q (.int .i64 0) (h1.wr b (o + 1) [.bool true])) (Q (.int .i64 (IntKind.wrap .i64 n1)) h1)
theorem F124.gen (V : Value → List Value → PT) (T123 : Option Addr → PT) (p : Option Addr) (n : Int) : denF Tryd.prog [] [(123, F123.W T123)] V [] Tryd.f124 [.v (.pointer p), .v (.int .u64 n)] = fun h Q =>
  T123 p h fun r h1 => ∃ n1 : Int, r = .int .u64 n1 ∧ par (n < n1) (∃ b o, (p : Option Addr) = some ⟨b, o, none⟩ ∧ h1.canW b (o + 1) 1 ∧ Q (.int .i64 0) (h1.wr b (o + 1) [.bool true])) (Q (.int .i64 (IntKind.wrap .i64 n1)) h1) := by kernel_rfl
theorem F124.den (V : Value → List Value → PT) (p : Option Addr) (n : Int) : denF Tryd.prog [] [(123, F123.V)] V [] Tryd.f124 [.v (.pointer p), .v (.int .u64 n)] = F124.T p n := F124.gen V F123.T p n
def F124.W (T124 : Option Addr → Int → PT) (args : List Value) : PT := match args with
  | [.pointer p, .int .u64 n] => T124 p n
  | _ => fun _ _ => False
def F124.V : List Value → PT := F124.W F124.T
theorem F124.ok : FOk Tryd.prog 124 F124.V := by
  refine ⟨⟨_, Tryd.func124, rfl, rfl⟩, fun args => ?_⟩
  have hG : GOk Tryd.prog [(123, F123.V)] := GOk.cons F123.ok (GOk.nil)
  have hV : VOk Tryd.prog noV := noV_ok
  unfold F124.V F124.W
  split
  · exact denF_okV hG hV Tryd.func124 (fun h Q hq => (F124.den _ _ _) ▸ hq)
  · exact fun h Q hq => hq.elim
def F125.T (p : Option Addr) : PT := fun h Q =>
  ∃ b o, (p : Option Addr) = some ⟨b, o, none⟩ ∧ ∃ l : Sl, h.at b o = some (.slice l.a l.n l.c) ∧ F134.T l 64 h fun r h1 => ∃ s : ByteArray, ∃ n : Int, ∃ n1 : Int, r = .tuple ⟨[.string s, .int .i64 n, .int .i64 n1]⟩ ∧ F133.T p n n1 h1 fun r1 h2 => Q (.string s) h2
theorem F125.gen (V : Value → List Value → PT) (T133 : Option Addr → Int → Int → PT) (T134 : Sl → Int → PT) (p : Option Addr) : denF Tryd.prog [] [(133, F133.W T133), (134, F134.W T134)] V [] Tryd.f125 [.v (.pointer p)] = fun h Q =>
  ∃ b o, (p : Option Addr) = some ⟨b, o, none⟩ ∧ ∃ l : Sl, h.at b o = some (.slice l.a l.n l.c) ∧ T134 l 64 h fun r h1 => ∃ s : ByteArray, ∃ n : Int, ∃ n1 : Int, r = .tuple ⟨[.string s, .int .i64 n, .int .i64 n1]⟩ ∧ T133 p n n1 h1 fun r1 h2 => Q (.string s) h2 := by kernel_rfl
theorem F125.den (V : Value → List Value → PT) (p : Option Addr) : denF Tryd.prog [] [(133, F133.V), (134, F134.V)] V [] Tryd.f125 [.v (.pointer p)] = F125.T p := F125.gen V F133.T F134.T p
def F125.W (T125 : Option Addr → PT) (args : List Value) : PT := match args with
  | [.pointer p] => T125 p
  | _ => fun _ _ => False
def F125.V : List Value → PT := F125.W F125.T
theorem F125.ok : FOk Tryd.prog 125 F125.V := by
  refine ⟨⟨_, Tryd.func125, rfl, rfl⟩, fun args => ?_⟩
  have hG : GOk Tryd.prog [(133, F133.V), (134, F134.V)] := GOk.cons F133.ok (GOk.cons F134.ok (GOk.nil))
  have hV : VOk Tryd.prog noV := noV_ok
  unfold F125.V F125.W
  split
  · exact denF_okV hG hV Tryd.func125 (fun h Q hq => (F125.den _ _) ▸ hq)
  · exact fun h Q hq => hq.elim
def F102.T (l : Sl) : PT := fun h Q =>
  par ((l.n : Int) = 0) (Q (.tuple ⟨[.agg ⟨[.int .u64 0, .int .u64 0, .int .u64 0, .slice none 0 0, .slice none 0 0, .slice none 0 0]⟩, .bool false, .bool false]⟩) h) (∃ b o, (l.a : Option Addr) = some ⟨b, o, none⟩ ∧ ((0 : Int) ≤ 0 ∧ 0 < (l.n : Int)) ∧ ∃ n : Int, h.at b (o + (0 : Int).toNat) = some (.int .u8 n) ∧ par ((1 : Int) < n) (Q (.tuple ⟨[.agg ⟨[.int .u64 0, .int .u64 0, .int .u64 0, .slice none 0 0, .slice none 0 0, .slice none 0 0]⟩, .bool false, .bool false]⟩) h) (Sl.okCut l 1 (l.n : Int) (l.c : Int) ∧ ∀ b1, h b1 = none → F123.T (some ⟨b1, 0, none⟩) (h.new b1 (.cells ⟨[.slice (Sl.cut l 1 1 (l.n : Int) (l.c : Int)).a (Sl.cut l 1 1 (l.n : Int) (l.c : Int)).n (Sl.cut l 1 1 (l.n : Int) (l.c : Int)).c, .bool false]⟩ 188 (0, 0))) fun r h1 => ∃ n1 : Int, r = .int .u64 n1 ∧ F123.T (some ⟨b1, 0, none⟩) h1 fun r1 h2 => ∃ n2 : Int, r1 = .int .u64 n2 ∧ F123.T (some ⟨b1, 0, none⟩) h2 fun r2 h3 => ∃ n3 : Int, r2 = .int .u64 n3 ∧ F123.T (some ⟨b1, 0, none⟩) h3 fun r3 h4 => ∃ n4 : Int, r3 = .int .u64 n4 ∧ ∃ (I : Int → Int → Int → Int → Sl → Sl → Sl → Hp → Prop) (m : Int → Int → Int → Int → Sl → Sl → Sl → Hp → Nat), I n4 n1 n2 n3 ⟨none, 0, 0⟩ ⟨none, 0, 0⟩ ⟨none, 0, 0⟩ h4 ∧ (∀ n5 : Int, ∀ n6 : Int, ∀ n7 : Int, ∀ n8 : Int, ∀ l1 : Sl, ∀ l2 : Sl, ∀ l3 : Sl, ∀ h5 : Hp, I n5 n6 n7 n8 l1 l2 l3 h5 → par ((0 : Int) < n5) (F124.T (some ⟨b1, 0, none⟩) 4 h5 fun r4 h6 => ∃ n9 : Int, r4 = .int .i64 n9 ∧ F123.T (some ⟨b1, 0, none⟩) h6 fun r5 h7 => ∃ n10 : Int, r5 = .int .u64 n10 ∧ appendD l1 104 2 16 [.int .i64 0, .int .u64 0] 1 [.int .i64 n9, .int .u64 n10] h7 fun l4 h8 => ∃ b2 : Bool, h8.at b1 1 = some (.bool b2) ∧ parB b2 (Q (.tuple ⟨[.agg ⟨[.int .u64 0, .int .u64 0, .int .u64 0, .slice none 0 0, .slice none 0 0, .slice none 0 0]⟩, .bool false, .bool false]⟩) h8) (I (IntKind.wrap .u64 (n5 - 1)) n6 n7 n8 l4 l2 l3 h8 ∧ m (IntKind.wrap .u64 (n5 - 1)) n6 n7 n8 l4 l2 l3 h8 < m n5 n6 n7 n8 l1 l2 l3 h5)) (F123.T (some ⟨b1, 0, none⟩) h5 fun r6 h9 => ∃ n11 : Int, r6 = .int .u64 n11 ∧ ∃ (I1 : Int → Int → Int → Int → Sl → Sl → Sl → Hp → Prop) (m1 : Int → Int → Int → Int → Sl → Sl → Sl → Hp → Nat), I1 n11 n6 n7 n8 l1 l2 l3 h9 ∧ (∀ n12 : Int, ∀ n13 : Int, ∀ n14 : Int, ∀ n15 : Int, ∀ l5 : Sl, ∀ l6 : Sl, ∀ l7 : Sl, ∀ h10 : Hp, I1 n12 n13 n14 n15 l5 l6 l7 h10 → par ((0 : Int) < n12) (F124.T (some ⟨b1, 0, none⟩) 4 h10 fun r7 h11 => ∃ n16 : Int, r7 = .int .i64 n16 ∧ F123.T (some ⟨b1, 0, none⟩) h11 fun r8 h12 => ∃ n17 : Int, r8 = .int .u64 n17 ∧ F124.T (some ⟨b1, 0, none⟩) 9223372036854775807 h12 fun r9 h13 => ∃ n18 : Int, r9 = .int .i64 n18 ∧ F124.T (some ⟨b1, 0, none⟩) 9223372036854775807 h13 fun r10 h14 => ∃ n19 : Int, r10 = .int .i64 n19 ∧ F124.T (some ⟨b1, 0, none⟩) 9223372036854775807 h14 fun r11 h15 => ∃ n20 : Int, r11 = .int .i64 n20 ∧ F125.T (some ⟨b1, 0, none⟩) h15 fun r12 h16 => ∃ s : ByteArray, r12 = .string s ∧ F125.T (some ⟨b1, 0, none⟩) h16 fun r13 h17 => ∃ s1 : ByteArray, r13 = .string s1 ∧ appendD l6 108 7 72 [.int .i64 0, .int .u64 0, .int .i64 0, .int .i64 0, .int .i64 0, .string (ByteArray.mk #[]), .string (ByteArray.mk #[])] 1 [.int .i64 n16, .int .u64 n17, .int .i64 n18, .int .i64 n19, .int .i64 n20, .string s, .string s1] h17 fun l8 h18 => ∃ b3 : Bool, h18.at b1 1 = some (.bool b3) ∧ parB b3 (Q (.tuple ⟨[.agg ⟨[.int .u64 0, .int .u64 0, .int .u64 0, .slice none 0 0, .slice none 0 0, .slice none 0 0]⟩, .bool false, .bool false]⟩) h18) (I1 (IntKind.wrap .u64 (n12 - 1)) n13 n14 n15 l5 l8 l7 h18 ∧ m1 (IntKind.wrap .u64 (n12 - 1)) n13 n14 n15 l5 l8 l7 h18 < m1 n12 n13 n14 n15 l5 l6 l7 h10)) (F123.T (some ⟨b1, 0, none⟩) h10 fun r14 h19 => ∃ n21 : Int, r14 = .int .u64 n21 ∧ ∃ (I2 : Int → Int → Int → Int → Sl → Sl → Sl → Hp → Prop) (m2 : Int → Int → Int → Int → Sl → Sl → Sl → Hp → Nat), I2 n21 n13 n14 n15 l5 l6 l7 h19 ∧ (∀ n22 : Int, ∀ n23 : Int, ∀ n24 : Int, ∀ n25 : Int, ∀ l9 : Sl, ∀ l10 : Sl, ∀ l11 : Sl, ∀ h20 : Hp, I2 n22 n23 n24 n25 l9 l10 l11 h20 → par ((0 : Int) < n22) (F125.T (some ⟨b1, 0, none⟩) h20 fun r15 h21 => ∃ s2 : ByteArray, r15 = .string s2 ∧ appendD l11 9 1 16 [.string (ByteArray.mk #[])] 1 [.string s2] h21 fun l12 h22 => ∃ b4 : Bool, h22.at b1 1 = some (.bool b4) ∧ parB b4 (Q (.tuple ⟨[.agg ⟨[.int .u64 0, .int .u64 0, .int .u64 0, .slice none 0 0, .slice none 0 0, .slice none 0 0]⟩, .bool false, .bool false]⟩) h22) (I2 (IntKind.wrap .u64 (n22 - 1)) n23 n24 n25 l9 l10 l12 h22 ∧ m2 (IntKind.wrap .u64 (n22 - 1)) n23 n24 n25 l9 l10 l12 h22 < m2 n22 n23 n24 n25 l9 l10 l11 h20)) (∃ b5 : Bool, h20.at b1 1 = some (.bool b5) ∧ parB b5 (Q (.tuple ⟨[.agg ⟨[.int .u64 0, .int .u64 0, .int .u64 0, .slice none 0 0, .slice none 0 0, .slice none 0 0]⟩, .bool false, .bool false]⟩) h20) (∃ l13 : Sl, h20.at b1 0 = some (.slice l13.a l13.n l13.c) ∧ par ((l13.n : Int) = 0) (∃ b6 o1, (l.a : Option Addr) = some ⟨b6, o1, none⟩ ∧ ((0 : Int) ≤ 0 ∧ 0 < (l.n : Int)) ∧ ∃ n26 : Int, h20.at b6 (o1 + (0 : Int).toNat) = some (.int .u8 n26) ∧ par (n26 = 1) (h20.at b6 (o1 + (0 : Int).toNat) = some (.int .u8 n26) ∧ Q (.tuple ⟨[.agg ⟨[.int .u64 n23, .int .u64 n24, .int .u64 n25, .slice l9.a l9.n l9.c, .slice l10.a l10.n l10.c, .slice l11.a l11.n l11.c]⟩, .bool true, .bool true]⟩) h20) (h20.at b6 (o1 + (0 : Int).toNat) = some (.int .u8 n26) ∧ Q (.tuple ⟨[.agg ⟨[.int .u64 n23, .int .u64 n24, .int .u64 n25, .slice l9.a l9.n l9.c, .slice l10.a l10.n l10.c, .slice l11.a l11.n l11.c]⟩, .bool false, .bool true]⟩) h20)) (Q (.tuple ⟨[.agg ⟨[.int .u64 0, .int .u64 0, .int .u64 0, .slice none 0 0, .slice none 0 0, .slice none 0 0]⟩, .bool false, .bool false]⟩) h20))))))))))
theorem F102.gen (V : Value → List Value → PT) (T123 : Option Addr → PT) (T124 : Option Addr → Int → PT) (T125 : Option Addr → PT) (l : Sl) : denF Tryd.prog [2, 5, 9, 47, 90, 107] [(123, F123.W T123), (124, F124.W T124), (125, F125.W T125)] V [(3, .jump 0), (890, .loop [(7, .int .u64)] [(5, [.int .u64, .int .u64, .int .u64, .sl, .sl, .sl])]), (1786, .loop [(8, .int .u64)] [(5, [.int .u64, .int .u64, .int .u64, .sl, .sl, .sl])]), (3578, .loop [(10, .int .u64)] [(5, [.int .u64, .int .u64, .int .u64, .sl, .sl, .sl])]), (14324, .order [0, 1, 2, 3, 4, 5, 6, 7]), (28488, .order [0, 1, 2, 4, 3, 5, 6, 7, 8, 9, 10]), (114504, .order [0, 1, 2, 3, 4, 5, 6, 7])] Tryd.f102 [.v (.slice l.a l.n l.c)] = fun h Q =>
  par ((l.n : Int) = 0) (Q (.tuple ⟨[.agg ⟨[.int .u64 0, .int .u64 0, .int .u64 0, .slice none 0 0, .slice none 0 0, .slice none 0 0]⟩, .bool false, .bool false]⟩) h) (∃ b o, (l.a : Option Addr) = some ⟨b, o, none⟩ ∧ ((0 : Int) ≤ 0 ∧ 0 < (l.n : Int)) ∧ ∃ n : Int, h.at b (o + (0 : Int).toNat) = some (.int .u8 n) ∧ par ((1 : Int) < n) (Q (.tuple ⟨[.agg ⟨[.int .u64 0, .int .u64 0, .int .u64 0, .slice none 0 0, .slice none 0 0, .slice none 0 0]⟩, .bool false, .bool false]⟩) h) (Sl.okCut l 1 (l.n : Int) (l.c : Int) ∧ ∀ b1, h b1 = none → T123 (some ⟨b1, 0, none⟩) (h.new b1 (.cells ⟨[.slice (Sl.cut l 1 1 (l.n : Int) (l.c : Int)).a (Sl.cut l 1 1 (l.n : Int) (l.c : Int)).n (Sl.cut l 1 1 (l.n : Int) (l.c : Int)).c, .bool false]⟩ 188 (0, 0))) fun r h1 => ∃ n1 : Int, r = .int .u64 n1 ∧ T123 (some ⟨b1, 0, none⟩) h1 fun r1 h2 => ∃ n2 : Int, r1 = .int .u64 n2 ∧ T123 (some ⟨b1, 0, none⟩) h2 fun r2 h3 => ∃ n3 : Int, r2 = .int .u64 n3 ∧ T123 (some ⟨b1, 0, none⟩) h3 fun r3 h4 => ∃ n4 : Int, r3 = .int .u64 n4 ∧ ∃ (I : Int → Int → Int → Int → Sl → Sl → Sl → Hp → Prop) (m : Int → Int → Int → Int → Sl → Sl → Sl → Hp → Nat), I n4 n1 n2 n3 ⟨none, 0, 0⟩ ⟨none, 0, 0⟩ ⟨none, 0, 0⟩ h4 ∧ (∀ n5 : Int, ∀ n6 : Int, ∀ n7 : Int, ∀ n8 : Int, ∀ l1 : Sl, ∀ l2 : Sl, ∀ l3 : Sl, ∀ h5 : Hp, I n5 n6 n7 n8 l1 l2 l3 h5 → par ((0 : Int) < n5) (T124 (some ⟨b1, 0, none⟩) 4 h5 fun r4 h6 => ∃ n9 : Int, r4 = .int .i64 n9 ∧ T123 (some ⟨b1, 0, none⟩) h6 fun r5 h7 => ∃ n10 : Int, r5 = .int .u64 n10 ∧ appendD l1 104 2 16 [.int .i64 0, .int .u64 0] 1 [.int .i64 n9, .int .u64 n10] h7 fun l4 h8 => ∃ b2 : Bool, h8.at b1 1 = some (.bool b2) ∧ parB b2 (Q (.tuple ⟨[.agg ⟨[.int .u64 0, .int .u64 0, .int .u64 0, .slice none 0 0, .slice none 0 0, .slice none 0 0]⟩, .bool false, .bool false]⟩) h8) (I (IntKind.wrap .u64 (n5 - 1)) n6 n7 n8 l4 l2 l3 h8 ∧ m (IntKind.wrap .u64 (n5 - 1)) n6 n7 n8 l4 l2 l3 h8 < m n5 n6 n7 n8 l1 l2 l3 h5)) (T123 (some ⟨b1, 0, none⟩) h5 fun r6 h9 => ∃ n11 : Int, r6 = .int .u64 n11 ∧ ∃ (I1 : Int → Int → Int → Int → Sl → Sl → Sl → Hp → Prop) (m1 : Int → Int → Int → Int → Sl → Sl → Sl → Hp → Nat), I1 n11 n6 n7 n8 l1 l2 l3 h9 ∧ (∀ n12 : Int, ∀ n13 : Int, ∀ n14 : Int, ∀ n15 : Int, ∀ l5 : Sl, ∀ l6 : Sl, ∀ l7 : Sl, ∀ h10 : Hp, I1 n12 n13 n14 n15 l5 l6 l7 h10 → par ((0 : Int) < n12) (T124 (some ⟨b1, 0, none⟩) 4 h10 fun r7 h11 => ∃ n16 : Int, r7 = .int .i64 n16 ∧ T123 (some ⟨b1, 0, none⟩) h11 fun r8 h12 => ∃ n17 : Int, r8 = .int .u64 n17 ∧ T124 (some ⟨b1, 0, none⟩) 9223372036854775807 h12 fun r9 h13 => ∃ n18 : Int, r9 = .int .i64 n18 ∧ T124 (some ⟨b1, 0, none⟩) 9223372036854775807 h13 fun r10 h14 => ∃ n19 : Int, r10 = .int .i64 n19 ∧ T124 (some ⟨b1, 0, none⟩) 9223372036854775807 h14 fun r11 h15 => ∃ n20 : Int, r11 = .int .i64 n20 ∧ T125 (some ⟨b1, 0, none⟩) h15 fun r12 h16 => ∃ s : ByteArray, r12 = .string s ∧ T125 (some ⟨b1, 0, none⟩) h16 fun r13 h17 => ∃ s1 : ByteArray, r13 = .string s1 ∧ appendD l6 108 7 72 [.int .i64 0, .int .u64 0, .int .i64 0, .int .i64 0, .int .i64 0, .string (ByteArray.mk #[]), .string (ByteArray.mk #[])] 1 [.int .i64 n16, .int .u64 n17, .int .i64 n18, .int .i64 n19, .int .i64 n20, .string s, .string s1] h17 fun l8 h18 => ∃ b3 : Bool, h18.at b1 1 = some (.bool b3) ∧ parB b3 (Q (.tuple ⟨[.agg ⟨[.int .u64 0, .int .u64 0, .int .u64 0, .slice none 0 0, .slice none 0 0, .slice none 0 0]⟩, .bool false, .bool false]⟩) h18) (I1 (IntKind.wrap .u64 (n12 - 1)) n13 n14 n15 l5 l8 l7 h18 ∧ m1 (IntKind.wrap .u64 (n12 - 1)) n13 n14 n15 l5 l8 l7 h18 < m1 n12 n13 n14 n15 l5 l6 l7 h10)) (T123 (some ⟨b1, 0, none⟩) h10 fun r14 h19 => ∃ n21 : Int, r14 = .int .u64 n21 ∧ ∃ (I2 : Int → Int → Int → Int → Sl → Sl → Sl → Hp → Prop) (m2 : Int → Int → Int → Int → Sl → Sl → Sl → Hp → Nat), I2 n21 n13 n14 n15 l5 l6 l7 h19 ∧ (∀ n22 : Int, ∀ n23 : Int, ∀ n24 : Int, ∀ n25 : Int, ∀ l9 : Sl, ∀ l10 : Sl, ∀ l11 : Sl, ∀ h20 : Hp, I2 n22 n23 n24 n25 l9 l10 l11 h20 → par ((0 : Int) < n22) (T125 (some ⟨b1, 0, none⟩) h20 fun r15 h21 => ∃ s2 : ByteArray, r15 = .string s2 ∧ appendD l11 9 1 16 [.string (ByteArray.mk #[])] 1 [.string s2] h21 fun l12 h22 => ∃ b4 : Bool, h22.at b1 1 = some (.bool b4) ∧ parB b4 (Q (.tuple ⟨[.agg ⟨[.int .u64 0, .int .u64 0, .int .u64 0, .slice none 0 0, .slice none 0 0, .slice none 0 0]⟩, .bool false, .bool false]⟩) h22) (I2 (IntKind.wrap .u64 (n22 - 1)) n23 n24 n25 l9 l10 l12 h22 ∧ m2 (IntKind.wrap .u64 (n22 - 1)) n23 n24 n25 l9 l10 l12 h22 < m2 n22 n23 n24 n25 l9 l10 l11 h20)) (∃ b5 : Bool, h20.at b1 1 = some (.bool b5) ∧ parB b5 (Q (.tuple ⟨[.agg ⟨[.int .u64 0, .int .u64 0, .int .u64 0, .slice none 0 0, .slice none 0 0, .slice none 0 0]⟩, .bool false, .bool false]⟩) h20) (∃ l13 : Sl, h20.at b1 0 = some (.slice l13.a l13.n l13.c) ∧ par ((l13.n : Int) = 0) (∃ b6 o1, (l.a : Option Addr) = some ⟨b6, o1, none⟩ ∧ ((0 : Int) ≤ 0 ∧ 0 < (l.n : Int)) ∧ ∃ n26 : Int, h20.at b6 (o1 + (0 : Int).toNat) = some (.int .u8 n26) ∧ par (n26 = 1) (h20.at b6 (o1 + (0 : Int).toNat) = some (.int .u8 n26) ∧ Q (.tuple ⟨[.agg ⟨[.int .u64 n23, .int .u64 n24, .int .u64 n25, .slice l9.a l9.n l9.c, .slice l10.a l10.n l10.c, .slice l11.a l11.n l11.c]⟩, .bool true, .bool true]⟩) h20) (h20.at b6 (o1 + (0 : Int).toNat) = some (.int .u8 n26) ∧ Q (.tuple ⟨[.agg ⟨[.int .u64 n23, .int .u64 n24, .int .u64 n25, .slice l9.a l9.n l9.c, .slice l10.a l10.n l10.c, .slice l11.a l11.n l11.c]⟩, .bool false, .bool true]⟩) h20)) (Q (.tuple ⟨[.agg ⟨[.int .u64 0, .int .u64 0, .int .u64 0, .slice none 0 0, .slice none 0 0, .slice none 0 0]⟩, .bool false, .bool false]⟩) h20)))))))))) := by kernel_rfl
theorem F102.den (V : Value → List Value → PT) (l : Sl) : denF Tryd.prog [2, 5, 9, 47, 90, 107] [(123, F123.V), (124, F124.V), (125, F125.V)] V [(3, .jump 0), (890, .loop [(7, .int .u64)] [(5, [.int .u64, .int .u64, .int .u64, .sl, .sl, .sl])]), (1786, .loop [(8, .int .u64)] [(5, [.int .u64, .int .u64, .int .u64, .sl, .sl, .sl])]), (3578, .loop [(10, .int .u64)] [(5, [.int .u64, .int .u64, .int .u64, .sl, .sl, .sl])]), (14324, .order [0, 1, 2, 3, 4, 5, 6, 7]), (28488, .order [0, 1, 2, 4, 3, 5, 6, 7, 8, 9, 10]), (114504, .order [0, 1, 2, 3, 4, 5, 6, 7])] Tryd.f102 [.v (.slice l.a l.n l.c)] = F102.T l := F102.gen V F123.T F124.T F125.T l
def F102.W (T102 : Sl → PT) (args : List Value) : PT := match args with
  | [.slice l_a l_n l_c] => T102 ⟨l_a, l_n, l_c⟩
  | _ => fun _ _ => False
def F102.V : List Value → PT := F102.W F102.T
theorem F102.ok : FOk Tryd.prog 102 F102.V := by
  refine ⟨⟨_, Tryd.func102, rfl, rfl⟩, fun args => ?_⟩
  have hG : GOk Tryd.prog [(123, F123.V), (124, F124.V), (125, F125.V)] := GOk.cons F123.ok (GOk.cons F124.ok (GOk.cons F125.ok (GOk.nil)))
  have hV : VOk Tryd.prog noV := noV_ok
  unfold F102.V F102.W
  split
  · exact denF_okV hG hV Tryd.func102 (fun h Q hq => (F102.den _ _) ▸ hq)
  · exact fun h Q hq => hq.elim
def F127.T (l : Sl) (l1 : Sl) : PT := fun h Q =>
  par ((l.n : Int) = (l1.n : Int)) (∃ (I : Int → Hp → Prop) (m : Int → Hp → Nat), I 0 h ∧ (∀ n : Int, ∀ h1 : Hp, I n h1 → par (n < (l.n : Int)) (∃ b o, (l.a : Option Addr) = some ⟨b, o, none⟩ ∧ ((0 : Int) ≤ n ∧ n < (l.n : Int)) ∧ ∃ n1 : Int, h1.at b (o + n.toNat) = some (.int .u8 n1) ∧ ∃ b1 o1, (l1.a : Option Addr) = some ⟨b1, o1, none⟩ ∧ ((0 : Int) ≤ n ∧ n < (l1.n : Int)) ∧ ∃ n2 : Int, h1.at b1 (o1 + n.toNat) = some (.int .u8 n2) ∧ par (n1 = n2) (I (IntKind.wrap .i64 (n + 1)) h1 ∧ m (IntKind.wrap .i64 (n + 1)) h1 < m n h1) (Q (.bool false) h1)) (Q (.bool true) h1))) (Q (.bool false) h)
theorem F127.den (V : Value → List Value → PT) (l : Sl) (l1 : Sl) : denF Tryd.prog [] [] V [(58, .loop [(13, .int .i64)] []), (7474, .order [0, 1, 2, 3, 4, 5, 6, 7, 8])] Tryd.f127 [.v (.slice l.a l.n l.c), .v (.slice l1.a l1.n l1.c)] = F127.T l l1 := by kernel_rfl
def F127.W (T127 : Sl → Sl → PT) (args : List Value) : PT := match args with
  | [.slice l_a l_n l_c, .slice l1_a l1_n l1_c] => T127 ⟨l_a, l_n, l_c⟩ ⟨l1_a, l1_n, l1_c⟩
  | _ => fun _ _ => False
def F127.V : List Value → PT := F127.W F127.T
theorem F127.ok : FOk Tryd.prog 127 F127.V := by
  refine ⟨⟨_, Tryd.func127, rfl, rfl⟩, fun args => ?_⟩
  have hG : GOk Tryd.prog [] := GOk.nil
  have hV : VOk Tryd.prog noV := noV_ok
  unfold F127.V F127.W
  split
  · exact denF_okV hG hV Tryd.func127 (fun h Q hq => (F127.den _ _ _) ▸ hq)
  · exact fun h Q hq => hq.elim
def F126.T (l : Sl) (l1 : Sl) : PT := fun h Q =>
  par ((l.n : Int) = (l1.n : Int)) (∃ (I : Int → Hp → Prop) (m : Int → Hp → Nat), I 0 h ∧ (∀ n : Int, ∀ h1 : Hp, I n h1 → par (n < (l.n : Int)) (∃ b o, (l.a : Option Addr) = some ⟨b, o, none⟩ ∧ ((0 : Int) ≤ n ∧ n < (l.n : Int)) ∧ ∃ l2 : Sl, h1.at b (o + n.toNat) = some (.slice l2.a l2.n l2.c) ∧ ∃ b1 o1, (l1.a : Option Addr) = some ⟨b1, o1, none⟩ ∧ ((0 : Int) ≤ n ∧ n < (l1.n : Int)) ∧ ∃ l3 : Sl, h1.at b1 (o1 + n.toNat) = some (.slice l3.a l3.n l3.c) ∧ F127.T l2 l3 h1 fun r h2 => ∃ b2 : Bool, r = .bool b2 ∧ parB b2 (I (IntKind.wrap .i64 (n + 1)) h2 ∧ m (IntKind.wrap .i64 (n + 1)) h2 < m n h1) (Q (.bool false) h2)) (Q (.bool true) h1))) (Q (.bool false) h)
theorem F126.gen (V : Value → List Value → PT) (T127 : Sl → Sl → PT) (l : Sl) (l1 : Sl) : denF Tryd.prog [] [(127, F127.W T127)] V [(58, .loop [(17, .int .i64)] [])] Tryd.f126 [.v (.slice l.a l.n l.c), .v (.slice l1.a l1.n l1.c), .v (.func (.func 127) ⟨[]⟩ ⟨[]⟩)] = fun h Q =>
  par ((l.n : Int) = (l1.n : Int)) (∃ (I : Int → Hp → Prop) (m : Int → Hp → Nat), I 0 h ∧ (∀ n : Int, ∀ h1 : Hp, I n h1 → par (n < (l.n : Int)) (∃ b o, (l.a : Option Addr) = some ⟨b, o, none⟩ ∧ ((0 : Int) ≤ n ∧ n < (l.n : Int)) ∧ ∃ l2 : Sl, h1.at b (o + n.toNat) = some (.slice l2.a l2.n l2.c) ∧ ∃ b1 o1, (l1.a : Option Addr) = some ⟨b1, o1, none⟩ ∧ ((0 : Int) ≤ n ∧ n < (l1.n : Int)) ∧ ∃ l3 : Sl, h1.at b1 (o1 + n.toNat) = some (.slice l3.a l3.n l3.c) ∧ T127 l2 l3 h1 fun r h2 => ∃ b2 : Bool, r = .bool b2 ∧ parB b2 (I (IntKind.wrap .i64 (n + 1)) h2 ∧ m (IntKind.wrap .i64 (n + 1)) h2 < m n h1) (Q (.bool false) h2)) (Q (.bool true) h1))) (Q (.bool false) h) := by kernel_rfl
theorem F126.den (V : Value → List Value → PT) (l : Sl) (l1 : Sl) : denF Tryd.prog [] [(127, F127.V)] V [(58, .loop [(17, .int .i64)] [])] Tryd.f126 [.v (.slice l.a l.n l.c), .v (.slice l1.a l1.n l1.c), .v (.func (.func 127) ⟨[]⟩ ⟨[]⟩)] = F126.T l l1 := F126.gen V F127.T l l1
def F126.W (T126 : Sl → Sl → PT) (args : List Value) : PT := match args with
  | [.slice l_a l_n l_c, .slice l1_a l1_n l1_c, .func (.func 127) ⟨[]⟩ ⟨[]⟩] => T126 ⟨l_a, l_n, l_c⟩ ⟨l1_a, l1_n, l1_c⟩
  | _ => fun _ _ => False
def F126.V : List Value → PT := F126.W F126.T
theorem F126.ok : FOk Tryd.prog 126 F126.V := by
  refine ⟨⟨_, Tryd.func126, rfl, rfl⟩, fun args => ?_⟩
  have hG : GOk Tryd.prog [(127, F127.V)] := GOk.cons F127.ok (GOk.nil)
  have hV : VOk Tryd.prog noV := noV_ok
  unfold F126.V F126.W
  split
  · exact denF_okV hG hV Tryd.func126 (fun h Q hq => (F126.den _ _ _) ▸ hq)
  · exact fun h Q hq => hq.elim
def F103.Tt (n : Int) (n1 : Int) (n2 : Int) (l : Sl) (l1 : Sl) (l2 : Sl) (l3 : Sl) : PT := fun h Q =>
  F21.T n n1 n2 l l1 l2 h fun r h1 => ∃ l4 : Sl, r = .slice l4.a l4.n l4.c ∧ par ((l4.n : Int) < (l3.n : Int)) (Q (.bool false) h1) (par ((l4.n : Int) = (l3.n : Int)) (Sl.okCut l4 0 (l3.n : Int) (l4.c : Int) ∧ F126.T (Sl.cut l4 1 0 (l3.n : Int) (l4.c : Int)) l3 h1 fun r1 h2 => ∃ b : Bool, r1 = .bool b ∧ parB b (Q (.bool true) h2) (Q (.bool false) h2)) (Q (.bool false) h1))
theorem F103.gent (V : Value → List Value → PT) (T21 : Int → Int → Int → Sl → Sl → Sl → PT) (T126 : Sl → Sl → PT) (n : Int) (n1 : Int) (n2 : Int) (l : Sl) (l1 : Sl) (l2 : Sl) (l3 : Sl) : denF Tryd.prog [3] [(21, F21.W T21), (126, F126.W T126)] V [] Tryd.f103 [.v (.agg ⟨[.int .u64 n, .int .u64 n1, .int .u64 n2, .slice l.a l.n l.c, .slice l1.a l1.n l1.c, .slice l2.a l2.n l2.c]⟩), .v (.slice l3.a l3.n l3.c), .v (.bool true)] = fun h Q =>
  T21 n n1 n2 l l1 l2 h fun r h1 => ∃ l4 : Sl, r = .slice l4.a l4.n l4.c ∧ par ((l4.n : Int) < (l3.n : Int)) (Q (.bool false) h1) (par ((l4.n : Int) = (l3.n : Int)) (Sl.okCut l4 0 (l3.n : Int) (l4.c : Int) ∧ T126 (Sl.cut l4 1 0 (l3.n : Int) (l4.c : Int)) l3 h1 fun r1 h2 => ∃ b : Bool, r1 = .bool b ∧ parB b (Q (.bool true) h2) (Q (.bool false) h2)) (Q (.bool false) h1)) := by kernel_rfl
theorem F103.dent (V : Value → List Value → PT) (n : Int) (n1 : Int) (n2 : Int) (l : Sl) (l1 : Sl) (l2 : Sl) (l3 : Sl) : denF Tryd.prog [3] [(21, F21.V), (126, F126.V)] V [] Tryd.f103 [.v (.agg ⟨[.int .u64 n, .int .u64 n1, .int .u64 n2, .slice l.a l.n l.c, .slice l1.a l1.n l1.c, .slice l2.a l2.n l2.c]⟩), .v (.slice l3.a l3.n l3.c), .v (.bool true)] = F103.Tt n n1 n2 l l1 l2 l3 := F103.gent V F21.T F126.T n n1 n2 l l1 l2 l3
def F103.Tf (n : Int) (n1 : Int) (n2 : Int) (l : Sl) (l1 : Sl) (l2 : Sl) (l3 : Sl) : PT := fun h Q =>
  F21.T n n1 n2 l l1 l2 h fun r h1 => ∃ l4 : Sl, r = .slice l4.a l4.n l4.c ∧ par ((l4.n : Int) < (l3.n : Int)) (Q (.bool false) h1) (Sl.okCut l4 0 (l3.n : Int) (l4.c : Int) ∧ F126.T (Sl.cut l4 1 0 (l3.n : Int) (l4.c : Int)) l3 h1 fun r1 h2 => ∃ b : Bool, r1 = .bool b ∧ parB b (Q (.bool true) h2) (Q (.bool false) h2))
theorem F103.genf (V : Value → List Value → PT) (T21 : Int → Int → Int → Sl → Sl → Sl → PT) (T126 : Sl → Sl → PT) (n : Int) (n1 : Int) (n2 : Int) (l : Sl) (l1 : Sl) (l2 : Sl) (l3 : Sl) : denF Tryd.prog [3] [(21, F21.W T21), (126, F126.W T126)] V [] Tryd.f103 [.v (.agg ⟨[.int .u64 n, .int .u64 n1, .int .u64 n2, .slice l.a l.n l.c, .slice l1.a l1.n l1.c, .slice l2.a l2.n l2.c]⟩), .v (.slice l3.a l3.n l3.c), .v (.bool false)] = fun h Q =>
  T21 n n1 n2 l l1 l2 h fun r h1 => ∃ l4 : Sl, r = .slice l4.a l4.n l4.c ∧ par ((l4.n : Int) < (l3.n : Int)) (Q (.bool false) h1) (Sl.okCut l4 0 (l3.n : Int) (l4.c : Int) ∧ T126 (Sl.cut l4 1 0 (l3.n : Int) (l4.c : Int)) l3 h1 fun r1 h2 => ∃ b : Bool, r1 = .bool b ∧ parB b (Q (.bool true) h2) (Q (.bool false) h2)) := by kernel_rfl
theorem F103.denf (V : Value → List Value → PT) (n : Int) (n1 : Int) (n2 : Int) (l : Sl) (l1 : Sl) (l2 : Sl) (l3 : Sl) : denF Tryd.prog [3] [(21, F21.V), (126, F126.V)] V [] Tryd.f103 [.v (.agg ⟨[.int .u64 n, .int .u64 n1, .int .u64 n2, .slice l.a l.n l.c, .slice l1.a l1.n l1.c, .slice l2.a l2.n l2.c]⟩), .v (.slice l3.a l3.n l3.c), .v (.bool false)] = F103.Tf n n1 n2 l l1 l2 l3 := F103.genf V F21.T F126.T n n1 n2 l l1 l2 l3
def F103.W (T103t : Int → Int → Int → Sl → Sl → Sl → Sl → PT) (T103f : Int → Int → Int → Sl → Sl → Sl → Sl → PT) (args : List Value) : PT := match args with
  | [.agg ⟨[.int .u64 n, .int .u64 n1, .int .u64 n2, .slice l_a l_n l_c, .slice l1_a l1_n l1_c, .slice l2_a l2_n l2_c]⟩, .slice l3_a l3_n l3_c, .bool true] => T103t n n1 n2 ⟨l_a, l_n, l_c⟩ ⟨l1_a, l1_n, l1_c⟩ ⟨l2_a, l2_n, l2_c⟩ ⟨l3_a, l3_n, l3_c⟩
  | [.agg ⟨[.int .u64 n, .int .u64 n1, .int .u64 n2, .slice l_a l_n l_c, .slice l1_a l1_n l1_c, .slice l2_a l2_n l2_c]⟩, .slice l3_a l3_n l3_c, .bool false] => T103f n n1 n2 ⟨l_a, l_n, l_c⟩ ⟨l1_a, l1_n, l1_c⟩ ⟨l2_a, l2_n, l2_c⟩ ⟨l3_a, l3_n, l3_c⟩
  | _ => fun _ _ => False
def F103.V : List Value → PT := F103.W F103.Tt F103.Tf
theorem F103.ok : FOk Tryd.prog 103 F103.V := by
  refine ⟨⟨_, Tryd.func103, rfl, rfl⟩, fun args => ?_⟩
  have hG : GOk Tryd.prog [(21, F21.V), (126, F126.V)] := GOk.cons F21.ok (GOk.cons F126.ok (GOk.nil))
  have hV : VOk Tryd.prog noV := noV_ok
  unfold F103.V F103.W
  split
  · exact denF_okV hG hV Tryd.func103 (fun h Q hq => (F103.dent _ _ _ _ _ _ _ _) ▸ hq)
  · exact denF_okV hG hV Tryd.func103 (fun h Q hq => (F103.denf _ _ _ _ _ _ _ _) ▸ hq)
  · exact fun h Q hq => hq.elim
def F69.T (l : Sl) : PT := fun h Q =>
  ∃ (I : Sl → Int → Int → Int → Int → Int → Sl → Sl → Sl → Hp → Prop) (m : Sl → Int → Int → Int → Int → Int → Sl → Sl → Sl → Hp → Nat), I ⟨none, 0, 0⟩ 0 0 0 0 0 ⟨none, 0, 0⟩ ⟨none, 0, 0⟩ ⟨none, 0, 0⟩ h ∧ (∀ l1 : Sl, ∀ n : Int, ∀ n1 : Int, ∀ n2 : Int, ∀ n3 : Int, ∀ n4 : Int, ∀ l2 : Sl, ∀ l3 : Sl, ∀ l4 : Sl, ∀ h1 : Hp, I l1 n n1 n2 n3 n4 l2 l3 l4 h1 → par (n1 < (l.n : Int)) (∃ b o, (l.a : Option Addr) = some ⟨b, o, none⟩ ∧ ((0 : Int) ≤ n1 ∧ n1 < (l.n : Int)) ∧ ∃ l5 : Sl, h1.at b (o + n1.toNat) = some (.slice l5.a l5.n l5.c) ∧ F102.T l5 h1 fun r h2 => ∃ n5 : Int, ∃ n6 : Int, ∃ n7 : Int, ∃ l6 : Sl, ∃ l7 : Sl, ∃ l8 : Sl, ∃ b1 : Bool, parB b1 (∃ b2 : Bool, parB b2 (r = .tuple ⟨[.agg ⟨[.int .u64 n5, .int .u64 n6, .int .u64 n7, .slice l6.a l6.n l6.c, .slice l7.a l7.n l7.c, .slice l8.a l8.n l8.c]⟩, .bool true, .bool true]⟩ ∧ par (n < n1) (∃ vs, h2.row l6.a (l6.n * 2) vs ∧ (∀ v ∈ vs, Value.oneCell' v = true) ∧ appendD l2 104 2 16 [.int .i64 0, .int .u64 0] l6.n vs h2 fun l9 h3 => ∃ vs1, h3.row l7.a (l7.n * 7) vs1 ∧ (∀ v ∈ vs1, Value.oneCell' v = true) ∧ appendD l3 108 7 72 [.int .i64 0, .int .u64 0, .int .i64 0, .int .i64 0, .int .i64 0, .string (ByteArray.mk #[]), .string (ByteArray.mk #[])] l7.n vs1 h3 fun l10 h4 => Sl.okCut l n (IntKind.wrap .i64 (n1 + 1)) (l.c : Int) ∧ F103.Tt n5 n6 n7 l9 l10 l8 (Sl.cut l 1 n (IntKind.wrap .i64 (n1 + 1)) (l.c : Int)) h4 fun r1 h5 => ∃ b3 : Bool, r1 = .bool b3 ∧ parB b3 (appendD l1 65 6 96 [.int .u64 0, .int .u64 0, .int .u64 0, .slice none 0 0, .slice none 0 0, .slice none 0 0] 1 [.int .u64 n5, .int .u64 n6, .int .u64 n7, .slice l9.a l9.n l9.c, .slice l10.a l10.n l10.c, .slice l8.a l8.n l8.c] h5 fun l11 h6 => I l11 (IntKind.wrap .i64 (n1 + 1)) (IntKind.wrap .i64 (n1 + 1)) 0 0 0 ⟨none, 0, 0⟩ ⟨none, 0, 0⟩ ⟨none, 0, 0⟩ h6 ∧ m l11 (IntKind.wrap .i64 (n1 + 1)) (IntKind.wrap .i64 (n1 + 1)) 0 0 0 ⟨none, 0, 0⟩ ⟨none, 0, 0⟩ ⟨none, 0, 0⟩ h6 < m l1 n n1 n2 n3 n4 l2 l3 l4 h1) (Q (.tuple ⟨[.slice none 0 0, .int .i64 140]⟩) h5)) (Sl.okCut l n (IntKind.wrap .i64 (n1 + 1)) (l.c : Int) ∧ F103.Tt n5 n6 n7 l6 l7 l8 (Sl.cut l 1 n (IntKind.wrap .i64 (n1 + 1)) (l.c : Int)) h2 fun r2 h7 => ∃ b4 : Bool, r2 = .bool b4 ∧ parB b4 (appendD l1 65 6 96 [.int .u64 0, .int .u64 0, .int .u64 0, .slice none 0 0, .slice none 0 0, .slice none 0 0] 1 [.int .u64 n5, .int .u64 n6, .int .u64 n7, .slice l6.a l6.n l6.c, .slice l7.a l7.n l7.c, .slice l8.a l8.n l8.c] h7 fun l12 h8 => I l12 (IntKind.wrap .i64 (n1 + 1)) (IntKind.wrap .i64 (n1 + 1)) 0 0 0 ⟨none, 0, 0⟩ ⟨none, 0, 0⟩ ⟨none, 0, 0⟩ h8 ∧ m l12 (IntKind.wrap .i64 (n1 + 1)) (IntKind.wrap .i64 (n1 + 1)) 0 0 0 ⟨none, 0, 0⟩ ⟨none, 0, 0⟩ ⟨none, 0, 0⟩ h8 < m l1 n n1 n2 n3 n4 l2 l3 l4 h1) (Q (.tuple ⟨[.slice none 0 0, .int .i64 140]⟩) h7))) (r = .tuple ⟨[.agg ⟨[.int .u64 n5, .int .u64 n6, .int .u64 n7, .slice l6.a l6.n l6.c, .slice l7.a l7.n l7.c, .slice l8.a l8.n l8.c]⟩, .bool true, .bool false]⟩ ∧ Q (.tuple ⟨[.slice none 0 0, .int .i64 140]⟩) h2)) (∃ b5 : Bool, parB b5 (r = .tuple ⟨[.agg ⟨[.int .u64 n5, .int .u64 n6, .int .u64 n7, .slice l6.a l6.n l6.c, .slice l7.a l7.n l7.c, .slice l8.a l8.n l8.c]⟩, .bool false, .bool true]⟩ ∧ par (n < n1) (∃ vs2, h2.row l6.a (l6.n * 2) vs2 ∧ (∀ v ∈ vs2, Value.oneCell' v = true) ∧ appendD l2 104 2 16 [.int .i64 0, .int .u64 0] l6.n vs2 h2 fun l13 h9 => ∃ vs3, h9.row l7.a (l7.n * 7) vs3 ∧ (∀ v ∈ vs3, Value.oneCell' v = true) ∧ appendD l3 108 7 72 [.int .i64 0, .int .u64 0, .int .i64 0, .int .i64 0, .int .i64 0, .string (ByteArray.mk #[]), .string (ByteArray.mk #[])] l7.n vs3 h9 fun l14 h10 => I l1 n (IntKind.wrap .i64 (n1 + 1)) n5 n6 n7 l13 l14 l8 h10 ∧ m l1 n (IntKind.wrap .i64 (n1 + 1)) n5 n6 n7 l13 l14 l8 h10 < m l1 n n1 n2 n3 n4 l2 l3 l4 h1) (I l1 n (IntKind.wrap .i64 (n1 + 1)) n5 n6 n7 l6 l7 l8 h2 ∧ m l1 n (IntKind.wrap .i64 (n1 + 1)) n5 n6 n7 l6 l7 l8 h2 < m l1 n n1 n2 n3 n4 l2 l3 l4 h1)) (r = .tuple ⟨[.agg ⟨[.int .u64 n5, .int .u64 n6, .int .u64 n7, .slice l6.a l6.n l6.c, .slice l7.a l7.n l7.c, .slice l8.a l8.n l8.c]⟩, .bool false, .bool false]⟩ ∧ Q (.tuple ⟨[.slice none 0 0, .int .i64 140]⟩) h2))) (appendD l3 108 7 72 [.int .i64 0, .int .u64 0, .int .i64 0, .int .i64 0, .int .i64 0, .string (ByteArray.mk #[]), .string (ByteArray.mk #[])] 1 [.int .i64 0, .int .u64 0, .int .i64 0, .int .i64 0, .int .i64 0, .string (ByteArray.mk #[]), .string (ByteArray.mk #[])] h1 fun l15 h11 => par (n < (l.n : Int)) (Sl.okCut l n (l.n : Int) (l.c : Int) ∧ F103.Tf n2 n3 n4 l2 l15 l4 (Sl.cut l 1 n (l.n : Int) (l.c : Int)) h11 fun r3 h12 => ∃ b6 : Bool, r3 = .bool b6 ∧ parB b6 (Q (.tuple ⟨[.slice l1.a l1.n l1.c, .int .i64 0]⟩) h12) (Q (.tuple ⟨[.slice none 0 0, .int .i64 140]⟩) h12)) (Q (.tuple ⟨[.slice l1.a l1.n l1.c, .int .i64 0]⟩) h11)))
theorem F69.gen (V : Value → List Value → PT) (T102 : Sl → PT) (T103t : Int → Int → Int → Sl → Sl → Sl → Sl → PT) (T103f : Int → Int → Int → Sl → Sl → Sl → Sl → PT) (l : Sl) : denF Tryd.prog [5, 9, 55, 64] [(102, F102.W T102), (103, F103.W T103t T103f)] V [(250, .loop [(4, .sl), (6, .int .i64), (14, .int .i64)] [(5, [.int .u64, .int .u64, .int .u64, .sl, .sl, .sl])]), (506, .order [0, 1, 2, 3, 4, 5, 6, 7, 8, 9, 10, 11]), (512826, .order [0, 1, 2, 3, 5, 6, 7, 8, 4, 10, 9, 11, 12, 13]), (2051324, .order [0, 1, 2, 3, 4, 5, 6, 7])] Tryd.f69 [.v (.slice l.a l.n l.c)] = fun h Q =>
  ∃ (I : Sl → Int → Int → Int → Int → Int → Sl → Sl → Sl → Hp → Prop) (m : Sl → Int → Int → Int → Int → Int → Sl → Sl → Sl → Hp → Nat), I ⟨none, 0, 0⟩ 0 0 0 0 0 ⟨none, 0, 0⟩ ⟨none, 0, 0⟩ ⟨none, 0, 0⟩ h ∧ (∀ l1 : Sl, ∀ n : Int, ∀ n1 : Int, ∀ n2 : Int, ∀ n3 : Int, ∀ n4 : Int, ∀ l2 : Sl, ∀ l3 : Sl, ∀ l4 : Sl, ∀ h1 : Hp, I l1 n n1 n2 n3 n4 l2 l3 l4 h1 → par (n1 < (l.n : Int)) (∃ b o, (l.a : Option Addr) = some ⟨b, o, none⟩ ∧ ((0 : Int) ≤ n1 ∧ n1 < (l.n : Int)) ∧ ∃ l5 : Sl, h1.at b (o + n1.toNat) = some (.slice l5.a l5.n l5.c) ∧ T102 l5 h1 fun r h2 => ∃ n5 : Int, ∃ n6 : Int, ∃ n7 : Int, ∃ l6 : Sl, ∃ l7 : Sl, ∃ l8 : Sl, ∃ b1 : Bool, parB b1 (∃ b2 : Bool, parB b2 (r = .tuple ⟨[.agg ⟨[.int .u64 n5, .int .u64 n6, .int .u64 n7, .slice l6.a l6.n l6.c, .slice l7.a l7.n l7.c, .slice l8.a l8.n l8.c]⟩, .bool true, .bool true]⟩ ∧ par (n < n1) (∃ vs, h2.row l6.a (l6.n * 2) vs ∧ (∀ v ∈ vs, Value.oneCell' v = true) ∧ appendD l2 104 2 16 [.int .i64 0, .int .u64 0] l6.n vs h2 fun l9 h3 => ∃ vs1, h3.row l7.a (l7.n * 7) vs1 ∧ (∀ v ∈ vs1, Value.oneCell' v = true) ∧ appendD l3 108 7 72 [.int .i64 0, .int .u64 0, .int .i64 0, .int .i64 0, .int .i64 0, .string (ByteArray.mk #[]), .string (ByteArray.mk #[])] l7.n vs1 h3 fun l10 h4 => Sl.okCut l n (IntKind.wrap .i64 (n1 + 1)) (l.c : Int) ∧ T103t n5 n6 n7 l9 l10 l8 (Sl.cut l 1 n (IntKind.wrap .i64 (n1 + 1)) (l.c : Int)) h4 fun r1 h5 => ∃ b3 : Bool, r1 = .bool b3 ∧ parB b3 (appendD l1 65 6 96 [.int .u64 0, .int .u64 0, .int .u64 0, .slice none 0 0, .slice none 0 0, .slice none 0 0] 1 [.int .u64 n5, .int .u64 n6, .int .u64 n7, .slice l9.a l9.n l9.c, .slice l10.a l10.n l10.c, .slice l8.a l8.n l8.c] h5 fun l11 h6 => I l11 (IntKind.wrap .i64 (n1 + 1)) (IntKind.wrap .i64 (n1 + 1)) 0 0 0 ⟨none, 0, 0⟩ ⟨none, 0, 0⟩ ⟨none, 0, 0⟩ h6 ∧ m l11 (IntKind.wrap .i64 (n1 + 1)) (IntKind.wrap .i64 (n1 + 1)) 0 0 0 ⟨none, 0, 0⟩ ⟨none, 0, 0⟩ ⟨none, 0, 0⟩ h6 < m l1 n n1 n2 n3 n4 l2 l3 l4 h1) (Q (.tuple ⟨[.slice none 0 0, .int .i64 140]⟩) h5)) (Sl.okCut l n (IntKind.wrap .i64 (n1 + 1)) (l.c : Int) ∧ T103t n5 n6 n7 l6 l7 l8 (Sl.cut l 1 n (IntKind.wrap .i64 (n1 + 1)) (l.c : Int)) h2 fun r2 h7 => ∃ b4 : Bool, r2 = .bool b4 ∧ parB b4 (appendD l1 65 6 96 [.int .u64 0, .int .u64 0, .int .u64 0, .slice none 0 0, .slice none 0 0, .slice none 0 0] 1 [.int .u64 n5, .int .u64 n6, .int .u64 n7, .slice l6.a l6.n l6.c, .slice l7.a l7.n l7.c, .slice l8.a l8.n l8.c] h7 fun l12 h8 => I l12 (IntKind.wrap .i64 (n1 + 1)) (IntKind.wrap .i64 (n1 + 1)) 0 0 0 ⟨none, 0, 0⟩ ⟨none, 0, 0⟩ ⟨none, 0, 0⟩ h8 ∧ m l12 (IntKind.wrap .i64 (n1 + 1)) (IntKind.wrap .i64 (n1 + 1)) 0 0 0 ⟨none, 0, 0⟩ ⟨none, 0, 0⟩ ⟨none, 0, 0⟩ h8 < m l1 n n1 n2 n3 n4 l2 l3 l4 h1) (Q (.tuple ⟨[.slice none 0 0, .int .i64 140]⟩) h7))) (r = .tuple ⟨[.agg ⟨[.int .u64 n5, .int .u64 n6, .int .u64 n7, .slice l6.a l6.n l6.c, .slice l7.a l7.n l7.c, .slice l8.a l8.n l8.c]⟩, .bool true, .bool false]⟩ ∧ Q (.tuple ⟨[.slice none 0 0, .int .i64 140]⟩) h2)) (∃ b5 : Bool, parB b5 (r = .tuple ⟨[.agg ⟨[.int .u64 n5, .int .u64 n6, .int .u64 n7, .slice l6.a l6.n l6.c, .slice l7.a l7.n l7.c, .slice l8.a l8.n l8.c]⟩, .bool false, .bool true]⟩ ∧ par (n < n1) (∃ vs2, h2.row l6.a (l6.n * 2) vs2 ∧ (∀ v ∈ vs2, Value.oneCell' v = true) ∧ appendD l2 104 2 16 [.int .i64 0, .int .u64 0] l6.n vs2 h2 fun l13 h9 => ∃ vs3, h9.row l7.a (l7.n * 7) vs3 ∧ (∀ v ∈ vs3, Value.oneCell' v = true) ∧ appendD l3 108 7 72 [.int .i64 0, .int .u64 0, .int .i64 0, .int .i64 0, .int .i64 0, .string (ByteArray.mk #[]), .string (ByteArray.mk #[])] l7.n vs3 h9 fun l14 h10 => I l1 n (IntKind.wrap .i64 (n1 + 1)) n5 n6 n7 l13 l14 l8 h10 ∧ m l1 n (IntKind.wrap .i64 (n1 + 1)) n5 n6 n7 l13 l14 l8 h10 < m l1 n n1 n2 n3 n4 l2 l3 l4 h1) (I l1 n (IntKind.wrap .i64 (n1 + 1)) n5 n6 n7 l6 l7 l8 h2 ∧ m l1 n (IntKind.wrap .i64 (n1 + 1)) n5 n6 n7 l6 l7 l8 h2 < m l1 n n1 n2 n3 n4 l2 l3 l4 h1)) (r = .tuple ⟨[.agg ⟨[.int .u64 n5, .int .u64 n6, .int .u64 n7, .slice l6.a l6.n l6.c, .slice l7.a l7.n l7.c, .slice l8.a l8.n l8.c]⟩, .bool false, .bool false]⟩ ∧ Q (.tuple ⟨[.slice none 0 0, .int .i64 140]⟩) h2))) (appendD l3 108 7 72 [.int .i64 0, .int .u64 0, .int .i64 0, .int .i64 0, .int .i64 0, .string (ByteArray.mk #[]), .string (ByteArray.mk #[])] 1 [.int .i64 0, .int .u64 0, .int .i64 0, .int .i64 0, .int .i64 0, .string (ByteArray.mk #[]), .string (ByteArray.mk #[])] h1 fun l15 h11 => par (n < (l.n : Int)) (Sl.okCut l n (l.n : Int) (l.c : Int) ∧ T103f n2 n3 n4 l2 l15 l4 (Sl.cut l 1 n (l.n : Int) (l.c : Int)) h11 fun r3 h12 => ∃ b6 : Bool, r3 = .bool b6 ∧ parB b6 (Q (.tuple ⟨[.slice l1.a l1.n l1.c, .int .i64 0]⟩) h12) (Q (.tuple ⟨[.slice none 0 0, .int .i64 140]⟩) h12)) (Q (.tuple ⟨[.slice l1.a l1.n l1.c, .int .i64 0]⟩) h11))) := by kernel_rfl
theorem F69.den (V : Value → List Value → PT) (l : Sl) : denF Tryd.prog [5, 9, 55, 64] [(102, F102.V), (103, F103.V)] V [(250, .loop [(4, .sl), (6, .int .i64), (14, .int .i64)] [(5, [.int .u64, .int .u64, .int .u64, .sl, .sl, .sl])]), (506, .order [0, 1, 2, 3, 4, 5, 6, 7, 8, 9, 10, 11]), (512826, .order [0, 1, 2, 3, 5, 6, 7, 8, 4, 10, 9, 11, 12, 13]), (2051324, .order [0, 1, 2, 3, 4, 5, 6, 7])] Tryd.f69 [.v (.slice l.a l.n l.c)] = F69.T l := F69.gen V F102.T F103.Tt F103.Tf l
def F69.W (T69 : Sl → PT) (args : List Value) : PT := match args with
  | [.slice l_a l_n l_c] => T69 ⟨l_a, l_n, l_c⟩
  | _ => fun _ _ => False
def F69.V : List Value → PT := F69.W F69.T
theorem F69.ok : FOk Tryd.prog 69 F69.V := by
  refine ⟨⟨_, Tryd.func69, rfl, rfl⟩, fun args => ?_⟩
  have hG : GOk Tryd.prog [(102, F102.V), (103, F103.V)] := GOk.cons F102.ok (GOk.cons F103.ok (GOk.nil))
  have hV : VOk Tryd.prog noV := noV_ok
  unfold F69.V F69.W
  split
  · exact denF_okV hG hV Tryd.func69 (fun h Q hq => (F69.den _ _) ▸ hq)
  · exact fun h Q hq => hq.elim
def F27.T  : PT := fun h Q =>
  ∀ b, h b = none → ∀ b1, (h.new b (.cells ⟨[.int .i64 0, .int .u64 4]⟩ 104 (0, 0))) b1 = none → F21.T 2 9 300 ⟨(some ⟨b, 0, none⟩), 1, 1⟩ ⟨(some ⟨b1, 0, none⟩), 1, 1⟩ ⟨none, 0, 0⟩ ((h.new b (.cells ⟨[.int .i64 0, .int .u64 4]⟩ 104 (0, 0))).new b1 (.cells ⟨[.int .i64 1, .int .u64 8, .int .i64 455, .int .i64 90, .int .i64 1, .string (ByteArray.mk #[97]), .string (ByteArray.mk #[97])]⟩ 108 (0, 0))) fun r h1 => ∃ l : Sl, r = .slice l.a l.n l.c ∧ F69.T l h1 fun r1 h2 => ∃ l1 : Sl, ∃ n : Int, r1 = .tuple ⟨[.slice l1.a l1.n l1.c, .int .i64 n]⟩ ∧ par ((l.n : Int) = 1) (∃ b2 o, (l.a : Option Addr) = some ⟨b2, o, none⟩ ∧ ((0 : Int) ≤ 0 ∧ 0 < (l.n : Int)) ∧ ∃ l2 : Sl, h2.at b2 (o + (0 : Int).toNat) = some (.slice l2.a l2.n l2.c) ∧ ∀ b3, h2 b3 = none → (h2.new b3 (.cells ⟨[.int .u8 1, .int .u8 2, .int .u8 9, .int .u8 172, .int .u8 2, .int .u8 1, .int .u8 0, .int .u8 4, .int .u8 1, .int .u8 1, .int .u8 8, .int .u8 199, .int .u8 3, .int .u8 90, .int .u8 1, .int .u8 1, .int .u8 97, .int .u8 1, .int .u8 97, .int .u8 0]⟩ 5 (0, 0))).at b2 (o + (0 : Int).toNat) = some (.slice l2.a l2.n l2.c) ∧ F10.T l2 ⟨(some ⟨b3, 0, none⟩), 20, 20⟩ (h2.new b3 (.cells ⟨[.int .u8 1, .int .u8 2, .int .u8 9, .int .u8 172, .int .u8 2, .int .u8 1, .int .u8 0, .int .u8 4, .int .u8 1, .int .u8 1, .int .u8 8, .int .u8 199, .int .u8 3, .int .u8 90, .int .u8 1, .int .u8 1, .int .u8 97, .int .u8 1, .int .u8 97, .int .u8 0]⟩ 5 (0, 0))) fun r2 h3 => ∃ b4 : Bool, r2 = .bool b4 ∧ parB b4 (par (n = 0) (par ((l1.n : Int) = 1) (∃ b5 o1, (l1.a : Option Addr) = some ⟨b5, o1, none⟩ ∧ ((0 : Int) ≤ 0 ∧ 0 < (l1.n : Int)) ∧ ∃ n1 : Int, h3.at b5 (o1 + (0 : Int).toNat * 6) = some (.int .u64 n1) ∧ ∃ n2 : Int, h3.at b5 ((o1 + (0 : Int).toNat * 6) + 1) = some (.int .u64 n2) ∧ ∃ n3 : Int, h3.at b5 ((o1 + (0 : Int).toNat * 6) + 2) = some (.int .u64 n3) ∧ ∃ l3 : Sl, h3.at b5 ((o1 + (0 : Int).toNat * 6) + 3) = some (.slice l3.a l3.n l3.c) ∧ ∃ l4 : Sl, h3.at b5 ((o1 + (0 : Int).toNat * 6) + 4) = some (.slice l4.a l4.n l4.c) ∧ ∃ l5 : Sl, h3.at b5 ((o1 + (0 : Int).toNat * 6) + 5) = some (.slice l5.a l5.n l5.c) ∧ F68.T n1 n2 n3 l3 l4 l5 2 9 300 ⟨(some ⟨b, 0, none⟩), 1, 1⟩ ⟨(some ⟨b1, 0, none⟩), 1, 1⟩ ⟨none, 0, 0⟩ h3 fun r3 h4 => ∃ b6 : Bool, r3 = .bool b6 ∧ parB b6 (F8.T 116 7 h4 fun r4 h5 => ∃ s : ByteArray, r4 = .string s ∧ par (s = (ByteArray.mk #[116, 45, 48, 48, 48, 48, 48, 48, 48, 48, 48, 48, 48, 55])) (Q (.bool true) h5) (Q (.bool false) h5)) (Q (.bool false) h4)) (Q (.bool false) h3)) (Q (.bool false) h3)) (Q (.bool false) h3)) (Q (.bool false) h2)
theorem F27.gen (V : Value → List Value → PT) (T8 : Int → Int → PT) (T10 : Sl → Sl → PT) (T21 : Int → Int → Int → Sl → Sl → Sl → PT) (T68 : Int → Int → Int → Sl → Sl → Sl → Int → Int → Int → Sl → Sl → Sl → PT) (T69 : Sl → PT)  : denF Tryd.prog [1] [(8, F8.W T8), (10, F10.W T10), (21, F21.W T21), (68, F68.W T68), (69, F69.W T69)] V [(62, .order [0, 1, 2, 3, 4, 5, 6, 7, 8, 9, 10, 11, 12, 13, 14, 15, 16, 17, 18, 19, 20, 21, 22, 23, 24, 25, 26, 27, 28, 29, 30])] Tryd.f27 [] = fun h Q =>
  ∀ b, h b = none → ∀ b1, (h.new b (.cells ⟨[.int .i64 0, .int .u64 4]⟩ 104 (0, 0))) b1 = none → T21 2 9 300 ⟨(some ⟨b, 0, none⟩), 1, 1⟩ ⟨(some ⟨b1, 0, none⟩), 1, 1⟩ ⟨none, 0, 0⟩ ((h.new b (.cells ⟨[.int .i64 0, .int .u64 4]⟩ 104 (0, 0))).new b1 (.cells ⟨[.int .i64 1, .int .u64 8, .int .i64 455, .int .i64 90, .int .i64 1, .string (ByteArray.mk #[97]), .string (ByteArray.mk #[97])]⟩ 108 (0, 0))) fun r h1 => ∃ l : Sl, r = .slice l.a l.n l.c ∧ T69 l h1 fun r1 h2 => ∃ l1 : Sl, ∃ n : Int, r1 = .tuple ⟨[.slice l1.a l1.n l1.c, .int .i64 n]⟩ ∧ par ((l.n : Int) = 1) (∃ b2 o, (l.a : Option Addr) = some ⟨b2, o, none⟩ ∧ ((0 : Int) ≤ 0 ∧ 0 < (l.n : Int)) ∧ ∃ l2 : Sl, h2.at b2 (o + (0 : Int).toNat) = some (.slice l2.a l2.n l2.c) ∧ ∀ b3, h2 b3 = none → (h2.new b3 (.cells ⟨[.int .u8 1, .int .u8 2, .int .u8 9, .int .u8 172, .int .u8 2, .int .u8 1, .int .u8 0, .int .u8 4, .int .u8 1, .int .u8 1, .int .u8 8, .int .u8 199, .int .u8 3, .int .u8 90, .int .u8 1, .int .u8 1, .int .u8 97, .int .u8 1, .int .u8 97, .int .u8 0]⟩ 5 (0, 0))).at b2 (o + (0 : Int).toNat) = some (.slice l2.a l2.n l2.c) ∧ T10 l2 ⟨(some ⟨b3, 0, none⟩), 20, 20⟩ (h2.new b3 (.cells ⟨[.int .u8 1, .int .u8 2, .int .u8 9, .int .u8 172, .int .u8 2, .int .u8 1, .int .u8 0, .int .u8 4, .int .u8 1, .int .u8 1, .int .u8 8, .int .u8 199, .int .u8 3, .int .u8 90, .int .u8 1, .int .u8 1, .int .u8 97, .int .u8 1, .int .u8 97, .int .u8 0]⟩ 5 (0, 0))) fun r2 h3 => ∃ b4 : Bool, r2 = .bool b4 ∧ parB b4 (par (n = 0) (par ((l1.n : Int) = 1) (∃ b5 o1, (l1.a : Option Addr) = some ⟨b5, o1, none⟩ ∧ ((0 : Int) ≤ 0 ∧ 0 < (l1.n : Int)) ∧ ∃ n1 : Int, h3.at b5 (o1 + (0 : Int).toNat * 6) = some (.int .u64 n1) ∧ ∃ n2 : Int, h3.at b5 ((o1 + (0 : Int).toNat * 6) + 1) = some (.int .u64 n2) ∧ ∃ n3 : Int, h3.at b5 ((o1 + (0 : Int).toNat * 6) + 2) = some (.int .u64 n3) ∧ ∃ l3 : Sl, h3.at b5 ((o1 + (0 : Int).toNat * 6) + 3) = some (.slice l3.a l3.n l3.c) ∧ ∃ l4 : Sl, h3.at b5 ((o1 + (0 : Int).toNat * 6) + 4) = some (.slice l4.a l4.n l4.c) ∧ ∃ l5 : Sl, h3.at b5 ((o1 + (0 : Int).toNat * 6) + 5) = some (.slice l5.a l5.n l5.c) ∧ T68 n1 n2 n3 l3 l4 l5 2 9 300 ⟨(some ⟨b, 0, none⟩), 1, 1⟩ ⟨(some ⟨b1, 0, none⟩), 1, 1⟩ ⟨none, 0, 0⟩ h3 fun r3 h4 => ∃ b6 : Bool, r3 = .bool b6 ∧ parB b6 (T8 116 7 h4 fun r4 h5 => ∃ s : ByteArray, r4 = .string s ∧ par (s = (ByteArray.mk #[116, 45, 48, 48, 48, 48, 48, 48, 48, 48, 48, 48, 48, 55])) (Q (.bool true) h5) (Q (.bool false) h5)) (Q (.bool false) h4)) (Q (.bool false) h3)) (Q (.bool false) h3)) (Q (.bool false) h3)) (Q (.bool false) h2) := by kernel_rfl
theorem F27.den (V : Value → List Value → PT)  : denF Tryd.prog [1] [(8, F8.V), (10, F10.V), (21, F21.V), (68, F68.V), (69, F69.V)] V [(62, .order [0, 1, 2, 3, 4, 5, 6, 7, 8, 9, 10, 11, 12, 13, 14, 15, 16, 17, 18, 19, 20, 21, 22, 23, 24, 25, 26, 27, 28, 29, 30])] Tryd.f27 [] = F27.T  := F27.gen V F8.T F10.T F21.T F68.T F69.T 
def F27.W (T27 : PT) (args : List Value) : PT := match args with
  | [] => T27 
  | _ => fun _ _ => False
def F27.V : List Value → PT := F27.W F27.T
theorem F27.ok : FOk Tryd.prog 27 F27.V := by
  refine ⟨⟨_, Tryd.func27, rfl, rfl⟩, fun args => ?_⟩
  have hG : GOk Tryd.prog [(8, F8.V), (10, F10.V), (21, F21.V), (68, F68.V), (69, F69.V)] := GOk.cons F8.ok (GOk.cons F10.ok (GOk.cons F21.ok (GOk.cons F68.ok (GOk.cons F69.ok (GOk.nil)))))
  have hV : VOk Tryd.prog noV := noV_ok
  unfold F27.V F27.W
  split
  · exact denF_okV hG hV Tryd.func27 (fun h Q hq => (F27.den _ ) ▸ hq)
  · exact fun h Q hq => hq.elim
def F28.T (n : Int) (n1 : Int) : PT := fun h Q =>
  par (n < 0) (n1 ≠ 0 ∧ Q (.int .i64 (Int.tmod (IntKind.wrap .i64 (0 - (IntKind.wrap .i64 (n + 1)))) n1)) h) (n1 ≠ 0 ∧ Q (.int .i64 (Int.tmod n n1)) h)
theorem F28.den (V : Value → List Value → PT) (n : Int) (n1 : Int) : denF Tryd.prog [] [] V [] Tryd.f28 [.v (.int .i64 n), .v (.int .i64 n1)] = F28.T n n1 := by kernel_rfl
def F28.W (T28 : Int → Int → PT) (args : List Value) : PT := match args with
  | [.int .i64 n, .int .i64 n1] => T28 n n1
  | _ => fun _ _ => False
def F28.V : List Value → PT := F28.W F28.T
theorem F28.ok : FOk Tryd.prog 28 F28.V := by
  refine ⟨⟨_, Tryd.func28, rfl, rfl⟩, fun args => ?_⟩
  have hG : GOk Tryd.prog [] := GOk.nil
  have hV : VOk Tryd.prog noV := noV_ok
  unfold F28.V F28.W
  split
  · exact denF_okV hG hV Tryd.func28 (fun h Q hq => (F28.den _ _ _) ▸ hq)
  · exact fun h Q hq => hq.elim
def F30.T (l : Sl) : PT := fun h Q =>
  F18.T l h fun r h1 => ∃ l1 : Sl, r = .slice l1.a l1.n l1.c ∧ ∃ (I : Int → Hp → Prop) (m : Int → Hp → Nat), I 0 h1 ∧ (∀ n : Int, ∀ h2 : Hp, I n h2 → par (n < (l1.n : Int)) (∃ (I1 : Int → Hp → Prop) (m1 : Int → Hp → Nat), I1 0 h2 ∧ (∀ n1 : Int, ∀ h3 : Hp, I1 n1 h3 → ∃ b o, (l1.a : Option Addr) = some ⟨b, o, none⟩ ∧ ((0 : Int) ≤ n ∧ n < (l1.n : Int)) ∧ ∃ l2 : Sl, h3.at b ((o + n.toNat * 6) + 3) = some (.slice l2.a l2.n l2.c) ∧ par (n1 < (l2.n : Int)) (∃ b1 o1, (l1.a : Option Addr) = some ⟨b1, o1, none⟩ ∧ ((0 : Int) ≤ n ∧ n < (l1.n : Int)) ∧ ∃ l3 : Sl, h3.at b1 ((o1 + n.toNat * 6) + 3) = some (.slice l3.a l3.n l3.c) ∧ ∃ b2 o2, (l1.a : Option Addr) = some ⟨b2, o2, none⟩ ∧ ((0 : Int) ≤ n ∧ n < (l1.n : Int)) ∧ ∃ l4 : Sl, h3.at b2 ((o2 + n.toNat * 6) + 3) = some (.slice l4.a l4.n l4.c) ∧ ∃ b3 o3, (l4.a : Option Addr) = some ⟨b3, o3, none⟩ ∧ ((0 : Int) ≤ n1 ∧ n1 < (l4.n : Int)) ∧ ∃ n2 : Int, h3.at b3 (o3 + n1.toNat * 2) = some (.int .i64 n2) ∧ F28.T n2 5 h3 fun r1 h4 => ∃ n3 : Int, r1 = .int .i64 n3 ∧ h4.at b1 ((o1 + n.toNat * 6) + 3) = some (.slice l3.a l3.n l3.c) ∧ ∃ b4 o4, (l3.a : Option Addr) = some ⟨b4, o4, none⟩ ∧ ((0 : Int) ≤ n1 ∧ n1 < (l3.n : Int)) ∧ h4.canW b4 (o4 + n1.toNat * 2) 1 ∧ I1 (IntKind.wrap .i64 (n1 + 1)) (h4.wr b4 (o4 + n1.toNat * 2) [.int .i64 n3]) ∧ m1 (IntKind.wrap .i64 (n1 + 1)) (h4.wr b4 (o4 + n1.toNat * 2) [.int .i64 n3]) < m1 n1 h3) (∃ (I2 : Int → Hp → Prop) (m2 : Int → Hp → Nat), I2 0 h3 ∧ (∀ n4 : Int, ∀ h5 : Hp, I2 n4 h5 → ∃ b5 o5, (l1.a : Option Addr) = some ⟨b5, o5, none⟩ ∧ ((0 : Int) ≤ n ∧ n < (l1.n : Int)) ∧ ∃ l5 : Sl, h5.at b5 ((o5 + n.toNat * 6) + 4) = some (.slice l5.a l5.n l5.c) ∧ par (n4 < (l5.n : Int)) (∃ b6 o6, (l1.a : Option Addr) = some ⟨b6, o6, none⟩ ∧ ((0 : Int) ≤ n ∧ n < (l1.n : Int)) ∧ ∃ l6 : Sl, h5.at b6 ((o6 + n.toNat * 6) + 4) = some (.slice l6.a l6.n l6.c) ∧ ∃ b7 o7, (l6.a : Option Addr) = some ⟨b7, o7, none⟩ ∧ ((0 : Int) ≤ n4 ∧ n4 < (l6.n : Int)) ∧ ∃ n5 : Int, h5.at b7 (o7 + n4.toNat * 7) = some (.int .i64 n5) ∧ F28.T n5 5 h5 fun r2 h6 => ∃ n6 : Int, r2 = .int .i64 n6 ∧ h6.canW b7 (o7 + n4.toNat * 7) 1 ∧ ∃ n7 : Int, (h6.wr b7 (o7 + n4.toNat * 7) [.int .i64 n6]).at b7 (((o7 + n4.toNat * 7) + 1) + 1) = some (.int .i64 n7) ∧ ∃ n8 : Int, (h6.wr b7 (o7 + n4.toNat * 7) [.int .i64 n6]).at b7 (((o7 + n4.toNat * 7) + 1) + 2) = some (.int .i64 n8) ∧ ∃ n9 : Int, (h6.wr b7 (o7 + n4.toNat * 7) [.int .i64 n6]).at b7 (((o7 + n4.toNat * 7) + 1) + 3) = some (.int .i64 n9) ∧ (h6.wr b7 (o7 + n4.toNat * 7) [.int .i64 n6]).canW b7 (((o7 + n4.toNat * 7) + 1) + 1) 1 ∧ ((h6.wr b7 (o7 + n4.toNat * 7) [.int .i64 n6]).wr b7 (((o7 + n4.toNat * 7) + 1) + 1) [.int .i64 (iMax n7 0)]).canW b7 (((o7 + n4.toNat * 7) + 1) + 2) 1 ∧ (((h6.wr b7 (o7 + n4.toNat * 7) [.int .i64 n6]).wr b7 (((o7 + n4.toNat * 7) + 1) + 1) [.int .i64 (iMax n7 0)]).wr b7 (((o7 + n4.toNat * 7) + 1) + 2) [.int .i64 (iMax n8 0)]).canW b7 (((o7 + n4.toNat * 7) + 1) + 3) 1 ∧ ∃ s : ByteArray, ((((h6.wr b7 (o7 + n4.toNat * 7) [.int .i64 n6]).wr b7 (((o7 + n4.toNat * 7) + 1) + 1) [.int .i64 (iMax n7 0)]).wr b7 (((o7 + n4.toNat * 7) + 1) + 2) [.int .i64 (iMax n8 0)]).wr b7 (((o7 + n4.toNat * 7) + 1) + 3) [.int .i64 (iMax n9 0)]).at b7 (((o7 + n4.toNat * 7) + 1) + 4) = some (.string s) ∧ ∃ s1 : ByteArray, ((((h6.wr b7 (o7 + n4.toNat * 7) [.int .i64 n6]).wr b7 (((o7 + n4.toNat * 7) + 1) + 1) [.int .i64 (iMax n7 0)]).wr b7 (((o7 + n4.toNat * 7) + 1) + 2) [.int .i64 (iMax n8 0)]).wr b7 (((o7 + n4.toNat * 7) + 1) + 3) [.int .i64 (iMax n9 0)]).at b7 (((o7 + n4.toNat * 7) + 1) + 4) = some (.string s1) ∧ okSub s 0 (iMin (s1.size : Int) 64) ∧ ((((h6.wr b7 (o7 + n4.toNat * 7) [.int .i64 n6]).wr b7 (((o7 + n4.toNat * 7) + 1) + 1) [.int .i64 (iMax n7 0)]).wr b7 (((o7 + n4.toNat * 7) + 1) + 2) [.int .i64 (iMax n8 0)]).wr b7 (((o7 + n4.toNat * 7) + 1) + 3) [.int .i64 (iMax n9 0)]).canW b7 (((o7 + n4.toNat * 7) + 1) + 4) 1 ∧ ∃ s2 : ByteArray, (((((h6.wr b7 (o7 + n4.toNat * 7) [.int .i64 n6]).wr b7 (((o7 + n4.toNat * 7) + 1) + 1) [.int .i64 (iMax n7 0)]).wr b7 (((o7 + n4.toNat * 7) + 1) + 2) [.int .i64 (iMax n8 0)]).wr b7 (((o7 + n4.toNat * 7) + 1) + 3) [.int .i64 (iMax n9 0)]).wr b7 (((o7 + n4.toNat * 7) + 1) + 4) [.string (s.extract (0 : Int).toNat ((iMin (s1.size : Int) 64) : Int).toNat)]).at b7 (((o7 + n4.toNat * 7) + 1) + 5) = some (.string s2) ∧ ∃ s3 : ByteArray, (((((h6.wr b7 (o7 + n4.toNat * 7) [.int .i64 n6]).wr b7 (((o7 + n4.toNat * 7) + 1) + 1) [.int .i64 (iMax n7 0)]).wr b7 (((o7 + n4.toNat * 7) + 1) + 2) [.int .i64 (iMax n8 0)]).wr b7 (((o7 + n4.toNat * 7) + 1) + 3) [.int .i64 (iMax n9 0)]).wr b7 (((o7 + n4.toNat * 7) + 1) + 4) [.string (s.extract (0 : Int).toNat ((iMin (s1.size : Int) 64) : Int).toNat)]).at b7 (((o7 + n4.toNat * 7) + 1) + 5) = some (.string s3) ∧ okSub s2 0 (iMin (s3.size : Int) 64) ∧ (((((h6.wr b7 (o7 + n4.toNat * 7) [.int .i64 n6]).wr b7 (((o7 + n4.toNat * 7) + 1) + 1) [.int .i64 (iMax n7 0)]).wr b7 (((o7 + n4.toNat * 7) + 1) + 2) [.int .i64 (iMax n8 0)]).wr b7 (((o7 + n4.toNat * 7) + 1) + 3) [.int .i64 (iMax n9 0)]).wr b7 (((o7 + n4.toNat * 7) + 1) + 4) [.string (s.extract (0 : Int).toNat ((iMin (s1.size : Int) 64) : Int).toNat)]).canW b7 (((o7 + n4.toNat * 7) + 1) + 5) 1 ∧ I2 (IntKind.wrap .i64 (n4 + 1)) ((((((h6.wr b7 (o7 + n4.toNat * 7) [.int .i64 n6]).wr b7 (((o7 + n4.toNat * 7) + 1) + 1) [.int .i64 (iMax n7 0)]).wr b7 (((o7 + n4.toNat * 7) + 1) + 2) [.int .i64 (iMax n8 0)]).wr b7 (((o7 + n4.toNat * 7) + 1) + 3) [.int .i64 (iMax n9 0)]).wr b7 (((o7 + n4.toNat * 7) + 1) + 4) [.string (s.extract (0 : Int).toNat ((iMin (s1.size : Int) 64) : Int).toNat)]).wr b7 (((o7 + n4.toNat * 7) + 1) + 5) [.string (s2.extract (0 : Int).toNat ((iMin (s3.size : Int) 64) : Int).toNat)]) ∧ m2 (IntKind.wrap .i64 (n4 + 1)) ((((((h6.wr b7 (o7 + n4.toNat * 7) [.int .i64 n6]).wr b7 (((o7 + n4.toNat * 7) + 1) + 1) [.int .i64 (iMax n7 0)]).wr b7 (((o7 + n4.toNat * 7) + 1) + 2) [.int .i64 (iMax n8 0)]).wr b7 (((o7 + n4.toNat * 7) + 1) + 3) [.int .i64 (iMax n9 0)]).wr b7 (((o7 + n4.toNat * 7) + 1) + 4) [.string (s.extract (0 : Int).toNat ((iMin (s1.size : Int) 64) : Int).toNat)]).wr b7 (((o7 + n4.toNat * 7) + 1) + 5) [.string (s2.extract (0 : Int).toNat ((iMin (s3.size : Int) 64) : Int).toNat)]) < m2 n4 h5) (∃ b8 o8, (l1.a : Option Addr) = some ⟨b8, o8, none⟩ ∧ ((0 : Int) ≤ n ∧ n < (l1.n : Int)) ∧ ∃ l7 : Sl, h5.at b8 ((o8 + n.toNat * 6) + 5) = some (.slice l7.a l7.n l7.c) ∧ ∃ b9 o9, (l1.a : Option Addr) = some ⟨b9, o9, none⟩ ∧ ((0 : Int) ≤ n ∧ n < (l1.n : Int)) ∧ ∃ l8 : Sl, h5.at b9 ((o9 + n.toNat * 6) + 5) = some (.slice l8.a l8.n l8.c) ∧ Sl.okCut l7 0 (iMin (l8.n : Int) 5) (l7.c : Int) ∧ ∃ b10 o10, (l1.a : Option Addr) = some ⟨b10, o10, none⟩ ∧ ((0 : Int) ≤ n ∧ n < (l1.n : Int)) ∧ h5.canW b10 ((o10 + n.toNat * 6) + 5) 1 ∧ ∃ (I3 : Int → Hp → Prop) (m3 : Int → Hp → Nat), I3 0 (h5.wr b10 ((o10 + n.toNat * 6) + 5) [.slice (Sl.cut l7 1 0 (iMin (l8.n : Int) 5) (l7.c : Int)).a (Sl.cut l7 1 0 (iMin (l8.n : Int) 5) (l7.c : Int)).n (Sl.cut l7 1 0 (iMin (l8.n : Int) 5) (l7.c : Int)).c]) ∧ (∀ n10 : Int, ∀ h7 : Hp, I3 n10 h7 → ∃ b11 o11, (l1.a : Option Addr) = some ⟨b11, o11, none⟩ ∧ ((0 : Int) ≤ n ∧ n < (l1.n : Int)) ∧ ∃ l9 : Sl, h7.at b11 ((o11 + n.toNat * 6) + 5) = some (.slice l9.a l9.n l9.c) ∧ par (n10 < (l9.n : Int)) (∃ b12 o12, (l1.a : Option Addr) = some ⟨b12, o12, none⟩ ∧ ((0 : Int) ≤ n ∧ n < (l1.n : Int)) ∧ ∃ l10 : Sl, h7.at b12 ((o12 + n.toNat * 6) + 5) = some (.slice l10.a l10.n l10.c) ∧ ∃ b13 o13, (l1.a : Option Addr) = some ⟨b13, o13, none⟩ ∧ ((0 : Int) ≤ n ∧ n < (l1.n : Int)) ∧ ∃ l11 : Sl, h7.at b13 ((o13 + n.toNat * 6) + 5) = some (.slice l11.a l11.n l11.c) ∧ ∃ b14 o14, (l11.a : Option Addr) = some ⟨b14, o14, none⟩ ∧ ((0 : Int) ≤ n10 ∧ n10 < (l11.n : Int)) ∧ ∃ s4 : ByteArray, h7.at b14 (o14 + n10.toNat) = some (.string s4) ∧ ∃ b15 o15, (l1.a : Option Addr) = some ⟨b15, o15, none⟩ ∧ ((0 : Int) ≤ n ∧ n < (l1.n : Int)) ∧ ∃ l12 : Sl, h7.at b15 ((o15 + n.toNat * 6) + 5) = some (.slice l12.a l12.n l12.c) ∧ ∃ b16 o16, (l12.a : Option Addr) = some ⟨b16, o16, none⟩ ∧ ((0 : Int) ≤ n10 ∧ n10 < (l12.n : Int)) ∧ ∃ s5 : ByteArray, h7.at b16 (o16 + n10.toNat) = some (.string s5) ∧ okSub s4 0 (iMin (s5.size : Int) 64) ∧ ∃ b17 o17, (l10.a : Option Addr) = some ⟨b17, o17, none⟩ ∧ ((0 : Int) ≤ n10 ∧ n10 < (l10.n : Int)) ∧ h7.canW b17 (o17 + n10.toNat) 1 ∧ I3 (IntKind.wrap .i64 (n10 + 1)) (h7.wr b17 (o17 + n10.toNat) [.string (s4.extract (0 : Int).toNat ((iMin (s5.size : Int) 64) : Int).toNat)]) ∧ m3 (IntKind.wrap .i64 (n10 + 1)) (h7.wr b17 (o17 + n10.toNat) [.string (s4.extract (0 : Int).toNat ((iMin (s5.size : Int) 64) : Int).toNat)]) < m3 n10 h7) (I (IntKind.wrap .i64 (n + 1)) h7 ∧ m (IntKind.wrap .i64 (n + 1)) h7 < m n h2))))))) (Q (.slice l1.a l1.n l1.c) h2))
theorem F30.gen (V : Value → List Value → PT) (T18 : Sl → PT) (T28 : Int → Int → PT) (l : Sl) : denF Tryd.prog [] [(18, F18.W T18), (28, F28.W T28)] V [(58, .loop [(4, .int .i64)] []), (7458, .loop [(5, .int .i64)] []), (7462, .order [0, 1, 2, 3, 4, 5, 6, 7, 8, 9, 10, 11, 12, 13, 14, 15, 16, 17]), (14922, .loop [(6, .int .i64)] []), (29854, .loop [(8, .int .i64)] []), (119332, .order [0, 1, 2, 3, 4, 5, 6, 7, 8, 9, 10, 11, 12, 13, 14, 15, 16, 17, 18]), (477668, .order [0, 1, 2, 3, 4, 5, 6, 7, 8, 9, 10, 11, 12, 13, 14, 15, 16, 17, 18, 19, 20, 21, 22, 23, 24, 25, 26]), (1910054, .order [0, 1, 2, 3, 4, 5, 6, 7, 8, 9, 10, 11, 12, 13, 14, 15, 16, 17, 18, 19, 20, 21, 22, 23, 24, 25, 26, 27, 28, 29, 30, 31, 32]), (3820110, .order [0, 1, 2, 3, 4, 5, 6, 7, 8, 9, 10, 11, 12, 13, 14, 15, 16, 17]), (3820111, .order [0, 1, 2, 3, 4, 5, 6, 7, 8, 9, 10, 11, 12, 13, 14, 15, 16, 17])] Tryd.f30 [.v (.slice l.a l.n l.c)] = fun h Q =>
  T18 l h fun r h1 => ∃ l1 : Sl, r = .slice l1.a l1.n l1.c ∧ ∃ (I : Int → Hp → Prop) (m : Int → Hp → Nat), I 0 h1 ∧ (∀ n : Int, ∀ h2 : Hp, I n h2 → par (n < (l1.n : Int)) (∃ (I1 : Int → Hp → Prop) (m1 : Int → Hp → Nat), I1 0 h2 ∧ (∀ n1 : Int, ∀ h3 : Hp, I1 n1 h3 → ∃ b o, (l1.a : Option Addr) = some ⟨b, o, none⟩ ∧ ((0 : Int) ≤ n ∧ n < (l1.n : Int)) ∧ ∃ l2 : Sl, h3.at b ((o + n.toNat * 6) + 3) = some (.slice l2.a l2.n l2.c) ∧ par (n1 < (l2.n : Int)) (∃ b1 o1, (l1.a : Option Addr) = some ⟨b1, o1, none⟩ ∧ ((0 : Int) ≤ n ∧ n < (l1.n : Int)) ∧ ∃ l3 : Sl, h3.at b1 ((o1 + n.toNat * 6) + 3) = some (.slice l3.a l3.n l3.c) ∧ ∃ b2 o2, (l1.a : Option Addr) = some ⟨b2, o2, none⟩ ∧ ((0 : Int) ≤ n ∧ n < (l1.n : Int)) ∧ ∃ l4 : Sl, h3.at b2 ((o2 + n.toNat * 6) + 3) = some (.slice l4.a l4.n l4.c) ∧ ∃ b3 o3, (l4.a : Option Addr) = some ⟨b3, o3, none⟩ ∧ ((0 : Int) ≤ n1 ∧ n1 < (l4.n : Int)) ∧ ∃ n2 : Int, h3.at b3 (o3 + n1.toNat * 2) = some (.int .i64 n2) ∧ T28 n2 5 h3 fun r1 h4 => ∃ n3 : Int, r1 = .int .i64 n3 ∧ h4.at b1 ((o1 + n.toNat * 6) + 3) = some (.slice l3.a l3.n l3.c) ∧ ∃ b4 o4, (l3.a : Option Addr) = some ⟨b4, o4, none⟩ ∧ ((0 : Int) ≤ n1 ∧ n1 < (l3.n : Int)) ∧ h4.canW b4 (o4 + n1.toNat * 2) 1 ∧ I1 (IntKind.wrap .i64 (n1 + 1)) (h4.wr b4 (o4 + n1.toNat * 2) [.int .i64 n3]) ∧ m1 (IntKind.wrap .i64 (n1 + 1)) (h4.wr b4 (o4 + n1.toNat * 2) [.int .i64 n3]) < m1 n1 h3) (∃ (I2 : Int → Hp → Prop) (m2 : Int → Hp → Nat), I2 0 h3 ∧ (∀ n4 : Int, ∀ h5 : Hp, I2 n4 h5 → ∃ b5 o5, (l1.a : Option Addr) = some ⟨b5, o5, none⟩ ∧ ((0 : Int) ≤ n ∧ n < (l1.n : Int)) ∧ ∃ l5 : Sl, h5.at b5 ((o5 + n.toNat * 6) + 4) = some (.slice l5.a l5.n l5.c) ∧ par (n4 < (l5.n : Int)) (∃ b6 o6, (l1.a : Option Addr) = some ⟨b6, o6, none⟩ ∧ ((0 : Int) ≤ n ∧ n < (l1.n : Int)) ∧ ∃ l6 : Sl, h5.at b6 ((o6 + n.toNat * 6) + 4) = some (.slice l6.a l6.n l6.c) ∧ ∃ b7 o7, (l6.a : Option Addr) = some ⟨b7, o7, none⟩ ∧ ((0 : Int) ≤ n4 ∧ n4 < (l6.n : Int)) ∧ ∃ n5 : Int, h5.at b7 (o7 + n4.toNat * 7) = some (.int .i64 n5) ∧ T28 n5 5 h5 fun r2 h6 => ∃ n6 : Int, r2 = .int .i64 n6 ∧ h6.canW b7 (o7 + n4.toNat * 7) 1 ∧ ∃ n7 : Int, (h6.wr b7 (o7 + n4.toNat * 7) [.int .i64 n6]).at b7 (((o7 + n4.toNat * 7) + 1) + 1) = some (.int .i64 n7) ∧ ∃ n8 : Int, (h6.wr b7 (o7 + n4.toNat * 7) [.int .i64 n6]).at b7 (((o7 + n4.toNat * 7) + 1) + 2) = some (.int .i64 n8) ∧ ∃ n9 : Int, (h6.wr b7 (o7 + n4.toNat * 7) [.int .i64 n6]).at b7 (((o7 + n4.toNat * 7) + 1) + 3) = some (.int .i64 n9) ∧ (h6.wr b7 (o7 + n4.toNat * 7) [.int .i64 n6]).canW b7 (((o7 + n4.toNat * 7) + 1) + 1) 1 ∧ ((h6.wr b7 (o7 + n4.toNat * 7) [.int .i64 n6]).wr b7 (((o7 + n4.toNat * 7) + 1) + 1) [.int .i64 (iMax n7 0)]).canW b7 (((o7 + n4.toNat * 7) + 1) + 2) 1 ∧ (((h6.wr b7 (o7 + n4.toNat * 7) [.int .i64 n6]).wr b7 (((o7 + n4.toNat * 7) + 1) + 1) [.int .i64 (iMax n7 0)]).wr b7 (((o7 + n4.toNat * 7) + 1) + 2) [.int .i64 (iMax n8 0)]).canW b7 (((o7 + n4.toNat * 7) + 1) + 3) 1 ∧ ∃ s : ByteArray, ((((h6.wr b7 (o7 + n4.toNat * 7) [.int .i64 n6]).wr b7 (((o7 + n4.toNat * 7) + 1) + 1) [.int .i64 (iMax n7 0)]).wr b7 (((o7 + n4.toNat * 7) + 1) + 2) [.int .i64 (iMax n8 0)]).wr b7 (((o7 + n4.toNat * 7) + 1) + 3) [.int .i64 (iMax n9 0)]).at b7 (((o7 + n4.toNat * 7) + 1) + 4) = some (.string s) ∧ ∃ s1 : ByteArray, ((((h6.wr b7 (o7 + n4.toNat * 7) [.int .i64 n6]).wr b7 (((o7 + n4.toNat * 7) + 1) + 1) [.int .i64 (iMax n7 0)]).wr b7 (((o7 + n4.toNat * 7) + 1) + 2) [.int .i64 (iMax n8 0)]).wr b7 (((o7 + n4.toNat * 7) + 1) + 3) [.int .i64 (iMax n9 0)]).at b7 (((o7 + n4.toNat * 7) + 1) + 4) = some (.string s1) ∧ okSub s 0 (iMin (s1.size : Int) 64) ∧ ((((h6.wr b7 (o7 + n4.toNat * 7) [.int .i64 n6]).wr b7 (((o7 + n4.toNat * 7) + 1) + 1) [.int .i64 (iMax n7 0)]).wr b7 (((o7 + n4.toNat * 7) + 1) + 2) [.int .i64 (iMax n8 0)]).wr b7 (((o7 + n4.toNat * 7) + 1) + 3) [.int .i64 (iMax n9 0)]).canW b7 (((o7 + n4.toNat * 7) + 1) + 4) 1 ∧ ∃ s2 : ByteArray, (((((h6.wr b7 (o7 + n4.toNat * 7) [.int .i64 n6]).wr b7 (((o7 + n4.toNat * 7) + 1) + 1) [.int .i64 (iMax n7 0)]).wr b7 (((o7 + n4.toNat * 7) + 1) + 2) [.int .i64 (iMax n8 0)]).wr b7 (((o7 + n4.toNat * 7) + 1) + 3) [.int .i64 (iMax n9 0)]).wr b7 (((o7 + n4.toNat * 7) + 1) + 4) [.string (s.extract (0 : Int).toNat ((iMin (s1.size : Int) 64) : Int).toNat)]).at b7 (((o7 + n4.toNat * 7) + 1) + 5) = some (.string s2) ∧ ∃ s3 : ByteArray, (((((h6.wr b7 (o7 + n4.toNat * 7) [.int .i64 n6]).wr b7 (((o7 + n4.toNat * 7) + 1) + 1) [.int .i64 (iMax n7 0)]).wr b7 (((o7 + n4.toNat * 7) + 1) + 2) [.int .i64 (iMax n8 0)]).wr b7 (((o7 + n4.toNat * 7) + 1) + 3) [.int .i64 (iMax n9 0)]).wr b7 (((o7 + n4.toNat * 7) + 1) + 4) [.string (s.extract (0 : Int).toNat ((iMin (s1.size : Int) 64) : Int).toNat)]).at b7 (((o7 + n4.toNat * 7) + 1) + 5) = some (.string s3) ∧ okSub s2 0 (iMin (s3.size : Int) 64) ∧ (((((h6.wr b7 (o7 + n4.toNat * 7) [.int .i64 n6]).wr b7 (((o7 + n4.toNat * 7) + 1) + 1) [.int .i64 (iMax n7 0)]).wr b7 (((o7 + n4.toNat * 7) + 1) + 2) [.int .i64 (iMax n8 0)]).wr b7 (((o7 + n4.toNat * 7) + 1) + 3) [.int .i64 (iMax n9 0)]).wr b7 (((o7 + n4.toNat * 7) + 1) + 4) [.string (s.extract (0 : Int).toNat ((iMin (s1.size : Int) 64) : Int).toNat)]).canW b7 (((o7 + n4.toNat * 7) + 1) + 5) 1 ∧ I2 (IntKind.wrap .i64 (n4 + 1)) ((((((h6.wr b7 (o7 + n4.toNat * 7) [.int .i64 n6]).wr b7 (((o7 + n4.toNat * 7) + 1) + 1) [.int .i64 (iMax n7 0)]).wr b7 (((o7 + n4.toNat * 7) + 1) + 2) [.int .i64 (iMax n8 0)]).wr b7 (((o7 + n4.toNat * 7) + 1) + 3) [.int .i64 (iMax n9 0)]).wr b7 (((o7 + n4.toNat * 7) + 1) + 4) [.string (s.extract (0 : Int).toNat ((iMin (s1.size : Int) 64) : Int).toNat)]).wr b7 (((o7 + n4.toNat * 7) + 1) + 5) [.string (s2.extract (0 : Int).toNat ((iMin (s3.size : Int) 64) : Int).toNat)]) ∧ m2 (IntKind.wrap .i64 (n4 + 1)) ((((((h6.wr b7 (o7 + n4.toNat * 7) [.int .i64 n6]).wr b7 (((o7 + n4.toNat * 7) + 1) + 1) [.int .i64 (iMax n7 0)]).wr b7 (((o7 + n4.toNat * 7) + 1) + 2) [.int .i64 (iMax n8 0)]).wr b7 (((o7 + n4.toNat * 7) + 1) + 3) [.int .i64 (iMax n9 0)]).wr b7 (((o7 + n4.toNat * 7) + 1) + 4) [.string (s.extract (0 : Int).toNat ((iMin (s1.size : Int) 64) : Int).toNat)]).wr b7 (((o7 + n4.toNat * 7) + 1) + 5) [.string (s2.extract (0 : Int).toNat ((iMin (s3.size : Int) 64) : Int).toNat)]) < m2 n4 h5) (∃ b8 o8, (l1.a : Option Addr) = some ⟨b8, o8, none⟩ ∧ ((0 : Int) ≤ n ∧ n < (l1.n : Int)) ∧ ∃ l7 : Sl, h5.at b8 ((o8 + n.toNat * 6) + 5) = some (.slice l7.a l7.n l7.c) ∧ ∃ b9 o9, (l1.a : Option Addr) = some ⟨b9, o9, none⟩ ∧ ((0 : Int) ≤ n ∧ n < (l1.n : Int)) ∧ ∃ l8 : Sl, h5.at b9 ((o9 + n.toNat * 6) + 5) = some (.slice l8.a l8.n l8.c) ∧ Sl.okCut l7 0 (iMin (l8.n : Int) 5) (l7.c : Int) ∧ ∃ b10 o10, (l1.a : Option Addr) = some ⟨b10, o10, none⟩ ∧ ((0 : Int) ≤ n ∧ n < (l1.n : Int)) ∧ h5.canW b10 ((o10 + n.toNat * 6) + 5) 1 ∧ ∃ (I3 : Int → Hp → Prop) (m3 : Int → Hp → Nat), I3 0 (h5.wr b10 ((o10 + n.toNat * 6) + 5) [.slice (Sl.cut l7 1 0 (iMin (l8.n : Int) 5) (l7.c : Int)).a (Sl.cut l7 1 0 (iMin (l8.n : Int) 5) (l7.c : Int)).n (Sl.cut l7 1 0 (iMin (l8.n : Int) 5) (l7.c : Int)).c]) ∧ (∀ n10 : Int, ∀ h7 : Hp, I3 n10 h7 → ∃ b11 o11, (l1.a : Option Addr) = some ⟨b11, o11, none⟩ ∧ ((0 : Int) ≤ n ∧ n < (l1.n : Int)) ∧ ∃ l9 : Sl, h7.at b11 ((o11 + n.toNat * 6) + 5) = some (.slice l9.a l9.n l9.c) ∧ par (n10 < (l9.n : Int)) (∃ b12 o12, (l1.a : Option Addr) = some ⟨b12, o12, none⟩ ∧ ((0 : Int) ≤ n ∧ n < (l1.n : Int)) ∧ ∃ l10 : Sl, h7.at b12 ((o12 + n.toNat * 6) + 5) = some (.slice l10.a l10.n l10.c) ∧ ∃ b13 o13, (l1.a : Option Addr) = some ⟨b13, o13, none⟩ ∧ ((0 : Int) ≤ n ∧ n < (l1.n : Int)) ∧ ∃ l11 : Sl, h7.at b13 ((o13 + n.toNat * 6) + 5) = some (.slice l11.a l11.n l11.c) ∧ ∃ b14 o14, (l11.a : Option Addr) = some ⟨b14, o14, none⟩ ∧ ((0 : Int) ≤ n10 ∧ n10 < (l11.n : Int)) ∧ ∃ s4 : ByteArray, h7.at b14 (o14 + n10.toNat) = some (.string s4) ∧ ∃ b15 o15, (l1.a : Option Addr) = some ⟨b15, o15, none⟩ ∧ ((0 : Int) ≤ n ∧ n < (l1.n : Int)) ∧ ∃ l12 : Sl, h7.at b15 ((o15 + n.toNat * 6) + 5) = some (.slice l12.a l12.n l12.c) ∧ ∃ b16 o16, (l12.a : Option Addr) = some ⟨b16, o16, none⟩ ∧ ((0 : Int) ≤ n10 ∧ n10 < (l12.n : Int)) ∧ ∃ s5 : ByteArray, h7.at b16 (o16 + n10.toNat) = some (.string s5) ∧ okSub s4 0 (iMin (s5.size : Int) 64) ∧ ∃ b17 o17, (l10.a : Option Addr) = some ⟨b17, o17, none⟩ ∧ ((0 : Int) ≤ n10 ∧ n10 < (l10.n : Int)) ∧ h7.canW b17 (o17 + n10.toNat) 1 ∧ I3 (IntKind.wrap .i64 (n10 + 1)) (h7.wr b17 (o17 + n10.toNat) [.string (s4.extract (0 : Int).toNat ((iMin (s5.size : Int) 64) : Int).toNat)]) ∧ m3 (IntKind.wrap .i64 (n10 + 1)) (h7.wr b17 (o17 + n10.toNat) [.string (s4.extract (0 : Int).toNat ((iMin (s5.size : Int) 64) : Int).toNat)]) < m3 n10 h7) (I (IntKind.wrap .i64 (n + 1)) h7 ∧ m (IntKind.wrap .i64 (n + 1)) h7 < m n h2))))))) (Q (.slice l1.a l1.n l1.c) h2)) := by kernel_rfl
theorem F30.den (V : Value → List Value → PT) (l : Sl) : denF Tryd.prog [] [(18, F18.V), (28, F28.V)] V [(58, .loop [(4, .int .i64)] []), (7458, .loop [(5, .int .i64)] []), (7462, .order [0, 1, 2, 3, 4, 5, 6, 7, 8, 9, 10, 11, 12, 13, 14, 15, 16, 17]), (14922, .loop [(6, .int .i64)] []), (29854, .loop [(8, .int .i64)] []), (119332, .order [0, 1, 2, 3, 4, 5, 6, 7, 8, 9, 10, 11, 12, 13, 14, 15, 16, 17, 18]), (477668, .order [0, 1, 2, 3, 4, 5, 6, 7, 8, 9, 10, 11, 12, 13, 14, 15, 16, 17, 18, 19, 20, 21, 22, 23, 24, 25, 26]), (1910054, .order [0, 1, 2, 3, 4, 5, 6, 7, 8, 9, 10, 11, 12, 13, 14, 15, 16, 17, 18, 19, 20, 21, 22, 23, 24, 25, 26, 27, 28, 29, 30, 31, 32]), (3820110, .order [0, 1, 2, 3, 4, 5, 6, 7, 8, 9, 10, 11, 12, 13, 14, 15, 16, 17]), (3820111, .order [0, 1, 2, 3, 4, 5, 6, 7, 8, 9, 10, 11, 12, 13, 14, 15, 16, 17])] Tryd.f30 [.v (.slice l.a l.n l.c)] = F30.T l := F30.gen V F18.T F28.T l
def F30.W (T30 : Sl → PT) (args : List Value) : PT := match args with
  | [.slice l_a l_n l_c] => T30 ⟨l_a, l_n, l_c⟩
  | _ => fun _ _ => False
def F30.V : List Value → PT := F30.W F30.T
theorem F30.ok : FOk Tryd.prog 30 F30.V := by
  refine ⟨⟨_, Tryd.func30, rfl, rfl⟩, fun args => ?_⟩
  have hG : GOk Tryd.prog [(18, F18.V), (28, F28.V)] := GOk.cons F18.ok (GOk.cons F28.ok (GOk.nil))
  have hV : VOk Tryd.prog noV := noV_ok
  unfold F30.V F30.W
  split
  · exact denF_okV hG hV Tryd.func30 (fun h Q hq => (F30.den _ _) ▸ hq)
  · exact fun h Q hq => hq.elim
end Go.Eng.YtblghgacokoklaaDoor
end
section
/-
  SPECS, 7: reading numbers and texts.
-/
set_option linter.unusedSimpArgs false
set_option linter.unusedVariables false
namespace Go.Eng.YtblghgacokoklaaDoor
/-- A number, and one more byte of it. -/
def nx (i : Nat) (n c : Int) : Int := bitsI .or .u64 n (shlI .u64 (IntKind.wrap .u64 (bitsI .and .u8 c 127)) (7 * (i : Int)))
/-- Reading a number: it, how many bytes it takes, the error. -/
def uR : Nat → Int → List Int → Int × Nat × Int
  | _, _, [] => (0, 0, 20)
  | i, n, c :: l =>
    if (c = 0 ∧ 0 < i) ∨ (i = 9 ∧ c ≠ 1) then (0, 0, 21)
    else if c < 128 then (nx i n c, i + 1, 0) else uR (i + 1) (nx i n c) l
theorem wrapU_ok (n : Int) : okU (IntKind.wrap .u64 n) := by
  unfold okU
  simp only [IntKind.wrap, IntKind.signed, IntKind.bits]
  have h1 := Int.emod_nonneg n (b := 2 ^ 64) (by decide)
  have h2 := Int.emod_lt_of_pos n (b := 2 ^ 64) (by decide)
  constructor
  · simpa using h1
  · simpa using h2
theorem nx_ok (i : Nat) (n c : Int) : okU (nx i n c) := by
  unfold nx bitsI
  exact wrapU_ok _
theorem uR_ok : ∀ (l : List Int) (i : Nat) (n : Int), okU (uR i n l).1
  | [], i, n => by unfold uR; exact ⟨by decide, by decide⟩
  | c :: l, i, n => by
    unfold uR
    split
    · exact ⟨by decide, by decide⟩
    · split
      · exact nx_ok _ _ _
      · exact uR_ok l _ _
theorem uR_take : ∀ (l : List Int) (i : Nat) (n : Int), (uR i n l).2.2 = 0 → i < (uR i n l).2.1 ∧ (uR i n l).2.1 ≤ i + l.length
  | [], i, n => by unfold uR; intro h; exact absurd h (by decide)
  | c :: l, i, n => by
    unfold uR
    split
    · intro h; exact absurd h (by decide)
    · split
      · intro _
        simp only [List.length_cons]
        omega
      · intro h
        have := uR_take l (i + 1) _ h
        simp only [List.length_cons]
        omega
theorem uint_spec {h : Hp} {l : Sl} {bs : List Int} {Q : Value → Hp → Prop} (hr : h.row l.a l.n (bv bs))
    (hQ : Q (.tuple ⟨[.int .u64 (uR 0 0 bs).1, .int .i64 ((uR 0 0 bs).2.1 : Int), .int .i64 (uR 0 0 bs).2.2]⟩) h) : F86.T l h Q := by
  have hln : l.n = bs.length := by have := hr.1; rw [bv_length] at this; exact this.symm
  refine ⟨fun n n1 h1 => h1 = h ∧ ∃ i : Nat, n1 = (i : Int) ∧ i ≤ bs.length ∧ i ≤ 9 ∧ uR i n (bs.drop i) = uR 0 0 bs, fun _ n1 _ => bs.length - n1.toNat, ⟨rfl, 0, rfl, Nat.zero_le _, by decide, rfl⟩, ?_⟩
  rintro n n1 h1 ⟨rfl, i, rfl, hi, hi9, hu⟩
  refine ⟨fun hlt => ?_, fun hge => ?_⟩
  · have hi1 : i < bs.length := by omega
    obtain ⟨b, o, ha, hat⟩ := row_get hr (i := i) (by omega)
    have hv : (bv bs)[i]? = some (Value.int .u8 bs[i]) := by simp [bv, hi1]
    have hw : IntKind.wrap .i64 (7 * (i : Int)) = 7 * (i : Int) := wrap_i64 (by omega) (by omega)
    have hw1 : IntKind.wrap .i64 ((i : Int) + 1) = ((i + 1 : Nat) : Int) := by rw [wrap_i64 (by omega) (by omega)]; omega
    rw [List.drop_eq_getElem_cons hi1, uR] at hu
    have bad : ((bs[i] = 0 ∧ 0 < i) ∨ (i = 9 ∧ bs[i] ≠ 1)) → Q (.tuple ⟨[.int .u64 0, .int .i64 0, .int .i64 21]⟩) h1 := fun hb => by
      rw [if_pos hb] at hu; rw [← hu] at hQ; exact hQ
    refine ⟨b, o, ha, ⟨by omega, hlt⟩, bs[i], by rw [Int.toNat_natCast, hat i (by omega), hv], fun h2 => h2 = h1 ∧ ¬ ((bs[i] = 0 ∧ 0 < i) ∨ (i = 9 ∧ bs[i] ≠ 1)), ?_, ?_⟩
    · rintro h2 ⟨rfl, hn⟩
      rw [if_neg hn] at hu
      rw [hw, hw1]
      refine ⟨by omega, fun hc => ?_, fun hc => ⟨⟨rfl, i + 1, rfl, hi1, ?_, ?_⟩, ?_⟩⟩
      · rw [if_pos hc] at hu; rw [← hu] at hQ; exact hQ
      · by_cases h9 : i = 9
        · exact absurd (.inr ⟨h9, fun h1 => hc (by rw [h1]; decide)⟩) hn
        · omega
      · rw [if_neg hc] at hu; exact hu
      · show bs.length - ((i + 1 : Nat) : Int).toNat < bs.length - (i : Int).toNat
        omega
    · refine ⟨fun h0 => ⟨fun hi0 => bad (.inl ⟨h0, by omega⟩), fun hi0 => ⟨fun h9 => ⟨fun h1 => ⟨rfl, by omega⟩, fun h1 => bad (.inr ⟨by omega, h1⟩)⟩, fun h9 => ⟨rfl, by omega⟩⟩⟩, fun h0 => ⟨fun h9 => ⟨fun h1 => ⟨rfl, by omega⟩, fun h1 => bad (.inr ⟨by omega, h1⟩)⟩, fun h9 => ⟨rfl, by omega⟩⟩⟩
  · have hi2 : bs.length ≤ i := by omega
    rw [List.drop_of_length_le hi2, uR] at hu
    rw [← hu] at hQ
    exact hQ
/-! ### The reader -/
structure RS where
  b : List Int
  bad : Bool
def RS.skip (s : RS) (k : Nat) (e : Int) : RS := if e = 0 then ⟨s.b.drop k, s.bad⟩ else ⟨[], true⟩
def rU (s : RS) : Int × RS := ((uR 0 0 s.b).1, s.skip (uR 0 0 s.b).2.1 (uR 0 0 s.b).2.2)
def rW (m : Int) (s : RS) : Int × RS := if m < (rU s).1 then (0, ⟨(rU s).2.b, true⟩) else rU s
def toB (l : List Int) : ByteArray := ⟨(l.map fun n => UInt8.ofNat n.toNat).toArray⟩
def tR (l : List Int) : ByteArray × Nat × Int :=
  if (uR 0 0 l).2.2 = 0 then
    (if 64 < (uR 0 0 l).1 then (⟨#[]⟩, 0, 22)
    else if ((l.length - (uR 0 0 l).2.1 : Nat) : Int) < (uR 0 0 l).1 then (⟨#[]⟩, 0, 20)
    else (toB ((l.drop (uR 0 0 l).2.1).take (uR 0 0 l).1.toNat), (uR 0 0 l).2.1 + (uR 0 0 l).1.toNat, 0))
  else (⟨#[]⟩, 0, (uR 0 0 l).2.2)
def rT (s : RS) : ByteArray × RS := ((tR s.b).1, s.skip (tR s.b).2.1 (tR s.b).2.2)
theorem skip_le (s : RS) (k : Nat) (e : Int) : (s.skip k e).b.length ≤ s.b.length := by
  unfold RS.skip
  split
  · simp
  · simp
theorem skip_len {s : RS} {k : Nat} {e : Int} (hk : e = 0 → 0 < k ∧ k ≤ s.b.length) (h : (s.skip k e).bad = false) : s.bad = false ∧ (s.skip k e).b.length + 1 ≤ s.b.length := by
  unfold RS.skip at h ⊢
  split
  · rename_i h0
    rw [if_pos h0] at h
    have := hk h0
    refine ⟨h, ?_⟩
    simp only [List.length_drop]
    omega
  · rename_i h0
    rw [if_neg h0] at h
    cases h
theorem rU_ok (s : RS) : okU (rU s).1 := uR_ok _ _ _
theorem rU_le (s : RS) : (rU s).2.b.length ≤ s.b.length := skip_le _ _ _
theorem rU_take (s : RS) (h : (uR 0 0 s.b).2.2 = 0) : 0 < (uR 0 0 s.b).2.1 ∧ (uR 0 0 s.b).2.1 ≤ s.b.length := by
  have := uR_take s.b 0 0 h
  omega
theorem rU_len {s : RS} (h : (rU s).2.bad = false) : s.bad = false ∧ (rU s).2.b.length + 1 ≤ s.b.length := skip_len (rU_take s) h
theorem rW_ok (m : Int) (s : RS) (hm : 0 ≤ m) : 0 ≤ (rW m s).1 ∧ (rW m s).1 ≤ m := by
  unfold rW
  split
  · exact ⟨Int.le_refl 0, hm⟩
  · have := (rU_ok s).1
    omega
theorem rW_le (m : Int) (s : RS) : (rW m s).2.b.length ≤ s.b.length := by
  unfold rW
  split
  · exact rU_le s
  · exact rU_le s
theorem rW_len {m : Int} {s : RS} (h : (rW m s).2.bad = false) : s.bad = false ∧ (rW m s).2.b.length + 1 ≤ s.b.length := by
  unfold rW at h ⊢
  split
  · rename_i h0
    rw [if_pos h0] at h; cases h
  · rename_i h0
    rw [if_neg h0] at h; exact rU_len h
theorem tR_take (l : List Int) (h : (tR l).2.2 = 0) : 0 < (tR l).2.1 ∧ (tR l).2.1 ≤ l.length := by
  unfold tR at h ⊢
  split
  · rename_i h0
    rw [if_pos h0] at h
    have h1 := uR_take l 0 0 h0
    have h2 := uR_ok l 0 0
    split
    · rename_i h3; rw [if_pos h3] at h; exact absurd h (by decide)
    · rename_i h3
      rw [if_neg h3] at h
      split
      · rename_i h4; rw [if_pos h4] at h; exact absurd h (by decide)
      · rename_i h4
        have := h2.1
        simp only
        omega
  · rename_i h0
    rw [if_neg h0] at h
    exact absurd h h0
theorem rT_le (s : RS) : (rT s).2.b.length ≤ s.b.length := skip_le _ _ _
theorem rT_len {s : RS} (h : (rT s).2.bad = false) : s.bad = false ∧ (rT s).2.b.length + 1 ≤ s.b.length := skip_len (tR_take s.b) h
theorem toB_size (l : List Int) : (toB l).size = l.length := by
  show (l.map fun n => UInt8.ofNat n.toNat).toArray.size = l.length
  simp
theorem toB_V {l : List Int} (h : ∀ c ∈ l, 0 ≤ c ∧ c < 256) : bytesV (toB l) = bv l := by
  unfold toB bytesV bv
  simp only [List.map_map, List.toList_toArray]
  refine List.map_congr_left fun c hc => ?_
  have := h c hc
  simp only [Function.comp]
  congr 1
  have h1 : (UInt8.ofNat c.toNat).toNat = c.toNat := by
    rw [UInt8.toNat_ofNat']
    omega
  rw [h1]
  omega
theorem rT_size (s : RS) : (rT s).1.size ≤ 64 := by
  unfold rT tR
  have h2 := uR_ok s.b 0 0
  simp only
  split
  · split
    · exact Nat.zero_le _
    · split
      · exact Nat.zero_le _
      · rename_i h3 _
        simp only
        rw [toB_size]
        have := List.length_take_le (uR 0 0 s.b).1.toNat (s.b.drop (uR 0 0 s.b).2.1)
        omega
  · exact Nat.zero_le _
/-- A part of a row. -/
theorem cut_mid {h : Hp} {s : Sl} {vs : List Value} (hr : h.row s.a s.n vs) {i j m : Nat} (hi : i ≤ j) (hj : j ≤ s.n) (hm : s.n ≤ m) : h.row (Sl.cut s 1 (i : Int) (j : Int) (m : Int)).a (Sl.cut s 1 (i : Int) (j : Int) (m : Int)).n ((vs.drop i).take (j - i)) := by
  have h1 := row_take (row_drop hr (Nat.le_trans hi hj)) (k := j - i) (by omega)
  have hn : (Sl.cut s 1 (i : Int) (j : Int) (m : Int)).n = j - i := by simp [Sl.cut]
  rw [hn]
  refine row_congr h1 ?_
  unfold Sl.cut
  simp only [Int.toNat_natCast, Nat.mul_one]
  by_cases hk : m = i
  · left; omega
  · right; rw [if_neg hk]
theorem codec_text_spec {h : Hp} {l : Sl} {bs : List Int} {Q : Value → Hp → Prop} (hr : h.row l.a l.n (bv bs)) (hc : l.n ≤ l.c) (hok : ∀ c ∈ bs, 0 ≤ c ∧ c < 256) (hs : bs.length ≤ 1000000000000)
    (hQ : Q (.tuple ⟨[.string (tR bs).1, .int .i64 ((tR bs).2.1 : Int), .int .i64 (tR bs).2.2]⟩) h) : F134.T l 64 h Q := by
  have hln : l.n = bs.length := by have := hr.1; rw [bv_length] at this; exact this.symm
  have h2 := uR_ok bs 0 0
  refine uint_spec hr ⟨_, _, _, rfl, fun h0 => ⟨fun hb => absurd hb (by decide), fun _ => ⟨fun h3 => ?_, fun h3 => ⟨fun h4 => ?_, fun h4 => ?_⟩⟩⟩, fun h0 => ?_⟩
  · have h3' : 64 < (uR 0 0 bs).1 := by
      rw [wrap_u64 (by decide) (by decide)] at h3; exact h3
    unfold tR at hQ
    rw [if_pos h0, if_pos h3'] at hQ
    exact hQ
  · have h1 := uR_take bs 0 0 h0
    have h3' : ¬ 64 < (uR 0 0 bs).1 := by
      rw [wrap_u64 (by decide) (by decide)] at h3; exact h3
    have h4' : ((bs.length - (uR 0 0 bs).2.1 : Nat) : Int) < (uR 0 0 bs).1 := by
      rw [wrap_i64 (by omega) (by omega), wrap_u64 (by omega) (by omega)] at h4
      omega
    unfold tR at hQ
    rw [if_pos h0, if_neg h3', if_pos h4'] at hQ
    exact hQ
  · have h1 := uR_take bs 0 0 h0
    have h3' : ¬ 64 < (uR 0 0 bs).1 := by
      rw [wrap_u64 (by decide) (by decide)] at h3; exact h3
    have h4' : ¬ ((bs.length - (uR 0 0 bs).2.1 : Nat) : Int) < (uR 0 0 bs).1 := by
      rw [wrap_i64 (by omega) (by omega), wrap_u64 (by omega) (by omega)] at h4
      omega
    have hn := h2.1
    have w1 : IntKind.wrap .i64 (uR 0 0 bs).1 = (uR 0 0 bs).1 := wrap_i64 (by omega) (by omega)
    have w2 : IntKind.wrap .i64 (((uR 0 0 bs).2.1 : Int) + (uR 0 0 bs).1) = (((uR 0 0 bs).2.1 + (uR 0 0 bs).1.toNat : Nat) : Int) := by rw [wrap_i64 (by omega) (by omega)]; omega
    rw [w1, w2]
    unfold tR at hQ
    rw [if_pos h0, if_neg h3', if_neg h4'] at hQ
    refine ⟨⟨by omega, by omega, by omega, by omega⟩, _, ?_, hQ⟩
    have hm := cut_mid hr (i := (uR 0 0 bs).2.1) (j := (uR 0 0 bs).2.1 + (uR 0 0 bs).1.toNat) (m := l.c) (by omega) (by omega) hc
    rw [toB_V (fun c hc => hok c (List.mem_of_mem_drop (List.mem_of_mem_take hc)))]
    have e : bv ((bs.drop (uR 0 0 bs).2.1).take (uR 0 0 bs).1.toNat) = ((bv bs).drop (uR 0 0 bs).2.1).take ((uR 0 0 bs).2.1 + (uR 0 0 bs).1.toNat - (uR 0 0 bs).2.1) := by
      rw [Nat.add_sub_cancel_left]
      unfold bv
      rw [List.map_take, List.map_drop]
    rw [e]
    exact hm
  · unfold tR at hQ
    rw [if_neg h0] at hQ
    exact hQ
/-- The reader's box. -/
def rb (b : Nat) : Sl := ⟨some ⟨b, 0, none⟩, 1, 1⟩
structure RdAt (h0 h : Hp) (b : Nat) (s : RS) : Prop where
  cell : ∃ l : Sl, h b = some (.cells ⟨[.slice l.a l.n l.c, .bool s.bad]⟩ 188 (0, 0)) ∧ h0.row l.a l.n (bv s.b) ∧ l.n ≤ l.c
  new : h0 b = none
  keep : Keep h0 h
  ok : ∀ c ∈ s.b, 0 ≤ c ∧ c < 256
  small : s.b.length ≤ 1000000000000
theorem wr_at {h : Hp} {b o t : Nat} {c : Array Value} {f : Nat × Nat} {vs : List Value} (hb : h b = some (.cells c t f)) : (h.wr b o vs) b = some (.cells (setL c.toList o vs).toArray t f) := by
  unfold Hp.wr; rw [if_pos rfl, hb]
theorem upd_wr {h : Hp} {b o t : Nat} {c : Array Value} {f : Nat × Nat} {vs : List Value} (hb : h b = some (.cells c t f)) : Upd h (h.wr b o vs) (rb b) (rb b) := by
  refine ⟨fun k x hk e => ?_, .inl rfl, fun k e => ?_⟩
  · have hkb : k ≠ b := fun q => hk 0 (by rw [q]; rfl)
    unfold Hp.wr
    rw [if_neg hkb]
    exact e
  · unfold Hp.wr at e
    by_cases hkb : k = b
    · rw [if_pos hkb, hb] at e; cases e
    · rw [if_neg hkb] at e; exact e
theorem rb_new {h0 : Hp} {b : Nat} (hb : h0 b = none) : New h0 (rb b) := ⟨b, rfl, hb⟩
theorem RdAt.wr {h0 h : Hp} {b : Nat} {s s' : RS} (R : RdAt h0 h b s) {l : Sl} {h' : Hp} (U : Upd h h' (rb b) (rb b)) (hc : h' b = some (.cells ⟨[.slice l.a l.n l.c, .bool s'.bad]⟩ 188 (0, 0))) (hr : h0.row l.a l.n (bv s'.b)) (hl : l.n ≤ l.c) (hs : ∀ c ∈ s'.b, c ∈ s.b) (hle : s'.b.length ≤ s.b.length) : RdAt h0 h' b s' :=
  ⟨⟨l, hc, hr, hl⟩, R.new, (keep_grow R.keep (.inr (rb_new R.new)) U).1, fun c hc => R.ok c (hs c hc), Nat.le_trans hle R.small⟩
theorem RdAt.buf {h0 h : Hp} {b : Nat} {s : RS} (R : RdAt h0 h b s) : ∃ vs, Buf h (rb b) 2 188 vs := by
  obtain ⟨l, hb, _, _⟩ := R.cell
  exact ⟨[.slice l.a l.n l.c, .bool s.bad], rfl, Nat.le_refl _, .inr ⟨b, _, (0, 0), rfl, hb, Nat.le_refl _, fun j _ => by simp, rfl⟩⟩
/-- A list of another type does not lie in the reader's box. -/
theorem RdAt.off {h0 h : Hp} {b : Nat} {s : RS} (R : RdAt h0 h b s) {l : Sl} {sz t : Nat} {vs : List Value} (B : Buf h l sz t vs) (ht : t ≠ 188) : Off l (rb b) := by
  obtain ⟨us, B2⟩ := R.buf
  exact buf_off B B2 ht
/-- A list of another type grows. -/
theorem RdAt.grow {h0 h h' : Hp} {b : Nat} {s : RS} (R : RdAt h0 h b s) {l l' : Sl} {sz t : Nat} {vs : List Value} (B : Buf h l sz t vs) (ht : t ≠ 188) (N : l.a = none ∨ New h0 l) (U : Upd h h' l l') : RdAt h0 h' b s := by
  obtain ⟨us, B2⟩ := R.buf
  obtain ⟨r, hb, hr, hl⟩ := R.cell
  have ho := buf_off B2 B (Ne.symm ht)
  exact ⟨⟨r, U.keep b _ (fun o => ho b 0 o rfl) hb, hr, hl⟩, R.new, (keep_grow R.keep N U).1, R.ok, R.small⟩
theorem skip_spec {h0 h : Hp} {b : Nat} {s : RS} {n e : Int} {Q : Value → Hp → Prop} (R : RdAt h0 h b s) (hn : e = 0 → 0 ≤ n ∧ n.toNat ≤ s.b.length)
    (hQ : ∀ h', Upd h h' (rb b) (rb b) → RdAt h0 h' b (s.skip n.toNat e) → Q (.tuple ⟨[]⟩) h') : F133.T (some ⟨b, 0, none⟩) n e h Q := by
  obtain ⟨l, hb, hr, hlc⟩ := R.cell
  have hln : l.n = s.b.length := by have := hr.1; rw [bv_length] at this; exact this.symm
  have a0 : h.at b 0 = some (.slice l.a l.n l.c) := by unfold Hp.at; rw [hb]; rfl
  unfold F133.T
  refine ⟨fun h0' => ?_, fun h0' => ?_⟩
  · obtain ⟨n0, n1⟩ := hn h0'
    obtain ⟨k, rfl⟩ : ∃ k : Nat, n = (k : Int) := ⟨n.toNat, by omega⟩
    rw [Int.toNat_natCast] at n1 hQ
    have hs : s.skip k e = ⟨s.b.drop k, s.bad⟩ := by unfold RS.skip; rw [if_pos h0']
    rw [hs] at hQ
    refine ⟨b, 0, rfl, l, a0, b, 0, rfl, l, a0, b, 0, rfl, l, a0, ⟨by omega, by omega, by omega, by omega⟩, b, 0, rfl, ⟨_, _, _, hb, Nat.le_of_ble_eq_true rfl, fun j _ _ => by simp⟩, ?_⟩
    refine hQ _ (upd_wr hb) (R.wr (l := Sl.cut l 1 (k : Int) (l.n : Int) (l.n : Int)) (upd_wr hb) (wr_at hb) ?_ ?_ (fun c hc => List.mem_of_mem_drop hc) (by simp))
    · have := cut_mid hr (i := k) (j := l.n) (m := l.n) (by omega) (Nat.le_refl _) (Nat.le_refl _)
      have e : bv (s.b.drop k) = ((bv s.b).drop k).take (l.n - k) := by
        rw [List.take_of_length_le (by rw [List.length_drop, bv_length]; omega)]
        unfold bv
        rw [List.map_drop]
      show h0.row _ _ (bv (s.b.drop k))
      rw [e]; exact this
    · simp [Sl.cut]
  · have hs : s.skip n.toNat e = ⟨[], true⟩ := by unfold RS.skip; rw [if_neg h0']
    rw [hs] at hQ
    have hb2 : (h.wr b (0 + 1) [.bool true]) b = some (.cells ⟨[.slice l.a l.n l.c, .bool true]⟩ 188 (0, 0)) := wr_at hb
    have a2 : (h.wr b (0 + 1) [.bool true]).at b 0 = some (.slice l.a l.n l.c) := by unfold Hp.at; rw [hb2]; rfl
    refine ⟨b, 0, rfl, l, a0, b, 0, rfl, ⟨_, _, _, hb, Nat.le_of_ble_eq_true rfl, fun j _ _ => by simp⟩, b, 0, rfl, l, a2, b, 0, rfl, l, a2, b, 0, rfl, l, a2, ⟨by omega, by omega, by omega, by omega⟩, b, 0, rfl, ⟨_, _, _, hb2, Nat.le_of_ble_eq_true rfl, fun j _ _ => by simp⟩, ?_⟩
    refine hQ _ ((upd_wr hb).trans (upd_wr hb2)) (R.wr (l := Sl.cut l 1 (l.n : Int) (l.n : Int) (l.n : Int)) ((upd_wr hb).trans (upd_wr hb2)) (wr_at hb2) ?_ ?_ (fun c hc => by cases hc) (Nat.zero_le _))
    · refine ⟨by simp [Sl.cut, bv], .inl (by simp [Sl.cut])⟩
    · simp [Sl.cut]
theorem uint_r {h0 h : Hp} {b : Nat} {s : RS} {Q : Value → Hp → Prop} (R : RdAt h0 h b s)
    (hQ : ∀ h', Upd h h' (rb b) (rb b) → RdAt h0 h' b (rU s).2 → Q (.int .u64 (rU s).1) h') : F123.T (some ⟨b, 0, none⟩) h Q := by
  obtain ⟨l, hb, hr, hlc⟩ := R.cell
  have a0 : h.at b 0 = some (.slice l.a l.n l.c) := by unfold Hp.at; rw [hb]; rfl
  refine ⟨b, 0, rfl, l, a0, uint_spec (R.keep.row hr) ⟨_, _, _, rfl, skip_spec R (fun h0' => ⟨by omega, ?_⟩) fun h' U R' => hQ h' U R'⟩⟩
  rw [Int.toNat_natCast]
  exact (rU_take s h0').2
theorem within_r {h0 h : Hp} {b : Nat} {s : RS} {m : Int} {Q : Value → Hp → Prop} (R : RdAt h0 h b s) (hm : m < 9223372036854775808)
    (hQ : ∀ h', Upd h h' (rb b) (rb b) → RdAt h0 h' b (rW m s).2 → Q (.int .i64 (rW m s).1) h') : F124.T (some ⟨b, 0, none⟩) m h Q := by
  refine uint_r R fun h1 U1 R1 => ⟨_, rfl, fun hlt => ?_, fun hge => ?_⟩
  · have hw : rW m s = (0, ⟨(rU s).2.b, true⟩) := by unfold rW; rw [if_pos hlt]
    rw [hw] at hQ
    obtain ⟨l, hb, hr, hlc⟩ := R1.cell
    refine ⟨b, 0, rfl, ⟨_, _, _, hb, Nat.le_of_ble_eq_true rfl, fun j _ _ => by simp⟩, ?_⟩
    exact hQ _ (U1.trans (upd_wr hb)) (R1.wr (l := l) (upd_wr hb) (wr_at hb) hr hlc (fun c hc => hc) (Nat.le_refl _))
  · have hw : rW m s = rU s := by unfold rW; rw [if_neg hge]
    rw [hw] at hQ
    rw [wrap_i64 (by have := (rU_ok s).1; omega) (by omega)]
    exact hQ h1 U1 R1
theorem text_r {h0 h : Hp} {b : Nat} {s : RS} {Q : Value → Hp → Prop} (R : RdAt h0 h b s)
    (hQ : ∀ h', Upd h h' (rb b) (rb b) → RdAt h0 h' b (rT s).2 → Q (.string (rT s).1) h') : F125.T (some ⟨b, 0, none⟩) h Q := by
  obtain ⟨l, hb, hr, hlc⟩ := R.cell
  have a0 : h.at b 0 = some (.slice l.a l.n l.c) := by unfold Hp.at; rw [hb]; rfl
  refine ⟨b, 0, rfl, l, a0, codec_text_spec (R.keep.row hr) hlc R.ok R.small ⟨_, _, _, rfl, skip_spec R (fun h0' => ⟨by omega, ?_⟩) fun h' U R' => hQ h' U R'⟩⟩
  rw [Int.toNat_natCast]
  exact (tR_take s.b h0').2
end Go.Eng.YtblghgacokoklaaDoor
end
section
/-
  SUMS: a table of sixteen numbers, four bits at a time, comes to what eight steps of one bit come to. Plain law, in no program.
-/
set_option linter.unusedSimpArgs false
set_option linter.unusedVariables false
namespace Go.Eng
/-- One bit. -/
def bs1 (x : Nat) : Nat := x / 2 ^^^ (if x % 2 = 1 then 2197175160 else 0)
def nib (i : Nat) : Nat := bs1 (bs1 (bs1 (bs1 i)))
def nibL : List Nat := [0, 274646895, 549293790, 820201905, 1098587580, 1361435347, 1640403810, 1905808397, 2197175160, 2460548119, 2722870694, 2987750089, 3280807620, 3553878443, 3811616794, 4084100981]
theorem bs1_zero : bs1 0 = 0 := by decide
theorem bs1_xor (a b : Nat) : bs1 (a ^^^ b) = bs1 a ^^^ bs1 b := by
  unfold bs1
  have e1 : (a ^^^ b) / 2 = a / 2 ^^^ b / 2 := Nat.xor_div_two
  have e2 : (a ^^^ b) % 2 = 1 ↔ ¬ ((a % 2 = 1) ↔ (b % 2 = 1)) := by
    rw [Nat.xor_mod_two_eq_one]
  rw [e1]
  rcases Nat.mod_two_eq_zero_or_one a with ha | ha <;> rcases Nat.mod_two_eq_zero_or_one b with hb | hb
  · have : ¬ (a ^^^ b) % 2 = 1 := by rw [e2]; simp [ha, hb]
    simp [this, ha, hb]
  · have : (a ^^^ b) % 2 = 1 := by rw [e2]; simp [ha, hb]
    simp [this, ha, hb, Nat.xor_assoc]
  · have : (a ^^^ b) % 2 = 1 := by rw [e2]; simp [ha, hb]
    simp only [this, ha, hb, if_pos, if_neg, Nat.zero_ne_one, if_true, if_false, Nat.xor_zero]
    rw [Nat.xor_assoc, Nat.xor_assoc, Nat.xor_comm (b / 2)]
  · have : ¬ (a ^^^ b) % 2 = 1 := by rw [e2]; simp [ha, hb]
    simp only [this, ha, hb, if_pos, if_neg, if_true, if_false, Nat.xor_zero]
    rw [Nat.xor_assoc, Nat.xor_comm (b / 2), ← Nat.xor_assoc 2197175160, Nat.xor_self, Nat.zero_xor]
theorem nib_xor (a b : Nat) : nib (a ^^^ b) = nib a ^^^ nib b := by unfold nib; rw [bs1_xor, bs1_xor, bs1_xor, bs1_xor]
theorem bs1_two (a : Nat) : bs1 (2 * a) = a := by
  unfold bs1
  have h1 : 2 * a / 2 = a := by omega
  have h2 : ¬ (2 * a) % 2 = 1 := by omega
  rw [h1, if_neg h2, Nat.xor_zero]
theorem nib_up (q : Nat) : nib (16 * q) = q := by
  have e : 16 * q = 2 * (2 * (2 * (2 * q))) := by omega
  rw [e]; unfold nib
  rw [bs1_two, bs1_two, bs1_two, bs1_two]
theorem split16 (x : Nat) : x = 16 * (x / 16) ^^^ x % 16 := by
  apply Nat.eq_of_testBit_eq
  intro i
  rw [Nat.testBit_xor, show (16 : Nat) = 2 ^ 4 from rfl, Nat.testBit_two_pow_mul, Nat.testBit_div_two_pow, Nat.testBit_mod_two_pow]
  by_cases h : i < 4
  · have : ¬ 4 ≤ i := by omega
    simp [h, this]
  · have h2 : 4 ≤ i := by omega
    have e : 4 + (i - 4) = i := by omega
    simp [h, h2, e]
/-- Four bits at once. -/
theorem nib_eq (x : Nat) : nib x = nib (x % 16) ^^^ x / 16 := by
  have h : nib x = nib (16 * (x / 16) ^^^ x % 16) := congrArg nib (split16 x)
  rw [h, nib_xor, nib_up, Nat.xor_comm]
theorem nib_tab : ∀ i, i < 16 → nibL[i]? = some (nib i) := by decide
theorem bs1_lt {x : Nat} (h : x < 4294967296) : bs1 x < 4294967296 := by
  unfold bs1
  exact Nat.xor_lt_two_pow (n := 32) (by omega) (by split <;> omega)
theorem nib_lt {x : Nat} (h : x < 4294967296) : nib x < 4294967296 := bs1_lt (bs1_lt (bs1_lt (bs1_lt h)))
/-- One byte. -/
def by1 (x c : Nat) : Nat := nib (nib (x ^^^ c))
def sumN (x : Nat) : List Nat → Nat
  | [] => x
  | c :: l => sumN (by1 x c) l
/-- The sum of bytes. -/
def crc (l : List Nat) : Nat := sumN 4294967295 l ^^^ 4294967295
theorem by1_lt {x c : Nat} (h : x < 4294967296) (hc : c < 256) : by1 x c < 4294967296 := nib_lt (nib_lt (Nat.xor_lt_two_pow (n := 32) h (by omega)))
theorem sumN_lt : ∀ (l : List Nat) (x : Nat), x < 4294967296 → (∀ c ∈ l, c < 256) → sumN x l < 4294967296
  | [], x, h, _ => h
  | c :: l, x, h, hc => sumN_lt l _ (by1_lt h (hc c (List.mem_cons_self ..))) fun d hd => hc d (List.mem_cons_of_mem _ hd)
/-! On cells. -/
theorem ofInt32 (a : Nat) (h : a < 4294967296) : (BitVec.ofInt 32 (a : Int)).toNat = a := by
  rw [BitVec.ofInt_natCast, BitVec.toNat_ofNat]; exact Nat.mod_eq_of_lt h
theorem wrap32 (a : Nat) (h : a < 4294967296) : IntKind.wrap .u32 (a : Int) = (a : Int) := by
  rw [IntKind.wrap_u32]; omega
theorem xor32 (a b : Nat) (ha : a < 4294967296) (hb : b < 4294967296) : bitsI .xor .u32 (a : Int) (b : Int) = ((a ^^^ b : Nat) : Int) := by
  show IntKind.wrap .u32 ((BitVec.ofInt 32 (a : Int) ^^^ BitVec.ofInt 32 (b : Int)).toNat : Int) = _
  rw [BitVec.toNat_xor, ofInt32 a ha, ofInt32 b hb]
  exact wrap32 _ (Nat.xor_lt_two_pow (n := 32) ha hb)
theorem and15 (a : Nat) (ha : a < 4294967296) : bitsI .and .u32 (a : Int) 15 = ((a % 16 : Nat) : Int) := by
  show IntKind.wrap .u32 ((BitVec.ofInt 32 (a : Int) &&& BitVec.ofInt 32 (15 : Int)).toNat : Int) = _
  rw [BitVec.toNat_and, ofInt32 a ha, show (BitVec.ofInt 32 (15 : Int)).toNat = 2 ^ 4 - 1 from rfl, Nat.and_two_pow_sub_one_eq_mod]
  exact wrap32 _ (by omega)
theorem shr4 (a : Nat) : shrI .u32 (a : Int) 4 = ((a / 16 : Nat) : Int) := by
  unfold shrI
  have : (2 : Int) ^ (min (4 : Int).toNat (IntKind.bits .u32)) = 16 := by decide
  rw [this, Int.fdiv_eq_ediv_of_nonneg _ (by decide)]
  omega
end Go.Eng
end
section
/-
  SPECS OF THE NAMES, 1: sums and frames.
-/
set_option linter.unusedSimpArgs false
set_option linter.unusedVariables false
namespace Go.Eng.YtblghgacokoklaaDoor
/-- The table of sixteen numbers lies in the first block. -/
def Tab (h : Hp) : Prop := ∀ i, i < 16 → h.at 0 i = some (.int .u32 ((nib i : Nat) : Int))
theorem Tab.keep {h h' : Hp} (k : Keep h h') (T : Tab h) : Tab h' := fun i hi => k.at (T i hi)
def nat (l : List Int) : List Nat := l.map Int.toNat
def okB8 (l : List Int) : Prop := ∀ c ∈ l, 0 ≤ c ∧ c < 256
theorem nat_ok {l : List Int} (h : okB8 l) : ∀ c ∈ nat l, c < 256 := by
  intro c hc
  obtain ⟨d, hd, rfl⟩ := List.mem_map.1 hc
  have := h d hd
  omega
/-- The sum of bytes, as a number of 32 bits. -/
def sumB (l : List Int) : Nat := crc (nat l)
theorem sumB_lt {l : List Int} (h : okB8 l) : sumB l < 4294967296 := Nat.xor_lt_two_pow (n := 32) (sumN_lt _ _ (by decide) (nat_ok h)) (by decide)
theorem next_b {i n : Nat} (h1 : i < n) (h2 : n ≤ 4611686018427387904) : IntKind.wrap .i64 ((i : Int) + 1) = ((i + 1 : Nat) : Int) := by rw [wrap_i64 (by omega) (by omega)]; omega
theorem xor_step {x m : Nat} (hx : x < 4294967296) (hm : m < 256) :
    bitsI .xor .u32 (x : Int) (IntKind.wrap .u32 (m : Int)) = ((x ^^^ m : Nat) : Int) ∧ x ^^^ m < 4294967296 := by
  have hm' : m < 4294967296 := by omega
  exact ⟨by rw [wrap32 m hm']; exact xor32 x m hx hm', Nat.xor_lt_two_pow (n := 32) hx hm'⟩
theorem nib_step {y : Nat} (hy : y < 4294967296) : bitsI .xor .u32 ((nib (y % 16) : Nat) : Int) (shrI .u32 (y : Int) 4) = ((nib y : Nat) : Int) := by
  rw [shr4, xor32 _ _ (nib_lt (by omega)) (by omega), ← nib_eq]
theorem sum_spec {h : Hp} {l : Sl} {bs : List Int} {Q : Value → Hp → Prop} (T : Tab h) (hr : h.row l.a l.n (bv bs)) (hok : okB8 bs) (hs : bs.length ≤ 4611686018427387904)
    (hQ : Q (.int .u32 ((sumB bs : Nat) : Int)) h) : F114.T l h Q := by
  have hln : l.n = bs.length := by have := hr.1; rw [bv_length] at this; exact this.symm
  refine ⟨fun n n1 h1 => h1 = h ∧ ∃ i : Nat, n1 = (i : Int) ∧ i ≤ bs.length ∧ ∃ x : Nat, n = (x : Int) ∧ x < 4294967296 ∧ sumN x (nat (bs.drop i)) = sumN 4294967295 (nat bs), fun _ n1 _ => bs.length - n1.toNat, ⟨rfl, 0, rfl, Nat.zero_le _, 4294967295, rfl, by decide, rfl⟩, ?_⟩
  rintro n n1 h1 ⟨rfl, i, rfl, hi, x, rfl, hx, hu⟩
  refine ⟨fun hlt => ?_, fun hge => ?_⟩
  · have hi1 : i < bs.length := by omega
    have hb := hok _ (List.getElem_mem hi1)
    obtain ⟨b, o, ha, hat⟩ := row_get hr (i := i) (by omega)
    obtain ⟨m, hm⟩ : ∃ m : Nat, bs[i] = (m : Int) := ⟨bs[i].toNat, by omega⟩
    have hv : (bv bs)[i]? = some (Value.int .u8 (m : Int)) := by simp [bv, hi1, hm]
    obtain ⟨e1, hy⟩ := xor_step hx (m := m) (by omega)
    have hz := nib_lt hy
    have e2 := and15 _ hy
    have e3 := nib_step hy
    have e4 := and15 _ hz
    have e5 := nib_step hz
    have t1 : h1.at 0 (0 + (((x ^^^ m) % 16 : Nat) : Int).toNat) = some (.int .u32 ((nib ((x ^^^ m) % 16) : Nat) : Int)) := by rw [Nat.zero_add, Int.toNat_natCast]; exact T _ (Nat.mod_lt _ (by decide))
    have t2 : h1.at 0 (0 + ((nib (x ^^^ m) % 16 : Nat) : Int).toNat) = some (.int .u32 ((nib (nib (x ^^^ m) % 16) : Nat) : Int)) := by rw [Nat.zero_add, Int.toNat_natCast]; exact T _ (Nat.mod_lt _ (by decide))
    refine ⟨b, o, ha, ⟨by omega, hlt⟩, (m : Int), by rw [Int.toNat_natCast, hat i (by omega), hv], ?_⟩
    rw [e1, e2]
    refine ⟨⟨by omega, by omega⟩, _, t1, by decide, ?_⟩
    rw [e3, e4]
    refine ⟨⟨by omega, by omega⟩, _, t2, by decide, ?_⟩
    rw [e5, next_b hi1 hs]
    refine ⟨⟨rfl, i + 1, rfl, hi1, _, rfl, nib_lt hz, ?_⟩, by dsimp only; omega⟩
    rw [← hu, List.drop_eq_getElem_cons hi1]
    show _ = sumN (by1 x bs[i].toNat) (nat (bs.drop (i + 1)))
    rw [hm]
    rfl
  · have hi2 : bs.length ≤ i := by omega
    rw [List.drop_of_length_le hi2] at hu
    have e : bitsI .xor .u32 (if IntKind.signed .u32 then -1 else IntKind.max .u32) (x : Int) = ((sumB bs : Nat) : Int) := by
      have h0 : (if IntKind.signed .u32 then -1 else IntKind.max .u32) = ((4294967295 : Nat) : Int) := by decide
      rw [h0, xor32 _ _ (by decide) hx, Nat.xor_comm]
      unfold sumB crc
      rw [← hu]
      rfl
    rw [e]
    exact hQ
theorem shr32 (a k : Nat) (hk : k ≤ 32) : shrI .u32 (a : Int) (k : Int) = ((a / 2 ^ k : Nat) : Int) := by
  unfold shrI
  have h1 : min (k : Int).toNat (IntKind.bits .u32) = k := by show min (k : Int).toNat 32 = k; omega
  have h2 : (2 : Int) ^ k = ((2 ^ k : Nat) : Int) := by rw [Int.natCast_pow]; rfl
  rw [h1, h2, Int.fdiv_eq_ediv_of_nonneg _ (Int.natCast_nonneg _)]
  exact (Int.natCast_ediv a (2 ^ k)).symm
/-- A sum as it is laid down. -/
def fourB (x : Nat) : List Int := [((x % 256 : Nat) : Int), ((x / 256 % 256 : Nat) : Int), ((x / 65536 % 256 : Nat) : Int), ((x / 16777216 % 256 : Nat) : Int)]
theorem four_cells (x : Nat) : [Value.int .u8 (IntKind.wrap .u8 (x : Int)), .int .u8 (IntKind.wrap .u8 (shrI .u32 (x : Int) 8)), .int .u8 (IntKind.wrap .u8 (shrI .u32 (x : Int) 16)), .int .u8 (IntKind.wrap .u8 (shrI .u32 (x : Int) 24))] = bv (fourB x) := by
  have e8 := shr32 x 8 (by decide)
  have e16 := shr32 x 16 (by decide)
  have e24 := shr32 x 24 (by decide)
  simp only [show ((8 : Nat) : Int) = 8 from rfl, show ((16 : Nat) : Int) = 16 from rfl, show ((24 : Nat) : Int) = 24 from rfl] at e8 e16 e24
  rw [e8, e16, e24]
  simp only [IntKind.wrap_u8]
  rfl
theorem fourB_ok (x : Nat) : okB8 (fourB x) := by
  intro c hc
  simp only [fourB, List.mem_cons, List.not_mem_nil, or_false] at hc
  omega
/-- A frame. -/
def frameB (bs : List Int) : List Int := (encU bs.length ++ bs) ++ fourB (sumB (encU bs.length ++ bs))
theorem sum_buf {h : Hp} {l : Sl} {bs : List Int} {Q : Value → Hp → Prop} (T : Tab h) (B : Buf h l 1 5 (bv bs)) (hok : okB8 bs) (hs : bs.length + 4 ≤ 140737488355328)
    (hQ : ∀ l' h', Buf h' l' 1 5 (bv (bs ++ fourB (sumB bs))) → Upd h h' l l' → Q (.slice l'.a l'.n l'.c) h') : F80.T l h Q := by
  have hln : l.n = bs.length := by have := B.len; rw [bv_length] at this; omega
  have hr := B.row
  rw [Nat.mul_one] at hr
  refine sum_spec T hr hok (by omega) ⟨_, rfl, by decide, by decide, by decide, ?_⟩
  rw [four_cells]
  refine append_buf B rfl rfl (by omega) fun l3 h4 B4 hn4 U4 => ?_
  rw [← bv_append] at B4
  exact hQ l3 h4 B4 U4
theorem append_full {h : Hp} {s : Sl} {sz t bytes m : Nat} {z vs us : List Value} {K : Sl → Hp → Prop} (hr : h.row s.a (s.n * sz) vs) (hc : s.c = s.n) (hm : 0 < m) (hz : z.length = sz) (hu : us.length = m * sz) (hb : (s.n + m) * bytes ≤ 140737488355328)
    (hK : ∀ s' h', Buf h' s' sz t (vs ++ us) → s'.n = s.n + m → Keep h h' → New h s' → K s' h') : appendD s t sz bytes z m us h K := by
  refine ⟨hb, fun hle => absurd hle (by omega), fun hlt => ⟨vs, hr, fun b c hbn hc => ?_⟩⟩
  have hvl : vs.length = s.n * sz := hr.1
  have hsize : (vs ++ us ++ zerosV z (c - (s.n + m))).length = c * sz := by
    simp only [List.length_append, hvl, hu, zerosV_length, hz]
    rw [← Nat.add_mul, ← Nat.add_mul]
    congr 1
    omega
  refine hK _ _ ⟨?_, hc, .inr ⟨b, _, (0, 0), rfl, by unfold Hp.new; rw [if_pos rfl], ?_, fun j _ => by simp, ?_⟩⟩ rfl (Keep.new hbn _) ⟨b, rfl, hbn⟩
  · simp only [List.length_append, hvl, hu, Nat.add_mul]
  · simp only [List.size_toArray, hsize, Nat.le_refl]
  · simp only [List.toList_toArray]
    rw [List.take_left' rfl]
theorem sum_full {h : Hp} {l : Sl} {bs : List Int} {Q : Value → Hp → Prop} (T : Tab h) (hr : h.row l.a l.n (bv bs)) (hc : l.c = l.n) (hok : okB8 bs) (hs : bs.length + 4 ≤ 140737488355328)
    (hQ : ∀ l' h', Buf h' l' 1 5 (bv (bs ++ fourB (sumB bs))) → Keep h h' → New h l' → Q (.slice l'.a l'.n l'.c) h') : F80.T l h Q := by
  have hln : l.n = bs.length := by have := hr.1; rw [bv_length] at this; exact this.symm
  refine sum_spec T hr hok (by omega) ⟨_, rfl, by decide, by decide, by decide, ?_⟩
  rw [four_cells]
  refine append_full (by rw [Nat.mul_one]; exact hr) hc (by decide) rfl rfl (by omega) fun l3 h4 B4 hn4 k N => ?_
  rw [← bv_append] at B4
  exact hQ l3 h4 B4 k N
theorem encF_ok : ∀ f n, okB8 (encF f n)
  | 0, n => fun c hc => by cases hc
  | f + 1, n => by
    unfold encF
    split
    · intro c hc
      simp only [List.mem_singleton] at hc
      omega
    · intro c hc
      rcases List.mem_cons.1 hc with rfl | hc
      · omega
      · exact encF_ok f _ c hc
theorem encU_ok (n : Nat) : okB8 (encU n) := encF_ok 10 n
theorem encF_len : ∀ f n, (encF f n).length ≤ f
  | 0, n => Nat.le_refl _
  | f + 1, n => by
    unfold encF
    split
    · simp
    · have := encF_len f (n / 128)
      simp only [List.length_cons]
      omega
theorem encU_len (n : Nat) : (encU n).length ≤ 10 := encF_len 10 n
theorem okB8_app {a b : List Int} (ha : okB8 a) (hb : okB8 b) : okB8 (a ++ b) := fun c hc => by
  rcases List.mem_append.1 hc with h | h
  · exact ha c h
  · exact hb c h
theorem frame_spec {h : Hp} {l : Sl} {bs : List Int} {Q : Value → Hp → Prop} (T : Tab h) (hr : h.row l.a l.n (bv bs)) (hok : okB8 bs) (hs : bs.length + 20 ≤ 140737488355328)
    (hQ : ∀ l' h', Buf h' l' 1 5 (bv (frameB bs)) → Keep h h' → New h l' → Q (.slice l'.a l'.n l'.c) h') : F39.T l h Q := by
  have hln : l.n = bs.length := by have := hr.1; rw [bv_length] at this; exact this.symm
  have hw : IntKind.wrap .i64 ((l.n : Int) + 14) = ((bs.length + 14 : Nat) : Int) := by rw [wrap_i64 (by omega) (by omega)]; omega
  have hw2 : IntKind.wrap .u64 (l.n : Int) = ((bs.length : Nat) : Int) := by rw [wrap_u64 (by omega) (by omega), hln]
  unfold F39.T
  rw [hw, hw2]
  refine ⟨⟨by decide, by omega, by omega⟩, fun b hb => ?_⟩
  have hz : (Builtin.zeroCells (List.toArray [Value.int .u8 0]) (((bs.length + 14 : Nat) : Int)).toNat).size = bs.length + 14 := by
    rw [Int.toNat_natCast]; unfold Builtin.zeroCells; simp
  have B0 : Buf (h.new b (.cells (Builtin.zeroCells (List.toArray [Value.int .u8 0]) (((bs.length + 14 : Nat) : Int)).toNat) 5 (0, 0))) ⟨some ⟨b, 0, none⟩, (0 : Int).toNat, (((bs.length + 14 : Nat) : Int)).toNat⟩ 1 5 [] :=
    ⟨rfl, by show (0 : Int).toNat ≤ _; exact Nat.zero_le _, .inr ⟨b, _, (0, 0), rfl, by unfold Hp.new; rw [if_pos rfl], by rw [hz]; show (((bs.length + 14 : Nat) : Int)).toNat * 1 ≤ _; omega, fun j _ => by simp, by simp⟩⟩
  have N0 : New h ⟨some ⟨b, 0, none⟩, (0 : Int).toNat, (((bs.length + 14 : Nat) : Int)).toNat⟩ := ⟨b, rfl, hb⟩
  have k0 := Keep.new hb (.cells (Builtin.zeroCells (List.toArray [Value.int .u8 0]) (((bs.length + 14 : Nat) : Int)).toNat) 5 (0, 0))
  refine number_spec B0 (by omega) (by omega) (by show (0 : Int).toNat ≤ _; decide) fun l1 h1 B1 U1 => ?_
  obtain ⟨k1, N1⟩ := keep_grow k0 (.inr N0) U1
  have N1 : New h l1 := new_grow0 N0 k0 U1
  rw [List.nil_append, Int.toNat_natCast] at B1
  have l1n : l1.n = (encU bs.length).length := by have := B1.len; rw [bv_length] at this; omega
  have := encU_len bs.length
  refine ⟨l1, rfl, bv bs, by rw [Nat.mul_one]; exact k1.row hr, bv_one bs, ?_⟩
  refine append_buf B1 rfl (by rw [bv_length]; omega) (by omega) fun l2 h2 B2 hn2 U2 => ?_
  rw [← bv_append] at B2
  have k2 := (keep_grow k1 (.inr N1) U2).1
  have N2 := new_grow0 N1 k1 U2
  refine sum_buf (T.keep k2) B2 (okB8_app (encU_ok _) hok) (by rw [List.length_append]; omega) fun l3 h3 B3 U3 => ?_
  exact ⟨l3, rfl, hQ l3 h3 B3 (keep_grow k2 (.inr N2) U3).1 (new_grow0 N2 k2 U3)⟩
where
  new_grow0 {h h1 h2 : Hp} {s s' : Sl} (N : New h s) (K : Keep h h1) (U : Upd h1 h2 s s') : New h s' := by
    rcases U.at_ with h0 | ⟨b, hb, hn⟩
    · obtain ⟨b, hb, hn⟩ := N
      exact ⟨b, by rw [h0]; exact hb, hn⟩
    · exact ⟨b, hb, K.dom b hn⟩
end Go.Eng.YtblghgacokoklaaDoor
end
section
/-
  SPECS OF THE NAMES, 2: names and numbers.
-/
set_option linter.unusedSimpArgs false
set_option linter.unusedVariables false
namespace Go.Eng.YtblghgacokoklaaDoor
theorem bI_get (s : ByteArray) (i : Nat) (hi : i < s.size) : bt s (i : Int) = (bI s)[i]'(by rw [bI_length]; exact hi) := by
  unfold bt bI
  simp only [Int.toNat_natCast, hi, dif_pos, List.getElem_map, Array.getElem_toList]
  rfl
theorem bI_ok (s : ByteArray) : okB8 (bI s) := by
  intro c hc
  obtain ⟨b, _, rfl⟩ := List.mem_map.1 hc
  have := b.toNat_lt
  omega
theorem bI_extract (s : ByteArray) (i j : Nat) (hj : j ≤ s.size) : bI (s.extract i j) = ((bI s).drop i).take (j - i) := by
  unfold bI
  rw [ByteArray.data_extract, Array.toList_extract]
  simp [List.extract, List.map_take, List.map_drop]
def kdB (n : Int) : Bool := n == 108 || n == 109 || n == 116
theorem kinded_spec {h : Hp} {n : Int} {Q : Value → Hp → Prop} (hQ : Q (.bool (kdB n)) h) : F38.T n h Q := by
  refine ⟨fun e => ?_, fun e1 => ⟨fun e => ?_, fun e2 => ⟨fun e => ?_, fun e3 => ?_⟩⟩⟩
  · have : kdB n = true := by simp [kdB, e]
    rw [this] at hQ; exact hQ
  · have : kdB n = true := by simp [kdB, e]
    rw [this] at hQ; exact hQ
  · have : kdB n = true := by simp [kdB, e]
    rw [this] at hQ; exact hQ
  · have : kdB n = false := by simp [kdB, e1, e2, e3]
    rw [this] at hQ; exact hQ
/-- One more digit. -/
def dig (n c : Int) : Int := IntKind.wrap .u64 ((IntKind.wrap .u64 (10 * n)) + (IntKind.wrap .u64 (IntKind.wrap .u8 (c - 48))))
def digs : Int → List Int → Option Int
  | n, [] => some n
  | n, c :: l => if c < 48 ∨ 57 < c then none else digs (dig n c) l
/-- What a name's bytes tell: the kind, the number, whether it is one. -/
def numL (l : List Int) : Int × Int × Bool :=
  if l.length = 14 ∧ kdB (l.getD 0 0) = true ∧ l.getD 1 0 = 45 then (match digs 0 (l.drop 2) with | some n => (l.getD 0 0, n, true) | none => (0, 0, false)) else (0, 0, false)
def numV (l : List Int) : Value := .tuple ⟨[.int .u8 (numL l).1, .int .u64 (numL l).2.1, .bool (numL l).2.2]⟩
theorem numV_bad {l : List Int} (h : ¬ (l.length = 14 ∧ kdB (l.getD 0 0) = true ∧ l.getD 1 0 = 45)) : numV l = .tuple ⟨[.int .u8 0, .int .u64 0, .bool false]⟩ := by
  unfold numV numL; rw [if_neg h]
theorem numV_none {l : List Int} (h : digs 0 (l.drop 2) = none) : numV l = .tuple ⟨[.int .u8 0, .int .u64 0, .bool false]⟩ := by
  unfold numV numL
  split
  · rw [h]
  · rfl
theorem numV_some {l : List Int} {n : Int} (h : l.length = 14 ∧ kdB (l.getD 0 0) = true ∧ l.getD 1 0 = 45) (hd : digs 0 (l.drop 2) = some n) : numV l = .tuple ⟨[.int .u8 (l.getD 0 0), .int .u64 n, .bool true]⟩ := by
  unfold numV numL; rw [if_pos h, hd]
theorem bt_getD (s : ByteArray) (i : Nat) (hi : i < s.size) : bt s (i : Int) = (bI s).getD i 0 := by
  rw [bI_get s i hi]
  unfold List.getD
  rw [List.getElem?_eq_getElem (by rw [bI_length]; exact hi)]
  rfl
theorem number_of {h : Hp} {s : ByteArray} {Q : Value → Hp → Prop} (hQ : ∀ h', Keep h h' → Q (numV (bI s)) h') : F6.T s h Q := by
  have hl := bI_length s
  have bad : ¬ ((bI s).length = 14 ∧ kdB ((bI s).getD 0 0) = true ∧ (bI s).getD 1 0 = 45) → ∀ h', Keep h h' → Q (.tuple ⟨[.int .u8 0, .int .u64 0, .bool false]⟩) h' := fun hb h' k => by
    have := hQ h' k; rw [numV_bad hb] at this; exact this
  refine ⟨fun h14 => ⟨⟨by decide, by omega⟩, kinded_spec ⟨_, rfl, fun hk => ⟨⟨by decide, by omega⟩, fun h45 => ⟨⟨by decide, by omega, by omega⟩, fun b c hb hc => ?_⟩, fun h45 => bad (fun q => h45 ?_) _ (Keep.refl h)⟩, fun hk => bad (fun q => ?_) _ (Keep.refl h)⟩⟩, fun h14 => bad (fun q => h14 (by omega)) _ (Keep.refl h)⟩
  · have e0 := bt_getD s 0 (by omega)
    have e1 := bt_getD s 1 (by omega)
    have good : (bI s).length = 14 ∧ kdB ((bI s).getD 0 0) = true ∧ (bI s).getD 1 0 = 45 := ⟨by omega, by rw [← e0]; exact hk, by rw [← e1]; exact h45⟩
    have hx : bI (s.extract (2 : Int).toNat ((s.size : Int) : Int).toNat) = (bI s).drop 2 := by
      rw [bI_extract _ _ _ (by omega), show (2 : Int).toNat = 2 from rfl, Int.toNat_natCast]
      exact List.take_of_length_le (by rw [List.length_drop]; omega)
    have hxs : (s.extract (2 : Int).toNat ((s.size : Int) : Int).toNat).size = 12 := by
      rw [← bI_length, hx, List.length_drop]; omega
    have hdl : ((bI s).drop 2).length = 12 := by rw [List.length_drop]; omega
    have k0 := Keep.new hb (.cells ⟨bytesV (s.extract (2 : Int).toNat ((s.size : Int) : Int).toNat) ++ List.replicate (c - (s.extract (2 : Int).toNat ((s.size : Int) : Int).toNat).size) (.int .u8 0)⟩ 5 (c, c + 1))
    generalize hO : (Obj.cells ⟨bytesV (s.extract (2 : Int).toNat ((s.size : Int) : Int).toNat) ++ List.replicate (c - (s.extract (2 : Int).toNat ((s.size : Int) : Int).toNat).size) (.int .u8 0)⟩ 5 (c, c + 1)) = O at k0
    have hat : ∀ i, (hi : i < 12) → (h.new b O).at b (0 + i) = some (.int .u8 (((bI s).drop 2)[i]'(by omega))) := by
      intro i hi
      rw [← hO, at_new, Nat.zero_add, bytesV_bI, hx]
      rw [List.getElem?_toArray]
      rw [List.getElem?_append_left (by rw [bv_length]; omega)]
      unfold bv
      rw [List.getElem?_map, List.getElem?_eq_getElem (by omega)]
      rfl
    rw [hxs]
    refine ⟨fun n n1 h2 => h2 = h.new b O ∧ ∃ i : Nat, n1 = (i : Int) ∧ i ≤ 12 ∧ digs n (((bI s).drop 2).drop i) = digs 0 ((bI s).drop 2), fun _ n1 _ => 12 - n1.toNat, ⟨rfl, 0, rfl, Nat.zero_le _, rfl⟩, ?_⟩
    rintro n n1 h2 ⟨rfl, i, rfl, hi, hu⟩
    refine ⟨fun hlt => ?_, fun hge => ?_⟩
    · have hi1 : i < 12 := by omega
      rw [List.drop_eq_getElem_cons (by omega), digs] at hu
      have none_ : (((bI s).drop 2)[i] < 48 ∨ 57 < ((bI s).drop 2)[i]) → Q (.tuple ⟨[.int .u8 0, .int .u64 0, .bool false]⟩) (h.new b O) := fun hb => by
        rw [if_pos hb] at hu
        have := hQ _ k0
        rw [numV_none hu.symm] at this
        exact this
      refine ⟨b, 0, rfl, ⟨by omega, by omega⟩, _, hat i hi1, fun hc => none_ (.inl hc), fun hc => ⟨fun hd => none_ (.inr hd), fun hd => ?_⟩⟩
      rw [if_neg (fun q => q.elim hc hd)] at hu
      rw [next_b (n := 12) hi1 (by decide)]
      exact ⟨⟨rfl, i + 1, rfl, hi1, hu⟩, by dsimp only; omega⟩
    · have hi2 : i = 12 := by omega
      subst hi2
      rw [List.drop_of_length_le (by omega), digs] at hu
      have := hQ _ k0
      rw [numV_some good hu.symm, ← e0] at this
      exact ⟨⟨by decide, by omega⟩, this⟩
  · have e1 := bt_getD s 1 (by omega)
    have e1' : bt s 1 = (bI s).getD 1 0 := e1
    rw [e1']; exact q.2.2
  · have e0 : bt s 0 = (bI s).getD 0 0 := bt_getD s 0 (by omega)
    rw [e0, q.2.1] at hk; cases hk
theorem number_of' {h : Hp} {s : ByteArray} {Q : Value → Hp → Prop} (hQ : Q (numV (bI s)) h) : F7.T s h Q := by
  have hl := bI_length s
  have bad : ¬ ((bI s).length = 14 ∧ kdB ((bI s).getD 0 0) = true ∧ (bI s).getD 1 0 = 45) → Q (.tuple ⟨[.int .u8 0, .int .u64 0, .bool false]⟩) h := fun hb => by
    rw [numV_bad hb] at hQ; exact hQ
  refine ⟨fun h1 => h1 = h ∧ ((bI s).length = 14 ∧ kdB ((bI s).getD 0 0) = true ∧ (bI s).getD 1 0 = 45), ?_, ?_⟩
  · rintro h1 ⟨rfl, good⟩
    have hsz : s.size = 14 := by omega
    refine ⟨fun n n1 h2 => h2 = h1 ∧ ∃ i : Nat, n1 = ((2 + i : Nat) : Int) ∧ i ≤ 12 ∧ digs n (((bI s).drop 2).drop i) = digs 0 ((bI s).drop 2), fun _ n1 _ => 14 - n1.toNat, ⟨rfl, 0, rfl, Nat.zero_le _, rfl⟩, ?_⟩
    rintro n n1 h2 ⟨rfl, i, rfl, hi, hu⟩
    refine ⟨fun hlt => ?_, fun hge => ?_⟩
    · have hi1 : i < 12 := by omega
      have hdl : ((bI s).drop 2).length = 12 := by rw [List.length_drop]; omega
      have eb : bt s ((2 + i : Nat) : Int) = ((bI s).drop 2)[i] := by rw [bI_get s (2 + i) (by omega), List.getElem_drop]
      rw [List.drop_eq_getElem_cons (by omega), digs] at hu
      have none_ : (((bI s).drop 2)[i] < 48 ∨ 57 < ((bI s).drop 2)[i]) → Q (.tuple ⟨[.int .u8 0, .int .u64 0, .bool false]⟩) h2 := fun hb => by
        rw [if_pos hb] at hu
        rw [numV_none hu.symm] at hQ
        exact hQ
      rw [eb]
      refine ⟨⟨by omega, by omega⟩, fun hc => none_ (.inl hc), fun hc => ⟨⟨by omega, by omega⟩, fun hd => none_ (.inr hd), fun hd => ⟨⟨by omega, by omega⟩, ?_⟩⟩⟩
      rw [if_neg (fun q => q.elim hc hd)] at hu
      rw [next_b (i := 2 + i) (n := 14) (by omega) (by decide)]
      exact ⟨⟨rfl, i + 1, by omega, hi1, hu⟩, by dsimp only; omega⟩
    · have hi2 : i = 12 := by omega
      subst hi2
      rw [List.drop_of_length_le (by rw [List.length_drop]; omega), digs] at hu
      have e0 : bt s 0 = (bI s).getD 0 0 := bt_getD s 0 (by omega)
      rw [numV_some good hu.symm, ← e0] at hQ
      exact ⟨⟨by decide, by omega⟩, hQ⟩
  · refine ⟨fun h14 => ⟨⟨by decide, by omega⟩, ?_, ?_⟩, fun h14 => bad fun q => h14 (by omega)⟩
    · intro h45
      have e1 : bt s 1 = (bI s).getD 1 0 := bt_getD s 1 (by omega)
      have e0 : bt s 0 = (bI s).getD 0 0 := bt_getD s 0 (by omega)
      have ok : kdB (bt s 0) = true → h = h ∧ ((bI s).length = 14 ∧ kdB ((bI s).getD 0 0) = true ∧ (bI s).getD 1 0 = 45) := fun hk => ⟨rfl, by omega, by rw [← e0]; exact hk, by rw [← e1]; exact h45⟩
      refine ⟨⟨by decide, by omega⟩, fun e => ok (by simp [kdB, e]), fun n1 => ⟨⟨by decide, by omega⟩, fun e => ok (by simp [kdB, e]), fun n2 => ⟨⟨by decide, by omega⟩, fun e => ok (by simp [kdB, e]), fun n3 => bad fun q => ?_⟩⟩⟩
      have := q.2.1
      rw [← e0] at this
      simp [kdB, n1, n2, n3] at this
    · intro h45
      have e1 : bt s 1 = (bI s).getD 1 0 := bt_getD s 1 (by omega)
      exact bad fun q => h45 (by rw [e1]; exact q.2.2)
end Go.Eng.YtblghgacokoklaaDoor
end
section
/-
  SPECS OF THE NAMES, 4: the document's numbers, sums and frames.
-/
set_option linter.unusedSimpArgs false
set_option linter.unusedVariables false
namespace Go.Eng.YtblghgacokoklaaDoor
theorem and127d (c : Nat) (h : c < 256) : bitsI .and .u8 (c : Int) 127 = ((c % 128 : Nat) : Int) := by
  have key : ∀ x : Fin 256, bitsI .and .u8 ((x.val : Nat) : Int) 127 = ((x.val % 128 : Nat) : Int) := by decide +kernel
  exact key ⟨c, h⟩
theorem tmod128d (c : Int) (h0 : 0 ≤ c) (h1 : c < 256) : Int.tmod c 128 = bitsI .and .u8 c 127 := by
  obtain ⟨m, rfl⟩ : ∃ m : Nat, c = (m : Int) := ⟨c.toNat, by omega⟩
  rw [and127d m (by omega), Int.tmod_eq_emod_of_nonneg h0]
  omega
theorem uint2_spec {h : Hp} {l : Sl} {bs : List Int} {Q : Value → Hp → Prop} (hr : h.row l.a l.n (bv bs)) (hok : ∀ c ∈ bs, 0 ≤ c ∧ c < 256)
    (hQ : Q (.tuple ⟨[.int .u64 (uR 0 0 bs).1, .int .i64 ((uR 0 0 bs).2.1 : Int), .int .i64 (uR 0 0 bs).2.2]⟩) h) : F89.T l h Q := by
  have hln : l.n = bs.length := by have := hr.1; rw [bv_length] at this; exact this.symm
  refine ⟨fun n n1 h1 => h1 = h ∧ ∃ i : Nat, n1 = (i : Int) ∧ i ≤ bs.length ∧ i ≤ 9 ∧ uR i n (bs.drop i) = uR 0 0 bs, fun _ n1 _ => bs.length - n1.toNat, ⟨rfl, 0, rfl, Nat.zero_le _, by decide, rfl⟩, ?_⟩
  rintro n n1 h1 ⟨rfl, i, rfl, hi, hi9, hu⟩
  refine ⟨fun hlt => ?_, fun hge => ?_⟩
  · have hi1 : i < bs.length := by omega
    have hb := hok _ (List.getElem_mem hi1)
    obtain ⟨b, o, ha, hat⟩ := row_get hr (i := i) (by omega)
    have hv : (bv bs)[i]? = some (Value.int .u8 bs[i]) := by simp [bv, hi1]
    have hw : IntKind.wrap .u64 (IntKind.wrap .i64 (7 * (i : Int))) = 7 * (i : Int) := by rw [wrap_i64 (by omega) (by omega), wrap_u64 (by omega) (by omega)]
    have hw1 : IntKind.wrap .i64 ((i : Int) + 1) = ((i + 1 : Nat) : Int) := by rw [wrap_i64 (by omega) (by omega)]; omega
    rw [List.drop_eq_getElem_cons hi1, uR] at hu
    have bad : ((bs[i] = 0 ∧ 0 < i) ∨ (i = 9 ∧ bs[i] ≠ 1)) → Q (.tuple ⟨[.int .u64 0, .int .i64 0, .int .i64 21]⟩) h1 := fun hb => by
      rw [if_pos hb] at hu; rw [← hu] at hQ; exact hQ
    refine ⟨b, o, ha, ⟨by omega, hlt⟩, bs[i], by rw [Int.toNat_natCast, hat i (by omega), hv], fun h2 => h2 = h1 ∧ ¬ ((bs[i] = 0 ∧ 0 < i) ∨ (i = 9 ∧ bs[i] ≠ 1)), ?_, ?_⟩
    · rintro h2 ⟨rfl, hn⟩
      rw [if_neg hn] at hu
      rw [hw, hw1, tmod128d _ hb.1 hb.2]
      refine ⟨by decide, by omega, fun hc => ?_, fun hc => ⟨⟨rfl, i + 1, rfl, hi1, ?_, ?_⟩, ?_⟩⟩
      · rw [if_pos hc] at hu; rw [← hu] at hQ; exact hQ
      · by_cases h9 : i = 9
        · exact absurd (.inr ⟨h9, fun h1 => hc (by rw [h1]; decide)⟩) hn
        · omega
      · rw [if_neg hc] at hu; exact hu
      · show bs.length - ((i + 1 : Nat) : Int).toNat < bs.length - (i : Int).toNat
        omega
    · refine ⟨fun hi0 => ⟨fun h0 => bad (.inl ⟨h0, by omega⟩), fun h0 => ⟨fun h9 => ⟨fun h1 => ⟨rfl, by omega⟩, fun h1 => bad (.inr ⟨by omega, h1⟩)⟩, fun h9 => ⟨rfl, by omega⟩⟩⟩, fun hi0 => ⟨fun h9 => ⟨fun h1 => ⟨rfl, by omega⟩, fun h1 => bad (.inr ⟨by omega, h1⟩)⟩, fun h9 => ⟨rfl, by omega⟩⟩⟩
  · have hi2 : bs.length ≤ i := by omega
    rw [List.drop_of_length_le hi2, uR] at hu
    rw [← hu] at hQ
    exact hQ

/-! ### The document's sum -/
def bsN : Nat → Nat → Nat
  | 0, x => x
  | j + 1, x => bs1 (bsN j x)
theorem bsN_lt : ∀ j {x : Nat}, x < 4294967296 → bsN j x < 4294967296
  | 0, x, h => h
  | j + 1, x, h => bs1_lt (bsN_lt j h)
theorem half (x : Nat) (h : x < 4294967296) : IntKind.wrap .u32 (Int.tdiv (x : Int) 2) = ((x / 2 : Nat) : Int) := by
  rw [Int.tdiv_eq_ediv_of_nonneg (by omega), IntKind.wrap_u32]
  omega
theorem sum_of {h : Hp} {l : Sl} {bs : List Int} {Q : Value → Hp → Prop} (hr : h.row l.a l.n (bv bs)) (hok : okB8 bs) (hs : bs.length ≤ 4611686018427387904)
    (hQ : Q (.int .u32 ((sumB bs : Nat) : Int)) h) : F84.T l h Q := by
  have hln : l.n = bs.length := by have := hr.1; rw [bv_length] at this; exact this.symm
  refine ⟨fun n n1 h1 => h1 = h ∧ ∃ i : Nat, n1 = (i : Int) ∧ i ≤ bs.length ∧ ∃ x : Nat, n = (x : Int) ∧ x < 4294967296 ∧ sumN x (nat (bs.drop i)) = sumN 4294967295 (nat bs), fun _ n1 _ => bs.length - n1.toNat, ⟨rfl, 0, rfl, Nat.zero_le _, 4294967295, rfl, by decide, rfl⟩, ?_⟩
  rintro n n1 h1 ⟨rfl, i, rfl, hi, x, rfl, hx, hu⟩
  refine ⟨fun hlt => ?_, fun hge => ?_⟩
  · have hi1 : i < bs.length := by omega
    have hb := hok _ (List.getElem_mem hi1)
    obtain ⟨b, o, ha, hat⟩ := row_get hr (i := i) (by omega)
    obtain ⟨m, hm⟩ : ∃ m : Nat, bs[i] = (m : Int) := ⟨bs[i].toNat, by omega⟩
    have hv : (bv bs)[i]? = some (Value.int .u8 (m : Int)) := by simp [bv, hi1, hm]
    obtain ⟨e1, hy⟩ := xor_step hx (m := m) (by omega)
    refine ⟨b, o, ha, ⟨by omega, hlt⟩, (m : Int), by rw [Int.toNat_natCast, hat i (by omega), hv], ?_⟩
    rw [e1]
    refine ⟨fun n3 n4 h2 => h2 = h1 ∧ ∃ j : Nat, n4 = (j : Int) ∧ j ≤ 8 ∧ n3 = ((bsN j (x ^^^ m) : Nat) : Int), fun _ n4 _ => 8 - n4.toNat, ⟨rfl, 0, rfl, Nat.zero_le _, rfl⟩, ?_⟩
    rintro n3 n4 h2 ⟨rfl, j, rfl, hj, rfl⟩
    have hz := bsN_lt j hy
    refine ⟨fun hlt8 => ⟨by decide, fun odd => ⟨by decide, ?_⟩, fun even => ⟨by decide, ?_⟩⟩, fun hge8 => ?_⟩
    · have hj1 : j < 8 := by omega
      have ho : bsN j (x ^^^ m) % 2 = 1 := by
        rw [Int.tmod_eq_emod_of_nonneg (by omega)] at odd
        omega
      have e : bitsI .xor .u32 (IntKind.wrap .u32 (Int.tdiv ((bsN j (x ^^^ m) : Nat) : Int) 2)) 2197175160 = ((bsN (j + 1) (x ^^^ m) : Nat) : Int) := by
        rw [half _ hz, show (2197175160 : Int) = ((2197175160 : Nat) : Int) from rfl, xor32 _ _ (by omega) (by decide)]
        show _ = ((bs1 (bsN j (x ^^^ m)) : Nat) : Int)
        unfold bs1
        rw [if_pos ho]
      rw [e, next_b (n := 8) hj1 (by decide)]
      exact ⟨⟨rfl, j + 1, rfl, hj1, rfl⟩, by dsimp only; omega⟩
    · have hj1 : j < 8 := by omega
      have ho : ¬ bsN j (x ^^^ m) % 2 = 1 := by
        rw [Int.tmod_eq_emod_of_nonneg (by omega)] at even
        omega
      have e : IntKind.wrap .u32 (Int.tdiv ((bsN j (x ^^^ m) : Nat) : Int) 2) = ((bsN (j + 1) (x ^^^ m) : Nat) : Int) := by
        rw [half _ hz]
        show _ = ((bs1 (bsN j (x ^^^ m)) : Nat) : Int)
        unfold bs1
        rw [if_neg ho, Nat.xor_zero]
      rw [e, next_b (n := 8) hj1 (by decide)]
      exact ⟨⟨rfl, j + 1, rfl, hj1, rfl⟩, by dsimp only; omega⟩
    · have hj8 : j = 8 := by omega
      subst hj8
      rw [next_b hi1 hs]
      refine ⟨⟨rfl, i + 1, rfl, hi1, _, rfl, hz, ?_⟩, by dsimp only; omega⟩
      rw [← hu, List.drop_eq_getElem_cons hi1]
      show _ = sumN (by1 x bs[i].toNat) (nat (bs.drop (i + 1)))
      rw [hm]
      rfl
  · have hi2 : bs.length ≤ i := by omega
    rw [List.drop_of_length_le hi2] at hu
    have e : bitsI .xor .u32 (x : Int) 4294967295 = ((sumB bs : Nat) : Int) := by
      rw [show (4294967295 : Int) = ((4294967295 : Nat) : Int) from rfl, xor32 _ _ hx (by decide)]
      unfold sumB crc
      rw [← hu]
      rfl
    rw [e]
    exact hQ
theorem four_of {h : Hp} {x : Nat} {Q : Value → Hp → Prop} (hQ : ∀ l' h', Buf h' l' 1 5 (bv (fourB x)) → Keep h h' → New h l' → Q (.slice l'.a l'.n l'.c) h') : F83.T (x : Int) h Q := by
  refine ⟨by decide, by decide, by decide, fun b hb => ?_⟩
  rw [four_cells]
  exact hQ ⟨some ⟨b, 0, none⟩, 4, 4⟩ _ ⟨rfl, Nat.le_refl _, .inr ⟨b, _, (0, 0), rfl, by unfold Hp.new; rw [if_pos rfl], by show 4 * 1 ≤ (bv (fourB x)).length; rw [bv_length]; exact Nat.le_refl 4, fun j _ => by simp, by rfl⟩⟩ (Keep.new hb _) ⟨b, rfl, hb⟩
theorem number_doc {h : Hp} {m : Nat} {Q : Value → Hp → Prop} (h1 : m < 18446744073709551616)
    (hQ : ∀ l' h', Buf h' l' 1 5 (bv (encU m)) → Keep h h' → (l'.a = none ∨ New h l') → Q (.slice l'.a l'.n l'.c) h') : F82.T (m : Int) h Q := by
  refine ⟨fun n1 l1 h1 => ∃ f ys, f ≤ 10 ∧ ys.length + f = 10 ∧ Buf h1 l1 1 5 (bv ys) ∧ Keep h h1 ∧ (l1.a = none ∨ New h l1) ∧ 0 ≤ n1 ∧ n1 < 18446744073709551616 ∧ n1.toNat < 128 ^ f ∧ 0 < f ∧ encU m = ys ++ encF f n1.toNat, fun n1 _ _ => n1.toNat,
    ⟨10, [], Nat.le_refl _, rfl, by simpa [bv] using Buf.nil h 1 5, Keep.refl _, .inl rfl, by omega, by omega, by rw [Int.toNat_natCast]; omega, by decide, rfl⟩, ?_⟩
  rintro n1 l1 h1 ⟨f, ys, hf, hys, B1, K1, N1, hn1, hn2, hlt, hf0, he⟩
  have hln : l1.n = ys.length := by have e1 := B1.len; rw [bv_length] at e1; omega
  obtain ⟨f, rfl⟩ : ∃ g, f = g + 1 := ⟨f - 1, by omega⟩
  obtain ⟨q, rfl⟩ : ∃ q : Nat, n1 = (q : Int) := ⟨n1.toNat, by omega⟩
  rw [Int.toNat_natCast] at hlt he
  refine ⟨fun hge => ⟨by decide, ?_⟩, fun hlt2 => ?_⟩
  · have hnn : ¬ q < 128 := by omega
    have hf1 : 0 < f := by
      rcases Nat.eq_zero_or_pos f with rfl | h
      · simp at hlt; omega
      · exact h
    have e8 : IntKind.wrap .u8 (IntKind.wrap .u8 (Int.tmod (q : Int) 128) + 128) = ((q % 128 + 128 : Nat) : Int) := by
      rw [Int.tmod_eq_emod_of_nonneg (by omega)]
      simp only [IntKind.wrap_u8]
      omega
    have e7 : IntKind.wrap .u64 (Int.tdiv (q : Int) 128) = ((q / 128 : Nat) : Int) := by
      rw [Int.tdiv_eq_ediv_of_nonneg (by omega), wrap_u64 (by omega) (by omega)]
      omega
    rw [e8, e7]
    refine append_buf B1 rfl rfl (by omega) fun l2 h2 B2 hn2 U2 => ⟨by decide, ⟨f, ys ++ [((q % 128 + 128 : Nat) : Int)], by omega, by simp; omega, ?_, (keep_grow K1 N1 U2).1, (keep_grow K1 N1 U2).2, by omega, by omega, ?_, hf1, ?_⟩, ?_⟩
    · rw [bv_append]; exact B2
    · rw [Int.toNat_natCast]
      rw [Nat.pow_succ] at hlt
      omega
    · rw [Int.toNat_natCast, he]
      simp only [encF, if_neg hnn, List.append_assoc, List.singleton_append]
    · dsimp only; omega
  · have hnn : q < 128 := by omega
    have hw : IntKind.wrap .u8 (q : Int) = (q : Int) := by rw [IntKind.wrap_u8]; omega
    rw [hw]
    refine append_buf B1 rfl rfl (by omega) fun l2 h2 B2 hn2 U2 => hQ l2 h2 ?_ (keep_grow K1 N1 U2).1 (keep_grow K1 N1 U2).2
    rw [he, bv_append]
    simp only [encF, if_pos hnn]
    exact B2
theorem frame_doc {h : Hp} {l : Sl} {bs : List Int} {Q : Value → Hp → Prop} (hr : h.row l.a l.n (bv bs)) (hok : okB8 bs) (hs : bs.length + 20 ≤ 140737488355328)
    (hQ : ∀ l' h', Buf h' l' 1 5 (bv (frameB bs)) → Keep h h' → (l'.a = none ∨ New h l') → Q (.slice l'.a l'.n l'.c) h') : F40.T l h Q := by
  have hln : l.n = bs.length := by have := hr.1; rw [bv_length] at this; exact this.symm
  have hw2 : IntKind.wrap .u64 (l.n : Int) = ((bs.length : Nat) : Int) := by rw [wrap_u64 (by omega) (by omega), hln]
  unfold F40.T
  rw [hw2]
  refine number_doc (by omega) fun l1 h1 B1 K1 N1 => ?_
  have l1n : l1.n = (encU bs.length).length := by have := B1.len; rw [bv_length] at this; omega
  have := encU_len bs.length
  refine ⟨l1, rfl, bv bs, by rw [Nat.mul_one]; exact K1.row hr, bv_one bs, ?_⟩
  refine append_buf B1 rfl (by rw [bv_length]; omega) (by omega) fun l2 h2 B2 hn2 U2 => ?_
  rw [← bv_append] at B2
  obtain ⟨K2, N2⟩ := keep_grow K1 N1 U2
  have l2n : l2.n = (encU bs.length ++ bs).length := by have := B2.len; rw [bv_length] at this; omega
  have r2 := B2.row
  rw [Nat.mul_one] at r2
  refine sum_of r2 (okB8_app (encU_ok _) hok) (by rw [List.length_append]; omega) ⟨_, rfl, four_of fun l3 h3 B3 K3 N3 => ?_⟩
  have r3 := B3.row
  have l3n : l3.n = 4 := by have := B3.len; rw [bv_length] at this; simp [fourB] at this; omega
  refine ⟨l3, rfl, bv (fourB (sumB (encU bs.length ++ bs))), r3, bv_one _, ?_⟩
  refine append_buf (B2.keep K3) rfl (by rw [bv_length, l3n]; rfl) (by rw [l3n]; rw [List.length_append] at l2n; omega) fun l4 h4 B4 hn4 U4 => ?_
  rw [← bv_append] at B4
  have K23 := K2.trans K3
  exact hQ l4 h4 B4 (keep_grow K23 N2 U4).1 (keep_grow K23 N2 U4).2
/-! ### The file current -/
theorem str_row {h : Hp} {b c : Nat} {s : ByteArray} (hb : h b = none) : (h.new b (.cells ⟨bytesV s ++ List.replicate (c - s.size) (.int .u8 0)⟩ 5 (c, c + 1))).row (some ⟨b, 0, none⟩) s.size (bv (bI s)) := by
  refine ⟨by rw [bv_length, bI_length], .inr ⟨b, 0, rfl, fun j hj => ?_⟩⟩
  rw [Nat.zero_add, at_new, bytesV_bI, List.getElem?_toArray, List.getElem?_append_left (by rw [bv_length, bI_length]; exact hj)]
theorem current_of {h : Hp} {s : ByteArray} {Q : Value → Hp → Prop} (T : Tab h) (hs : s.size + 20 ≤ 140737488355328)
    (hQ : ∀ l' h', Buf h' l' 1 5 (bv (frameB (bI s))) → Keep h h' → New h l' → Q (.slice l'.a l'.n l'.c) h') : F11.T s h Q := by
  intro b c hb hc
  have k0 := Keep.new hb (.cells ⟨bytesV s ++ List.replicate (c - s.size) (.int .u8 0)⟩ 5 (c, c + 1))
  refine frame_spec (T.keep k0) (str_row hb) (bI_ok s) (by rw [bI_length]; exact hs) fun l1 h1 B1 K1 N1 => ⟨l1, rfl, hQ l1 h1 B1 (k0.trans K1) ?_⟩
  obtain ⟨b1, e1, hn⟩ := N1
  exact ⟨b1, e1, k0.dom _ hn⟩
theorem current_doc {h : Hp} {s : ByteArray} {Q : Value → Hp → Prop} (hs : s.size + 20 ≤ 140737488355328)
    (hQ : ∀ l' h', Buf h' l' 1 5 (bv (frameB (bI s))) → Keep h h' → Q (.slice l'.a l'.n l'.c) h') : F12.T s h Q := by
  intro b c hb hc
  have k0 := Keep.new hb (.cells ⟨bytesV s ++ List.replicate (c - s.size) (.int .u8 0)⟩ 5 (c, c + 1))
  exact frame_doc (str_row hb) (bI_ok s) (by rw [bI_length]; exact hs) fun l1 h1 B1 K1 N1 => ⟨l1, rfl, hQ l1 h1 B1 (k0.trans K1)⟩
end Go.Eng.YtblghgacokoklaaDoor
end
section
/-
  SPECS OF THE NAMES, 5: frames that are read; what current points to.
-/
set_option linter.unusedSimpArgs false
set_option linter.unusedVariables false
namespace Go.Eng.YtblghgacokoklaaDoor
/-- s[i:j:m] of single cells. -/
theorem cut1 {h : Hp} {s : Sl} {vs : List Value} (hr : h.row s.a s.n vs) {i j m : Nat} (hi : i ≤ j) (hj : j ≤ s.n) (hm : j ≤ m) : h.row (Sl.cut s 1 (i : Int) (j : Int) (m : Int)).a (Sl.cut s 1 (i : Int) (j : Int) (m : Int)).n ((vs.drop i).take (j - i)) ∧ (Sl.cut s 1 (i : Int) (j : Int) (m : Int)).n = j - i ∧ (Sl.cut s 1 (i : Int) (j : Int) (m : Int)).c = m - i := by
  have h1 := row_take (row_drop hr (k := i) (by omega)) (k := j - i) (by omega)
  have hn : (Sl.cut s 1 (i : Int) (j : Int) (m : Int)).n = j - i := by simp [Sl.cut]
  refine ⟨?_, hn, by simp [Sl.cut]⟩
  rw [hn]
  refine row_congr h1 ?_
  unfold Sl.cut
  simp only [Int.toNat_natCast]
  by_cases hmi : m = i
  · left; omega
  · right; rw [if_neg hmi, Nat.mul_one]
/-- New memory that holds a row's bytes. -/
theorem twin_of {h : Hp} {l : Sl} {bs : List Int} {Q : Value → Hp → Prop} (hr : h.row l.a l.n (bv bs)) (hs : bs.length ≤ 1000000)
    (hQ : ∀ (l' : Sl) (h' : Hp), h'.row l'.a l'.n (bv bs) → Keep h h' → Q (.slice l'.a l'.n l'.c) h') : F88.T l 0 h Q := by
  have hln : l.n = bs.length := by have := hr.1; rw [bv_length] at this; exact this.symm
  have hw : IntKind.wrap .i64 ((l.n : Int) + 0) = ((bs.length : Nat) : Int) := by rw [wrap_i64 (by omega) (by omega)]; omega
  unfold F88.T
  rw [hw]
  refine ⟨⟨by omega, by omega, by omega⟩, fun b hb => ?_⟩
  have hz : (Builtin.zeroCells (List.toArray [Value.int .u8 0]) (((bs.length : Nat) : Int)).toNat).size = bs.length := by
    rw [Int.toNat_natCast]; unfold Builtin.zeroCells; simp
  have hmin : Nat.min l.n (((l.n : Int) : Int).toNat) * 1 = l.n := by rw [Int.toNat_natCast, Nat.mul_one]; exact Nat.min_self _
  generalize hA : (Builtin.zeroCells (List.toArray [Value.int .u8 0]) (((bs.length : Nat) : Int)).toNat) = A at hz ⊢
  have k0 := Keep.new hb (.cells A 5 (0, 0))
  have hc : (h.new b (.cells A 5 (0, 0))) b = some (.cells A 5 (0, 0)) := by unfold Hp.new; rw [if_pos rfl]
  refine ⟨bv bs, by rw [hmin]; exact k0.row hr, bv_one bs, .inr ⟨b, 0, rfl, A, 5, (0, 0), hc, by rw [bv_length, hz]; omega, fun j _ _ => by simp⟩, ?_⟩
  refine hQ ⟨some ⟨b, 0, none⟩, ((l.n : Int)).toNat, (((bs.length : Nat) : Int)).toNat⟩ _ ?_ ?_
  · refine ⟨by rw [bv_length]; show bs.length = ((l.n : Int)).toNat; omega, .inr ⟨b, 0, rfl, fun j hj => ?_⟩⟩
    have hj : j < ((l.n : Int)).toNat := hj
    rw [Nat.zero_add]
    unfold Hp.at
    rw [show ((h.new b (.cells A 5 (0, 0))).wrA (some ⟨b, 0, none⟩) (bv bs)) b = _ from wr_at hc]
    show (List.toArray _)[j]? = _
    rw [List.getElem?_toArray, setL_get' _ _ _ _ (by have h9 : A.toList.length = bs.length := hz; rw [h9, bv_length]; omega), if_pos (by rw [bv_length]; omega), Nat.sub_zero]
  · intro x o hx
    have hne : x ≠ b := fun e => by rw [e, hb] at hx; cases hx
    show ((h.new b (.cells A 5 (0, 0))).wr b 0 (bv bs)) x = _
    unfold Hp.wr Hp.new
    rw [if_neg hne, if_neg hne]
    exact hx
/-- A frame that is read: its body, how many bytes it takes, the error. -/
def unF (bs : List Int) : List Int × Nat × Int :=
  if (uR 0 0 bs).2.2 = 0 then
    if 262144 < (uR 0 0 bs).1 then ([], 0, 22)
    else if bs.length < (uR 0 0 bs).2.1 + (uR 0 0 bs).1.toNat + 4 then ([], 0, 20)
    else if fourB (sumB (bs.take ((uR 0 0 bs).2.1 + (uR 0 0 bs).1.toNat))) = (bs.drop ((uR 0 0 bs).2.1 + (uR 0 0 bs).1.toNat)).take 4 then
      ((bs.drop (uR 0 0 bs).2.1).take (uR 0 0 bs).1.toNat, (uR 0 0 bs).2.1 + (uR 0 0 bs).1.toNat + 4, 0)
    else ([], 0, 23)
  else ([], 0, (uR 0 0 bs).2.2)
theorem ok_take {l : List Int} (h : okB8 l) (k : Nat) : okB8 (l.take k) := fun c hc => h c (List.mem_of_mem_take hc)
theorem ok_drop {l : List Int} (h : okB8 l) (k : Nat) : okB8 (l.drop k) := fun c hc => h c (List.mem_of_mem_drop hc)
theorem unF_ok {bs : List Int} (h : okB8 bs) : okB8 (unF bs).1 := by
  have nil : okB8 [] := fun c hc => by cases hc
  unfold unF
  split
  · split
    · exact nil
    · split
      · exact nil
      · split
        · exact ok_take (ok_drop h _) _
        · exact nil
  · exact nil
theorem unF_len (bs : List Int) : (unF bs).1.length ≤ 262144 := by
  unfold unF
  split
  · split
    · simp
    · rename_i h
      split
      · simp
      · split
        · simp only [List.length_take]
          have := (uR_ok bs 0 0).1
          omega
        · simp
  · simp
theorem toB_inj {a b : List Int} (ha : okB8 a) (hb : okB8 b) (h : toB a = toB b) : a = b := by
  have h1 := toB_V ha
  have h2 := toB_V hb
  rw [h] at h1
  have h3 : bv a = bv b := h1.symm.trans h2
  have : ∀ (a b : List Int), bv a = bv b → a = b := by
    intro a
    induction a with
    | nil => intro b h; cases b with
      | nil => rfl
      | cons _ _ => simp [bv] at h
    | cons x a ih => intro b h; cases b with
      | nil => simp [bv] at h
      | cons y b =>
        simp only [bv, List.map_cons, List.cons.injEq, Value.int.injEq, true_and] at h
        rw [h.1, ih b h.2]
  exact this a b h3
theorem ends_of {h : Hp} {l l1 : Sl} {bs four : List Int} {Q : Value → Hp → Prop} (T : Tab h) (hr : h.row l.a l.n (bv bs)) (hc : l.c = l.n) (hr1 : h.row l1.a l1.n (bv four)) (hok : okB8 bs) (hok1 : okB8 four) (hs : bs.length + 4 ≤ 140737488355328)
    (hQ : ∀ (b : Bool) h', (b = true ↔ fourB (sumB bs) = four) → Keep h h' → Q (.bool b) h') : F87.T l l1 h Q := by
  have hln : l.n = bs.length := by have := hr.1; rw [bv_length] at this; exact this.symm
  refine ⟨toB four, by rw [toB_V hok1]; exact hr1, sum_full T hr hc hok hs fun l2 h2 B2 K2 N2 => ?_⟩
  have l2n : l2.n = bs.length + 4 := by have := B2.len; rw [bv_length, List.length_append] at this; simp [fourB] at this; omega
  have r2 := B2.row
  rw [Nat.mul_one] at r2
  have hcap := B2.cap
  obtain ⟨rc, _, _⟩ := cut1 r2 (i := l.n) (j := l2.n) (m := l2.c) (by omega) (Nat.le_refl _) hcap
  have e : ((bv (bs ++ fourB (sumB bs))).drop l.n).take (l2.n - l.n) = bv (fourB (sumB bs)) := by
    rw [bv_append, List.drop_append_of_le_length (by rw [bv_length]; omega), List.drop_of_length_le (by rw [bv_length]; omega), List.nil_append]
    exact List.take_of_length_le (by rw [bv_length]; show 4 ≤ _; omega)
  rw [e] at rc
  refine ⟨l2, rfl, by rw [toB_V hok1]; exact K2.row hr1, ⟨by omega, by omega, by omega, by omega⟩, toB (fourB (sumB bs)), by rw [toB_V (fourB_ok _)]; exact rc, fun he => ?_, fun hne => ?_⟩
  · exact hQ true h2 ⟨fun _ => toB_inj (fourB_ok _) hok1 he, fun _ => rfl⟩ K2
  · exact hQ false h2 ⟨fun q => (by cases q), fun q => absurd (by rw [q]) hne⟩ K2
theorem unframe_of {h : Hp} {l : Sl} {bs : List Int} {Q : Value → Hp → Prop} (T : Tab h) (hr : h.row l.a l.n (bv bs)) (hc : l.n ≤ l.c) (hok : okB8 bs) (hs : bs.length + 20 ≤ 140737488355328)
    (hQ : ∀ (l' : Sl) (h' : Hp), h'.row l'.a l'.n (bv (unF bs).1) → Keep h h' → Q (.tuple ⟨[.slice l'.a l'.n l'.c, .int .i64 ((unF bs).2.1 : Int), .int .i64 (unF bs).2.2]⟩) h') : F42.T l h Q := by
  have hln : l.n = bs.length := by have := hr.1; rw [bv_length] at this; exact this.symm
  have none_ : ∀ (e : Int) h', unF bs = ([], 0, e) → Keep h h' → Q (.tuple ⟨[.slice none 0 0, .int .i64 0, .int .i64 e]⟩) h' := fun e h' he K => by
    have := hQ ⟨none, 0, 0⟩ h'
    rw [he] at this
    exact this ⟨rfl, .inl rfl⟩ K
  refine uint_spec hr ⟨_, _, _, rfl, fun h0 => ⟨fun hbig => ?_, fun hbig => ⟨fun hsh => ?_, fun hsh => ?_⟩⟩, fun h0 => ?_⟩
  · exact none_ 22 h (by unfold unF; rw [if_pos h0, if_pos hbig]) (Keep.refl h)
  all_goals have hu := uR_ok bs 0 0
  rotate_right
  · exact none_ _ h (by unfold unF; rw [if_neg h0]) (Keep.refl h)
  all_goals
    have hk := uR_take bs 0 0 h0
    obtain ⟨n, hn⟩ : ∃ n : Nat, (uR 0 0 bs).1 = (n : Int) := ⟨(uR 0 0 bs).1.toNat, by have := hu.1; omega⟩
    generalize hkk : (uR 0 0 bs).2.1 = k at *
    have hn1 : n ≤ 262144 := by rw [hn] at hbig; omega
    have w1 : IntKind.wrap .u64 (IntKind.wrap .i64 ((l.n : Int) - (k : Int))) = ((bs.length - k : Nat) : Int) := by
      rw [wrap_i64 (by omega) (by omega), wrap_u64 (by omega) (by omega)]; omega
    have w2 : IntKind.wrap .u64 ((uR 0 0 bs).1 + 4) = ((n + 4 : Nat) : Int) := by rw [hn, wrap_u64 (by omega) (by omega)]; omega
    have w3 : IntKind.wrap .i64 ((k : Int) + IntKind.wrap .i64 (uR 0 0 bs).1) = ((k + n : Nat) : Int) := by rw [hn, wrap_i64 (n := (n : Int)) (by omega) (by omega), wrap_i64 (by omega) (by omega)]; omega
    rw [w1, w2] at hsh
  · exact none_ 20 h (by unfold unF; rw [if_pos h0, if_neg hbig, hkk, hn, Int.toNat_natCast, if_pos (by omega)]) (Keep.refl h)
  · have hle : k + n + 4 ≤ bs.length := by omega
    have w4 : IntKind.wrap .i64 (((k + n : Nat) : Int) + 4) = ((k + n + 4 : Nat) : Int) := by rw [wrap_i64 (by omega) (by omega)]; omega
    rw [w3, w4]
    obtain ⟨c1, c1n, c1c⟩ := cut1 hr (i := 0) (j := k + n) (m := k + n) (by omega) (by omega) (Nat.le_refl _)
    obtain ⟨c2, c2n, _⟩ := cut1 hr (i := k + n) (j := k + n + 4) (m := l.c) (by omega) (by omega) (by omega)
    obtain ⟨c3, c3n, _⟩ := cut1 hr (i := k) (j := k + n) (m := l.c) (by omega) (by omega) (by omega)
    have e1 : ((bv bs).drop 0).take (k + n - 0) = bv (bs.take (k + n)) := by unfold bv; rw [List.drop_zero, Nat.sub_zero, List.map_take]
    have e2 : ((bv bs).drop (k + n)).take (k + n + 4 - (k + n)) = bv ((bs.drop (k + n)).take 4) := by
      unfold bv; rw [List.map_take, List.map_drop, Nat.add_sub_cancel_left]
    have e3 : ((bv bs).drop k).take (k + n - k) = bv ((bs.drop k).take n) := by
      unfold bv; rw [List.map_take, List.map_drop, Nat.add_sub_cancel_left]
    rw [e1] at c1; rw [e2] at c2; rw [e3] at c3
    have c1n : (Sl.cut l 1 (0 : Int) ((k + n : Nat) : Int) ((k + n : Nat) : Int)).n = k + n - 0 := c1n
    have c1c : (Sl.cut l 1 (0 : Int) ((k + n : Nat) : Int) ((k + n : Nat) : Int)).c = k + n - 0 := c1c
    refine ⟨⟨by omega, by omega, by omega, by omega⟩, ⟨by omega, by omega, by omega, by omega⟩, ends_of T c1 (by omega) c2 (ok_take hok _) (ok_take (ok_drop hok _) _) (by rw [List.length_take]; omega) fun b h1 hb K => ⟨b, rfl, fun ht => ⟨⟨by omega, by omega, by omega, by omega⟩, twin_of (K.row c3) (by rw [List.length_take]; omega) fun l' h2 r' K2 => ⟨l', rfl, ?_⟩⟩, fun hf => ?_⟩⟩
    · have e := hb.1 ht
      have he : unF bs = ((bs.drop k).take n, k + n + 4, 0) := by
        unfold unF; rw [if_pos h0, if_neg hbig, hkk, hn, Int.toNat_natCast, if_neg (by omega), if_pos e]
      have := hQ l' h2
      rw [he] at this
      exact this r' (K.trans K2)
    · have e : ¬ fourB (sumB (bs.take (k + n))) = (bs.drop (k + n)).take 4 := fun q => by have := hb.2 q; rw [this] at hf; cases hf
      exact none_ 23 h1 (by unfold unF; rw [if_pos h0, if_neg hbig, hkk, hn, Int.toNat_natCast, if_neg (by omega), if_neg e]) K
end Go.Eng.YtblghgacokoklaaDoor
end
section
/-
  SPECS OF THE NAMES, 7: bytes that are laid in a room.
-/
set_option linter.unusedSimpArgs false
set_option linter.unusedVariables false
set_option maxRecDepth 100000
namespace Go.Eng.YtblghgacokoklaaDoor
theorem bufSet {h : Hp} {s : Sl} {sz t k : Nat} {vs : List Value} (B : Buf h s sz t vs) (hk : k < vs.length) : ∃ b, s.a = some ⟨b, 0, none⟩ ∧ h.at b k = vs[k]? ∧ h.canW b k 1 ∧ ∀ v, Upd h (h.wr b k [v]) s s ∧ Buf (h.wr b k [v]) s sz t (vs.set k v) := by
  rcases B.own with ⟨ha, hc⟩ | ⟨b, c, f, ha, hb, hsz, hf, ht⟩
  · have h1 := B.len
    have h2 := B.cap
    have : s.n = 0 := by omega
    rw [this, Nat.zero_mul] at h1
    omega
  · have hlen : vs.length ≤ c.size := by
      rw [B.len]
      exact Nat.le_trans (Nat.mul_le_mul_right _ B.cap) hsz
    have hget : c[k]? = vs[k]? := by
      rw [← ht, List.getElem?_take, if_pos hk, Array.getElem?_toList]
    refine ⟨b, ha, by unfold Hp.at; rw [hb]; exact hget, ⟨c, t, f, hb, by omega, fun j h1 h2 => hf j (by omega)⟩, fun v => ⟨⟨fun j x hj e => ?_, .inl rfl, fun j e => ?_⟩, ⟨by rw [List.length_set]; exact B.len, B.cap, .inr ⟨b, (setL c.toList k [v]).toArray, f, ha, wr_at hb, ?_, ?_, ?_⟩⟩⟩⟩
    · have hjb : j ≠ b := fun q => hj 0 (by rw [q]; exact ha)
      unfold Hp.wr
      rw [if_neg hjb]
      exact e
    · unfold Hp.wr at e
      by_cases hjb : j = b
      · rw [if_pos hjb, hb] at e; cases e
      · rw [if_neg hjb] at e; exact e
    · simp only [List.size_toArray, setL_length, Array.length_toList]; exact hsz
    · intro j hj
      simp only [List.size_toArray, setL_length, Array.length_toList] at hj
      exact hf j hj
    · show ((c.toList.set k v).take (vs.set k v).length) = vs.set k v
      rw [List.length_set, List.take_set, ht]

theorem keepWr {h h1 : Hp} {b : Nat} (hb : h b = none) (K : Keep h h1) (o : Nat) (vs : List Value) : Keep h (h1.wr b o vs) := by
  intro k x e
  unfold Hp.wr
  by_cases hk : k = b
  · rw [hk, hb] at e; cases e
  · rw [if_neg hk]; exact K k x e
theorem newSelf (h : Hp) (b : Nat) (o : Obj) : (h.new b o) b = some o := by unfold Hp.new; rw [if_pos rfl]
theorem newGrow {h h1 h2 : Hp} {s s' : Sl} (N : New h s) (K : Keep h h1) (U : Upd h1 h2 s s') : New h s' := by
  rcases U.at_ with h0 | ⟨b, hb, hn⟩
  · obtain ⟨b, hb, hn⟩ := N
    exact ⟨b, by rw [h0]; exact hb, hn⟩
  · exact ⟨b, hb, K.dom b hn⟩
def lotN (n : Nat) : Int := if n % 2 = 0 then -7701 else -7702
def lb (n : Nat) : Int := IntKind.wrap .u8 (lotN n)
def lots (k : Nat) : List Int := (List.range k).map lb
theorem lots_succ (k : Nat) : lots (k + 1) = lots k ++ [lb k] := by unfold lots; rw [List.range_succ, List.map_append]; rfl
theorem lots_len (k : Nat) : (lots k).length = k := by unfold lots; rw [List.length_map, List.length_range]
theorem lot_spec {h : Hp} {n : Nat} {Q : Value → Hp → Prop} (hQ : Q (.int .i64 (lotN n)) h) : F85.T (n : Int) h Q := by
  have e : Int.tmod (n : Int) 2 = ((n % 2 : Nat) : Int) := by rw [Int.tmod_eq_emod_of_nonneg (by omega)]; omega
  refine ⟨by decide, fun h0 => ?_, fun h0 => ?_⟩
  · unfold lotN at hQ; rw [if_pos (by omega)] at hQ; exact hQ
  · unfold lotN at hQ; rw [if_neg (by omega)] at hQ; exact hQ
def roomB (w n : Sl) : List Value := [.slice w.a w.n w.c, .slice n.a n.n n.c, .slice none 0 0, .slice none 0 0, .slice none 0 0, .slice none 0 0, .slice none 0 0, .slice none 0 0, .slice none 0 0, .slice none 0 0, .slice none 0 0, .slice none 0 0, .slice none 0 0, .slice none 0 0, .slice none 0 0, .slice none 0 0, .slice none 0 0, .slice none 0 0, .slice none 0 0, .slice none 0 0, .slice none 0 0, .slice none 0 0, .slice none 0 0, .slice none 0 0, .slice none 0 0, .slice none 0 0, .slice none 0 0, .slice none 0 0]
theorem roomB_buf {h : Hp} {pb : Nat} {w n : Sl} (hc : h pb = some (.cells ⟨roomB w n⟩ 46 (0, 0))) : Buf h (rb pb) 28 46 (roomB w n) :=
  ⟨rfl, Nat.le_refl _, .inr ⟨pb, _, (0, 0), rfl, hc, Nat.le_refl _, fun j _ => by simp, rfl⟩⟩
def oneS (s : Sl) : List Value := [.slice s.a s.n s.c]
/-- A room that has handed out one list of bytes. -/
structure One (h0 h : Hp) (pb : Nat) (w n s : Sl) (r : List Int) : Prop where
  cell : h pb = some (.cells ⟨roomB w n⟩ 46 (0, 0))
  keep : Keep h0 h
  W : Buf h w 1 23 (oneS s)
  N : Buf h n 1 3 [.int .i64 (r.length : Int)]
  S : Buf h s 1 5 (bv (r ++ lots 600))
  snew : New h0 s
theorem lay_one {h0 h : Hp} {pb : Nat} {l : Sl} {r : List Int} {Q : Value → Hp → Prop} (hc : h pb = some (.cells ⟨roomB ⟨none, 0, 0⟩ ⟨none, 0, 0⟩⟩ 46 (0, 0))) (hn : h0 pb = none) (K : Keep h0 h) (hr : h0.row l.a l.n (bv r)) (hs : r.length + 600 ≤ 140737488355328)
    (hQ : ∀ h' w' n' s, One h0 h' pb w' n' s r → s.n = r.length + 600 → s.n ≤ s.c →
      Q (.slice (Sl.cut s 1 0 (l.n : Int) (s.n : Int)).a (Sl.cut s 1 0 (l.n : Int) (s.n : Int)).n (Sl.cut s 1 0 (l.n : Int) (s.n : Int)).c) h') : F41.T (some ⟨pb, 0, none⟩) l 600 h Q := by
  have hln : l.n = r.length := by have := hr.1; rw [bv_length] at this; exact this.symm
  intro b hb
  have hb2 : (h.new b (.cells ⟨[]⟩ 5 (0, 0))) b = some (.cells ⟨[]⟩ 5 (0, 0)) := newSelf h b _
  have B0 : Buf (h.new b (.cells ⟨[]⟩ 5 (0, 0))) ⟨some ⟨b, 0, none⟩, 0, 0⟩ 1 5 [] := ⟨rfl, Nat.le_refl _, .inr ⟨b, _, (0, 0), rfl, hb2, Nat.le_refl _, fun j _ => by simp, rfl⟩⟩
  have k0 : Keep h (h.new b (.cells ⟨[]⟩ 5 (0, 0))) := Keep.new hb _
  have N0 : New h ⟨some ⟨b, 0, none⟩, 0, 0⟩ := ⟨b, rfl, hb⟩
  refine ⟨bv r, by rw [Nat.mul_one]; exact (K.trans k0).row hr, bv_one r, ?_⟩
  refine append_buf B0 rfl (by rw [bv_length]; omega) (by show (0 + l.n) * 1 ≤ _; omega) fun s1 h1 B1 hn1 U1 => ?_
  refine ⟨fun l2 n1 h2 => ∃ j : Nat, n1 = (j : Int) ∧ j ≤ 600 ∧ Buf h2 l2 1 5 (bv (r ++ lots j)) ∧ Keep h h2 ∧ New h l2, fun _ n1 _ => 600 - n1.toNat, ⟨0, rfl, Nat.zero_le _, by simpa [lots] using B1, (keep_grow k0 (.inr N0) U1).1, newGrow N0 k0 U1⟩, ?_⟩
  rintro l2 n1 h2 ⟨j, rfl, hj, B2, K2, N2⟩
  have l2n : l2.n = r.length + j := by have := B2.len; rw [bv_length, List.length_append, lots_len] at this; omega
  refine ⟨fun hlt => lot_spec ⟨_, rfl, ?_⟩, fun hge => ?_⟩
  · have w3 : IntKind.wrap .i64 ((j : Int) + 1) = ((j + 1 : Nat) : Int) := next_b (n := 600) (by omega) (by omega)
    refine append_buf B2 rfl rfl (by omega) fun l3 h4 B4 hn4 U4 => ?_
    rw [w3]
    refine ⟨⟨j + 1, rfl, by omega, ?_, (keep_grow K2 (.inr N2) U4).1, newGrow N2 K2 U4⟩, by dsimp only; omega⟩
    rw [lots_succ, ← List.append_assoc, bv_append]
    exact B4
  · have hj4 : j = 600 := by omega
    subst hj4
    have c2 := K2 _ _ hc
    refine ⟨pb, 0, rfl, ⟨none, 0, 0⟩, by unfold Hp.at; rw [c2]; rfl, ?_⟩
    have W0 : Buf h2 ⟨none, 0, 0⟩ 1 23 [] := Buf.nil h2 1 23
    refine append_buf W0 rfl rfl (by decide) fun l5 h5 B5 hn5 U5 => ?_
    have k5 := U5.keepNil rfl
    have c5 := k5 _ _ c2
    have P5 := roomB_buf c5
    have U5' : Upd h5 (h5.wr pb 0 [.slice l5.a l5.n l5.c]) (rb pb) (rb pb) := upd_wr c5
    have c5' : (h5.wr pb 0 [.slice l5.a l5.n l5.c]) pb = some (.cells ⟨roomB l5 ⟨none, 0, 0⟩⟩ 46 (0, 0)) := wr_at c5
    refine ⟨pb, 0, rfl, ⟨_, _, _, c5, Nat.le_of_ble_eq_true rfl, fun j _ _ => by simp⟩, pb, 0, rfl, ⟨none, 0, 0⟩, by unfold Hp.at; rw [c5']; rfl, ?_⟩
    have N5 : Buf (h5.wr pb 0 [.slice l5.a l5.n l5.c]) ⟨none, 0, 0⟩ 1 3 [] := Buf.nil _ 1 3
    refine append_buf N5 rfl rfl (by decide) fun l7 h6 B6 hn6 U6 => ?_
    have k6 := U6.keepNil rfl
    have c6 := k6 _ _ c5'
    have P6 := roomB_buf c6
    have U6' : Upd h6 (h6.wr pb (0 + 1) [.slice l7.a l7.n l7.c]) (rb pb) (rb pb) := upd_wr c6
    have c6' : (h6.wr pb (0 + 1) [.slice l7.a l7.n l7.c]) pb = some (.cells ⟨roomB l5 l7⟩ 46 (0, 0)) := wr_at c6
    refine ⟨pb, 0, rfl, ⟨_, _, _, c6, Nat.le_of_ble_eq_true rfl, fun j _ _ => by simp⟩, ⟨by decide, by omega, by omega, by have := B2.cap; omega⟩, ?_⟩
    rw [List.nil_append] at B5 B6
    have W5' := B5.upd U5' (buf_off B5 P5 (by decide))
    have W6' := (W5'.keep k6).upd U6' (buf_off (W5'.keep k6) P6 (by decide))
    have L5' := (B2.keep k5).upd U5' (buf_off (B2.keep k5) P5 (by decide))
    have L6' := (L5'.keep k6).upd U6' (buf_off (L5'.keep k6) P6 (by decide))
    have Kall : Keep h0 (h6.wr pb (0 + 1) [.slice l7.a l7.n l7.c]) := keepWr hn ((keepWr hn ((K.trans K2).trans k5) 0 _).trans k6) _ _
    refine hQ _ l5 l7 l2 ⟨c6', Kall, W6', ?_, L6', ?_⟩ l2n B2.cap
    · have := B6.upd U6' (buf_off B6 P6 (by decide))
      rw [hln] at this
      exact this
    · obtain ⟨b', e', hn'⟩ := N2
      exact ⟨b', e', K.dom _ hn'⟩
theorem hold44 {h0 h : Hp} {pb : Nat} {w n s : Sl} {r : List Int} {Q : Value → Hp → Prop} (O : One h0 h pb w n s r) (hs : r.length + 600 ≤ 140737488355328) (hQ : Q (.bool true) h) : F44.T (some ⟨pb, 0, none⟩) h Q := by
  have hwn : w.n = 1 := by have := O.W.len; simp [oneS] at this; omega
  have hnn : n.n = 1 := by have := O.N.len; simp at this; omega
  have hsn : s.n = r.length + 600 := by have := O.S.len; rw [bv_length, List.length_append, lots_len] at this; omega
  have hc := O.cell
  have rW := O.W.row
  have rN := O.N.row
  have rB := O.S.row
  rw [Nat.mul_one] at rW rN rB
  refine ⟨fun n h1 => ∃ i : Nat, n = (i : Int) ∧ i ≤ 1 ∧ h1 = h, fun n _ => 1 - n.toNat, ⟨0, rfl, by decide, rfl⟩, ?_⟩
  rintro n2 h1 ⟨i, rfl, hi, rfl⟩
  refine ⟨pb, 0, rfl, w, by unfold Hp.at; rw [hc]; rfl, fun hlt => ?_, fun _ => hQ⟩
  have hi0 : i = 0 := by omega
  subst hi0
  obtain ⟨b2, o2, ha2, hat2⟩ := row_get rN (i := 0) (by omega)
  obtain ⟨b4, o4, ha4, hat4⟩ := row_get rW (i := 0) (by omega)
  have c2 : h1.at b2 (o2 + (((0 : Nat) : Int)).toNat) = some (.int .i64 (r.length : Int)) := by rw [Int.toNat_natCast, hat2 0 (by omega)]; rfl
  have c4 : h1.at b4 (o4 + (((0 : Nat) : Int)).toNat) = some (.slice s.a s.n s.c) := by rw [Int.toNat_natCast, hat4 0 (by omega)]; rfl
  refine ⟨pb, 0, rfl, n, by unfold Hp.at; rw [hc]; rfl, b2, o2, ha2, ⟨by omega, by omega⟩, _, c2, ?_⟩
  refine ⟨fun n2 h2 => ∃ j : Nat, n2 = ((r.length + j : Nat) : Int) ∧ j ≤ 600 ∧ h2 = h1, fun n2 _ => r.length + 600 - n2.toNat, ⟨0, rfl, by decide, rfl⟩, ?_⟩
  rintro n3 h2 ⟨j, rfl, hj, rfl⟩
  refine ⟨pb, 0, rfl, w, by unfold Hp.at; rw [hc]; rfl, b4, o4, ha4, ⟨by omega, by omega⟩, _, c4, fun hlt2 => ?_, fun hge2 => ?_⟩
  · have hj4 : j < 600 := by omega
    obtain ⟨b7, o7, ha7, hat7⟩ := row_get rB (i := r.length + j) (by omega)
    have c7 : h2.at b7 (o7 + (((r.length + j : Nat) : Int)).toNat) = some (.int .u8 (lb j)) := by
      rw [Int.toNat_natCast, hat7 _ (by omega)]
      unfold bv
      rw [List.getElem?_map, List.getElem?_append_right (by omega), Nat.add_sub_cancel_left]
      unfold lots
      rw [List.getElem?_map, List.getElem?_range hj4]
      rfl
    have w1 : IntKind.wrap .i64 (((r.length + j : Nat) : Int) - (r.length : Int)) = (j : Int) := by rw [wrap_i64 (by omega) (by omega)]; omega
    have w2 : IntKind.wrap .i64 (((r.length + j : Nat) : Int) + 1) = ((r.length + (j + 1) : Nat) : Int) := by rw [wrap_i64 (by omega) (by omega)]; omega
    refine ⟨pb, 0, rfl, w, by unfold Hp.at; rw [hc]; rfl, b4, o4, ha4, ⟨by omega, by omega⟩, _, c4, b7, o7, ha7, ⟨by omega, hlt2⟩, _, c7, ?_⟩
    rw [w1, w2]
    exact lot_spec ⟨_, rfl, fun _ => ⟨⟨j + 1, rfl, by omega, rfl⟩, by dsimp only; omega⟩, fun h0 => absurd rfl h0⟩
  · exact ⟨⟨1, by decide, Nat.le_refl _, rfl⟩, by dsimp only; rw [show IntKind.wrap .i64 (((0 : Nat) : Int) + 1) = 1 by decide]; decide⟩
theorem hold45 {h : Hp} {pb : Nat} {Q : Value → Hp → Prop} (hc : h.at pb (0 + 2) = some (.slice none 0 0)) (hQ : Q (.bool true) h) : F45.T (some ⟨pb, 0, none⟩) h Q := by
  refine ⟨fun n h1 => n = 0 ∧ h1 = h, fun _ _ => 0, ⟨rfl, rfl⟩, ?_⟩
  rintro n h1 ⟨rfl, rfl⟩
  exact ⟨pb, 0, rfl, ⟨none, 0, 0⟩, hc, fun h0 => absurd h0 (by decide), fun _ => hQ⟩
theorem hold46 {h : Hp} {pb : Nat} {Q : Value → Hp → Prop} (hc : h.at pb (0 + 4) = some (.slice none 0 0)) (hQ : Q (.bool true) h) : F46.T (some ⟨pb, 0, none⟩) h Q := by
  refine ⟨fun n h1 => n = 0 ∧ h1 = h, fun _ _ => 0, ⟨rfl, rfl⟩, ?_⟩
  rintro n h1 ⟨rfl, rfl⟩
  exact ⟨pb, 0, rfl, ⟨none, 0, 0⟩, hc, fun h0 => absurd h0 (by decide), fun _ => hQ⟩
theorem hold47 {h : Hp} {pb : Nat} {Q : Value → Hp → Prop} (hc : h.at pb (0 + 6) = some (.slice none 0 0)) (hQ : Q (.bool true) h) : F47.T (some ⟨pb, 0, none⟩) h Q := by
  refine ⟨fun n h1 => n = 0 ∧ h1 = h, fun _ _ => 0, ⟨rfl, rfl⟩, ?_⟩
  rintro n h1 ⟨rfl, rfl⟩
  exact ⟨pb, 0, rfl, ⟨none, 0, 0⟩, hc, fun h0 => absurd h0 (by decide), fun _ => hQ⟩
theorem hold48 {h : Hp} {pb : Nat} {Q : Value → Hp → Prop} (hc : h.at pb (0 + 8) = some (.slice none 0 0)) (hQ : Q (.bool true) h) : F48.T (some ⟨pb, 0, none⟩) h Q := by
  refine ⟨fun n h1 => n = 0 ∧ h1 = h, fun _ _ => 0, ⟨rfl, rfl⟩, ?_⟩
  rintro n h1 ⟨rfl, rfl⟩
  exact ⟨pb, 0, rfl, ⟨none, 0, 0⟩, hc, fun h0 => absurd h0 (by decide), fun _ => hQ⟩
theorem hold49 {h : Hp} {pb : Nat} {Q : Value → Hp → Prop} (hc : h.at pb (0 + 10) = some (.slice none 0 0)) (hQ : Q (.bool true) h) : F49.T (some ⟨pb, 0, none⟩) h Q := by
  refine ⟨fun n h1 => n = 0 ∧ h1 = h, fun _ _ => 0, ⟨rfl, rfl⟩, ?_⟩
  rintro n h1 ⟨rfl, rfl⟩
  exact ⟨pb, 0, rfl, ⟨none, 0, 0⟩, hc, fun h0 => absurd h0 (by decide), fun _ => hQ⟩
theorem hold50 {h : Hp} {pb : Nat} {Q : Value → Hp → Prop} (hc : h.at pb (0 + 12) = some (.slice none 0 0)) (hQ : Q (.bool true) h) : F50.T (some ⟨pb, 0, none⟩) h Q := by
  refine ⟨fun n h1 => n = 0 ∧ h1 = h, fun _ _ => 0, ⟨rfl, rfl⟩, ?_⟩
  rintro n h1 ⟨rfl, rfl⟩
  exact ⟨pb, 0, rfl, ⟨none, 0, 0⟩, hc, fun h0 => absurd h0 (by decide), fun _ => hQ⟩
theorem hold51 {h : Hp} {pb : Nat} {Q : Value → Hp → Prop} (hc : h.at pb (0 + 14) = some (.slice none 0 0)) (hQ : Q (.bool true) h) : F51.T (some ⟨pb, 0, none⟩) h Q := by
  refine ⟨fun n h1 => n = 0 ∧ h1 = h, fun _ _ => 0, ⟨rfl, rfl⟩, ?_⟩
  rintro n h1 ⟨rfl, rfl⟩
  exact ⟨pb, 0, rfl, ⟨none, 0, 0⟩, hc, fun h0 => absurd h0 (by decide), fun _ => hQ⟩
theorem hold52 {h : Hp} {pb : Nat} {Q : Value → Hp → Prop} (hc : h.at pb (0 + 16) = some (.slice none 0 0)) (hQ : Q (.bool true) h) : F52.T (some ⟨pb, 0, none⟩) h Q := by
  refine ⟨fun n h1 => n = 0 ∧ h1 = h, fun _ _ => 0, ⟨rfl, rfl⟩, ?_⟩
  rintro n h1 ⟨rfl, rfl⟩
  exact ⟨pb, 0, rfl, ⟨none, 0, 0⟩, hc, fun h0 => absurd h0 (by decide), fun _ => hQ⟩
theorem hold53 {h : Hp} {pb : Nat} {Q : Value → Hp → Prop} (hc : h.at pb (0 + 18) = some (.slice none 0 0)) (hQ : Q (.bool true) h) : F53.T (some ⟨pb, 0, none⟩) h Q := by
  refine ⟨fun n h1 => n = 0 ∧ h1 = h, fun _ _ => 0, ⟨rfl, rfl⟩, ?_⟩
  rintro n h1 ⟨rfl, rfl⟩
  exact ⟨pb, 0, rfl, ⟨none, 0, 0⟩, hc, fun h0 => absurd h0 (by decide), fun _ => hQ⟩
theorem hold54 {h : Hp} {pb : Nat} {Q : Value → Hp → Prop} (hc : h.at pb (0 + 20) = some (.slice none 0 0)) (hQ : Q (.bool true) h) : F54.T (some ⟨pb, 0, none⟩) h Q := by
  refine ⟨fun n h1 => n = 0 ∧ h1 = h, fun _ _ => 0, ⟨rfl, rfl⟩, ?_⟩
  rintro n h1 ⟨rfl, rfl⟩
  exact ⟨pb, 0, rfl, ⟨none, 0, 0⟩, hc, fun h0 => absurd h0 (by decide), fun _ => hQ⟩
theorem hold55 {h : Hp} {pb : Nat} {Q : Value → Hp → Prop} (hc : h.at pb (0 + 22) = some (.slice none 0 0)) (hQ : Q (.bool true) h) : F55.T (some ⟨pb, 0, none⟩) h Q := by
  refine ⟨fun n h1 => n = 0 ∧ h1 = h, fun _ _ => 0, ⟨rfl, rfl⟩, ?_⟩
  rintro n h1 ⟨rfl, rfl⟩
  exact ⟨pb, 0, rfl, ⟨none, 0, 0⟩, hc, fun h0 => absurd h0 (by decide), fun _ => hQ⟩
theorem hold56 {h : Hp} {pb : Nat} {Q : Value → Hp → Prop} (hc : h.at pb (0 + 24) = some (.slice none 0 0)) (hQ : Q (.bool true) h) : F56.T (some ⟨pb, 0, none⟩) h Q := by
  refine ⟨fun n h1 => n = 0 ∧ h1 = h, fun _ _ => 0, ⟨rfl, rfl⟩, ?_⟩
  rintro n h1 ⟨rfl, rfl⟩
  exact ⟨pb, 0, rfl, ⟨none, 0, 0⟩, hc, fun h0 => absurd h0 (by decide), fun _ => hQ⟩
theorem hold57 {h : Hp} {pb : Nat} {Q : Value → Hp → Prop} (hc : h.at pb (0 + 26) = some (.slice none 0 0)) (hQ : Q (.bool true) h) : F57.T (some ⟨pb, 0, none⟩) h Q := by
  refine ⟨fun n h1 => n = 0 ∧ h1 = h, fun _ _ => 0, ⟨rfl, rfl⟩, ?_⟩
  rintro n h1 ⟨rfl, rfl⟩
  exact ⟨pb, 0, rfl, ⟨none, 0, 0⟩, hc, fun h0 => absurd h0 (by decide), fun _ => hQ⟩
theorem hold_one {h0 h : Hp} {pb : Nat} {w n s : Sl} {r : List Int} {Q : Value → Hp → Prop} (O : One h0 h pb w n s r) (hs : r.length + 600 ≤ 140737488355328) (hQ : Q (.bool true) h) : F16.T (some ⟨pb, 0, none⟩) h Q := by
  have nx : ∀ {A B : Prop}, A → ∃ b : Bool, (Value.bool true) = .bool b ∧ parB b A B := fun {A B} a => ⟨true, rfl, fun _ => a, fun h0 => (by cases h0)⟩
  have z : ∀ k, (roomB w n)[k]? = some (.slice none 0 0) → h.at pb (0 + k) = some (.slice none 0 0) := fun k e => by
    unfold Hp.at
    rw [O.cell, Nat.zero_add]
    show (List.toArray _)[k]? = _
    rw [List.getElem?_toArray]
    exact e
  exact hold44 O hs (nx (hold45 (z 2 rfl) (nx (hold46 (z 4 rfl) (nx (hold47 (z 6 rfl) (nx (hold48 (z 8 rfl) (nx (hold49 (z 10 rfl) (nx (hold50 (z 12 rfl) (nx (hold51 (z 14 rfl) (nx (hold52 (z 16 rfl) (nx (hold53 (z 18 rfl) (nx (hold54 (z 20 rfl) (nx (hold55 (z 22 rfl) (nx (hold56 (z 24 rfl) (nx (hold57 (z 26 rfl) (nx hQ)))))))))))))))))))))))))))
end Go.Eng.YtblghgacokoklaaDoor
end
section
/-
  SPECS, 8: reading a record.
-/
set_option linter.unusedSimpArgs false
set_option linter.unusedVariables false
namespace Go.Eng.YtblghgacokoklaaDoor
def maxI : Int := 9223372036854775807
def outR : Nat → List Place → RS → Option (List Place × RS)
  | 0, acc, s => some (acc, s)
  | f + 1, acc, s => if (rU (rW 4 s).2).2.bad = true then none else outR f (acc ++ [⟨(rW 4 s).1, (rU (rW 4 s).2).1⟩]) (rU (rW 4 s).2).2
def plS (s : RS) : Placed × RS :=
  let a := rW 4 s
  let b := rU a.2
  let c := rW 9223372036854775807 b.2
  let d := rW 9223372036854775807 c.2
  let e := rW 9223372036854775807 d.2
  let x := rT e.2
  let y := rT x.2
  (⟨a.1, b.1, c.1, d.1, e.1, x.1, y.1⟩, y.2)
def inR : Nat → List Placed → RS → Option (List Placed × RS)
  | 0, acc, s => some (acc, s)
  | f + 1, acc, s => if (plS s).2.bad = true then none else inR f (acc ++ [(plS s).1]) (plS s).2
def ptR : Nat → List ByteArray → RS → Option (List ByteArray × RS)
  | 0, acc, s => some (acc, s)
  | f + 1, acc, s => if (rT s).2.bad = true then none else ptR f (acc ++ [(rT s).1]) (rT s).2
def rdP (c a b d : Int) (o : List Place) (i : List Placed) (s : RS) : Option (Edit × Bool) :=
  match ptR (rU s).1.toNat [] (rU s).2 with
  | none => none
  | some x => if x.2.bad = true then none else if x.2.b.length = 0 then some (⟨a, b, d, o, i, x.1⟩, decide (c = 1)) else none
def rdI (c a b d : Int) (o : List Place) (s : RS) : Option (Edit × Bool) :=
  match inR (rU s).1.toNat [] (rU s).2 with
  | none => none
  | some x => rdP c a b d o x.1 x.2
def rdO (c a b d : Int) (s : RS) : Option (Edit × Bool) :=
  match outR (rU s).1.toNat [] (rU s).2 with
  | none => none
  | some x => rdI c a b d x.1 x.2
/-- What a record tells. -/
def rd : List Int → Option (Edit × Bool)
  | [] => none
  | c :: l => if 1 < c then none else rdO c (rU ⟨l, false⟩).1 (rU (rU ⟨l, false⟩).2).1 (rU (rU (rU ⟨l, false⟩).2).2).1 (rU (rU (rU ⟨l, false⟩).2).2).2
theorem rd_cons (c : Int) (l : List Int) : rd (c :: l) = if 1 < c then none else rdO c (rU ⟨l, false⟩).1 (rU (rU ⟨l, false⟩).2).1 (rU (rU (rU ⟨l, false⟩).2).2).1 (rU (rU (rU ⟨l, false⟩).2).2).2 := rfl
def Place.val (p : Place) : Prop := p.lv < 9223372036854775808 ∧ okU p.num
def Placed.val (p : Placed) : Prop := p.lv < 9223372036854775808 ∧ okU p.num ∧ p.weight < 9223372036854775808 ∧ p.bytes < 9223372036854775808 ∧ p.entries < 9223372036854775808
/-- A reader and the lists that it has told so far. -/
structure St (h0 h : Hp) (b : Nat) (s : RS) (l1 l2 l3 : Sl) (o : List Place) (i : List Placed) (p : List ByteArray) (N : Nat) : Prop where
  rd : RdAt h0 h b s
  out : Buf h l1 2 104 (outV o)
  inn : Buf h l2 7 108 (inV i)
  ptr : Buf h l3 1 9 (ptrV p)
  n1 : l1.a = none ∨ New h0 l1
  n2 : l2.a = none ∨ New h0 l2
  n3 : l3.a = none ∨ New h0 l3
  room : o.length + i.length + p.length + s.b.length ≤ N
  vo : ∀ x ∈ o, x.val
  vi : ∀ x ∈ i, x.val
theorem out_n {h : Hp} {l : Sl} {o : List Place} (B : Buf h l 2 104 (outV o)) : l.n = o.length := by
  have h1 := B.len
  unfold outV at h1
  rw [flat_length Place.cells 2 (fun _ => rfl)] at h1
  omega
theorem in_n {h : Hp} {l : Sl} {o : List Placed} (B : Buf h l 7 108 (inV o)) : l.n = o.length := by
  have h1 := B.len
  unfold inV at h1
  rw [flat_length Placed.cells 7 (fun _ => rfl)] at h1
  omega
theorem pt_n {h : Hp} {l : Sl} {o : List ByteArray} (B : Buf h l 1 9 (ptrV o)) : l.n = o.length := by
  have h1 := B.len
  unfold ptrV at h1
  rw [List.length_map] at h1
  omega
theorem St.step {h0 h h' : Hp} {b : Nat} {s s' : RS} {l1 l2 l3 : Sl} {o : List Place} {i : List Placed} {p : List ByteArray} {N : Nat} (S : St h0 h b s l1 l2 l3 o i p N) (U : Upd h h' (rb b) (rb b)) (R : RdAt h0 h' b s') (hle : s'.b.length ≤ s.b.length) : St h0 h' b s' l1 l2 l3 o i p N :=
  ⟨R, S.out.upd U (S.rd.off S.out (by decide)), S.inn.upd U (S.rd.off S.inn (by decide)), S.ptr.upd U (S.rd.off S.ptr (by decide)), S.n1, S.n2, S.n3, by have := S.room; omega, S.vo, S.vi⟩
theorem RdAt.bad_at {h0 h : Hp} {b : Nat} {s : RS} (R : RdAt h0 h b s) : h.at b 1 = some (.bool s.bad) := by
  obtain ⟨l, hb, _, _⟩ := R.cell
  unfold Hp.at; rw [hb]; rfl
theorem RdAt.b_at {h0 h : Hp} {b : Nat} {s : RS} (R : RdAt h0 h b s) : ∃ l : Sl, h.at b 0 = some (.slice l.a l.n l.c) ∧ l.n = s.b.length := by
  obtain ⟨l, hb, hr, _⟩ := R.cell
  refine ⟨l, by unfold Hp.at; rw [hb]; rfl, ?_⟩
  have := hr.1
  rw [bv_length] at this
  exact this.symm
theorem St.addO {h0 h h' : Hp} {b : Nat} {s : RS} {l1 l1' l2 l3 : Sl} {o : List Place} {i : List Placed} {p : List ByteArray} {N : Nat} (S : St h0 h b s l1 l2 l3 o i p N) (U : Upd h h' l1 l1') {x : Place} (B : Buf h' l1' 2 104 (outV o ++ x.cells)) (hx : x.val) (hr : o.length + i.length + p.length + s.b.length + 1 ≤ N) : St h0 h' b s l1' l2 l3 (o ++ [x]) i p N :=
  ⟨S.rd.grow S.out (by decide) S.n1 U, by simpa [outV] using B, S.inn.upd U (buf_off S.inn S.out (by decide)), S.ptr.upd U (buf_off S.ptr S.out (by decide)), (keep_grow S.rd.keep S.n1 U).2, S.n2, S.n3,
    by rw [List.length_append, List.length_singleton]; omega, fun y hy => by rcases List.mem_append.1 hy with h | h; exact S.vo y h; rw [List.mem_singleton] at h; rw [h]; exact hx, S.vi⟩
theorem St.addI {h0 h h' : Hp} {b : Nat} {s : RS} {l1 l2 l2' l3 : Sl} {o : List Place} {i : List Placed} {p : List ByteArray} {N : Nat} (S : St h0 h b s l1 l2 l3 o i p N) (U : Upd h h' l2 l2') {x : Placed} (B : Buf h' l2' 7 108 (inV i ++ x.cells)) (hx : x.val) (hr : o.length + i.length + p.length + s.b.length + 1 ≤ N) : St h0 h' b s l1 l2' l3 o (i ++ [x]) p N :=
  ⟨S.rd.grow S.inn (by decide) S.n2 U, S.out.upd U (buf_off S.out S.inn (by decide)), by simpa [inV] using B, S.ptr.upd U (buf_off S.ptr S.inn (by decide)), S.n1, (keep_grow S.rd.keep S.n2 U).2, S.n3,
    by rw [List.length_append, List.length_singleton]; omega, S.vo, fun y hy => by rcases List.mem_append.1 hy with h | h; exact S.vi y h; rw [List.mem_singleton] at h; rw [h]; exact hx⟩
theorem St.addP {h0 h h' : Hp} {b : Nat} {s : RS} {l1 l2 l3 l3' : Sl} {o : List Place} {i : List Placed} {p : List ByteArray} {N : Nat} (S : St h0 h b s l1 l2 l3 o i p N) (U : Upd h h' l3 l3') {x : ByteArray} (B : Buf h' l3' 1 9 (ptrV p ++ [.string x])) (hr : o.length + i.length + p.length + s.b.length + 1 ≤ N) : St h0 h' b s l1 l2 l3' o i (p ++ [x]) N :=
  ⟨S.rd.grow S.ptr (by decide) S.n3 U, S.out.upd U (buf_off S.out S.ptr (by decide)), S.inn.upd U (buf_off S.inn S.ptr (by decide)), by simpa [ptrV] using B, S.n1, S.n2, (keep_grow S.rd.keep S.n3 U).2,
    by rw [List.length_append, List.length_singleton]; omega, S.vo, S.vi⟩
@[reducible] def noneV : Value := .tuple ⟨[.agg ⟨[.int .u64 0, .int .u64 0, .int .u64 0, .slice none 0 0, .slice none 0 0, .slice none 0 0]⟩, .bool false, .bool false]⟩
theorem rd_out {h0 h : Hp} {b1 : Nat} {s : RS} {l1 l2 l3 : Sl} {N : Nat} {n a c d : Int} {Q : Value → Hp → Prop} {R : Int → Int → Int → Int → Sl → Sl → Sl → Hp → Prop} (S : St h0 h b1 s l1 l2 l3 [] [] [] N) (hN : N ≤ 1000000000000) (hn : okU n)
    (hB : ∀ h', Keep h0 h' → outR n.toNat [] s = none → Q noneV h')
    (hR : ∀ n5 l1' o s' h', outR n.toNat [] s = some (o, s') → St h0 h' b1 s' l1' l2 l3 o [] [] N → R n5 a c d l1' l2 l3 h') :
    ∃ (I : Int → Int → Int → Int → Sl → Sl → Sl → Hp → Prop) (m : Int → Int → Int → Int → Sl → Sl → Sl → Hp → Nat), I n a c d l1 l2 l3 h ∧ (∀ n5 : Int, ∀ n6 : Int, ∀ n7 : Int, ∀ n8 : Int, ∀ l1 : Sl, ∀ l2 : Sl, ∀ l3 : Sl, ∀ h5 : Hp, I n5 n6 n7 n8 l1 l2 l3 h5 → par ((0 : Int) < n5) (F124.T (some ⟨b1, 0, none⟩) 4 h5 fun r4 h6 => ∃ n9 : Int, r4 = .int .i64 n9 ∧ F123.T (some ⟨b1, 0, none⟩) h6 fun r5 h7 => ∃ n10 : Int, r5 = .int .u64 n10 ∧ appendD l1 104 2 16 [.int .i64 0, .int .u64 0] 1 [.int .i64 n9, .int .u64 n10] h7 fun l4 h8 => ∃ b2 : Bool, h8.at b1 1 = some (.bool b2) ∧ parB b2 (Q noneV h8) (I (IntKind.wrap .u64 (n5 - 1)) n6 n7 n8 l4 l2 l3 h8 ∧ m (IntKind.wrap .u64 (n5 - 1)) n6 n7 n8 l4 l2 l3 h8 < m n5 n6 n7 n8 l1 l2 l3 h5)) (R n5 n6 n7 n8 l1 l2 l3 h5)) := by
  refine ⟨fun n5 x y z k1 k2 k3 h5 => x = a ∧ y = c ∧ z = d ∧ k2 = l2 ∧ k3 = l3 ∧ okU n5 ∧ ∃ o s', outR n5.toNat o s' = outR n.toNat [] s ∧ St h0 h5 b1 s' k1 l2 l3 o [] [] N, fun n5 _ _ _ _ _ _ _ => n5.toNat, ⟨rfl, rfl, rfl, rfl, rfl, hn, [], s, rfl, S⟩, ?_⟩
  rintro n5 x y z k1 k2 k3 h5 ⟨rfl, rfl, rfl, rfl, rfl, hn5, o, s', hE, S'⟩
  refine ⟨fun hpos => ?_, fun hz => ?_⟩
  · obtain ⟨f, hf⟩ : ∃ f, n5.toNat = f + 1 := ⟨n5.toNat - 1, by omega⟩
    have hf' : (n5 - 1).toNat = f := by omega
    have hn52 := hn5.2
    rw [hf, outR] at hE
    have hw : IntKind.wrap .u64 (n5 - 1) = n5 - 1 := wrap_u64 (by omega) (by omega)
    refine within_r S'.rd (by decide) fun h6 U6 R6 => ⟨_, rfl, ?_⟩
    have S6 := S'.step U6 R6 (rW_le _ _)
    refine uint_r S6.rd fun h7 U7 R7 => ⟨_, rfl, ?_⟩
    have S7 := S6.step U7 R7 (rU_le _)
    have r7 := S7.room
    have m7 := out_n S7.out
    refine append_buf S7.out rfl rfl (by omega) fun l4 h8 B8 hn8 U8 => ⟨_, (S7.rd.grow S7.out (by decide) S7.n1 U8).bad_at, fun hb => ?_, fun hb => ?_⟩
    · rw [if_pos hb] at hE
      exact hB h8 (S7.rd.grow S7.out (by decide) S7.n1 U8).keep hE.symm
    · rw [if_neg (by rw [hb]; decide)] at hE
      rw [hw]
      have q1 := rU_len hb
      have q2 := rW_len q1.1
      have r0 := S'.room
      have v1 := rW_ok 4 s' (by decide)
      refine ⟨⟨rfl, rfl, rfl, rfl, rfl, ⟨by omega, by omega⟩, o ++ [⟨(rW 4 s').1, (rU (rW 4 s').2).1⟩], (rU (rW 4 s').2).2, by rw [hf']; exact hE, ?_⟩, by dsimp only; omega⟩
      refine S7.addO U8 (x := ⟨(rW 4 s').1, (rU (rW 4 s').2).1⟩) B8 ⟨by show (rW 4 s').1 < _; omega, rU_ok _⟩ (by omega)
  · have h0' : n5.toNat = 0 := by omega
    rw [h0', outR] at hE
    exact hR _ _ _ _ _ hE.symm S'
theorem rd_in {h0 h : Hp} {b1 : Nat} {s : RS} {l1 l2 l3 : Sl} {N : Nat} {n a c d : Int} {o : List Place} {Q : Value → Hp → Prop} {R : Int → Int → Int → Int → Sl → Sl → Sl → Hp → Prop} (S : St h0 h b1 s l1 l2 l3 o [] [] N) (hN : N ≤ 1000000000000) (hn : okU n)
    (hB : ∀ h', Keep h0 h' → inR n.toNat [] s = none → Q noneV h')
    (hR : ∀ n5 l2' i s' h', inR n.toNat [] s = some (i, s') → St h0 h' b1 s' l1 l2' l3 o i [] N → R n5 a c d l1 l2' l3 h') :
    ∃ (I1 : Int → Int → Int → Int → Sl → Sl → Sl → Hp → Prop) (m1 : Int → Int → Int → Int → Sl → Sl → Sl → Hp → Nat), I1 n a c d l1 l2 l3 h ∧ (∀ n12 : Int, ∀ n13 : Int, ∀ n14 : Int, ∀ n15 : Int, ∀ l5 : Sl, ∀ l6 : Sl, ∀ l7 : Sl, ∀ h10 : Hp, I1 n12 n13 n14 n15 l5 l6 l7 h10 → par ((0 : Int) < n12) (F124.T (some ⟨b1, 0, none⟩) 4 h10 fun r7 h11 => ∃ n16 : Int, r7 = .int .i64 n16 ∧ F123.T (some ⟨b1, 0, none⟩) h11 fun r8 h12 => ∃ n17 : Int, r8 = .int .u64 n17 ∧ F124.T (some ⟨b1, 0, none⟩) 9223372036854775807 h12 fun r9 h13 => ∃ n18 : Int, r9 = .int .i64 n18 ∧ F124.T (some ⟨b1, 0, none⟩) 9223372036854775807 h13 fun r10 h14 => ∃ n19 : Int, r10 = .int .i64 n19 ∧ F124.T (some ⟨b1, 0, none⟩) 9223372036854775807 h14 fun r11 h15 => ∃ n20 : Int, r11 = .int .i64 n20 ∧ F125.T (some ⟨b1, 0, none⟩) h15 fun r12 h16 => ∃ s : ByteArray, r12 = .string s ∧ F125.T (some ⟨b1, 0, none⟩) h16 fun r13 h17 => ∃ s1 : ByteArray, r13 = .string s1 ∧ appendD l6 108 7 72 [.int .i64 0, .int .u64 0, .int .i64 0, .int .i64 0, .int .i64 0, .string (ByteArray.mk #[]), .string (ByteArray.mk #[])] 1 [.int .i64 n16, .int .u64 n17, .int .i64 n18, .int .i64 n19, .int .i64 n20, .string s, .string s1] h17 fun l8 h18 => ∃ b3 : Bool, h18.at b1 1 = some (.bool b3) ∧ parB b3 (Q noneV h18) (I1 (IntKind.wrap .u64 (n12 - 1)) n13 n14 n15 l5 l8 l7 h18 ∧ m1 (IntKind.wrap .u64 (n12 - 1)) n13 n14 n15 l5 l8 l7 h18 < m1 n12 n13 n14 n15 l5 l6 l7 h10)) (R n12 n13 n14 n15 l5 l6 l7 h10)) := by
  refine ⟨fun n5 x y z k1 k2 k3 h5 => x = a ∧ y = c ∧ z = d ∧ k1 = l1 ∧ k3 = l3 ∧ okU n5 ∧ ∃ i s', inR n5.toNat i s' = inR n.toNat [] s ∧ St h0 h5 b1 s' l1 k2 l3 o i [] N, fun n5 _ _ _ _ _ _ _ => n5.toNat, ⟨rfl, rfl, rfl, rfl, rfl, hn, [], s, rfl, S⟩, ?_⟩
  rintro n5 x y z k1 k2 k3 h5 ⟨rfl, rfl, rfl, rfl, rfl, hn5, i, s', hE, S'⟩
  refine ⟨fun hpos => ?_, fun hz => ?_⟩
  · obtain ⟨f, hf⟩ : ∃ f, n5.toNat = f + 1 := ⟨n5.toNat - 1, by omega⟩
    have hf' : (n5 - 1).toNat = f := by omega
    have hn52 := hn5.2
    rw [hf, inR] at hE
    have hx : plS s' = (⟨(rW 4 s').1, (rU (rW 4 s').2).1, (rW 9223372036854775807 (rU (rW 4 s').2).2).1, (rW 9223372036854775807 (rW 9223372036854775807 (rU (rW 4 s').2).2).2).1, (rW 9223372036854775807 (rW 9223372036854775807 (rW 9223372036854775807 (rU (rW 4 s').2).2).2).2).1, (rT (rW 9223372036854775807 (rW 9223372036854775807 (rW 9223372036854775807 (rU (rW 4 s').2).2).2).2).2).1, (rT (rT (rW 9223372036854775807 (rW 9223372036854775807 (rW 9223372036854775807 (rU (rW 4 s').2).2).2).2).2).2).1⟩, (rT (rT (rW 9223372036854775807 (rW 9223372036854775807 (rW 9223372036854775807 (rU (rW 4 s').2).2).2).2).2).2).2) := rfl
    have hw : IntKind.wrap .u64 (n5 - 1) = n5 - 1 := wrap_u64 (by omega) (by omega)
    refine within_r S'.rd (by decide) fun h6 U6 R6 => ⟨_, rfl, ?_⟩
    have S6 := S'.step U6 R6 (rW_le _ _)
    refine uint_r S6.rd fun h7 U7 R7 => ⟨_, rfl, ?_⟩
    have S7 := S6.step U7 R7 (rU_le _)
    refine within_r S7.rd (by decide) fun h8 U8 R8 => ⟨_, rfl, ?_⟩
    have S8 := S7.step U8 R8 (rW_le _ _)
    refine within_r S8.rd (by decide) fun h9 U9 R9 => ⟨_, rfl, ?_⟩
    have S9 := S8.step U9 R9 (rW_le _ _)
    refine within_r S9.rd (by decide) fun h10 U10 R10 => ⟨_, rfl, ?_⟩
    have S10 := S9.step U10 R10 (rW_le _ _)
    refine text_r S10.rd fun h11 U11 R11 => ⟨_, rfl, ?_⟩
    have S11 := S10.step U11 R11 (rT_le _)
    refine text_r S11.rd fun h12 U12 R12 => ⟨_, rfl, ?_⟩
    have S12 := S11.step U12 R12 (rT_le _)
    have r7 := S12.room
    have m7 := in_n S12.inn
    refine append_buf S12.inn rfl rfl (by omega) fun l4 h13 B8 hn8 U8 => ⟨_, (S12.rd.grow S12.inn (by decide) S12.n2 U8).bad_at, fun hb => ?_, fun hb => ?_⟩
    · rw [hx] at hE
      simp only at hE
      rw [if_pos hb] at hE
      exact hB h13 (S12.rd.grow S12.inn (by decide) S12.n2 U8).keep hE.symm
    · rw [hx] at hE
      simp only at hE
      rw [if_neg (by rw [hb]; decide)] at hE
      rw [hw]
      have q1 := rT_len hb
      have q2 := rT_len q1.1
      have q3 := rW_len q2.1
      have q4 := rW_len q3.1
      have q5 := rW_len q4.1
      have q6 := rU_len q5.1
      have q7 := rW_len q6.1
      have r0 := S'.room
      have v1 := rW_ok 4 s' (by decide)
      have v2 := rW_ok 9223372036854775807 (rU (rW 4 s').2).2 (by decide)
      have v3 := rW_ok 9223372036854775807 (rW 9223372036854775807 (rU (rW 4 s').2).2).2 (by decide)
      have v4 := rW_ok 9223372036854775807 (rW 9223372036854775807 (rW 9223372036854775807 (rU (rW 4 s').2).2).2).2 (by decide)
      refine ⟨⟨rfl, rfl, rfl, rfl, rfl, ⟨by omega, by omega⟩, i ++ [⟨(rW 4 s').1, (rU (rW 4 s').2).1, (rW 9223372036854775807 (rU (rW 4 s').2).2).1, (rW 9223372036854775807 (rW 9223372036854775807 (rU (rW 4 s').2).2).2).1, (rW 9223372036854775807 (rW 9223372036854775807 (rW 9223372036854775807 (rU (rW 4 s').2).2).2).2).1, (rT (rW 9223372036854775807 (rW 9223372036854775807 (rW 9223372036854775807 (rU (rW 4 s').2).2).2).2).2).1, (rT (rT (rW 9223372036854775807 (rW 9223372036854775807 (rW 9223372036854775807 (rU (rW 4 s').2).2).2).2).2).2).1⟩], (rT (rT (rW 9223372036854775807 (rW 9223372036854775807 (rW 9223372036854775807 (rU (rW 4 s').2).2).2).2).2).2).2, by rw [hf']; exact hE, ?_⟩, by dsimp only; omega⟩
      refine S12.addI U8 (x := ⟨(rW 4 s').1, (rU (rW 4 s').2).1, (rW 9223372036854775807 (rU (rW 4 s').2).2).1, (rW 9223372036854775807 (rW 9223372036854775807 (rU (rW 4 s').2).2).2).1, (rW 9223372036854775807 (rW 9223372036854775807 (rW 9223372036854775807 (rU (rW 4 s').2).2).2).2).1, (rT (rW 9223372036854775807 (rW 9223372036854775807 (rW 9223372036854775807 (rU (rW 4 s').2).2).2).2).2).1, (rT (rT (rW 9223372036854775807 (rW 9223372036854775807 (rW 9223372036854775807 (rU (rW 4 s').2).2).2).2).2).2).1⟩) (by simp only [Placed.cells]; exact B8) ?_ (by omega)
      simp only [Placed.val]
      exact ⟨by omega, rU_ok _, by omega, by omega, by omega⟩
  · have h0' : n5.toNat = 0 := by omega
    rw [h0', inR] at hE
    exact hR _ _ _ _ _ hE.symm S'
theorem rd_ptr {h0 h : Hp} {b1 : Nat} {s : RS} {l1 l2 l3 : Sl} {N : Nat} {n a c d : Int} {o : List Place} {i : List Placed} {Q : Value → Hp → Prop} {R : Int → Int → Int → Int → Sl → Sl → Sl → Hp → Prop} (S : St h0 h b1 s l1 l2 l3 o i [] N) (hN : N ≤ 1000000000000) (hn : okU n)
    (hB : ∀ h', Keep h0 h' → ptR n.toNat [] s = none → Q noneV h')
    (hR : ∀ n5 l3' p s' h', ptR n.toNat [] s = some (p, s') → St h0 h' b1 s' l1 l2 l3' o i p N → R n5 a c d l1 l2 l3' h') :
    ∃ (I2 : Int → Int → Int → Int → Sl → Sl → Sl → Hp → Prop) (m2 : Int → Int → Int → Int → Sl → Sl → Sl → Hp → Nat), I2 n a c d l1 l2 l3 h ∧ (∀ n22 : Int, ∀ n23 : Int, ∀ n24 : Int, ∀ n25 : Int, ∀ l9 : Sl, ∀ l10 : Sl, ∀ l11 : Sl, ∀ h20 : Hp, I2 n22 n23 n24 n25 l9 l10 l11 h20 → par ((0 : Int) < n22) (F125.T (some ⟨b1, 0, none⟩) h20 fun r15 h21 => ∃ s2 : ByteArray, r15 = .string s2 ∧ appendD l11 9 1 16 [.string (ByteArray.mk #[])] 1 [.string s2] h21 fun l12 h22 => ∃ b4 : Bool, h22.at b1 1 = some (.bool b4) ∧ parB b4 (Q noneV h22) (I2 (IntKind.wrap .u64 (n22 - 1)) n23 n24 n25 l9 l10 l12 h22 ∧ m2 (IntKind.wrap .u64 (n22 - 1)) n23 n24 n25 l9 l10 l12 h22 < m2 n22 n23 n24 n25 l9 l10 l11 h20)) (R n22 n23 n24 n25 l9 l10 l11 h20)) := by
  refine ⟨fun n5 x y z k1 k2 k3 h5 => x = a ∧ y = c ∧ z = d ∧ k1 = l1 ∧ k2 = l2 ∧ okU n5 ∧ ∃ p s', ptR n5.toNat p s' = ptR n.toNat [] s ∧ St h0 h5 b1 s' l1 l2 k3 o i p N, fun n5 _ _ _ _ _ _ _ => n5.toNat, ⟨rfl, rfl, rfl, rfl, rfl, hn, [], s, rfl, S⟩, ?_⟩
  rintro n5 x y z k1 k2 k3 h5 ⟨rfl, rfl, rfl, rfl, rfl, hn5, p, s', hE, S'⟩
  refine ⟨fun hpos => ?_, fun hz => ?_⟩
  · obtain ⟨f, hf⟩ : ∃ f, n5.toNat = f + 1 := ⟨n5.toNat - 1, by omega⟩
    have hf' : (n5 - 1).toNat = f := by omega
    have hn52 := hn5.2
    rw [hf, ptR] at hE
    have hw : IntKind.wrap .u64 (n5 - 1) = n5 - 1 := wrap_u64 (by omega) (by omega)
    refine text_r S'.rd fun h6 U6 R6 => ⟨_, rfl, ?_⟩
    have S6 := S'.step U6 R6 (rT_le _)
    have r7 := S6.room
    have m7 := pt_n S6.ptr
    refine append_buf S6.ptr rfl rfl (by omega) fun l4 h8 B8 hn8 U8 => ⟨_, (S6.rd.grow S6.ptr (by decide) S6.n3 U8).bad_at, fun hb => ?_, fun hb => ?_⟩
    · rw [if_pos hb] at hE
      exact hB h8 (S6.rd.grow S6.ptr (by decide) S6.n3 U8).keep hE.symm
    · rw [if_neg (by rw [hb]; decide)] at hE
      rw [hw]
      have q1 := rT_len hb
      have r0 := S'.room
      refine ⟨⟨rfl, rfl, rfl, rfl, rfl, ⟨by omega, by omega⟩, p ++ [(rT s').1], (rT s').2, by rw [hf']; exact hE, ?_⟩, by dsimp only; omega⟩
      exact S6.addP U8 B8 (by omega)
  · have h0' : n5.toNat = 0 := by omega
    rw [h0', ptR] at hE
    exact hR _ _ _ _ _ hE.symm S'
/-- The lists of an edit, each in a block of its own that was not in h0. -/
structure EdB (h0 h : Hp) (e : Edit) (l1 l2 l3 : Sl) : Prop where
  out : Buf h l1 2 104 (outV e.out)
  inn : Buf h l2 7 108 (inV e.inn)
  ptr : Buf h l3 1 9 (ptrV e.ptr)
  n1 : l1.a = none ∨ New h0 l1
  n2 : l2.a = none ∨ New h0 l2
  n3 : l3.a = none ∨ New h0 l3
theorem read_spec {h : Hp} {l : Sl} {bs : List Int} {Q : Value → Hp → Prop} (hr : h.row l.a l.n (bv bs)) (hc : l.n ≤ l.c) (hok : ∀ c ∈ bs, 0 ≤ c ∧ c < 256) (hs : bs.length ≤ 1000000000)
    (hN : ∀ h', Keep h h' → rd bs = none → Q noneV h')
    (hS : ∀ h' e last l1 l2 l3, rd bs = some (e, last) → Keep h h' → EdB h h' e l1 l2 l3 → e.valid → e.out.length + e.inn.length + e.ptr.length ≤ bs.length →
      Q (.tuple ⟨[.agg ⟨[.int .u64 e.log, .int .u64 e.next, .int .u64 e.seq, .slice l1.a l1.n l1.c, .slice l2.a l2.n l2.c, .slice l3.a l3.n l3.c]⟩, .bool last, .bool true]⟩) h') : F102.T l h Q := by
  have hln : l.n = bs.length := by have := hr.1; rw [bv_length] at this; exact this.symm
  unfold F102.T
  rcases bs with _ | ⟨c, rest⟩
  · simp only [List.length_nil] at hln
    exact ⟨fun _ => hN h (Keep.refl h) rfl, fun h0 => absurd (by omega) h0⟩
  simp only [List.length_cons] at hln hs
  obtain ⟨b, o, ha, hat⟩ := row_get hr (i := 0) (by omega)
  have a0 : h.at b (o + (0 : Int).toNat) = some (.int .u8 c) := hat 0 (by omega)
  refine ⟨fun h0 => absurd h0 (by omega), fun _ => ⟨b, o, ha, ⟨by decide, by omega⟩, c, a0, fun hc1 => hN h (Keep.refl h) (by rw [rd_cons, if_pos hc1]), fun hc1 => ⟨⟨by decide, by omega, by omega, by omega⟩, fun b1 hb1 => ?_⟩⟩⟩
  have hb2 : (h.new b1 (.cells ⟨[.slice (Sl.cut l 1 1 (l.n : Int) (l.c : Int)).a (Sl.cut l 1 1 (l.n : Int) (l.c : Int)).n (Sl.cut l 1 1 (l.n : Int) (l.c : Int)).c, .bool false]⟩ 188 (0, 0))) b1 = some (.cells ⟨[.slice (Sl.cut l 1 1 (l.n : Int) (l.c : Int)).a (Sl.cut l 1 1 (l.n : Int) (l.c : Int)).n (Sl.cut l 1 1 (l.n : Int) (l.c : Int)).c, .bool false]⟩ 188 (0, 0)) := by unfold Hp.new; rw [if_pos rfl]
  have hrow := cut_mid hr (i := 1) (j := l.n) (m := l.c) (by omega) (Nat.le_refl _) hc
  have hrow' : h.row (Sl.cut l 1 1 (l.n : Int) (l.c : Int)).a (Sl.cut l 1 1 (l.n : Int) (l.c : Int)).n (bv rest) := by
    rw [List.take_of_length_le (by rw [List.length_drop, bv_length, List.length_cons]; omega)] at hrow
    exact hrow
  have S0 : St h (h.new b1 (.cells ⟨[.slice (Sl.cut l 1 1 (l.n : Int) (l.c : Int)).a (Sl.cut l 1 1 (l.n : Int) (l.c : Int)).n (Sl.cut l 1 1 (l.n : Int) (l.c : Int)).c, .bool false]⟩ 188 (0, 0))) b1 ⟨rest, false⟩ ⟨none, 0, 0⟩ ⟨none, 0, 0⟩ ⟨none, 0, 0⟩ [] [] [] rest.length :=
    ⟨⟨⟨_, hb2, hrow', by simp [Sl.cut]; omega⟩, hb1, Keep.new hb1 _, fun x hx => hok x (List.mem_cons_of_mem _ hx), by show rest.length ≤ _; omega⟩, Buf.nil _ 2 104, Buf.nil _ 7 108, Buf.nil _ 1 9, .inl rfl, .inl rfl, .inl rfl, by simp, fun x hx => (by cases hx), fun x hx => (by cases hx)⟩
  refine uint_r S0.rd fun h1 U1 R1 => ⟨_, rfl, ?_⟩
  have S1 := S0.step U1 R1 (rU_le _)
  refine uint_r S1.rd fun h2 U2 R2 => ⟨_, rfl, ?_⟩
  have S2 := S1.step U2 R2 (rU_le _)
  refine uint_r S2.rd fun h3 U3 R3 => ⟨_, rfl, ?_⟩
  have S3 := S2.step U3 R3 (rU_le _)
  refine uint_r S3.rd fun h4 U4 R4 => ⟨_, rfl, ?_⟩
  have S4 := S3.step U4 R4 (rU_le _)
  refine rd_out S4 (by omega) (rU_ok _) (fun h' K hno => hN h' K ?_) (fun n5 l1 o1 s5 h5 hso S5 => ?_)
  · rw [rd_cons, if_neg hc1]; unfold rdO; rw [hno]
  refine uint_r S5.rd fun h6 U6 R6 => ⟨_, rfl, ?_⟩
  have S6 := S5.step U6 R6 (rU_le _)
  refine rd_in S6 (by omega) (rU_ok _) (fun h' K hno => hN h' K ?_) (fun n7 l2 i1 s7 h7 hsi S7 => ?_)
  · rw [rd_cons, if_neg hc1]; unfold rdO; rw [hso]; show rdI _ _ _ _ _ _ = none; unfold rdI; rw [hno]
  refine uint_r S7.rd fun h8 U8 R8 => ⟨_, rfl, ?_⟩
  have S8 := S7.step U8 R8 (rU_le _)
  have hrd : rd (c :: rest) = rdP c (rU ⟨rest, false⟩).1 (rU (rU ⟨rest, false⟩).2).1 (rU (rU (rU ⟨rest, false⟩).2).2).1 o1 i1 s7 := by
    rw [rd_cons, if_neg hc1]; unfold rdO; rw [hso]; show rdI _ _ _ _ _ _ = _; unfold rdI; rw [hsi]
  refine rd_ptr S8 (by omega) (rU_ok _) (fun h' K hno => hN h' K ?_) (fun n9 l3 p1 s9 h9 hsp S9 => ?_)
  · rw [hrd]; unfold rdP; rw [hno]
  have hrd2 : rd (c :: rest) = if s9.bad = true then none else if s9.b.length = 0 then some (⟨(rU ⟨rest, false⟩).1, (rU (rU ⟨rest, false⟩).2).1, (rU (rU (rU ⟨rest, false⟩).2).2).1, o1, i1, p1⟩, decide (c = 1)) else none := by
    rw [hrd]; unfold rdP; rw [hsp]
  have K9 := S9.rd.keep
  refine ⟨_, S9.rd.bad_at, fun hb => hN h9 K9 (by rw [hrd2, if_pos hb]), fun hb => ?_⟩
  rw [if_neg (by rw [hb]; decide)] at hrd2
  obtain ⟨q, hq, hqn⟩ := S9.rd.b_at
  refine ⟨q, hq, fun h0 => ?_, fun h0 => hN h9 K9 (by rw [hrd2, if_neg (by omega)])⟩
  rw [if_pos (by omega)] at hrd2
  have room := S9.room
  have hE : EdB h h9 ⟨(rU ⟨rest, false⟩).1, (rU (rU ⟨rest, false⟩).2).1, (rU (rU (rU ⟨rest, false⟩).2).2).1, o1, i1, p1⟩ l1 l2 l3 := ⟨S9.out, S9.inn, S9.ptr, S9.n1, S9.n2, S9.n3⟩
  refine ⟨b, o, ha, ⟨by decide, by omega⟩, c, K9.at a0, fun h1 => ⟨K9.at a0, ?_⟩, fun h1 => ⟨K9.at a0, ?_⟩⟩
  · refine hS h9 _ true l1 l2 l3 ?_ K9 hE ⟨rU_ok _, rU_ok _, rU_ok _, S9.vo, S9.vi⟩ ?_
    · rw [hrd2, decide_eq_true h1]
    · show o1.length + i1.length + p1.length ≤ rest.length + 1; omega
  · refine hS h9 _ false l1 l2 l3 ?_ K9 hE ⟨rU_ok _, rU_ok _, rU_ok _, S9.vo, S9.vi⟩ ?_
    · rw [hrd2, decide_eq_false h1]
    · show o1.length + i1.length + p1.length ≤ rest.length + 1; omega
end Go.Eng.YtblghgacokoklaaDoor
end
section
/-
  SPECS, 9: are rows of bytes alike; same.
-/
set_option linter.unusedSimpArgs false
set_option linter.unusedVariables false
namespace Go.Eng.YtblghgacokoklaaDoor
theorem take_step {α : Type} {a b : List α} {i : Nat} (ha : i < a.length) (hb : i < b.length) (h : a.take i = b.take i) (he : a[i] = b[i]) : a.take (i + 1) = b.take (i + 1) := by
  rw [List.take_succ_eq_append_getElem ha, List.take_succ_eq_append_getElem hb, h, he]
theorem ne_at {α : Type} {a b : List α} {i : Nat} (ha : i < a.length) (hb : i < b.length) (he : a[i] ≠ b[i]) : a ≠ b := by
  intro h
  subst h
  exact he rfl
theorem all_take {α : Type} {a b : List α} (hl : a.length = b.length) (h : a.take a.length = b.take a.length) : a = b := by
  rw [List.take_length] at h
  rw [hl, List.take_length] at h
  exact h
theorem all_take2 {α : Type} {a b : List α} {i : Nat} (hl : a.length = b.length) (hi : i = a.length) (h : a.take i = b.take i) : a = b := by
  subst hi
  exact all_take hl h
theorem bytes_eq {h : Hp} {l l1 : Sl} {a b : List Int} {Q : Value → Hp → Prop} (ha : h.row l.a l.n (bv a)) (hb : h.row l1.a l1.n (bv b)) (hs : b.length ≤ 1000000000000)
    (hT : a = b → Q (.bool true) h) (hF : a ≠ b → Q (.bool false) h) : F127.T l l1 h Q := by
  have hla : l.n = a.length := by have := ha.1; rw [bv_length] at this; exact this.symm
  have hlb : l1.n = b.length := by have := hb.1; rw [bv_length] at this; exact this.symm
  unfold F127.T
  refine ⟨fun he => ?_, fun hne => hF fun e => hne (by rw [hla, hlb, e])⟩
  have hl : a.length = b.length := by omega
  refine ⟨fun n h1 => h1 = h ∧ ∃ i : Nat, n = (i : Int) ∧ i ≤ a.length ∧ a.take i = b.take i, fun n _ => a.length - n.toNat, ⟨rfl, 0, rfl, Nat.zero_le _, by simp⟩, ?_⟩
  rintro n h1 ⟨rfl, i, rfl, hi, ht⟩
  refine ⟨fun hlt => ?_, fun hge => hT (all_take2 hl (by omega) ht)⟩
  have ia : i < a.length := by omega
  have ib : i < b.length := by omega
  obtain ⟨b0, o0, ha0, hat⟩ := row_get ha (i := i) (by omega)
  obtain ⟨b1, o1, hb1, hbt⟩ := row_get hb (i := i) (by omega)
  refine ⟨b0, o0, ha0, ⟨by omega, hlt⟩, a[i], ?_, b1, o1, hb1, ⟨by omega, by omega⟩, b[i], ?_, fun e => ⟨⟨rfl, i + 1, next_i ia (by omega), ia, take_step ia ib ht e⟩, ?_⟩, fun e => hF (ne_at ia ib e)⟩
  · rw [Int.toNat_natCast, hat i (by omega)]; simp [bv, ia]
  · rw [Int.toNat_natCast, hbt i (by omega)]; simp [bv, ib]
  · rw [next_i ia (by omega)]
    show a.length - ((i + 1 : Nat) : Int).toNat < a.length - (i : Int).toNat
    omega
theorem sameBytes_eq {h : Hp} {l l1 : Sl} {a b : List Int} {Q : Value → Hp → Prop} (ha : h.row l.a l.n (bv a)) (hb : h.row l1.a l1.n (bv b)) (hs : b.length ≤ 1000000000000)
    (hT : a = b → Q (.bool true) h) (hF : a ≠ b → Q (.bool false) h) : F10.T l l1 h Q := bytes_eq ha hb hs hT hF
/-- Rows of bytes, behind a row of slices (read alone). -/
def Rows (h : Hp) (ss : List Sl) (bs : List (List Int)) : Prop := ss.length = bs.length ∧ ∀ (i : Nat) (hi : i < ss.length) (hj : i < bs.length), h.row ss[i].a ss[i].n (bv bs[i])
theorem RowsAt.rows {h : Hp} {ss : List Sl} {bs : List (List Int)} (R : RowsAt h ss bs) : Rows h ss bs := ⟨R.1, fun i hi hj => by have := (R.2 i hi hj).row; rw [Nat.mul_one] at this; exact this⟩
theorem Rows.keep {h h' : Hp} (k : Keep h h') {ss : List Sl} {bs : List (List Int)} (R : Rows h ss bs) : Rows h' ss bs := ⟨R.1, fun i hi hj => k.row (R.2 i hi hj)⟩
theorem Rows.mid {h : Hp} {ss : List Sl} {bs : List (List Int)} (R : Rows h ss bs) (i k : Nat) : Rows h ((ss.drop i).take k) ((bs.drop i).take k) := by
  refine ⟨by simp [R.1], fun j hj hk => ?_⟩
  simp only [List.length_take, List.length_drop] at hj hk
  have := R.2 (i + j) (by omega) (by omega)
  simpa using this
theorem eqF_spec {h : Hp} {l l1 : Sl} {ss ts : List Sl} {xs ys : List (List Int)} {Q : Value → Hp → Prop} (hl : h.row l.a l.n (slV ss)) (R1 : Rows h ss xs) (hl1 : h.row l1.a l1.n (slV ts)) (R2 : Rows h ts ys) (hs : ys.length ≤ 1000000000000) (hy : ∀ y ∈ ys, y.length ≤ 1000000000000)
    (hT : xs = ys → Q (.bool true) h) (hF : xs ≠ ys → Q (.bool false) h) : F126.T l l1 h Q := by
  have n1 : l.n = xs.length := by have := hl.1; rw [slV_length, R1.1] at this; exact this.symm
  have n2 : l1.n = ys.length := by have := hl1.1; rw [slV_length, R2.1] at this; exact this.symm
  have s1 : ss.length = xs.length := R1.1
  have s2 : ts.length = ys.length := R2.1
  unfold F126.T
  refine ⟨fun he => ?_, fun hne => hF fun e => hne (by rw [n1, n2, e])⟩
  have hl2 : xs.length = ys.length := by omega
  refine ⟨fun n h1 => h1 = h ∧ ∃ i : Nat, n = (i : Int) ∧ i ≤ xs.length ∧ xs.take i = ys.take i, fun n _ => xs.length - n.toNat, ⟨rfl, 0, rfl, Nat.zero_le _, by simp⟩, ?_⟩
  rintro n h1 ⟨rfl, i, rfl, hi, ht⟩
  refine ⟨fun hlt => ?_, fun hge => hT (all_take2 hl2 (by omega) ht)⟩
  have ia : i < xs.length := by omega
  have ib : i < ys.length := by omega
  obtain ⟨b0, o0, ha0, hat⟩ := row_get hl (i := i) (by omega)
  obtain ⟨b1, o1, hb1, hbt⟩ := row_get hl1 (i := i) (by omega)
  refine ⟨b0, o0, ha0, ⟨by omega, hlt⟩, ss[i], ?_, b1, o1, hb1, ⟨by omega, by omega⟩, ts[i], ?_, ?_⟩
  · rw [Int.toNat_natCast, hat i (by omega)]; simp [slV, s1, ia]
  · rw [Int.toNat_natCast, hbt i (by omega)]; simp [slV, s2, ib]
  refine bytes_eq (R1.2 i (by omega) ia) (R2.2 i (by omega) ib) (hy _ (List.getElem_mem ib)) (fun e => ⟨true, rfl, fun _ => ⟨⟨rfl, i + 1, next_i ia (by omega), ia, take_step ia ib ht e⟩, ?_⟩, fun h0 => (by cases h0)⟩) (fun e => ⟨false, rfl, fun h0 => (by cases h0), fun _ => hF (ne_at ia ib e)⟩)
  rw [next_i ia (by omega)]
  show xs.length - ((i + 1 : Nat) : Int).toNat < xs.length - (i : Int).toNat
  omega
/-- Are these just the first records of an edit? -/
def sameP (e : Edit) (recs : List (List Int)) (whole : Bool) : Bool :=
  if (putS e).length < recs.length then false else if whole = true ∧ (putS e).length ≠ recs.length then false else decide ((putS e).take recs.length = recs)
theorem cut_row {h : Hp} {l : Sl} {ss : List Sl} (hr : h.row l.a l.n (slV ss)) {i j m : Nat} (hi : i ≤ j) (hj : j ≤ l.n) (hm : l.n ≤ m) : h.row (Sl.cut l 1 (i : Int) (j : Int) (m : Int)).a (Sl.cut l 1 (i : Int) (j : Int) (m : Int)).n (slV ((ss.drop i).take (j - i))) := by
  have := cut_mid hr hi hj hm
  have e : slV ((ss.drop i).take (j - i)) = ((slV ss).drop i).take (j - i) := by unfold slV; rw [List.map_take, List.map_drop]
  rw [e]; exact this
theorem same_end {h : Hp} {e : Edit} {l3 l4 : Sl} {ss ts : List Sl} {recs : List (List Int)} {Q : Value → Hp → Prop} {w : Bool} (B : Buf h l4 1 23 (slV ts)) (R4 : RowsAt h ts (putS e)) (hl : h.row l3.a l3.n (slV ss)) (R : Rows h ss recs) (hs : recs.length ≤ 1000000000000) (hy : ∀ y ∈ recs, y.length ≤ 1000000000000)
    (h1 : ¬ (putS e).length < recs.length) (h2 : w = true → (putS e).length = recs.length) (hQ : Q (.bool (sameP e recs w)) h) :
    Sl.okCut l4 0 (l3.n : Int) (l4.c : Int) ∧ F126.T (Sl.cut l4 1 0 (l3.n : Int) (l4.c : Int)) l3 h fun r1 h2 => ∃ b : Bool, r1 = .bool b ∧ parB b (Q (.bool true) h2) (Q (.bool false) h2) := by
  have n3 : l3.n = recs.length := by have := hl.1; rw [slV_length, R.1] at this; exact this.symm
  have n4 : l4.n = (putS e).length := by have := B.len; rw [slV_length, R4.1] at this; omega
  have hc := B.cap
  have hp : sameP e recs w = decide ((putS e).take recs.length = recs) := by
    unfold sameP
    rw [if_neg h1, if_neg (fun hh => hh.2 (h2 hh.1))]
  rw [hp] at hQ
  have hB := B.row
  rw [Nat.mul_one] at hB
  have hrow := cut_row hB (i := 0) (j := l3.n) (m := l4.c) (Nat.zero_le _) (by omega) hc
  have hR : Rows h ((ts.drop 0).take (l3.n - 0)) ((putS e).take recs.length) := by
    have := R4.rows.mid 0 (l3.n - 0)
    rw [n3] at this ⊢
    exact this
  refine ⟨⟨by decide, by omega, by omega, by omega⟩, ?_⟩
  refine eqF_spec hrow hR hl R hs hy (fun he => ⟨true, rfl, fun _ => ?_, fun h0 => (by cases h0)⟩) (fun he => ⟨false, rfl, fun h0 => (by cases h0), fun _ => ?_⟩)
  · rw [decide_eq_true he] at hQ; exact hQ
  · rw [decide_eq_false he] at hQ; exact hQ
theorem same_t {h : Hp} {e : Edit} {l l1 l2 l3 : Sl} {ss : List Sl} {recs : List (List Int)} {Q : Value → Hp → Prop} (E : EdAt h e l l1 l2) (c1 : l.n ≤ l.c) (c2 : l1.n ≤ l1.c) (V : e.valid) (n1 : e.out.length + e.inn.length ≤ 1000000000000) (n3 : e.ptr.length < 9223372036854775807)
    (hl : h.row l3.a l3.n (slV ss)) (R : Rows h ss recs) (hs : recs.length ≤ 1000000000000) (hy : ∀ y ∈ recs, y.length ≤ 1000000000000) (hQ : ∀ h', Keep h h' → Q (.bool (sameP e recs true)) h') : F103.Tt e.log e.next e.seq l l1 l2 l3 h Q := by
  unfold F103.Tt
  have m3 : l3.n = recs.length := by have := hl.1; rw [slV_length, R.1] at this; exact this.symm
  refine put_spec E c1 c2 V n1 n3 fun l4 h1 ts B R4 K N => ⟨l4, rfl, fun hlt => ?_, fun hge => ⟨fun heq => ?_, fun hne => ?_⟩⟩
  all_goals have n4 : l4.n = (putS e).length := by have := B.len; rw [slV_length, R4.1] at this; omega
  · have := hQ h1 K
    unfold sameP at this
    rw [if_pos (by omega)] at this
    exact this
  · exact same_end B R4 (K.row hl) (R.keep K) hs hy (by omega) (fun _ => by omega) (hQ h1 K)
  · have := hQ h1 K
    unfold sameP at this
    rw [if_neg (by omega), if_pos ⟨rfl, by omega⟩] at this
    exact this
theorem same_f {h : Hp} {e : Edit} {l l1 l2 l3 : Sl} {ss : List Sl} {recs : List (List Int)} {Q : Value → Hp → Prop} (E : EdAt h e l l1 l2) (c1 : l.n ≤ l.c) (c2 : l1.n ≤ l1.c) (V : e.valid) (n1 : e.out.length + e.inn.length ≤ 1000000000000) (n3 : e.ptr.length < 9223372036854775807)
    (hl : h.row l3.a l3.n (slV ss)) (R : Rows h ss recs) (hs : recs.length ≤ 1000000000000) (hy : ∀ y ∈ recs, y.length ≤ 1000000000000) (hQ : ∀ h', Keep h h' → Q (.bool (sameP e recs false)) h') : F103.Tf e.log e.next e.seq l l1 l2 l3 h Q := by
  unfold F103.Tf
  have m3 : l3.n = recs.length := by have := hl.1; rw [slV_length, R.1] at this; exact this.symm
  refine put_spec E c1 c2 V n1 n3 fun l4 h1 ts B R4 K N => ⟨l4, rfl, fun hlt => ?_, fun hge => ?_⟩
  all_goals have n4 : l4.n = (putS e).length := by have := B.len; rw [slV_length, R4.1] at this; omega
  · have := hQ h1 K
    unfold sameP at this
    rw [if_pos (by omega)] at this
    exact this
  · exact same_end B R4 (K.row hl) (R.keep K) hs hy (by omega) (fun h0 => by cases h0) (hQ h1 K)
end Go.Eng.YtblghgacokoklaaDoor
end
