/-
  TEXTS OF MINE, JOINED: ZJ5 ZS1 ZS2 ZS3 ZS4 ZS5 ZS6 ZS7 ZS8 ZS9 ZS10 ZS11 ZS12 ZS13 ZS14 ZS15 ZS16 ZX5 ZX1 ZX6 ZX7 ZX8 ZV1 ZV2 ZS17 ZS18 ZV3 ZV4 ZV5 ZX2.
-/
import Derived.Test.YtbjnlacacapjiaaGreatK3
import Derived.Test.YtbjnlacacapjiaaGreatK2
import Derived.Test.YtbjnlacacapjiaaGreatProg
set_option linter.unusedSimpArgs false
set_option linter.unusedVariables false
section
set_option maxRecDepth 100000
open Go.Proofs
namespace Go.Eng.YtbjnlacacapjiaaGreat
@[reducible] def F51.G (T53 : Option Addr → Int → PT) (T75 : Option Addr → Option Nat → PT) (T76 : Sl → PT) (p : Option Addr) (l : Sl) : PT := fun h Q =>
  ∀ b, h b = none → T75 p (some b) (h.new b (.map #[] 0)) fun r h1 => ∃ (I : Int → Hp → Prop) (m : Int → Hp → Nat), I 0 h1 ∧ (∀ n : Int, ∀ h2 : Hp, I n h2 → par (n < (l.n : Int)) (∃ b1 o, (l.a : Option Addr) = some ⟨b1, o, none⟩ ∧ ((0 : Int) ≤ n ∧ n < (l.n : Int)) ∧ ∃ n1 : Int, h2.at b1 (o + n.toNat * 7) = some (.int .i64 n1) ∧ ∃ n2 : Int, h2.at b1 ((o + n.toNat * 7) + 1) = some (.int .u64 n2) ∧ ∃ n3 : Int, h2.at b1 ((o + n.toNat * 7) + 2) = some (.int .i64 n3) ∧ ∃ n4 : Int, h2.at b1 ((o + n.toNat * 7) + 3) = some (.int .i64 n4) ∧ ∃ n5 : Int, h2.at b1 ((o + n.toNat * 7) + 4) = some (.int .i64 n5) ∧ ∃ s : ByteArray, h2.at b1 ((o + n.toNat * 7) + 5) = some (.string s) ∧ ∃ s1 : ByteArray, h2.at b1 ((o + n.toNat * 7) + 6) = some (.string s1) ∧ T53 p n1 h2 fun r1 h3 => ∃ b2 : Bool, r1 = .bool b2 ∧ parB b2 (∃ es c, h3.mp (some b) es c ∧ keysFit (.int .u64 n2) es ∧ ∃ n6 : Int, (mget es (.int .u64 n2) (.int .i64 0)) = .int .i64 n6 ∧ par ((0 : Int) < n6) (Q (.int .i64 131) h3) (par (sLt s1 s) (Q (.int .i64 132) h3) (∃ es1 c1, h3.mp (some b) es1 c1 ∧ keysFit (.int .u64 n2) es1 ∧ ∃ n7 : Int, (mget es1 (.int .u64 n2) (.int .i64 0)) = .int .i64 n7 ∧ ∃ b3 es2 c2, ((some b) : Option Nat) = some b3 ∧ h3 b3 = some (.map es2 c2) ∧ keysFit (.int .u64 n2) es2 ∧ ∃ b4 o1, (p : Option Addr) = some ⟨b4, o1, none⟩ ∧ ∃ l1 : Sl, (h3.new b3 (mPut es2 c2 (.int .u64 n2) (.int .i64 (IntKind.wrap .i64 (n7 + 1))))).at b4 o1 = some (.slice l1.a l1.n l1.c) ∧ ∃ b5 o2, (p : Option Addr) = some ⟨b5, o2, none⟩ ∧ ∃ l2 : Sl, (h3.new b3 (mPut es2 c2 (.int .u64 n2) (.int .i64 (IntKind.wrap .i64 (n7 + 1))))).at b5 o2 = some (.slice l2.a l2.n l2.c) ∧ ∃ b6 o3, (l2.a : Option Addr) = some ⟨b6, o3, none⟩ ∧ ((0 : Int) ≤ n1 ∧ n1 < (l2.n : Int)) ∧ ∃ l3 : Sl, (h3.new b3 (mPut es2 c2 (.int .u64 n2) (.int .i64 (IntKind.wrap .i64 (n7 + 1))))).at b6 (o3 + n1.toNat) = some (.slice l3.a l3.n l3.c) ∧ (h3.new b3 (mPut es2 c2 (.int .u64 n2) (.int .i64 (IntKind.wrap .i64 (n7 + 1))))).at b4 o1 = some (.slice l1.a l1.n l1.c) ∧ (h3.new b3 (mPut es2 c2 (.int .u64 n2) (.int .i64 (IntKind.wrap .i64 (n7 + 1))))).at b5 o2 = some (.slice l2.a l2.n l2.c) ∧ (h3.new b3 (mPut es2 c2 (.int .u64 n2) (.int .i64 (IntKind.wrap .i64 (n7 + 1))))).at b6 (o3 + n1.toNat) = some (.slice l3.a l3.n l3.c) ∧ appendD l3 65 6 64 [.int .u64 0, .int .i64 0, .int .i64 0, .int .i64 0, .string (ByteArray.mk #[]), .string (ByteArray.mk #[])] 1 [.int .u64 n2, .int .i64 n3, .int .i64 n4, .int .i64 n5, .string s, .string s1] (h3.new b3 (mPut es2 c2 (.int .u64 n2) (.int .i64 (IntKind.wrap .i64 (n7 + 1))))) fun l4 h4 => h4.at b4 o1 = some (.slice l1.a l1.n l1.c) ∧ ∃ b7 o4, (l1.a : Option Addr) = some ⟨b7, o4, none⟩ ∧ ((0 : Int) ≤ n1 ∧ n1 < (l1.n : Int)) ∧ h4.canW b7 (o4 + n1.toNat) 1 ∧ I (IntKind.wrap .i64 (n + 1)) (h4.wr b7 (o4 + n1.toNat) [.slice l4.a l4.n l4.c]) ∧ m (IntKind.wrap .i64 (n + 1)) (h4.wr b7 (o4 + n1.toNat) [.slice l4.a l4.n l4.c]) < m n h2))) (Q (.int .i64 133) h3)) (∃ b8 o5, (p : Option Addr) = some ⟨b8, o5, none⟩ ∧ ∃ l5 : Sl, h2.at b8 o5 = some (.slice l5.a l5.n l5.c) ∧ Sl.okCut l5 1 (l5.n : Int) (l5.c : Int) ∧ ∃ (I1 : Int → Hp → Prop) (m1 : Int → Hp → Nat), I1 0 h2 ∧ (∀ n8 : Int, ∀ h5 : Hp, I1 n8 h5 → par (n8 < ((Sl.cut l5 1 1 (l5.n : Int) (l5.c : Int)).n : Int)) (∃ b9 o6, ((Sl.cut l5 1 1 (l5.n : Int) (l5.c : Int)).a : Option Addr) = some ⟨b9, o6, none⟩ ∧ ((0 : Int) ≤ n8 ∧ n8 < ((Sl.cut l5 1 1 (l5.n : Int) (l5.c : Int)).n : Int)) ∧ ∃ l6 : Sl, h5.at b9 (o6 + n8.toNat) = some (.slice l6.a l6.n l6.c) ∧ T76 l6 h5 fun r2 h6 => ∃ (I2 : Int → Hp → Prop) (m2 : Int → Hp → Nat), I2 1 h6 ∧ (∀ n9 : Int, ∀ h7 : Hp, I2 n9 h7 → par (n9 < (l6.n : Int)) (∃ b10 o7, (l6.a : Option Addr) = some ⟨b10, o7, none⟩ ∧ ((0 : Int) ≤ n9 ∧ n9 < (l6.n : Int)) ∧ ∃ s2 : ByteArray, h7.at b10 ((o7 + n9.toNat * 6) + 4) = some (.string s2) ∧ ∃ b11 o8, (l6.a : Option Addr) = some ⟨b11, o8, none⟩ ∧ ((0 : Int) ≤ (IntKind.wrap .i64 (n9 - 1)) ∧ (IntKind.wrap .i64 (n9 - 1)) < (l6.n : Int)) ∧ ∃ s3 : ByteArray, h7.at b11 ((o8 + ((IntKind.wrap .i64 (n9 - 1))).toNat * 6) + 5) = some (.string s3) ∧ par (sLt s2 s3 ∨ s2 = s3) (Q (.int .i64 132) h7) (I2 (IntKind.wrap .i64 (n9 + 1)) h7 ∧ m2 (IntKind.wrap .i64 (n9 + 1)) h7 < m2 n9 h7)) (I1 (IntKind.wrap .i64 (n8 + 1)) h7 ∧ m1 (IntKind.wrap .i64 (n8 + 1)) h7 < m1 n8 h5))) (Q (.int .i64 0) h5))))
def F51.T := F51.G F53.T F75.T F76.T
theorem F51.gen (V T53 T75 T76 p l) : denF Tryz.prog [7, 64] [(53, F53.W T53), (75, F75.W T75), (76, F76.W T76)] V [(122, .loop [(17, .int .i64)] []), (250, .loop [(74, .int .i64)] []), (31335, .order [0, 1, 2, 3, 4, 5, 6, 7, 8, 9, 10, 11, 12, 13, 14, 15, 16, 17, 18, 19]), (128206, .loop [(10, .int .i64)] []), (4102600, .order [0, 1, 2, 3, 4, 5, 6, 7, 8, 9, 10, 11])] Tryz.f51 [.v (.pointer p), .v (.slice l.a l.n l.c)] = F51.G T53 T75 T76 p l := by kernel_rfl
def F51.W (T51 : Option Addr → Sl → PT) (args : List Value) : PT := match args with
  | [.pointer p, .slice l_a l_n l_c] => T51 p ⟨l_a, l_n, l_c⟩
  | _ => fun _ _ => False
def F51.V : List Value → PT := F51.W F51.T
theorem F51.ok : FOk Tryz.prog 51 F51.V := by
  refine ⟨⟨_, Tryz.func51, rfl, rfl⟩, fun args => ?_⟩
  unfold F51.V F51.W
  split
  · exact denF_okE (GOk.cons F53.ok (GOk.cons F75.ok (GOk.cons F76.ok (GOk.nil)))) noV_ok Tryz.func51 (F51.gen noV F53.T F75.T F76.T _ ⟨_, _, _⟩)
  · exact fun _ _ h => h.elim
@[reducible] def F52.G (T75 : Option Addr → Option Nat → PT) (T79 : Sl → PT) (p p1 : Option Addr) : PT := fun h Q =>
  ∃ b o, (p : Option Addr) = some ⟨b, o, none⟩ ∧ ∃ m : Option Nat, h.at b (o + 3) = some (.map m) ∧ ∃ es c, h.mp m es c ∧ ∃ b1 o1, (p : Option Addr) = some ⟨b1, o1, none⟩ ∧ ∃ p2 : Option Addr, (h.setM m (.map #[] c)).at b1 o1 = some (.pointer p2) ∧ ∃ b2 o2, (p : Option Addr) = some ⟨b2, o2, none⟩ ∧ ∃ m1 : Option Nat, (h.setM m (.map #[] c)).at b2 (o2 + 3) = some (.map m1) ∧ T75 p2 m1 (h.setM m (.map #[] c)) fun r h1 => ∃ b3 o3, (p : Option Addr) = some ⟨b3, o3, none⟩ ∧ ∃ m2 : Option Nat, h1.at b3 (o3 + 1) = some (.map m2) ∧ ∃ es1 c1, h1.mp m2 es1 c1 ∧ ∀ b4, h1 b4 = none → ∃ (I : Hp → Prop) (m3 : Hp → Nat), I (h1.new b4 (.mapIter m2 c1 #[] c1)) ∧ (∀ h2 : Hp, I h2 → ∃ ri mi si sn la es2 c2, ((some ⟨b4, 0, none⟩) : Option Addr) = some ⟨ri, 0, none⟩ ∧ h2 ri = some (.mapIter mi si sn la) ∧ h2.mp mi es2 c2 ∧ nextOk es2 sn la = true ∧ (∀ e, e ∈ es2.toList → sn.contains e.born = false → ∃ ri1 b5 si1 sn1 es3 c3 st e1, ((some ⟨b4, 0, none⟩) : Option Addr) = some ⟨ri1, 0, none⟩ ∧ (h2.new ri (.mapIter mi si (sn.push e.born) c2)) ri1 = some (.mapIter (some b5) si1 sn1 c3) ∧ sn1.back? = some st ∧ (h2.new ri (.mapIter mi si (sn.push e.born) c2)) b5 = some (.map es3 c3) ∧ es3.find? (fun e => e.born == st) = some e1 ∧ ∃ p3 : Option Addr, ∃ n : Int, [e1.key, e1.val] = [.pointer p3, .int .i64 n] ∧ ∃ b6 o4, (p : Option Addr) = some ⟨b6, o4, none⟩ ∧ ∃ m4 : Option Nat, (h2.new ri (.mapIter mi si (sn.push e.born) c2)).at b6 (o4 + 3) = some (.map m4) ∧ T75 p3 m4 (h2.new ri (.mapIter mi si (sn.push e.born) c2)) fun r1 h3 => I h3 ∧ m3 h3 < m3 h2) ∧ ((∀ e ∈ es2.toList, e.born < si → sn.contains e.born = true) → ∃ b7 o5, (p1 : Option Addr) = some ⟨b7, o5, none⟩ ∧ ∃ l : Sl, h2.at b7 o5 = some (.slice l.a l.n l.c) ∧ ∃ (I1 : Sl → Int → Hp → Prop) (m5 : Sl → Int → Hp → Nat), I1 ⟨none, 0, 0⟩ 0 h2 ∧ (∀ l1 : Sl, ∀ n1 : Int, ∀ h4 : Hp, I1 l1 n1 h4 → par (n1 < (l.n : Int)) (∃ b8 o6, (l.a : Option Addr) = some ⟨b8, o6, none⟩ ∧ ((0 : Int) ≤ n1 ∧ n1 < (l.n : Int)) ∧ ∃ l2 : Sl, h4.at b8 (o6 + n1.toNat) = some (.slice l2.a l2.n l2.c) ∧ ∃ (I2 : Sl → Int → Hp → Prop) (m6 : Sl → Int → Hp → Nat), I2 l1 0 h4 ∧ (∀ l3 : Sl, ∀ n2 : Int, ∀ h5 : Hp, I2 l3 n2 h5 → par (n2 < (l2.n : Int)) (∃ b9 o7, (l2.a : Option Addr) = some ⟨b9, o7, none⟩ ∧ ((0 : Int) ≤ n2 ∧ n2 < (l2.n : Int)) ∧ ∃ n3 : Int, h5.at b9 (o7 + n2.toNat * 6) = some (.int .u64 n3) ∧ ∃ n4 : Int, h5.at b9 ((o7 + n2.toNat * 6) + 1) = some (.int .i64 n4) ∧ ∃ n5 : Int, h5.at b9 ((o7 + n2.toNat * 6) + 2) = some (.int .i64 n5) ∧ ∃ n6 : Int, h5.at b9 ((o7 + n2.toNat * 6) + 3) = some (.int .i64 n6) ∧ ∃ s : ByteArray, h5.at b9 ((o7 + n2.toNat * 6) + 4) = some (.string s) ∧ ∃ s1 : ByteArray, h5.at b9 ((o7 + n2.toNat * 6) + 5) = some (.string s1) ∧ ∃ b10 o8, (p : Option Addr) = some ⟨b10, o8, none⟩ ∧ ∃ m7 : Option Nat, h5.at b10 (o8 + 3) = some (.map m7) ∧ ∃ es4 c4, h5.mp m7 es4 c4 ∧ keysFit (.int .u64 n3) es4 ∧ ∃ n7 : Int, (mget es4 (.int .u64 n3) (.int .i64 0)) = .int .i64 n7 ∧ par (n7 = 0) (appendD l3 55 1 8 [.int .u64 0] 1 [.int .u64 n3] h5 fun l4 h6 => I2 l4 (IntKind.wrap .i64 (n2 + 1)) h6 ∧ m6 l4 (IntKind.wrap .i64 (n2 + 1)) h6 < m6 l3 n2 h5) (I2 l3 (IntKind.wrap .i64 (n2 + 1)) h5 ∧ m6 l3 (IntKind.wrap .i64 (n2 + 1)) h5 < m6 l3 n2 h5)) (I1 l3 (IntKind.wrap .i64 (n1 + 1)) h5 ∧ m5 l3 (IntKind.wrap .i64 (n1 + 1)) h5 < m5 l1 n1 h4))) (T79 l1 h4 fun r2 h7 => Q (.slice l1.a l1.n l1.c) h7))))
def F52.T := F52.G F75.T F79.T
theorem F52.gen (V T75 T79 p p1) : denF Tryz.prog [10, 65, 137440854019] [(75, F75.W T75), (79, F79.W T79)] V [(14, .order [0, 1, 2, 3, 4, 5, 6, 7, 8]), (122, .loop [] []), (506, .loop [(6, .sl), (44, .int .i64)] []), (129638, .loop [(6, .sl), (50, .int .i64)] []), (16593714, .order [0, 1, 2, 3, 4, 5, 6, 7])] Tryz.f52 [.v (.pointer p), .v (.pointer p1)] = F52.G T75 T79 p p1 := by kernel_rfl
def F52.W (T52 : Option Addr → Option Addr → PT) (args : List Value) : PT := match args with
  | [.pointer p, .pointer p1] => T52 p p1
  | _ => fun _ _ => False
def F52.V : List Value → PT := F52.W F52.T
theorem F52.ok : FOk Tryz.prog 52 F52.V := by
  refine ⟨⟨_, Tryz.func52, rfl, rfl⟩, fun args => ?_⟩
  unfold F52.V F52.W
  split
  · exact denF_okE (GOk.cons F75.ok (GOk.cons F79.ok (GOk.nil))) noV_ok Tryz.func52 (F52.gen noV F75.T F79.T _ _)
  · exact fun _ _ h => h.elim
@[reducible] def F18.G (T49 : Option Addr → PT) (T50 T51 : Option Addr → Sl → PT) (T52 : Option Addr → Option Addr → PT) (p : Option Addr) (n n1 n2 : Int) (l l1 l2 : Sl) : PT := fun h Q =>
  ∃ b o, (p : Option Addr) = some ⟨b, o, none⟩ ∧ ∃ p1 : Option Addr, h.at b o = some (.pointer p1) ∧ ∃ b1 o1, (p1 : Option Addr) = some ⟨b1, o1, none⟩ ∧ ∃ l3 : Sl, h.at b1 o1 = some (.slice l3.a l3.n l3.c) ∧ par ((l2.n : Int) = (l3.n : Int)) (∃ b2 o2, (p : Option Addr) = some ⟨b2, o2, none⟩ ∧ ∃ p2 : Option Addr, h.at b2 o2 = some (.pointer p2) ∧ T49 p2 h fun r h1 => ∃ p3 : Option Addr, r = .pointer p3 ∧ T50 p3 l h1 fun r1 h2 => ∃ n3 : Int, r1 = .int .i64 n3 ∧ par (n3 = 0) (T51 p3 l1 h2 fun r2 h3 => ∃ n4 : Int, r2 = .int .i64 n4 ∧ par (n4 = 0) (∃ b3 o3, (p : Option Addr) = some ⟨b3, o3, none⟩ ∧ ∃ p4 : Option Addr, h3.at b3 o3 = some (.pointer p4) ∧ ∃ b4 o4, (p : Option Addr) = some ⟨b4, o4, none⟩ ∧ h3.canW b4 o4 1 ∧ ∃ b5 o5, (p : Option Addr) = some ⟨b5, o5, none⟩ ∧ ∃ l4 : Sl, (h3.wr b4 o4 [.pointer p3]).at b5 (o5 + 2) = some (.slice l4.a l4.n l4.c) ∧ ∃ vs, (h3.wr b4 o4 [.pointer p3]).row l2.a ((Nat.min l2.n l4.n) * 1) vs ∧ (∀ v ∈ vs, Value.oneCell' v = true) ∧ (h3.wr b4 o4 [.pointer p3]).canWA l4.a vs.length ∧ T52 p p4 ((h3.wr b4 o4 [.pointer p3]).wrA l4.a vs) fun r3 h4 => ∃ l5 : Sl, r3 = .slice l5.a l5.n l5.c ∧ Q (.tuple ⟨[.slice l5.a l5.n l5.c, .int .i64 0]⟩) h4) (Q (.tuple ⟨[.slice none 0 0, .int .i64 n4]⟩) h3)) (Q (.tuple ⟨[.slice none 0 0, .int .i64 n3]⟩) h2)) (Q (.tuple ⟨[.slice none 0 0, .int .i64 133]⟩) h)
def F18.T := F18.G F49.T F50.T F51.T F52.T
theorem F18.gen (V T49 T50 T51 T52 p n n1 n2 l l1 l2) : denF Tryz.prog [3] [(49, F49.W T49), (50, F50.W T50), (51, F51.W T51), (52, F52.W T52)] V [(12, .order [0, 1, 2, 3, 4, 5, 6, 7, 8, 9, 10, 11]), (510, .order [0, 1, 2, 3, 4, 5, 6])] Tryz.f18 [.v (.pointer p), .v (.agg ⟨[.int .u64 n, .int .u64 n1, .int .u64 n2, .slice l.a l.n l.c, .slice l1.a l1.n l1.c, .slice l2.a l2.n l2.c]⟩)] = F18.G T49 T50 T51 T52 p n n1 n2 l l1 l2 := by kernel_rfl
def F18.W (T18 : Option Addr → Int → Int → Int → Sl → Sl → Sl → PT) (args : List Value) : PT := match args with
  | [.pointer p, .agg ⟨[.int .u64 n, .int .u64 n1, .int .u64 n2, .slice l_a l_n l_c, .slice l1_a l1_n l1_c, .slice l2_a l2_n l2_c]⟩] => T18 p n n1 n2 ⟨l_a, l_n, l_c⟩ ⟨l1_a, l1_n, l1_c⟩ ⟨l2_a, l2_n, l2_c⟩
  | _ => fun _ _ => False
def F18.V : List Value → PT := F18.W F18.T
theorem F18.ok : FOk Tryz.prog 18 F18.V := by
  refine ⟨⟨_, Tryz.func18, rfl, rfl⟩, fun args => ?_⟩
  unfold F18.V F18.W
  split
  · exact denF_okE (GOk.cons F49.ok (GOk.cons F50.ok (GOk.cons F51.ok (GOk.cons F52.ok (GOk.nil))))) noV_ok Tryz.func18 (F18.gen noV F49.T F50.T F51.T F52.T _ _ _ _ ⟨_, _, _⟩ ⟨_, _, _⟩ ⟨_, _, _⟩)
  · exact fun _ _ h => h.elim
@[reducible] def F20.G (T53 : Option Addr → Int → PT) (p : Option Addr) (n : Int) : PT := fun h Q =>
  T53 p n h fun r h1 => ∃ b : Bool, r = .bool b ∧ parB b (∃ b1 o, (p : Option Addr) = some ⟨b1, o, none⟩ ∧ ∃ l : Sl, h1.at b1 o = some (.slice l.a l.n l.c) ∧ ∃ b2 o1, (l.a : Option Addr) = some ⟨b2, o1, none⟩ ∧ ((0 : Int) ≤ n ∧ n < (l.n : Int)) ∧ ∃ l1 : Sl, h1.at b2 (o1 + n.toNat) = some (.slice l1.a l1.n l1.c) ∧ ∃ vs, h1.row l1.a (l1.n * 6) vs ∧ (∀ v ∈ vs, Value.oneCell' v = true) ∧ appendD ⟨none, 0, 0⟩ 65 6 64 [.int .u64 0, .int .i64 0, .int .i64 0, .int .i64 0, .string (ByteArray.mk #[]), .string (ByteArray.mk #[])] l1.n vs h1 fun l2 h2 => Q (.slice l2.a l2.n l2.c) h2) (Q (.slice none 0 0) h1)
def F20.T := F20.G F53.T
theorem F20.gen (V T53 p n) : denF Tryz.prog [] [(53, F53.W T53)] V [] Tryz.f20 [.v (.pointer p), .v (.int .i64 n)] = F20.G T53 p n := by kernel_rfl
def F20.W (T20 : Option Addr → Int → PT) (args : List Value) : PT := match args with
  | [.pointer p, .int .i64 n] => T20 p n
  | _ => fun _ _ => False
def F20.V : List Value → PT := F20.W F20.T
theorem F20.ok : FOk Tryz.prog 20 F20.V := by
  refine ⟨⟨_, Tryz.func20, rfl, rfl⟩, fun args => ?_⟩
  unfold F20.V F20.W
  split
  · exact denF_okE (GOk.cons F53.ok (GOk.nil)) noV_ok Tryz.func20 (F20.gen noV F53.T _ _)
  · exact fun _ _ h => h.elim
@[reducible] def F65.G (T20 : Option Addr → Int → PT) (p : Option Addr) (n : Int) (s s1 : ByteArray) : PT := fun h Q =>
  T20 p n h fun r h1 => ∃ l : Sl, r = .slice l.a l.n l.c ∧ ∃ (I : Sl → Int → Hp → Prop) (m : Sl → Int → Hp → Nat), I ⟨none, 0, 0⟩ 0 h1 ∧ (∀ l1 : Sl, ∀ n1 : Int, ∀ h2 : Hp, I l1 n1 h2 → par (n1 < (l.n : Int)) (∃ b o, (l.a : Option Addr) = some ⟨b, o, none⟩ ∧ ((0 : Int) ≤ n1 ∧ n1 < (l.n : Int)) ∧ ∃ n2 : Int, h2.at b (o + n1.toNat * 6) = some (.int .u64 n2) ∧ ∃ n3 : Int, h2.at b ((o + n1.toNat * 6) + 1) = some (.int .i64 n3) ∧ ∃ n4 : Int, h2.at b ((o + n1.toNat * 6) + 2) = some (.int .i64 n4) ∧ ∃ n5 : Int, h2.at b ((o + n1.toNat * 6) + 3) = some (.int .i64 n5) ∧ ∃ s2 : ByteArray, h2.at b ((o + n1.toNat * 6) + 4) = some (.string s2) ∧ ∃ s3 : ByteArray, h2.at b ((o + n1.toNat * 6) + 5) = some (.string s3) ∧ par (sLt s3 s) (I l1 (IntKind.wrap .i64 (n1 + 1)) h2 ∧ m l1 (IntKind.wrap .i64 (n1 + 1)) h2 < m l1 n1 h2) (par (sLt s2 s1 ∨ s2 = s1) (appendD l1 65 6 64 [.int .u64 0, .int .i64 0, .int .i64 0, .int .i64 0, .string (ByteArray.mk #[]), .string (ByteArray.mk #[])] 1 [.int .u64 n2, .int .i64 n3, .int .i64 n4, .int .i64 n5, .string s2, .string s3] h2 fun l2 h3 => I l2 (IntKind.wrap .i64 (n1 + 1)) h3 ∧ m l2 (IntKind.wrap .i64 (n1 + 1)) h3 < m l1 n1 h2) (I l1 (IntKind.wrap .i64 (n1 + 1)) h2 ∧ m l1 (IntKind.wrap .i64 (n1 + 1)) h2 < m l1 n1 h2))) (Q (.slice l1.a l1.n l1.c) h2))
def F65.T := F65.G F20.T
theorem F65.gen (V T20 p n s s1) : denF Tryz.prog [11, 32] [(20, F20.W T20)] V [(58, .loop [(9, .sl), (16, .int .i64)] [])] Tryz.f65 [.v (.pointer p), .v (.int .i64 n), .v (.string s), .v (.string s1)] = F65.G T20 p n s s1 := by kernel_rfl
def F65.W (T65 : Option Addr → Int → ByteArray → ByteArray → PT) (args : List Value) : PT := match args with
  | [.pointer p, .int .i64 n, .string s, .string s1] => T65 p n s s1
  | _ => fun _ _ => False
def F65.V : List Value → PT := F65.W F65.T
theorem F65.ok : FOk Tryz.prog 65 F65.V := by
  refine ⟨⟨_, Tryz.func65, rfl, rfl⟩, fun args => ?_⟩
  unfold F65.V F65.W
  split
  · exact denF_okE (GOk.cons F20.ok (GOk.nil)) noV_ok Tryz.func65 (F65.gen noV F20.T _ _ _ _)
  · exact fun _ _ h => h.elim
def F19.T (p : Option Addr) : PT := fun h Q =>
  ∃ b o, (p : Option Addr) = some ⟨b, o, none⟩ ∧ ∃ p1 : Option Addr, h.at b o = some (.pointer p1) ∧ Q (.pointer p1) h
theorem F19.den (V p) : denF Tryz.prog [] [] V [] Tryz.f19 [.v (.pointer p)] = F19.T p := by kernel_rfl
def F19.W (T19 : Option Addr → PT) (args : List Value) : PT := match args with
  | [.pointer p] => T19 p
  | _ => fun _ _ => False
def F19.V : List Value → PT := F19.W F19.T
theorem F19.ok : FOk Tryz.prog 19 F19.V := by
  refine ⟨⟨_, Tryz.func19, rfl, rfl⟩, fun args => ?_⟩
  unfold F19.V F19.W
  split
  · exact denF_okE (GOk.nil) noV_ok Tryz.func19 (F19.den noV _)
  · exact fun _ _ h => h.elim
def F34.T (p : Option Addr) : PT := fun h Q =>
  ∃ b o, (p : Option Addr) = some ⟨b, o, none⟩ ∧ ∃ l : Sl, h.at b o = some (.slice l.a l.n l.c) ∧ Q (.int .i64 (l.n : Int)) h
theorem F34.den (V p) : denF Tryz.prog [] [] V [] Tryz.f34 [.v (.pointer p)] = F34.T p := by kernel_rfl
def F34.W (T34 : Option Addr → PT) (args : List Value) : PT := match args with
  | [.pointer p] => T34 p
  | _ => fun _ _ => False
def F34.V : List Value → PT := F34.W F34.T
theorem F34.ok : FOk Tryz.prog 34 F34.V := by
  refine ⟨⟨_, Tryz.func34, rfl, rfl⟩, fun args => ?_⟩
  unfold F34.V F34.W
  split
  · exact denF_okE (GOk.nil) noV_ok Tryz.func34 (F34.den noV _)
  · exact fun _ _ h => h.elim
@[reducible] def F58.G (T20 : Option Addr → Int → PT) (p : Option Addr) (n : Int) : PT := fun h Q =>
  T20 p n h fun r h1 => ∃ l : Sl, r = .slice l.a l.n l.c ∧ ∃ (I : Int → Int → Hp → Prop) (m : Int → Int → Hp → Nat), I 0 0 h1 ∧ (∀ n1 n2 : Int, ∀ h2 : Hp, I n1 n2 h2 → par (n2 < (l.n : Int)) (∃ b o, (l.a : Option Addr) = some ⟨b, o, none⟩ ∧ ((0 : Int) ≤ n2 ∧ n2 < (l.n : Int)) ∧ ∃ n3 : Int, h2.at b (o + n2.toNat * 6) = some (.int .u64 n3) ∧ ∃ n4 : Int, h2.at b ((o + n2.toNat * 6) + 1) = some (.int .i64 n4) ∧ ∃ n5 : Int, h2.at b ((o + n2.toNat * 6) + 2) = some (.int .i64 n5) ∧ ∃ n6 : Int, h2.at b ((o + n2.toNat * 6) + 3) = some (.int .i64 n6) ∧ ∃ s : ByteArray, h2.at b ((o + n2.toNat * 6) + 4) = some (.string s) ∧ ∃ s1 : ByteArray, h2.at b ((o + n2.toNat * 6) + 5) = some (.string s1) ∧ I (IntKind.wrap .i64 (n1 + n4)) (IntKind.wrap .i64 (n2 + 1)) h2 ∧ m (IntKind.wrap .i64 (n1 + n4)) (IntKind.wrap .i64 (n2 + 1)) h2 < m n1 n2 h2) (Q (.int .i64 n1) h2))
def F58.T := F58.G F20.T
theorem F58.gen (V T20 p n) : denF Tryz.prog [7] [(20, F20.W T20)] V [(58, .loop [(5, .int .i64), (12, .int .i64)] [])] Tryz.f58 [.v (.pointer p), .v (.int .i64 n)] = F58.G T20 p n := by kernel_rfl
def F58.W (T58 : Option Addr → Int → PT) (args : List Value) : PT := match args with
  | [.pointer p, .int .i64 n] => T58 p n
  | _ => fun _ _ => False
def F58.V : List Value → PT := F58.W F58.T
theorem F58.ok : FOk Tryz.prog 58 F58.V := by
  refine ⟨⟨_, Tryz.func58, rfl, rfl⟩, fun args => ?_⟩
  unfold F58.V F58.W
  split
  · exact denF_okE (GOk.cons F20.ok (GOk.nil)) noV_ok Tryz.func58 (F58.gen noV F20.T _ _)
  · exact fun _ _ h => h.elim
end Go.Eng.YtbjnlacacapjiaaGreat
end
section
namespace Go.Eng
def encF : Nat → Nat → List Int
  | 0, _ => []
  | f + 1, n => if n < 128 then [(n : Int)] else ((n % 128 + 128 : Nat) : Int) :: encF f (n / 128)
def encU (n : Nat) : List Int := encF 10 n
def bv (l : List Int) : List Value := l.map (Value.int .u8)
end Go.Eng
namespace Go.Eng.YtbjnlacacapjiaaGreat
def encUs (ns : List Int) : List Int := ns.flatMap fun n => encU n.toNat
def uv (ns : List Int) : List Value := ns.map (Value.int .u64)
def bI (s : ByteArray) : List Int := s.data.toList.map fun b => (b.toNat : Int)
def encT (s : ByteArray) : List Int := encU s.size ++ bI s
end Go.Eng.YtbjnlacacapjiaaGreat
end
section
namespace Go.Eng.YtbjnlacacapjiaaGreat
structure Place where
  lv : Int
  num : Int
structure Placed where
  lv : Int
  num : Int
  weight : Int
  bytes : Int
  entries : Int
  least : ByteArray
  greatest : ByteArray
structure Edit where
  log : Int
  next : Int
  seq : Int
  out : List Place
  inn : List Placed
  ptr : List ByteArray
def Place.cells (p : Place) : List Value := [.int .i64 p.lv, .int .u64 p.num]
def Placed.cells (p : Placed) : List Value := [.int .i64 p.lv, .int .u64 p.num, .int .i64 p.weight, .int .i64 p.bytes, .int .i64 p.entries, .string p.least, .string p.greatest]
def outV (l : List Place) : List Value := l.flatMap Place.cells
def inV (l : List Placed) : List Value := l.flatMap Placed.cells
def ptrV (l : List ByteArray) : List Value := l.map Value.string
theorem flat_get {α : Type} (f : α → List Value) (n : Nat) (hf : ∀ x, (f x).length = n) : ∀ (l : List α) (i j : Nat) (hi : i < l.length), j < n → (l.flatMap f)[i * n + j]? = (f l[i])[j]?
  | [], i, j, hi, _ => by simp at hi
  | x :: l, 0, j, hi, hj => by
    simp only [List.flatMap_cons, Nat.zero_mul, Nat.zero_add, List.getElem_cons_zero]
    rw [List.getElem?_append_left (by rw [hf]; exact hj)]
  | x :: l, i + 1, j, hi, hj => by
    simp only [List.flatMap_cons, List.getElem_cons_succ]
    rw [List.getElem?_append_right (by rw [hf, Nat.add_mul]; omega), hf, show (i + 1) * n + j - n = i * n + j by rw [Nat.add_mul]; omega]
    exact flat_get f n hf l i j (by simpa using hi) hj
theorem flat_length {α : Type} (f : α → List Value) (n : Nat) (hf : ∀ x, (f x).length = n) (l : List α) : (l.flatMap f).length = l.length * n := by
  induction l with
  | nil => simp
  | cons x l ih => simp only [List.flatMap_cons, List.length_append, hf, ih, List.length_cons, Nat.add_mul]; omega
def okU (n : Int) : Prop := 0 ≤ n ∧ n < 18446744073709551616
def okI (n : Int) : Prop := 0 ≤ n ∧ n < 9223372036854775808
structure Place.ok (p : Place) : Prop where
  lv : okI p.lv
  num : okU p.num
structure Placed.ok (p : Placed) : Prop where
  lv : okI p.lv
  num : okU p.num
  weight : okI p.weight
  bytes : okI p.bytes
  entries : okI p.entries
  least : p.least.size ≤ 64
  greatest : p.greatest.size ≤ 64
def Place.enc (p : Place) : List Int := encUs [p.lv, p.num]
def Placed.enc (p : Placed) : List Int := encUs [p.lv, p.num, p.weight, p.bytes, p.entries] ++ encT p.least ++ encT p.greatest
def recB (e : Edit) (last : Bool) : List Int :=
  (if last then 1 else 0) :: (encUs [e.log, e.next, e.seq, (e.out.length : Int)] ++ e.out.flatMap Place.enc ++ encUs [(e.inn.length : Int)] ++ e.inn.flatMap Placed.enc ++ encUs [(e.ptr.length : Int)] ++ e.ptr.flatMap encT)
end Go.Eng.YtbjnlacacapjiaaGreat
end
section
namespace Go.Eng.YtbjnlacacapjiaaGreat
structure EdAt (h : Hp) (e : Edit) (l l1 l2 : Sl) : Prop where
  out : h.row l.a (l.n * 2) (outV e.out)
  inn : h.row l1.a (l1.n * 7) (inV e.inn)
  ptr : h.row l2.a l2.n (ptrV e.ptr)
structure Edit.small (e : Edit) : Prop where
  log : okU e.log
  next : okU e.next
  seq : okU e.seq
  out : ∀ p ∈ e.out, p.ok
  inn : ∀ p ∈ e.inn, p.ok
  ptr : ∀ p ∈ e.ptr, p.size ≤ 64
  nout : e.out.length ≤ 1000
  ninn : e.inn.length ≤ 1000
  nptr : e.ptr.length ≤ 1000
def New (h : Hp) (s : Sl) : Prop := ∃ b, s.a = some ⟨b, 0, none⟩ ∧ h b = none
end Go.Eng.YtbjnlacacapjiaaGreat
end
section
namespace Go.Eng.YtbjnlacacapjiaaGreat
def Place.told (p : Place) : Bool := decide (0 ≤ p.lv ∧ p.lv < 5)
def Placed.told (p : Placed) : Bool := decide (0 ≤ p.lv ∧ p.lv < 5 ∧ 0 ≤ p.weight ∧ 0 ≤ p.bytes ∧ 0 ≤ p.entries ∧ p.least.size ≤ 64 ∧ p.greatest.size ≤ 64)
def Edit.told (e : Edit) : Bool := e.out.all Place.told && (e.inn.all Placed.told && (e.ptr.all (fun s => decide (s.size ≤ 64)) && decide (e.ptr.length ≤ 5)))
theorem next_i {k n : Nat} (hk : k < n) (hn : n < 9223372036854775807) : IntKind.wrap .i64 ((k : Int) + 1) = ((k + 1 : Nat) : Int) := by rw [wrap_i64 (by omega) (by omega)]; omega
end Go.Eng.YtbjnlacacapjiaaGreat
end
section
namespace Go.Eng.YtbjnlacacapjiaaGreat
theorem row_drop {h : Hp} {A : Option Addr} {n k : Nat} {vs : List Value} (hr : h.row A n vs) (hk : k ≤ n) : h.row (A.map (·.add k)) (n - k) (vs.drop k) := by
  refine ⟨by rw [List.length_drop, hr.1], ?_⟩
  rcases hr.2 with h0 | ⟨b, o, hA, hat⟩
  · exact .inl (by omega)
  · refine .inr ⟨b, o + k, by rw [hA]; simp [addr_add], fun j hj => ?_⟩
    rw [Nat.add_assoc, hat (k + j) (by omega), List.getElem?_drop]
theorem row_congr {h : Hp} {A B : Option Addr} {n : Nat} {vs : List Value} (hr : h.row A n vs) (e : n = 0 ∨ A = B) : h.row B n vs := by
  rcases e with h0 | rfl
  · exact ⟨hr.1, .inl h0⟩
  · exact hr
theorem cut_back {h : Hp} {s : Sl} {sz k : Nat} {vs : List Value} (hr : h.row s.a (s.n * sz) vs) (hk : k ≤ s.n) (hc : s.n ≤ s.c) : h.row (Sl.cut s sz (k : Int) (s.n : Int) (s.c : Int)).a ((Sl.cut s sz (k : Int) (s.n : Int) (s.c : Int)).n * sz) (vs.drop (k * sz)) := by
  have h1 := row_drop hr (Nat.mul_le_mul_right sz hk)
  have hn : (Sl.cut s sz (k : Int) (s.n : Int) (s.c : Int)).n = s.n - k := by simp [Sl.cut]
  rw [hn, Nat.sub_mul]
  refine row_congr h1 ?_
  unfold Sl.cut
  simp only [Int.toNat_natCast]
  by_cases hck : s.c = k
  · left; have : s.n = k := by omega
    rw [this]; simp
  · right; rw [if_neg hck]
def front (e : Edit) : Edit := { e with out := e.out.take 256, inn := e.inn.take (256 - min e.out.length 256) }
def behind (e : Edit) : Edit := { e with out := e.out.drop 256, inn := e.inn.drop (256 - min e.out.length 256) }
def putF : Nat → Edit → List (List Int)
  | 0, _ => []
  | f + 1, e => if (behind e).out.length + (behind e).inn.length = 0 then [recB (front e) true] else recB { front e with ptr := [] } false :: putF f (behind e)
def putS (e : Edit) : List (List Int) := if e.told then putF (e.out.length + e.inn.length + 1) e else []
def RowsAt (h : Hp) (ss : List Sl) (bs : List (List Int)) : Prop := ss.length = bs.length ∧ ∀ (i : Nat) (hi : i < ss.length) (hj : i < bs.length), Buf h ss[i] 1 5 (bv bs[i])
def slV (ss : List Sl) : List Value := ss.map fun s => .slice s.a s.n s.c
theorem slV_length (ss : List Sl) : (slV ss).length = ss.length := List.length_map _
theorem EdAt.keep {h h' : Hp} {e : Edit} {l l1 l2 : Sl} (k : Keep h h') (E : EdAt h e l l1 l2) : EdAt h' e l l1 l2 := ⟨k.row E.out, k.row E.inn, k.row E.ptr⟩
end Go.Eng.YtbjnlacacapjiaaGreat
end
section
namespace Go.Eng.YtbjnlacacapjiaaGreat
structure Edit.valid (e : Edit) : Prop where
  log : okU e.log
  next : okU e.next
  seq : okU e.seq
  out : ∀ p ∈ e.out, p.lv < 9223372036854775808 ∧ okU p.num
  inn : ∀ p ∈ e.inn, p.lv < 9223372036854775808 ∧ okU p.num ∧ p.weight < 9223372036854775808 ∧ p.bytes < 9223372036854775808 ∧ p.entries < 9223372036854775808
structure Told (e : Edit) : Prop where
  out : ∀ p ∈ e.out, p.ok
  inn : ∀ p ∈ e.inn, p.ok
  ptr : ∀ p ∈ e.ptr, p.size ≤ 64
  n : e.ptr.length ≤ 5
end Go.Eng.YtbjnlacacapjiaaGreat
end
section
namespace Go.Eng.YtbjnlacacapjiaaGreat
def nx (i : Nat) (n c : Int) : Int := bitsI .or .u64 n (shlI .u64 (IntKind.wrap .u64 (bitsI .and .u8 c 127)) (7 * (i : Int)))
def uR : Nat → Int → List Int → Int × Nat × Int
  | _, _, [] => (0, 0, 20)
  | i, n, c :: l =>
    if (c = 0 ∧ 0 < i) ∨ (i = 9 ∧ c ≠ 1) then (0, 0, 21)
    else if c < 128 then (nx i n c, i + 1, 0) else uR (i + 1) (nx i n c) l
structure RS where
  b : List Int
  bad : Bool
def RS.skip (s : RS) (k : Nat) (e : Int) : RS := if e = 0 then ⟨s.b.drop k, s.bad⟩ else ⟨[], true⟩
def rU (s : RS) : Int × RS := ((uR 0 0 s.b).1, s.skip (uR 0 0 s.b).2.1 (uR 0 0 s.b).2.2)
def rW (m : Int) (s : RS) : Int × RS := if m < (rU s).1 then (0, ⟨(rU s).2.b, true⟩) else rU s
def toB (l : List Int) : ByteArray := ⟨(l.map fun n => UInt8.ofNat n.toNat).toArray⟩
def tR (l : List Int) : ByteArray × Nat × Int :=
  if (uR 0 0 l).2.2 = 0 then
    (if 64 < (uR 0 0 l).1 then (⟨#[]⟩, 0, 22)
    else if ((l.length - (uR 0 0 l).2.1 : Nat) : Int) < (uR 0 0 l).1 then (⟨#[]⟩, 0, 20)
    else (toB ((l.drop (uR 0 0 l).2.1).take (uR 0 0 l).1.toNat), (uR 0 0 l).2.1 + (uR 0 0 l).1.toNat, 0))
  else (⟨#[]⟩, 0, (uR 0 0 l).2.2)
def rT (s : RS) : ByteArray × RS := ((tR s.b).1, s.skip (tR s.b).2.1 (tR s.b).2.2)
def rb (b : Nat) : Sl := ⟨some ⟨b, 0, none⟩, 1, 1⟩
structure RdAt (h0 h : Hp) (b : Nat) (s : RS) : Prop where
  cell : ∃ l : Sl, h b = some (.cells ⟨[.slice l.a l.n l.c, .bool s.bad]⟩ 148 (0, 0)) ∧ h0.row l.a l.n (bv s.b) ∧ l.n ≤ l.c
  new : h0 b = none
  keep : Keep h0 h
  ok : ∀ c ∈ s.b, 0 ≤ c ∧ c < 256
  small : s.b.length ≤ 1000000000000
theorem wr_at {h : Hp} {b o t : Nat} {c : Array Value} {f : Nat × Nat} {vs : List Value} (hb : h b = some (.cells c t f)) : (h.wr b o vs) b = some (.cells (setL c.toList o vs).toArray t f) := by
  unfold Hp.wr; rw [if_pos rfl, hb]
end Go.Eng.YtbjnlacacapjiaaGreat
end
section
namespace Go.Eng.YtbjnlacacapjiaaGreat
def maxI : Int := 9223372036854775807
def outR : Nat → List Place → RS → Option (List Place × RS)
  | 0, acc, s => some (acc, s)
  | f + 1, acc, s => if (rU (rW 4 s).2).2.bad = true then none else outR f (acc ++ [⟨(rW 4 s).1, (rU (rW 4 s).2).1⟩]) (rU (rW 4 s).2).2
def plS (s : RS) : Placed × RS :=
  let a := rW 4 s
  let b := rU a.2
  let c := rW 9223372036854775807 b.2
  let d := rW 9223372036854775807 c.2
  let e := rW 9223372036854775807 d.2
  let x := rT e.2
  let y := rT x.2
  (⟨a.1, b.1, c.1, d.1, e.1, x.1, y.1⟩, y.2)
def inR : Nat → List Placed → RS → Option (List Placed × RS)
  | 0, acc, s => some (acc, s)
  | f + 1, acc, s => if (plS s).2.bad = true then none else inR f (acc ++ [(plS s).1]) (plS s).2
def ptR : Nat → List ByteArray → RS → Option (List ByteArray × RS)
  | 0, acc, s => some (acc, s)
  | f + 1, acc, s => if (rT s).2.bad = true then none else ptR f (acc ++ [(rT s).1]) (rT s).2
def rdP (c a b d : Int) (o : List Place) (i : List Placed) (s : RS) : Option (Edit × Bool) :=
  match ptR (rU s).1.toNat [] (rU s).2 with
  | none => none
  | some x => if x.2.bad = true then none else if x.2.b.length = 0 then some (⟨a, b, d, o, i, x.1⟩, decide (c = 1)) else none
def rdI (c a b d : Int) (o : List Place) (s : RS) : Option (Edit × Bool) :=
  match inR (rU s).1.toNat [] (rU s).2 with
  | none => none
  | some x => rdP c a b d o x.1 x.2
def rdO (c a b d : Int) (s : RS) : Option (Edit × Bool) :=
  match outR (rU s).1.toNat [] (rU s).2 with
  | none => none
  | some x => rdI c a b d x.1 x.2
def rd : List Int → Option (Edit × Bool)
  | [] => none
  | c :: l => if 1 < c then none else rdO c (rU ⟨l, false⟩).1 (rU (rU ⟨l, false⟩).2).1 (rU (rU (rU ⟨l, false⟩).2).2).1 (rU (rU (rU ⟨l, false⟩).2).2).2
def Place.val (p : Place) : Prop := p.lv < 9223372036854775808 ∧ okU p.num
def Placed.val (p : Placed) : Prop := p.lv < 9223372036854775808 ∧ okU p.num ∧ p.weight < 9223372036854775808 ∧ p.bytes < 9223372036854775808 ∧ p.entries < 9223372036854775808
structure St (h0 h : Hp) (b : Nat) (s : RS) (l1 l2 l3 : Sl) (o : List Place) (i : List Placed) (p : List ByteArray) (N : Nat) : Prop where
  rd : RdAt h0 h b s
  out : Buf h l1 2 132 (outV o)
  inn : Buf h l2 7 98 (inV i)
  ptr : Buf h l3 1 9 (ptrV p)
  n1 : l1.a = none ∨ New h0 l1
  n2 : l2.a = none ∨ New h0 l2
  n3 : l3.a = none ∨ New h0 l3
  room : o.length + i.length + p.length + s.b.length ≤ N
  vo : ∀ x ∈ o, x.val
  vi : ∀ x ∈ i, x.val
@[reducible] def noneV : Value := .tuple ⟨[.agg ⟨[.int .u64 0, .int .u64 0, .int .u64 0, .slice none 0 0, .slice none 0 0, .slice none 0 0]⟩, .bool false, .bool false]⟩
structure EdB (h0 h : Hp) (e : Edit) (l1 l2 l3 : Sl) : Prop where
  out : Buf h l1 2 132 (outV e.out)
  inn : Buf h l2 7 98 (inV e.inn)
  ptr : Buf h l3 1 9 (ptrV e.ptr)
  n1 : l1.a = none ∨ New h0 l1
  n2 : l2.a = none ∨ New h0 l2
  n3 : l3.a = none ∨ New h0 l3
end Go.Eng.YtbjnlacacapjiaaGreat
end
section
namespace Go.Eng.YtbjnlacacapjiaaGreat
def Rows (h : Hp) (ss : List Sl) (bs : List (List Int)) : Prop := ss.length = bs.length ∧ ∀ (i : Nat) (hi : i < ss.length) (hj : i < bs.length), h.row ss[i].a ss[i].n (bv bs[i])
def sameP (e : Edit) (recs : List (List Int)) (whole : Bool) : Bool :=
  if (putS e).length < recs.length then false else if whole = true ∧ (putS e).length ≠ recs.length then false else decide ((putS e).take recs.length = recs)
end Go.Eng.YtbjnlacacapjiaaGreat
end
section
namespace Go.Eng.YtbjnlacacapjiaaGreat
def zE : Edit := ⟨0, 0, 0, [], [], []⟩
def pl0 : Placed := ⟨0, 0, 0, 0, 0, ⟨#[]⟩, ⟨#[]⟩⟩
def joinE (cur x : Edit) (part : List (List Int)) : Edit := if part.length = 0 then x else ⟨x.log, x.next, x.seq, cur.out ++ x.out, cur.inn ++ x.inn, x.ptr⟩
def withP (e : Edit) : Edit := ⟨e.log, e.next, e.seq, e.out, e.inn ++ [pl0], e.ptr⟩
def getR : List (List Int) → List Edit → Edit → List (List Int) → Option (List Edit)
  | [], acc, cur, part => if part.length = 0 then some acc else if sameP (withP cur) part false = true then some acc else none
  | r :: rs, acc, cur, part =>
    match rd r with
    | none => none
    | some x => if x.2 = true then (if sameP (joinE cur x.1 part) (part ++ [r]) true = true then getR rs (acc ++ [joinE cur x.1 part]) zE [] else none) else getR rs acc (joinE cur x.1 part) (part ++ [r])
def tot (l : List (List Int)) : Nat := (l.map fun r => r.length + 1).sum
structure EdS where
  e : Edit
  a : Sl
  b : Sl
  c : Sl
def EdS.cells (x : EdS) : List Value := [.int .u64 x.e.log, .int .u64 x.e.next, .int .u64 x.e.seq, .slice x.a.a x.a.n x.a.c, .slice x.b.a x.b.n x.b.c, .slice x.c.a x.c.n x.c.c]
def edV (l : List EdS) : List Value := l.flatMap EdS.cells
structure EdOk (h : Hp) (x : EdS) : Prop where
  out : Buf h x.a 2 132 (outV x.e.out)
  inn : Buf h x.b 7 98 (inV x.e.inn)
  ptr : Buf h x.c 1 9 (ptrV x.e.ptr)
  val : x.e.valid
  size : x.e.out.length + x.e.inn.length ≤ 400000000000
  nptr : x.e.ptr.length ≤ 1000000000
structure Recs (h : Hp) (l : Sl) (ss : List Sl) (recs : List (List Int)) : Prop where
  row : h.row l.a l.n (slV ss)
  cap : l.n ≤ l.c
  rows : Rows h ss recs
  caps : ∀ s ∈ ss, s.n ≤ s.c
  ok : ∀ r ∈ recs, ∀ c ∈ r, 0 ≤ c ∧ c < 256
  each : ∀ r ∈ recs, r.length ≤ 1000000000
  tot : tot recs ≤ 200000000000
end Go.Eng.YtbjnlacacapjiaaGreat
end
section
namespace Go.Eng.YtbjnlacacapjiaaGreat
theorem keep_wr_new {h h1 : Hp} {b : Nat} (hb : h b = none) (K : Keep h h1) (o : Nat) (vs : List Value) : Keep h (h1.wr b o vs) := by
  intro k x e
  unfold Hp.wr
  by_cases hk : k = b
  · rw [hk, hb] at e; cases e
  · rw [if_neg hk]; exact K k x e
theorem new_self (h : Hp) (b : Nat) (o : Obj) : (h.new b o) b = some o := by unfold Hp.new; rw [if_pos rfl]
def totS (l : List Sl) : Nat := (l.map fun s => s.n + 1).sum
end Go.Eng.YtbjnlacacapjiaaGreat
end
section
namespace Go.Eng.YtbjnlacacapjiaaGreat
def eK : Edit := ⟨2, 9, 300, [⟨0, 4⟩], [⟨1, 8, 455, 90, 1, ⟨#[97]⟩, ⟨#[97]⟩⟩], []⟩
def rK : List Int := [1, 2, 9, 172, 2, 1, 0, 4, 1, 1, 8, 199, 3, 90, 1, 1, 97, 1, 97, 0]
end Go.Eng.YtbjnlacacapjiaaGreat
end
section
namespace Go.Eng.YtbjnlacacapjiaaGreat
structure PGood (p : Place) : Prop where
  l0 : 0 ≤ p.lv
  l4 : p.lv ≤ 4
  num : okU p.num
structure DGood (p : Placed) : Prop where
  l0 : 0 ≤ p.lv
  l4 : p.lv ≤ 4
  num : okU p.num
  w0 : 0 ≤ p.weight
  w1 : p.weight ≤ 9223372036854775807
  b0 : 0 ≤ p.bytes
  b1 : p.bytes ≤ 9223372036854775807
  e0 : 0 ≤ p.entries
  e1 : p.entries ≤ 9223372036854775807
  least : p.least.size ≤ 64
  greatest : p.greatest.size ≤ 64
structure Good (e : Edit) : Prop where
  log : okU e.log
  next : okU e.next
  seq : okU e.seq
  out : ∀ p ∈ e.out, PGood p
  inn : ∀ p ∈ e.inn, DGood p
  ptr : ∀ p ∈ e.ptr, p.size ≤ 64
  nptr : e.ptr.length ≤ 5
end Go.Eng.YtbjnlacacapjiaaGreat
end
section
namespace Go.Eng.YtbjnlacacapjiaaGreat
def Edit.size (e : Edit) : Nat := e.out.length + e.inn.length
def piece (e : Edit) : Edit := { front e with ptr := [] }
def pre : Nat → Edit → Edit
  | 0, e => ⟨e.log, e.next, e.seq, [], [], []⟩
  | k + 1, e => ⟨e.log, e.next, e.seq, (front e).out ++ (pre k (behind e)).out, (front e).inn ++ (pre k (behind e)).inn, []⟩
end Go.Eng.YtbjnlacacapjiaaGreat
end
section
namespace Go.Eng.YtbjnlacacapjiaaGreat
def iI (n : Int) : Prop := -9223372036854775808 ≤ n ∧ n < 9223372036854775808
structure Raw (e : Edit) : Prop where
  log : okU e.log
  next : okU e.next
  seq : okU e.seq
  out : ∀ p ∈ e.out, iI p.lv ∧ okU p.num
  inn : ∀ p ∈ e.inn, iI p.lv ∧ okU p.num ∧ iI p.weight ∧ iI p.bytes ∧ iI p.entries ∧ p.least.size ≤ 9223372036854775807 ∧ p.greatest.size ≤ 9223372036854775807
  ptr : ∀ p ∈ e.ptr, p.size ≤ 9223372036854775807
structure Args (h : Hp) (l : Sl) (L : List EdS) : Prop where
  row : h.row l.a (l.n * 6) (edV L)
  at_ : ∀ x ∈ L, EdAt h x.e x.a x.b x.c
  raw : ∀ x ∈ L, Raw x.e
  big : ∀ x ∈ L, x.e.out.length ≤ 9223372036854775807 ∧ x.e.inn.length ≤ 9223372036854775807 ∧ x.e.ptr.length ≤ 9223372036854775807
def adv (c m : Int) : Int := if 0 ≤ c then c - m else c
def parts (L : List EdS) : Nat := (L.map fun x => 1 + x.e.out.length + x.e.inn.length + x.e.ptr.length).sum
end Go.Eng.YtbjnlacacapjiaaGreat
end
section
namespace Go.Eng.YtbjnlacacapjiaaGreat
structure Three (h : Hp) (x : EdS) : Prop where
  a : Buf h x.a 2 132 (outV x.e.out)
  b : Buf h x.b 7 98 (inV x.e.inn)
  c : Buf h x.c 1 9 (ptrV x.e.ptr)
def Ap (y z : EdS) : Prop := Off y.a z.a ∧ Off y.b z.b ∧ Off y.c z.c
def PW (L : List EdS) : Prop := L.Pairwise fun y z => Ap y z ∧ Ap z y
structure Ws (h0 h : Hp) (l1 : Sl) (L : List EdS) : Prop where
  B : Buf h l1 6 28 (edV L)
  T : ∀ y ∈ L, Three h y
  N : ∀ y ∈ L, (y.a.a = none ∨ New h0 y.a) ∧ (y.b.a = none ∨ New h0 y.b) ∧ (y.c.a = none ∨ New h0 y.c)
  N1 : l1.a = none ∨ New h0 l1
  K : Keep h0 h
theorem new_off {h : Hp} {s r : Sl} {sz t : Nat} {vs : List Value} (N : s.a = none ∨ New h s) (B : Buf h r sz t vs) : Off r s ∧ Off s r := by
  have key : ∀ b o o', r.a = some ⟨b, o, none⟩ → s.a = some ⟨b, o', none⟩ → False := by
    intro b o o' e1 e2
    rcases N with h0 | ⟨k, hk, hn⟩
    · rw [h0] at e2; cases e2
    · rw [hk] at e2
      simp only [Option.some.injEq, Addr.mk.injEq] at e2
      rcases B.own with ⟨ha, _⟩ | ⟨b1, c, f, ha, hb, _⟩
      · rw [ha] at e1; cases e1
      · rw [ha] at e1
        simp only [Option.some.injEq, Addr.mk.injEq] at e1
        rw [e1.1, ← e2.1, hn] at hb; cases hb
  exact ⟨fun b o o' e1 e2 => key b o o' e1 e2, fun b o o' e1 e2 => key b o' o e2 e1⟩
theorem buf_set {h : Hp} {s : Sl} {sz t k : Nat} {vs : List Value} (B : Buf h s sz t vs) (hk : k < vs.length) : ∃ b, s.a = some ⟨b, 0, none⟩ ∧ h.at b k = vs[k]? ∧ h.canW b k 1 ∧ ∀ v, Upd h (h.wr b k [v]) s s ∧ Buf (h.wr b k [v]) s sz t (vs.set k v) := by
  rcases B.own with ⟨ha, hc⟩ | ⟨b, c, f, ha, hb, hsz, hf, ht⟩
  · have h1 := B.len
    have h2 := B.cap
    have : s.n = 0 := by omega
    rw [this, Nat.zero_mul] at h1
    omega
  · have hlen : vs.length ≤ c.size := by
      rw [B.len]
      exact Nat.le_trans (Nat.mul_le_mul_right _ B.cap) hsz
    have hget : c[k]? = vs[k]? := by
      rw [← ht, List.getElem?_take, if_pos hk, Array.getElem?_toList]
    refine ⟨b, ha, by unfold Hp.at; rw [hb]; exact hget, ⟨c, t, f, hb, by omega, fun j h1 h2 => hf j (by omega)⟩, fun v => ⟨⟨fun j x hj e => ?_, .inl rfl, fun j e => ?_⟩, ⟨by rw [List.length_set]; exact B.len, B.cap, .inr ⟨b, (setL c.toList k [v]).toArray, f, ha, wr_at hb, ?_, ?_, ?_⟩⟩⟩⟩
    · have hjb : j ≠ b := fun q => hj 0 (by rw [q]; exact ha)
      unfold Hp.wr
      rw [if_neg hjb]
      exact e
    · unfold Hp.wr at e
      by_cases hjb : j = b
      · rw [if_pos hjb, hb] at e; cases e
      · rw [if_neg hjb] at e; exact e
    · simp only [List.size_toArray, setL_length, Array.length_toList]; exact hsz
    · intro j hj
      simp only [List.size_toArray, setL_length, Array.length_toList] at hj
      exact hf j hj
    · show ((c.toList.set k v).take (vs.set k v).length) = vs.set k v
      rw [List.length_set, List.take_set, ht]
theorem outV_len (o : List Place) : (outV o).length = o.length * 2 := flat_length Place.cells 2 (fun _ => rfl) o
theorem inV_len (o : List Placed) : (inV o).length = o.length * 7 := flat_length Placed.cells 7 (fun _ => rfl) o
end Go.Eng.YtbjnlacacapjiaaGreat
end
section
set_option maxRecDepth 100000
namespace Go.Eng.YtbjnlacacapjiaaGreat
theorem setL_app : ∀ (V A U B : List Value), U.length = V.length → setL (A ++ (U ++ B)) A.length V = A ++ (V ++ B)
  | [], A, U, B, h => by
    have : U = [] := List.eq_nil_of_length_eq_zero h
    subst this; rfl
  | v :: V, A, [], B, h => (by cases h)
  | v :: V, A, u :: U, B, h => by
    unfold setL
    have e : (A ++ (u :: U ++ B)).set A.length v = (A ++ [v]) ++ (U ++ B) := by simp
    have l : A.length + 1 = (A ++ [v]).length := by simp
    rw [e, l, setL_app V (A ++ [v]) U B (by simpa using h)]
    simp
theorem bufWr {h : Hp} {s : Sl} {sz t : Nat} {A U V B : List Value} (Bf : Buf h s sz t (A ++ (U ++ B))) (hu : U.length = V.length) (h0 : 0 < U.length) : ∃ b, s.a = some ⟨b, 0, none⟩ ∧ h.canW b A.length V.length ∧ Upd h (h.wr b A.length V) s s ∧ Buf (h.wr b A.length V) s sz t (A ++ (V ++ B)) := by
  have hlen0 : (A ++ (U ++ B)).length = A.length + (U.length + B.length) := by simp
  have hlen1 : (A ++ (V ++ B)).length = A.length + (U.length + B.length) := by simp [hu]
  rcases Bf.own with ⟨ha, hc⟩ | ⟨b, c, f, ha, hb, hsz, hf, ht⟩
  · have h1 := Bf.len
    have h2 := Bf.cap
    have : s.n = 0 := by omega
    rw [this, Nat.zero_mul] at h1
    omega
  · have hcl : (A ++ (U ++ B)).length ≤ c.size := by
      rw [Bf.len]
      exact Nat.le_trans (Nat.mul_le_mul_right _ Bf.cap) hsz
    have hct : c.toList = A ++ (U ++ (B ++ c.toList.drop (A ++ (U ++ B)).length)) := by
      have := List.take_append_drop (A ++ (U ++ B)).length c.toList
      rw [ht] at this
      rw [← this]
      simp
    refine ⟨b, ha, ⟨c, t, f, hb, by omega, fun j h1 h2 => hf j (by omega)⟩, ⟨fun j x hj e => ?_, .inl rfl, fun j e => ?_⟩, ⟨by rw [hlen1, ← hlen0]; exact Bf.len, Bf.cap, .inr ⟨b, (setL c.toList A.length V).toArray, f, ha, wr_at hb, ?_, ?_, ?_⟩⟩⟩
    · have hjb : j ≠ b := fun q => hj 0 (by rw [q]; exact ha)
      unfold Hp.wr
      rw [if_neg hjb]
      exact e
    · unfold Hp.wr at e
      by_cases hjb : j = b
      · rw [if_pos hjb, hb] at e; cases e
      · rw [if_neg hjb] at e; exact e
    · simp only [List.size_toArray, setL_length, Array.length_toList]; exact hsz
    · intro j hj
      simp only [List.size_toArray, setL_length, Array.length_toList] at hj
      exact hf j hj
    · show ((setL c.toList A.length V).take (A ++ (V ++ B)).length) = A ++ (V ++ B)
      rw [hct, setL_app V A U _ hu, show A ++ (V ++ (B ++ c.toList.drop (A ++ (U ++ B)).length)) = (A ++ (V ++ B)) ++ c.toList.drop (A ++ (U ++ B)).length by simp, List.take_left' rfl]
def lcmp : List UInt8 → List UInt8 → Int := Go.Lib.compareBytes
theorem lcmp_cons (a b : UInt8) (l m : List UInt8) : lcmp (a :: l) (b :: m) = if a < b then -1 else if b < a then 1 else lcmp l m := rfl
theorem u8_tri (a b : UInt8) : a < b ∨ b < a ∨ a = b := by
  rcases Nat.lt_trichotomy a.toNat b.toNat with h | h | h
  · exact .inl h
  · exact .inr (.inr (UInt8.toNat_inj.1 h))
  · exact .inr (.inl h)
theorem u8_irr {a : UInt8} : ¬ a < a := fun h => Nat.lt_irrefl _ (show a.toNat < a.toNat from h)
theorem u8_asym {a b : UInt8} (h : a < b) : ¬ b < a := fun k => Nat.lt_asymm (show a.toNat < b.toNat from h) k
theorem u8_trans {a b c : UInt8} (h : a < b) (k : b < c) : a < c := Nat.lt_trans (show a.toNat < b.toNat from h) k
theorem lcmp_flip : ∀ l m, lcmp l m = - lcmp m l
  | [], [] => rfl
  | [], _ :: _ => rfl
  | _ :: _, [] => rfl
  | a :: l, b :: m => by
    rw [lcmp_cons, lcmp_cons]
    rcases u8_tri a b with h | h | rfl
    · rw [if_pos h, if_neg (u8_asym h), if_pos h]
    · rw [if_neg (u8_asym h), if_pos h, if_pos h]; rfl
    · rw [if_neg u8_irr, if_neg u8_irr, if_neg u8_irr, if_neg u8_irr, lcmp_flip l m]
theorem lcmp_zero : ∀ l m, lcmp l m = 0 → l = m
  | [], [], _ => rfl
  | [], _ :: _, h => (by cases h)
  | _ :: _, [], h => (by cases h)
  | a :: l, b :: m, h => by
    rw [lcmp_cons] at h
    rcases u8_tri a b with k | k | rfl
    · rw [if_pos k] at h; cases h
    · rw [if_neg (u8_asym k), if_pos k] at h; cases h
    · rw [if_neg u8_irr, if_neg u8_irr] at h; rw [lcmp_zero l m h]
theorem lcmp_trans : ∀ l m n, lcmp l m < 0 → lcmp m n < 0 → lcmp l n < 0
  | [], [], _, h, _ => (by cases h)
  | _ :: _, [], _, h, _ => absurd h (by decide : ¬ (1 : Int) < 0)
  | [], _ :: _, [], _, k => absurd k (by decide : ¬ (1 : Int) < 0)
  | [], _ :: _, _ :: _, _, _ => (by decide : (-1 : Int) < 0)
  | _ :: _, _ :: _, [], _, k => absurd k (by decide : ¬ (1 : Int) < 0)
  | a :: l, b :: m, c :: n, h, k => by
    rw [lcmp_cons] at h k ⊢
    rcases u8_tri a b with x | x | rfl
    · rcases u8_tri b c with y | y | rfl
      · rw [if_pos (u8_trans x y)]; decide
      · rw [if_neg (u8_asym y), if_pos y] at k; exact absurd k (by decide)
      · rw [if_pos x]; decide
    · rw [if_neg (u8_asym x), if_pos x] at h; exact absurd h (by decide)
    · rw [if_neg u8_irr, if_neg u8_irr] at h
      rcases u8_tri a c with y | y | rfl
      · rw [if_pos y]; decide
      · rw [if_neg (u8_asym y), if_pos y] at k; exact absurd k (by decide)
      · rw [if_neg u8_irr, if_neg u8_irr] at k ⊢
        exact lcmp_trans l m n h k
def Bl (a b : ByteArray) : Prop := cmpI a b < 0
theorem cmpI_eq (a b : ByteArray) : cmpI a b = lcmp a.data.toList b.data.toList := rfl
theorem Bl.trans {a b c : ByteArray} (h : Bl a b) (k : Bl b c) : Bl a c := lcmp_trans _ _ _ h k
theorem Bl.asym {a b : ByteArray} (h : Bl a b) : ¬ Bl b a := by
  unfold Bl at h ⊢
  rw [cmpI_eq, lcmp_flip] at h
  rw [cmpI_eq]
  omega
theorem Bl.irr {a : ByteArray} : ¬ Bl a a := fun h => h.asym h
theorem bl_tri (a b : ByteArray) : Bl a b ∨ Bl b a ∨ a = b := by
  unfold Bl
  have h := lcmp_flip a.data.toList b.data.toList
  rw [cmpI_eq, cmpI_eq]
  rcases Int.lt_trichotomy (lcmp a.data.toList b.data.toList) 0 with k | k | k
  · exact .inl k
  · right; right
    have := lcmp_zero _ _ k
    exact ByteArray.ext (Array.ext' this)
  · exact .inr (.inl (by omega))
def Le (a b : ByteArray) : Prop := ¬ Bl b a
theorem Le.refl (a : ByteArray) : Le a a := Bl.irr
theorem Le.of {a b : ByteArray} (h : Bl a b) : Le a b := h.asym
theorem Le.trans {a b c : ByteArray} (h : Le a b) (k : Le b c) : Le a c := by
  intro hc
  rcases bl_tri a b with x | x | rfl
  · exact k (hc.trans x)
  · exact h x
  · exact k hc
theorem bytesLess_eq : ∀ l m, Op.bytesLess l m = decide (lcmp l m < 0)
  | [], [] => rfl
  | _ :: _, [] => rfl
  | [], _ :: _ => rfl
  | a :: l, b :: m => by
    rw [lcmp_cons]
    unfold Op.bytesLess
    rcases u8_tri a b with h | h | rfl
    · rw [if_pos h, decide_eq_true h]; rfl
    · have hne : (a == b) = false := by
        rw [beq_eq_false_iff_ne]; rintro rfl; exact u8_irr h
      rw [if_neg (u8_asym h), if_pos h, decide_eq_false (u8_asym h), hne]; rfl
    · rw [if_neg u8_irr, if_neg u8_irr, decide_eq_false u8_irr, beq_self_eq_true, bytesLess_eq l m]; rfl
theorem sLt_bl (a b : ByteArray) : sLt a b ↔ Bl a b := by
  unfold sLt Bl
  rw [ByteArray.toList_eq, ByteArray.toList_eq, bytesLess_eq, decide_eq_true_eq]
  rfl
structure Tab where
  num : Int
  weight : Int
  bytes : Int
  entries : Int
  least : ByteArray
  greatest : ByteArray
def Tab.cells (t : Tab) : List Value := [.int .u64 t.num, .int .i64 t.weight, .int .i64 t.bytes, .int .i64 t.entries, .string t.least, .string t.greatest]
def tabV (ts : List Tab) : List Value := ts.flatMap Tab.cells
theorem tabV_len (ts : List Tab) : (tabV ts).length = ts.length * 6 := flat_length Tab.cells 6 (fun _ => rfl) ts
def TB (h : Hp) (l : Sl) (ts : List Tab) : Prop := Buf h l 6 65 (tabV ts)
theorem TB.n {h : Hp} {l : Sl} {ts : List Tab} (B : TB h l ts) : l.n = ts.length := by
  have := Buf.len B; rw [tabV_len] at this; omega
theorem tab_rd {h : Hp} {l : Sl} {P R : List Tab} {t : Tab} (hr : h.row l.a (l.n * 6) (tabV (P ++ t :: R))) {i : Int} (hi : i = (P.length : Int)) {K : Nat → Nat → Int → Int → Int → Int → ByteArray → ByteArray → Prop} (hK : ∀ b o, K b o t.num t.weight t.bytes t.entries t.least t.greatest) :
    ∃ b o, (l.a : Option Addr) = some ⟨b, o, none⟩ ∧ ((0 : Int) ≤ i ∧ i < (l.n : Int)) ∧ ∃ n4 : Int, h.at b (o + i.toNat * 6) = some (.int .u64 n4) ∧ ∃ n5 : Int, h.at b ((o + i.toNat * 6) + 1) = some (.int .i64 n5) ∧ ∃ n6 : Int, h.at b ((o + i.toNat * 6) + 2) = some (.int .i64 n6) ∧ ∃ n7 : Int, h.at b ((o + i.toNat * 6) + 3) = some (.int .i64 n7) ∧ ∃ s : ByteArray, h.at b ((o + i.toNat * 6) + 4) = some (.string s) ∧ ∃ s1 : ByteArray, h.at b ((o + i.toNat * 6) + 5) = some (.string s1) ∧ K b o n4 n5 n6 n7 s s1 := by
  subst hi
  have hl := hr.1
  rw [tabV_len, List.length_append, List.length_cons] at hl
  obtain ⟨b, o, ha, hat⟩ := row_get hr (i := P.length * 6) (by omega)
  have c : ∀ j, j < 6 → h.at b ((o + (P.length : Int).toNat * 6) + j) = (Tab.cells t)[j]? := fun j hj => by
    rw [Int.toNat_natCast, Nat.add_assoc, hat _ (by omega)]
    have := flat_get Tab.cells 6 (fun _ => rfl) (P ++ t :: R) P.length j (by rw [List.length_append, List.length_cons]; omega) hj
    rw [List.getElem_append_right (Nat.le_refl _)] at this
    simp only [Nat.sub_self, List.getElem_cons_zero] at this
    exact this
  exact ⟨b, o, ha, ⟨by omega, by omega⟩, _, c 0 (by decide), _, c 1 (by decide), _, c 2 (by decide), _, c 3 (by decide), _, c 4 (by decide), _, c 5 (by decide), hK b o⟩
theorem TB.rd {h : Hp} {l : Sl} {ts P R : List Tab} {t : Tab} (B : TB h l ts) (e : ts = P ++ t :: R) {i : Int} (hi : i = (P.length : Int)) {K : Nat → Nat → Int → Int → Int → Int → ByteArray → ByteArray → Prop} (hK : ∀ b o, K b o t.num t.weight t.bytes t.entries t.least t.greatest) :
    ∃ b o, (l.a : Option Addr) = some ⟨b, o, none⟩ ∧ ((0 : Int) ≤ i ∧ i < (l.n : Int)) ∧ ∃ n4 : Int, h.at b (o + i.toNat * 6) = some (.int .u64 n4) ∧ ∃ n5 : Int, h.at b ((o + i.toNat * 6) + 1) = some (.int .i64 n5) ∧ ∃ n6 : Int, h.at b ((o + i.toNat * 6) + 2) = some (.int .i64 n6) ∧ ∃ n7 : Int, h.at b ((o + i.toNat * 6) + 3) = some (.int .i64 n7) ∧ ∃ s : ByteArray, h.at b ((o + i.toNat * 6) + 4) = some (.string s) ∧ ∃ s1 : ByteArray, h.at b ((o + i.toNat * 6) + 5) = some (.string s1) ∧ K b o n4 n5 n6 n7 s s1 := by
  subst e
  exact tab_rd (Buf.row B) hi hK
theorem TB.wr {h : Hp} {l : Sl} {ts P R : List Tab} {x t : Tab} (B : TB h l ts) (e : ts = P ++ x :: R) {i : Int} (hi : i = (P.length : Int)) {K : Nat → Nat → Prop} (hK : ∀ b, TB (h.wr b (0 + i.toNat * 6) [.int .u64 t.num, .int .i64 t.weight, .int .i64 t.bytes, .int .i64 t.entries, .string t.least, .string t.greatest]) l (P ++ t :: R) → Upd h (h.wr b (0 + i.toNat * 6) [.int .u64 t.num, .int .i64 t.weight, .int .i64 t.bytes, .int .i64 t.entries, .string t.least, .string t.greatest]) l l → K b 0) :
    ∃ b o, (l.a : Option Addr) = some ⟨b, o, none⟩ ∧ ((0 : Int) ≤ i ∧ i < (l.n : Int)) ∧ h.canW b (o + i.toNat * 6) 6 ∧ K b o := by
  subst e hi
  have hn := B.n
  rw [List.length_append, List.length_cons] at hn
  have e2 : ∀ t : Tab, tabV (P ++ t :: R) = tabV P ++ (t.cells ++ tabV R) := fun t => by unfold tabV; simp
  have B' : Buf h l 6 65 (tabV P ++ (x.cells ++ tabV R)) := by rw [← e2]; exact B
  obtain ⟨b, ha, hc, U, Bw⟩ := bufWr (V := t.cells) B' rfl (show 0 < 6 by decide)
  rw [tabV_len] at hc U Bw
  refine ⟨b, 0, ha, ⟨by omega, by omega⟩, by rw [Nat.zero_add, Int.toNat_natCast]; exact hc, hK b ?_ ?_⟩
  · rw [Nat.zero_add, Int.toNat_natCast]
    show Buf _ l 6 65 (tabV (P ++ t :: R))
    rw [e2]; exact Bw
  · rw [Nat.zero_add, Int.toNat_natCast]; exact U
theorem cmp_spec {h : Hp} {x y : Tab} {Q : Value → Hp → Prop} (h1 : Bl x.least y.least → ∀ n : Int, n < 0 → Q (.int .i64 n) h) (h2 : Le y.least x.least → ∀ n : Int, ¬ n < 0 → Q (.int .i64 n) h) : F77.T x.num x.weight x.bytes x.entries x.least x.greatest y.num y.weight y.bytes y.entries y.least y.greatest h Q := by
  unfold F77.T F78.T F85.T F77.G F78.G F85.G
  refine ⟨_, rfl, ⟨_, rfl, ⟨_, rfl, ?_⟩⟩⟩
  by_cases hc : Bl x.least y.least
  · exact h1 hc _ hc
  · exact h2 hc _ hc
def Srt (ts : List Tab) : Prop := ts.Pairwise fun x y => Le x.least y.least
structure Sv (h h' : Hp) (l : Sl) (ts : List Tab) : Prop where
  b : TB h' l ts
  up : Upd h h' l l
end Go.Eng.YtbjnlacacapjiaaGreat
end
section
set_option maxRecDepth 100000
namespace Go.Eng.YtbjnlacacapjiaaGreat
def uvs (vs : List Int) : List Value := vs.map fun n => .int .u64 n
def Us (h : Hp) (l : Sl) : Prop := ∃ vs : List Int, Buf h l 1 55 (uvs vs)
theorem Us.keep {h h' : Hp} {l : Sl} (k : Keep h h') (U : Us h l) : Us h' l := by obtain ⟨vs, B⟩ := U; exact ⟨vs, B.keep k⟩
theorem uvs_len (vs : List Int) : (uvs vs).length = vs.length := List.length_map _
theorem Us.rd {h : Hp} {l : Sl} (U : Us h l) {i : Int} (h0 : 0 ≤ i) (h1 : i < (l.n : Int)) {K : Nat → Nat → Int → Prop} (hK : ∀ b v, K b 0 v) : ∃ b o, (l.a : Option Addr) = some ⟨b, o, none⟩ ∧ ((0 : Int) ≤ i ∧ i < (l.n : Int)) ∧ ∃ n2 : Int, h.at b (o + i.toNat) = some (.int .u64 n2) ∧ K b o n2 := by
  obtain ⟨vs, B⟩ := U
  have hl := B.len
  rw [uvs_len, Nat.mul_one] at hl
  obtain ⟨b, ha, hat, _, _⟩ := buf_set B (k := i.toNat) (by rw [uvs_len]; omega)
  refine ⟨b, 0, ha, ⟨h0, h1⟩, vs[i.toNat]'(by omega), ?_, hK b _⟩
  rw [Nat.zero_add, hat]
  simp [uvs, show i.toNat < vs.length by omega]
theorem Us.wr {h : Hp} {l : Sl} (U : Us h l) {i v : Int} (h0 : 0 ≤ i) (h1 : i < (l.n : Int)) {K : Nat → Nat → Prop} (hK : ∀ b, Us (h.wr b (0 + i.toNat) [.int .u64 v]) l → Upd h (h.wr b (0 + i.toNat) [.int .u64 v]) l l → K b 0) : ∃ b o, (l.a : Option Addr) = some ⟨b, o, none⟩ ∧ ((0 : Int) ≤ i ∧ i < (l.n : Int)) ∧ h.canW b (o + i.toNat) 1 ∧ K b o := by
  obtain ⟨vs, B⟩ := U
  have hl := B.len
  rw [uvs_len, Nat.mul_one] at hl
  obtain ⟨b, ha, hat, hc, hw⟩ := buf_set B (k := i.toNat) (by rw [uvs_len]; omega)
  obtain ⟨U1, B1⟩ := hw (.int .u64 v)
  refine ⟨b, 0, ha, ⟨h0, h1⟩, by rw [Nat.zero_add]; exact hc, hK b ⟨vs.set i.toNat v, ?_⟩ ?_⟩
  · rw [Nat.zero_add]
    have : (uvs vs).set i.toNat (.int .u64 v) = uvs (vs.set i.toNat v) := by unfold uvs; rw [List.map_set]
    rw [← this]; exact B1
  · rw [Nat.zero_add]; exact U1
structure Sw (h h' : Hp) (l : Sl) : Prop where
  u : Us h' l
  up : Upd h h' l l
theorem Sw.refl {h : Hp} {l : Sl} (U : Us h l) : Sw h h l := ⟨U, Upd.refl _ _⟩
theorem Sw.trans {a b c : Hp} {l : Sl} (x : Sw a b l) (y : Sw b c l) : Sw a c l := ⟨y.u, x.up.trans y.up⟩
theorem less_any {h : Hp} {n n1 : Int} {Q : Value → Hp → Prop} (hQ : ∀ b : Bool, Q (.bool b) h) : F99.T n n1 h Q := by
  refine ⟨fun _ => ⟨false, rfl, fun h0 => (by cases h0), fun _ => ⟨fun _ => hQ true, fun _ => hQ false⟩⟩, fun h0 => absurd rfl h0⟩
theorem wr64 {x : Int} (h0 : -1000000000000 ≤ x) (h1 : x ≤ 1000000000000) : IntKind.wrap .i64 x = x := wrap_i64 (by omega) (by omega)
structure Ct (h0 h : Hp) (b : Nat) : Prop where
  nb : h0 b = none
  k : Keep h0 h
  c : ∃ n : Int, h b = some (.cells ⟨[.int .i64 n]⟩ 3 (0, 0))
theorem Ct.step {h0 h : Hp} {b : Nat} (C : Ct h0 h b) (n : Int) : Ct h0 (h.wr b 0 [.int .i64 n]) b := by
  obtain ⟨m, hm⟩ := C.c
  refine ⟨C.nb, keep_wr_new C.nb C.k _ _, n, ?_⟩
  rw [wr_at hm]; rfl
theorem order2 {h0 h : Hp} {l : Sl} {b : Nat} {lo hi i j : Int} {Q : Value → Hp → Prop} (U : Us h0 l) (C : Ct h0 h b) (h1 : 0 ≤ lo) (h2 : hi ≤ (l.n : Int)) (i0 : lo ≤ i) (i1 : i < hi) (j0 : lo ≤ j) (j1 : j < hi)
    (hQ : ∀ h' x y, Ct h0 h' b → lo ≤ x → x < hi → lo ≤ y → y < hi → Q (.tuple ⟨[.int .i64 x, .int .i64 y]⟩) h') : F114.T l i j (some ⟨b, 0, none⟩) h Q := by
  have U1 := U.keep C.k
  refine Us.rd U1 (by omega) (by omega) fun b1 v => Us.rd U1 (by omega) (by omega) fun b2 v1 => less_any fun q => ⟨q, rfl, fun _ => ?_, fun _ => hQ h i j C i0 i1 j0 j1⟩
  obtain ⟨m, hm⟩ := C.c
  refine ⟨b, 0, rfl, m, by unfold Hp.at; rw [hm]; rfl, b, 0, rfl, ⟨_, _, _, hm, Nat.le_refl _, fun j _ _ => by simp⟩, hQ _ j i (C.step _) j0 j1 i0 i1⟩
theorem median {h0 h : Hp} {l : Sl} {b : Nat} {lo hi i j k : Int} {Q : Value → Hp → Prop} (U : Us h0 l) (C : Ct h0 h b) (h1 : 0 ≤ lo) (h2 : hi ≤ (l.n : Int)) (i0 : lo ≤ i) (i1 : i < hi) (j0 : lo ≤ j) (j1 : j < hi) (k0 : lo ≤ k) (k1 : k < hi)
    (hQ : ∀ h' x, Ct h0 h' b → lo ≤ x → x < hi → Q (.int .i64 x) h') : F110.T l i j k (some ⟨b, 0, none⟩) h Q := by
  unfold F110.T F110.G
  exact order2 U C h1 h2 i0 i1 j0 j1 fun g1 x1 y1 C1 a1 a2 a3 a4 => ⟨x1, y1, rfl, order2 U C1 h1 h2 a3 a4 k0 k1 fun g2 x2 y2 C2 c1 c2 c3 c4 => ⟨x2, y2, rfl, order2 U C2 h1 h2 a1 a2 c1 c2 fun g3 x3 y3 C3 d1 d2 d3 d4 => ⟨x3, y3, rfl, hQ g3 y3 C3 d3 d4⟩⟩⟩
theorem medianAdj {h0 h : Hp} {l : Sl} {b : Nat} {lo hi i : Int} {Q : Value → Hp → Prop} (U : Us h0 l) (C : Ct h0 h b) (h1 : 0 ≤ lo) (h2 : hi ≤ (l.n : Int)) (hn : l.n ≤ 60000) (i0 : lo + 1 ≤ i) (i1 : i + 1 < hi)
    (hQ : ∀ h' x, Ct h0 h' b → lo ≤ x → x < hi → Q (.int .i64 x) h') : F109.T l i (some ⟨b, 0, none⟩) h Q := by
  unfold F109.T F109.G
  rw [wr64 (x := i - 1) (by omega) (by omega), wr64 (x := i + 1) (by omega) (by omega)]
  exact median U C h1 h2 (by omega) (by omega) (by omega) (by omega) (by omega) (by omega) fun h' x C' x0 x1 => ⟨x, rfl, hQ h' x C' x0 x1⟩
theorem choose_pivot {h : Hp} {l : Sl} {lo hi : Int} {Q : Value → Hp → Prop} (U : Us h l) (h1 : 0 ≤ lo) (h2 : hi ≤ (l.n : Int)) (h3 : lo < hi) (hn : l.n ≤ 60000)
    (hQ : ∀ h' x y, Keep h h' → lo ≤ x → x < hi → Q (.tuple ⟨[.int .i64 x, .int .i64 y]⟩) h') : F96.T l lo hi h Q := by
  intro b hb
  have C : Ct h (h.new b (.cells ⟨[.int .i64 0]⟩ 3 (0, 0))) b := ⟨hb, Keep.new hb _, 0, new_self h b _⟩
  have hd : Int.tdiv (hi - lo) 4 = (hi - lo) / 4 := Int.tdiv_eq_ediv_of_nonneg (by omega)
  refine ⟨by decide, by decide, by decide, fun x h' => Ct h h' b ∧ lo ≤ x ∧ x < hi, ?_, ?_⟩
  · rintro x h' ⟨C', x0, x1⟩
    obtain ⟨m, hm⟩ := C'.c
    refine ⟨m, by unfold Hp.at; rw [hm]; rfl, fun _ => hQ h' x 1 C'.k x0 x1, fun _ => ⟨fun _ => hQ h' x 2 C'.k x0 x1, fun _ => hQ h' x 0 C'.k x0 x1⟩⟩
  · have w1 : IntKind.wrap .i64 (hi - lo) = hi - lo := wr64 (by omega) (by omega)
    rw [w1, hd]
    have w2 : IntKind.wrap .i64 ((hi - lo) / 4) = (hi - lo) / 4 := wr64 (by omega) (by omega)
    rw [w2]
    rw [wr64 (x := (hi - lo) / 4 * 1) (by omega) (by omega), wr64 (x := (hi - lo) / 4 * 2) (by omega) (by omega), wr64 (x := (hi - lo) / 4 * 3) (by omega) (by omega),
      wr64 (x := lo + (hi - lo) / 4 * 1) (by omega) (by omega), wr64 (x := lo + (hi - lo) / 4 * 2) (by omega) (by omega), wr64 (x := lo + (hi - lo) / 4 * 3) (by omega) (by omega)]
    refine ⟨fun h8 => ⟨fun h50 => ?_, fun _ => ?_⟩, fun _ => ⟨C, by omega, by omega⟩⟩
    · refine medianAdj U C h1 h2 hn (by omega) (by omega) fun g1 x1 C1 a1 a2 => ⟨x1, rfl, medianAdj U C1 h1 h2 hn (by omega) (by omega) fun g2 x2 C2 b1 b2 => ⟨x2, rfl, medianAdj U C2 h1 h2 hn (by omega) (by omega) fun g3 x3 C3 c1 c2 => ⟨x3, rfl, median U C3 h1 h2 a1 a2 b1 b2 c1 c2 fun g4 x4 C4 d1 d2 => ⟨x4, rfl, C4, d1, d2⟩⟩⟩⟩
    · exact median U C h1 h2 (by omega) (by omega) (by omega) (by omega) (by omega) (by omega) fun g4 x4 C4 d1 d2 => ⟨x4, rfl, C4, d1, d2⟩
end Go.Eng.YtbjnlacacapjiaaGreat
end
section
set_option maxRecDepth 100000
namespace Go.Eng.YtbjnlacacapjiaaGreat
theorem srt_ins {P S : List Tab} {x : Tab} (h : Srt (P ++ S)) (h1 : P = [] ∨ ∃ P' y, P = P' ++ [y] ∧ Le y.least x.least) (h2 : ∀ s ∈ S, Bl x.least s.least) : Srt (P ++ x :: S) := by
  unfold Srt at h ⊢
  rw [List.pairwise_append] at h ⊢
  obtain ⟨a, b, c⟩ := h
  have hx : ∀ z ∈ P, Le z.least x.least := by
    rcases h1 with rfl | ⟨P', y, rfl, hy⟩
    · intro z hz; cases hz
    · intro z hz
      rw [List.pairwise_append] at a
      rcases List.mem_append.1 hz with hz | hz
      · exact (a.2.2 z hz y (List.mem_singleton.2 rfl)).trans hy
      · rw [List.mem_singleton] at hz; subst hz; exact hy
  refine ⟨a, List.pairwise_cons.2 ⟨fun s hs => .of (h2 s hs), b⟩, fun z hz w hw => ?_⟩
  rcases List.mem_cons.1 hw with rfl | hw
  · exact hx z hz
  · exact c z hz w hw
theorem snoc_of {α : Type} {P : List α} (h : P ≠ []) : ∃ P' y, P = P' ++ [y] := ⟨P.dropLast, P.getLast h, (List.dropLast_concat_getLast h).symm⟩
theorem insertion_t {h : Hp} {l : Sl} {A M B : List Tab} {lo hi : Int} {Q : Value → Hp → Prop} (T : TB h l (A ++ (M ++ B))) (h1 : lo = (A.length : Int)) (h2 : hi = ((A.length + M.length : Nat) : Int)) (hn : l.n ≤ 60000)
    (hQ : ∀ h' M', Sv h h' l (A ++ (M' ++ B)) → M'.Perm M → Srt M' → Q (.tuple ⟨[]⟩) h') : F90.T l lo hi h Q := by
  have hl := T.n
  simp only [List.length_append] at hl
  unfold F90.T F90.G
  rw [wr64 (x := lo + 1) (by omega) (by omega)]
  cases M with
  | nil =>
    refine ⟨fun n g => n = lo + 1 ∧ g = h, fun _ _ => 0, ⟨rfl, rfl⟩, ?_⟩
    rintro n g ⟨rfl, rfl⟩
    refine ⟨fun hlt => absurd hlt (by simp at h2; omega), fun _ => hQ g [] ⟨T, Upd.refl _ _⟩ (List.Perm.refl _) List.Pairwise.nil⟩
  | cons m0 M0 =>
    simp only [List.length_cons] at h2 hl
    refine ⟨fun n g => ∃ D R, Sv h g l (A ++ (D ++ (R ++ B))) ∧ (D ++ R).Perm (m0 :: M0) ∧ Srt D ∧ n = ((A.length + D.length : Nat) : Int) ∧ D.length + R.length = M0.length + 1, fun n _ => (hi - n).toNat, ⟨[m0], M0, ⟨by simpa using T, Upd.refl _ _⟩, List.Perm.refl _, List.pairwise_singleton _ _, by simp; omega, by simp; omega⟩, ?_⟩
    rintro n g ⟨D, R, S, hp, hs, rfl, hlen⟩
    refine ⟨fun hlt => ?_, fun hge => ?_⟩
    · cases R with
      | nil => simp only [List.length_nil] at hlen; omega
      | cons x R =>
        simp only [List.length_cons] at hlen
        rw [wr64 (x := ((A.length + D.length : Nat) : Int) + 1) (by omega) (by omega)]
        have nxt : ∀ {g : Hp} {P S' : List Tab}, Sv h g l (A ++ (P ++ x :: (S' ++ (R ++ B)))) → P ++ S' = D → Srt (P ++ x :: S') → (∃ D R, Sv h g l (A ++ (D ++ (R ++ B))) ∧ (D ++ R).Perm (m0 :: M0) ∧ Srt D ∧ ((A.length + (D).length : Nat) : Int) = ((A.length + (P ++ S').length : Nat) : Int) + 1 ∧ D.length + R.length = M0.length + 1) := by
          intro g P S' Sg hD hsrt
          refine ⟨P ++ x :: S', R, by simpa using Sg, ?_, hsrt, by simp; omega, by rw [← hD] at hlen; simp at hlen ⊢; omega⟩
          refine List.Perm.trans ?_ hp
          rw [← hD]
          have : (P ++ x :: S' ++ R) = P ++ ([x] ++ S' ++ R) := by simp
          rw [this]
          have : (P ++ S' ++ x :: R) = P ++ (S' ++ [x] ++ R) := by simp
          rw [this]
          exact ((List.perm_append_comm (l₁ := [x]) (l₂ := S')).append_right R).append_left P
        have out : ∀ {g : Hp} {P S' : List Tab}, Sv h g l (A ++ (P ++ x :: (S' ++ (R ++ B)))) → P ++ S' = D → Srt (P ++ x :: S') → (∃ D_1 R, Sv h g l (A ++ (D_1 ++ (R ++ B))) ∧ (D_1 ++ R).Perm (m0 :: M0) ∧ Srt D_1 ∧ ((A.length + D.length : Nat) : Int) + 1 = ((A.length + D_1.length : Nat) : Int) ∧ D_1.length + R.length = M0.length + 1) := by
          intro g P S' Sg hD hsrt
          obtain ⟨D1, R1, a1, a2, a3, a4, a5⟩ := nxt Sg hD hsrt
          exact ⟨D1, R1, a1, a2, a3, by rw [a4, hD], a5⟩
        refine ⟨fun n3 g => ∃ P S', Sv h g l (A ++ (P ++ x :: (S' ++ (R ++ B)))) ∧ P ++ S' = D ∧ (∀ s ∈ S', Bl x.least s.least) ∧ n3 = ((A.length + P.length : Nat) : Int), fun n3 _ => n3.toNat, ⟨D, [], by simpa using S, by simp, fun s hs => (by cases hs), rfl⟩, ?_⟩
        rintro n3 g ⟨P, S', S, hD, hb, rfl⟩
        have hDl : P.length + S'.length = D.length := by rw [← hD]; simp
        refine ⟨fun hlt2 => ?_, fun hge2 => ?_⟩
        · have hP : P ≠ [] := fun e => by subst e; simp at hlt2; omega
          obtain ⟨P', y, rfl⟩ := snoc_of hP
          simp only [List.length_append, List.length_singleton] at hDl hlt2
          have hi1 : ((A.length + (P' ++ [y]).length : Nat) : Int) = ((A.length + P'.length : Nat) : Int) + 1 := by simp; omega
          rw [hi1, wr64 (x := ((A.length + P'.length : Nat) : Int) + 1 - 1) (by omega) (by omega)]
          rw [show ((A.length + P'.length : Nat) : Int) + 1 - 1 = ((A.length + P'.length : Nat) : Int) by omega]
          have S1 : Sv h g l ((A ++ P') ++ y :: ([] ++ x :: (S' ++ (R ++ B)))) := ⟨by simpa using S.b, S.up⟩
          refine S1.b.rd (P := A ++ P' ++ [y]) (t := x) (R := S' ++ (R ++ B)) (by simp) (by simp <;> omega) fun b1 o1 => S1.b.rd (P := A ++ P') (t := y) (R := x :: (S' ++ (R ++ B))) (by simp) (by simp) fun b2 o2 => ?_
          refine cmp_spec (fun hbl n hn0 => ⟨n, rfl, fun _ => ?_, fun hc => absurd hn0 hc⟩) (fun hle n hn0 => ⟨n, rfl, fun hc => absurd hc hn0, fun _ => ⟨out S hD (srt_ins (by rw [hD]; exact hs) (.inr ⟨P', y, rfl, hle⟩) hb), by dsimp only; omega⟩⟩)
          clear b1 o1 b2 o2
          refine S1.b.rd (P := (A ++ P')) (t := y) (R := [] ++ x :: (S' ++ (R ++ B))) (by simp) (i := ((A.length + P'.length : Nat) : Int)) (by simp <;> omega) fun b1 o1 => S1.b.rd (P := (A ++ P') ++ y :: ([])) (t := x) (R := S' ++ (R ++ B)) (by simp) (i := ((A.length + P'.length : Nat) : Int) + 1) (by simp <;> omega) fun b2 o2 => TB.wr S1.b (P := (A ++ P') ++ y :: ([])) (x := x) (t := y) (R := S' ++ (R ++ B)) (by simp) (i := ((A.length + P'.length : Nat) : Int) + 1) (by simp <;> omega) fun b3 B3 p3 => TB.wr B3 (P := (A ++ P')) (x := y) (t := x) (R := [] ++ y :: (S' ++ (R ++ B))) (by simp) (i := ((A.length + P'.length : Nat) : Int)) (by simp <;> omega) fun b4 B4 p4 => ?_
          have S2 : Sv h ((g.wr b3 (0 + (((A.length + P'.length : Nat) : Int) + 1).toNat * 6) [.int .u64 y.num, .int .i64 y.weight, .int .i64 y.bytes, .int .i64 y.entries, .string y.least, .string y.greatest]).wr b4 (0 + (((A.length + P'.length : Nat) : Int)).toNat * 6) [.int .u64 x.num, .int .i64 x.weight, .int .i64 x.bytes, .int .i64 x.entries, .string x.least, .string x.greatest]) l ((A ++ P') ++ x :: ([] ++ y :: (S' ++ (R ++ B)))) := ⟨by simpa using B4, (S1.up.trans p3).trans p4⟩
          generalize ((g.wr b3 (0 + (((A.length + P'.length : Nat) : Int) + 1).toNat * 6) [.int .u64 y.num, .int .i64 y.weight, .int .i64 y.bytes, .int .i64 y.entries, .string y.least, .string y.greatest]).wr b4 (0 + (((A.length + P'.length : Nat) : Int)).toNat * 6) [.int .u64 x.num, .int .i64 x.weight, .int .i64 x.bytes, .int .i64 x.entries, .string x.least, .string x.greatest]) = g2 at S2 ⊢
          clear B3 p3 B4 p4 b1 b2 b3 b4 o1 o2
          refine ⟨⟨P', y :: S', ⟨by simpa using S2.b, S2.up⟩, by rw [← hD]; simp, fun s hs => ?_, rfl⟩, by dsimp only; omega⟩
          rcases List.mem_cons.1 hs with rfl | hs
          · exact hbl
          · exact hb s hs
        · have hP : P = [] := List.eq_nil_of_length_eq_zero (by omega)
          subst hP
          exact ⟨out S hD (srt_ins (by rw [hD]; exact hs) (.inl rfl) hb), by dsimp only; omega⟩
    · have hR : R = [] := List.eq_nil_of_length_eq_zero (by omega)
      subst hR
      rw [List.append_nil] at hp
      exact hQ g D (by simpa using S) hp hs
theorem swap_range {h : Hp} {l : Sl} {A U M V B : List Tab} {a b n : Int} {Q : Value → Hp → Prop} (T : TB h l (A ++ (U ++ (M ++ (V ++ B))))) (hUV : U.length = V.length) (h1 : a = (A.length : Int)) (h2 : b = ((A.length + U.length + M.length : Nat) : Int)) (h3 : n = (U.length : Int)) (hn : l.n ≤ 60000)
    (hQ : ∀ h', Sv h h' l (A ++ (V ++ (M ++ (U ++ B)))) → Q (.tuple ⟨[]⟩) h') : F113.T l a b n h Q := by
  have hl := T.n
  simp only [List.length_append] at hl
  refine ⟨fun k g => ∃ U1 U2 V1 V2, U = U1 ++ U2 ∧ V = V1 ++ V2 ∧ U1.length = V1.length ∧ k = (U1.length : Int) ∧ Sv h g l (A ++ (V1 ++ (U2 ++ (M ++ (U1 ++ (V2 ++ B)))))), fun k _ => (n - k).toNat, ⟨[], U, [], V, rfl, rfl, rfl, rfl, ⟨by simpa using T, Upd.refl _ _⟩⟩, ?_⟩
  rintro k g ⟨U1, U2, V1, V2, rfl, rfl, hlen, rfl, S⟩
  simp only [List.length_append] at hUV h2 h3 hl
  refine ⟨fun hlt => ?_, fun hge => ?_⟩
  · cases U2 with
    | nil => simp only [List.length_nil] at h3; omega
    | cons u U2 =>
      cases V2 with
      | nil => simp only [List.length_nil, List.length_cons] at hUV; omega
      | cons v V2 =>
        simp only [List.length_cons] at hUV h2 h3 hl
        rw [wr64 (x := b + (U1.length : Int)) (by omega) (by omega), wr64 (x := a + (U1.length : Int)) (by omega) (by omega), wr64 (x := (U1.length : Int) + 1) (by omega) (by omega)]
        have S1 : Sv h g l ((A ++ V1) ++ u :: ((U2 ++ (M ++ U1)) ++ v :: (V2 ++ B))) := ⟨by simpa using S.b, S.up⟩
        refine S1.b.rd (P := (A ++ V1) ++ u :: ((U2 ++ (M ++ U1)))) (t := v) (R := V2 ++ B) (by simp) (i := b + (U1.length : Int)) (by simp <;> omega) fun b1 o1 => S1.b.rd (P := (A ++ V1)) (t := u) (R := (U2 ++ (M ++ U1)) ++ v :: (V2 ++ B)) (by simp) (i := a + (U1.length : Int)) (by simp <;> omega) fun b2 o2 => TB.wr S1.b (P := (A ++ V1)) (x := u) (t := v) (R := (U2 ++ (M ++ U1)) ++ v :: (V2 ++ B)) (by simp) (i := a + (U1.length : Int)) (by simp <;> omega) fun b3 B3 p3 => TB.wr B3 (P := (A ++ V1) ++ v :: ((U2 ++ (M ++ U1)))) (x := v) (t := u) (R := V2 ++ B) (by simp) (i := b + (U1.length : Int)) (by simp <;> omega) fun b4 B4 p4 => ?_
        have S2 : Sv h ((g.wr b3 (0 + (a + (U1.length : Int)).toNat * 6) [.int .u64 v.num, .int .i64 v.weight, .int .i64 v.bytes, .int .i64 v.entries, .string v.least, .string v.greatest]).wr b4 (0 + (b + (U1.length : Int)).toNat * 6) [.int .u64 u.num, .int .i64 u.weight, .int .i64 u.bytes, .int .i64 u.entries, .string u.least, .string u.greatest]) l ((A ++ V1) ++ v :: ((U2 ++ (M ++ U1)) ++ u :: (V2 ++ B))) := ⟨by simpa using B4, (S1.up.trans p3).trans p4⟩
        generalize ((g.wr b3 (0 + (a + (U1.length : Int)).toNat * 6) [.int .u64 v.num, .int .i64 v.weight, .int .i64 v.bytes, .int .i64 v.entries, .string v.least, .string v.greatest]).wr b4 (0 + (b + (U1.length : Int)).toNat * 6) [.int .u64 u.num, .int .i64 u.weight, .int .i64 u.bytes, .int .i64 u.entries, .string u.least, .string u.greatest]) = g2 at S2 ⊢
        clear B3 p3 B4 p4 b1 b2 b3 b4 o1 o2
        exact ⟨⟨U1 ++ [u], U2, V1 ++ [v], V2, by simp, by simp, by simp; omega, by simp, ⟨by simpa using S2.b, S2.up⟩⟩, by dsimp only; omega⟩
  · have hU : U2 = [] := List.eq_nil_of_length_eq_zero (by omega)
    have hV : V2 = [] := List.eq_nil_of_length_eq_zero (by rw [hU] at hUV; simp at hUV; omega)
    subst hU hV
    exact hQ g ⟨by simpa using S.b, S.up⟩
theorem rotate_t {h : Hp} {l : Sl} {A U V B : List Tab} {a m b : Int} {Q : Value → Hp → Prop} (T : TB h l (A ++ (U ++ (V ++ B)))) (hU : 0 < U.length) (hV : 0 < V.length) (h1 : a = (A.length : Int)) (h2 : m = ((A.length + U.length : Nat) : Int)) (h3 : b = ((A.length + U.length + V.length : Nat) : Int)) (hn : l.n ≤ 60000)
    (hQ : ∀ h', Sv h h' l (A ++ (V ++ (U ++ B))) → Q (.tuple ⟨[]⟩) h') : F105.T l a m b h Q := by
  have hl := T.n
  simp only [List.length_append] at hl
  unfold F105.T F105.G
  rw [wr64 (x := m - a) (by omega) (by omega), wr64 (x := b - m) (by omega) (by omega)]
  refine ⟨fun i j g => ∃ P U' V' S', P ++ (V' ++ (U' ++ S')) = V ++ U ∧ Sv h g l (A ++ (P ++ (U' ++ (V' ++ (S' ++ B))))) ∧ i = (U'.length : Int) ∧ j = (V'.length : Int) ∧ 0 < U'.length ∧ 0 < V'.length ∧ m = ((A.length + P.length + U'.length : Nat) : Int), fun i j _ => (i + j).toNat, ⟨[], U, V, [], by simp, ⟨by simpa using T, Upd.refl _ _⟩, by omega, by omega, hU, hV, by simp; omega⟩, ?_⟩
  rintro i j g ⟨P, U', V', S', he, S, rfl, rfl, u0, v0, hm⟩
  have hlen := congrArg List.length he
  simp only [List.length_append] at hlen
  rw [wr64 (x := m - (U'.length : Int)) (by omega) (by omega)]
  refine ⟨fun heq => ?_, fun hne => ⟨fun hlt => ?_, fun hge => ?_⟩⟩
  · refine swap_range (A := A ++ P) (U := U') (M := []) (V := V') (B := S' ++ B) (by simpa using S.b) (by omega) (by simp <;> omega) (by simp <;> omega) rfl hn fun g2 S2 => hQ g2 ⟨?_, S.up.trans S2.up⟩
    have e : A ++ (V ++ (U ++ B)) = A ++ ((V ++ U) ++ B) := by simp
    rw [e, ← he]
    simpa using S2.b
  · obtain ⟨U1, U2, rfl, hu1⟩ : ∃ U1 U2, U' = U1 ++ U2 ∧ U1.length = V'.length := ⟨U'.take V'.length, U'.drop V'.length, (List.take_append_drop _ _).symm, by rw [List.length_take]; omega⟩
    simp only [List.length_append] at hlen u0 hlt hm hne
    refine swap_range (A := A ++ P) (U := U1) (M := U2) (V := V') (B := S' ++ B) (by simpa using S.b) hu1 (by simp <;> omega) (by simp <;> omega) (by omega) hn fun g2 S2 => ?_
    rw [wr64 (by simp <;> omega) (by simp <;> omega)]
    refine ⟨⟨P ++ V', U2, U1, S', by rw [← he]; simp, ⟨by simpa using S2.b, S.up.trans S2.up⟩, by simp; omega, by omega, by omega, by omega, by simp; omega⟩, by simp; omega⟩
  · obtain ⟨V1, V2, rfl, hv2⟩ : ∃ V1 V2, V' = V1 ++ V2 ∧ V2.length = U'.length := ⟨V'.take (V'.length - U'.length), V'.drop (V'.length - U'.length), (List.take_append_drop _ _).symm, by rw [List.length_drop]; omega⟩
    simp only [List.length_append] at hlen v0 hge hm hne
    have e1 : IntKind.wrap .i64 (IntKind.wrap .i64 (m + ((V1 ++ V2).length : Int)) - (U'.length : Int)) = m + (V1.length : Int) := by
      simp only [List.length_append]
      rw [wr64 (x := m + ((V1.length + V2.length : Nat) : Int)) (by omega) (by omega), wr64 (by omega) (by omega)]; omega
    rw [e1]
    refine swap_range (A := A ++ P) (U := U') (M := V1) (V := V2) (B := S' ++ B) (by simpa using S.b) (by omega) (by simp <;> omega) (by simp <;> omega) rfl hn fun g2 S2 => ?_
    rw [wr64 (by simp <;> omega) (by simp <;> omega)]
    refine ⟨⟨P, V2, V1, U' ++ S', by rw [← he]; simp, ⟨by simpa using S2.b, S.up.trans S2.up⟩, by omega, by simp; omega, by omega, by omega, by omega⟩, by simp; omega⟩
end Go.Eng.YtbjnlacacapjiaaGreat
end
section
set_option maxRecDepth 100000
namespace Go.Eng.YtbjnlacacapjiaaGreat
theorem half {x y : Int} (h0 : 0 ≤ x + y) (h1 : x + y ≤ 1000000) : IntKind.wrap .i64 (shrI .u64 (IntKind.wrap .u64 (IntKind.wrap .i64 (x + y))) 1) = (x + y) / 2 := by
  rw [wr64 (x := x + y) (by omega) (by omega), wrap_u64 (by omega) (by omega)]
  unfold shrI
  have : (2 : Int) ^ (min (1 : Int).toNat (IntKind.bits .u64)) = 2 := by decide
  rw [this, Int.fdiv_eq_ediv_of_nonneg _ (by decide), wr64 (by omega) (by omega)]
theorem cut_at {α : Type} {l : List α} {k : Nat} (h : k ≤ l.length) : ∃ A B, l = A ++ B ∧ A.length = k := ⟨l.take k, l.drop k, (List.take_append_drop _ _).symm, by rw [List.length_take]; omega⟩
theorem split_i {α : Type} {l : List α} {i : Nat} (h : i < l.length) : ∃ A x B, l = A ++ x :: B ∧ A.length = i ∧ l[i]? = some x :=
  ⟨l.take i, l[i], l.drop (i + 1), by rw [← List.drop_eq_getElem_cons h, List.take_append_drop], by rw [List.length_take]; omega, List.getElem?_eq_getElem h⟩
theorem srt_app {P S : List Tab} (hP : Srt P) (hS : Srt S) (h : ∀ x ∈ P, ∀ y ∈ S, Le x.least y.least) : Srt (P ++ S) := List.pairwise_append.2 ⟨hP, hS, h⟩
theorem srt_l {P S : List Tab} (h : Srt (P ++ S)) : Srt P := (List.pairwise_append.1 h).1
theorem srt_r {P S : List Tab} (h : Srt (P ++ S)) : Srt S := (List.pairwise_append.1 h).2.1
theorem last_le {P : List Tab} {x : Tab} (h : Srt P) (hx : P[P.length - 1]? = some x) : ∀ z ∈ P, Le z.least x.least := by
  have hne : P ≠ [] := fun e => by subst e; simp at hx
  obtain ⟨P', y, rfl⟩ := snoc_of hne
  have : y = x := by simpa using hx
  subst this
  intro z hz
  rcases List.mem_append.1 hz with hz | hz
  · exact (List.pairwise_append.1 h).2.2 z hz y (List.mem_singleton.2 rfl)
  · rw [List.mem_singleton] at hz; subst hz; exact Le.refl _
theorem first_le {S : List Tab} {y : Tab} (h : Srt S) (hy : S[0]? = some y) : ∀ z ∈ S, Le y.least z.least := by
  cases S with
  | nil => simp at hy
  | cons a S =>
    have : a = y := by simpa using hy
    subst this
    intro z hz
    rcases List.mem_cons.1 hz with rfl | hz
    · exact Le.refl _
    · exact (List.pairwise_cons.1 h).1 z hz
theorem cross {P S : List Tab} (hP : Srt P) (hS : Srt S) (h : P = [] ∨ S = [] ∨ ∃ x y, P[P.length - 1]? = some x ∧ S[0]? = some y ∧ Le x.least y.least) : ∀ x ∈ P, ∀ y ∈ S, Le x.least y.least := by
  rcases h with rfl | rfl | ⟨x, y, h1, h2, h3⟩
  · intro x hx; cases hx
  · intro x _ y hy; cases hy
  · exact fun z hz w hw => ((last_le hP h1 z hz).trans h3).trans (first_le hS h2 w hw)
theorem get_l {P S : List Tab} (h : P ≠ []) : (P ++ S)[P.length - 1]? = P[P.length - 1]? := List.getElem?_append_left (by have := List.length_pos_iff.2 h; omega)
theorem get_r {P S : List Tab} : (P ++ S)[P.length]? = S[0]? := by rw [List.getElem?_append_right (Nat.le_refl _), Nat.sub_self]
def MergeOk (l : Sl) (T : Sl → Int → Int → Int → PT) (N : Nat) : Prop := ∀ (A X Y B : List Tab) (a m b : Int) (h : Hp) (Q : Value → Hp → Prop), TB h l (A ++ (X ++ (Y ++ B))) → Srt X → Srt Y → 0 < X.length → 0 < Y.length → X.length + Y.length < N →
  a = (A.length : Int) → m = ((A.length + X.length : Nat) : Int) → b = ((A.length + X.length + Y.length : Nat) : Int) → (∀ h' Z, Sv h h' l (A ++ (Z ++ B)) → Z.Perm (X ++ Y) → Srt Z → Q (.tuple ⟨[]⟩) h') → T l a m b h Q
theorem merge_step {l : Sl} (hn : l.n ≤ 60000) {T : Sl → Int → Int → Int → PT} {N : Nat} (hT : MergeOk l T N) {A X Y B : List Tab} {a m b : Int} {h : Hp} {Q : Value → Hp → Prop} (Tb : TB h l (A ++ (X ++ (Y ++ B)))) (hX : Srt X) (hY : Srt Y) (x0 : 0 < X.length) (y0 : 0 < Y.length) (hN : X.length + Y.length ≤ N)
    (ea : a = (A.length : Int)) (em : m = ((A.length + X.length : Nat) : Int)) (eb : b = ((A.length + X.length + Y.length : Nat) : Int)) (hQ : ∀ h' Z, Sv h h' l (A ++ (Z ++ B)) → Z.Perm (X ++ Y) → Srt Z → Q (.tuple ⟨[]⟩) h') : F91.G T l a m b h Q := by
  have hl := Tb.n
  simp only [List.length_append] at hl
  unfold F91.G
  rw [wr64 (x := m - a) (by omega) (by omega), wr64 (x := b - m) (by omega) (by omega)]
  refine ⟨fun h1 => ?_, fun hne1 => ⟨fun h1 => ?_, fun hne2 => ?_⟩⟩
  · -- one on the left
    obtain ⟨x, rfl⟩ : ∃ x, X = [x] := by
      match X, x0 with
      | [x], _ => exact ⟨x, rfl⟩
      | _ :: _ :: _, _ => simp only [List.length_cons] at em; omega
    simp only [List.length_cons, List.length_nil] at em eb hl hN
    refine ⟨fun i j g => ∃ i' j' : Nat, i = m + (i' : Int) ∧ j = m + (j' : Int) ∧ i' ≤ j' ∧ j' ≤ Y.length ∧ (i' = 0 ∨ ∃ y, Y[i' - 1]? = some y ∧ Bl y.least x.least) ∧ (j' = Y.length ∨ ∃ y, Y[j']? = some y ∧ Le x.least y.least) ∧ h = g, fun i j _ => (j - i).toNat, ⟨0, Y.length, by omega, by omega, Nat.zero_le _, Nat.le_refl _, .inl rfl, .inl rfl, rfl⟩, ?_⟩
    rintro i j g ⟨i', j', rfl, rfl, hij, hj, f1, f2, rfl⟩
    refine ⟨fun hlt => ⟨by decide, ?_⟩, fun hge => ?_⟩
    · rw [half (x := m + (i' : Int)) (y := m + (j' : Int)) (by omega) (by omega)]
      obtain ⟨c, hc⟩ : ∃ c : Nat, (m + (i' : Int) + (m + (j' : Int))) / 2 = m + (c : Int) := ⟨((m + (i' : Int) + (m + (j' : Int))) / 2 - m).toNat, by omega⟩
      have c0 : i' ≤ c := by omega
      have c1 : c < j' := by omega
      rw [hc, wr64 (x := m + (c : Int) + 1) (by omega) (by omega)]
      obtain ⟨Y1, y, Y2, hYs, hy1, hyc⟩ := split_i (l := Y) (i := c) (by omega)
      refine Tb.rd (P := A ++ x :: Y1) (t := y) (R := Y2 ++ B) (by rw [hYs]; simp) (by simp; omega) fun b1 o1 => Tb.rd (P := A) (t := x) (R := Y ++ B) (by simp) ea fun b2 o2 => cmp_spec (fun hb n hn0 => ⟨n, rfl, fun _ => ?_, fun hc => absurd hn0 hc⟩) (fun hle n hn0 => ⟨n, rfl, fun hc => absurd hc hn0, fun _ => ?_⟩)
      · exact ⟨⟨c + 1, j', by omega, rfl, by omega, hj, .inr ⟨y, by simpa using hyc, hb⟩, f2, rfl⟩, by dsimp only; omega⟩
      · exact ⟨⟨i', c, rfl, rfl, by omega, by omega, f1, .inr ⟨y, hyc, hle⟩, rfl⟩, by dsimp only; omega⟩
    · have hij' : i' = j' := by omega
      subst hij'
      obtain ⟨Y1, Y2, hYs, hy1⟩ := cut_at (l := Y) hj
      subst hYs
      rw [wr64 (x := m + (i' : Int) - 1) (by omega) (by omega)]
      have srt : Srt (Y1 ++ x :: Y2) := by
        refine srt_app (srt_l hY) (srt_app (P := [x]) (List.pairwise_singleton _ _) (srt_r hY) (cross (List.pairwise_singleton _ _) (srt_r hY) ?_)) ?_
        · rcases f2 with f | ⟨y, f, g⟩
          · right; left; apply List.eq_nil_of_length_eq_zero; rw [List.length_append] at f; omega
          · right; right; rw [← hy1, get_r] at f; exact ⟨x, y, rfl, f, g⟩
        · refine cross (srt_l hY) ?_ ?_
          · exact srt_app (P := [x]) (List.pairwise_singleton _ _) (srt_r hY) (cross (List.pairwise_singleton _ _) (srt_r hY) (by
              rcases f2 with f | ⟨y, f, g⟩
              · right; left; apply List.eq_nil_of_length_eq_zero; rw [List.length_append] at f; omega
              · right; right; rw [← hy1, get_r] at f; exact ⟨x, y, rfl, f, g⟩))
          · rcases f1 with f | ⟨y, f, g⟩
            · left; exact List.eq_nil_of_length_eq_zero (by omega)
            · by_cases hne : Y1 = []
              · left; exact hne
              · right; right; rw [← hy1, get_l hne] at f; exact ⟨y, x, f, rfl, .of g⟩
      refine ⟨fun k g => ∃ W W', Y1 = W ++ W' ∧ k = ((A.length + W.length : Nat) : Int) ∧ Sv h g l (A ++ (W ++ x :: (W' ++ (Y2 ++ B)))), fun k _ => (m + (i' : Int) - k).toNat, ⟨[], Y1, rfl, by simp; omega, ⟨by simpa using Tb, Upd.refl _ _⟩⟩, ?_⟩
      rintro k g ⟨W, W', rfl, rfl, S⟩
      simp only [List.length_append] at hy1
      refine ⟨fun hlt => ?_, fun hge => ?_⟩
      · cases W' with
        | nil => simp only [List.length_nil] at hy1; omega
        | cons w W' =>
          simp only [List.length_cons] at hy1
          rw [wr64 (x := ((A.length + W.length : Nat) : Int) + 1) (by omega) (by omega)]
          have S1 : Sv h g l ((A ++ W) ++ x :: ([] ++ w :: (W' ++ (Y2 ++ B)))) := ⟨by simpa using S.b, S.up⟩
          refine S1.b.rd (P := (A ++ W) ++ x :: ([])) (t := w) (R := W' ++ (Y2 ++ B)) (by simp) (i := ((A.length + W.length : Nat) : Int) + 1) (by simp <;> omega) fun b1 o1 => S1.b.rd (P := (A ++ W)) (t := x) (R := [] ++ w :: (W' ++ (Y2 ++ B))) (by simp) (i := ((A.length + W.length : Nat) : Int)) (by simp <;> omega) fun b2 o2 => TB.wr S1.b (P := (A ++ W)) (x := x) (t := w) (R := [] ++ w :: (W' ++ (Y2 ++ B))) (by simp) (i := ((A.length + W.length : Nat) : Int)) (by simp <;> omega) fun b3 B3 p3 => TB.wr B3 (P := (A ++ W) ++ w :: ([])) (x := w) (t := x) (R := W' ++ (Y2 ++ B)) (by simp) (i := ((A.length + W.length : Nat) : Int) + 1) (by simp <;> omega) fun b4 B4 p4 => ?_
          have S2 : Sv h ((g.wr b3 (0 + (((A.length + W.length : Nat) : Int)).toNat * 6) [.int .u64 w.num, .int .i64 w.weight, .int .i64 w.bytes, .int .i64 w.entries, .string w.least, .string w.greatest]).wr b4 (0 + (((A.length + W.length : Nat) : Int) + 1).toNat * 6) [.int .u64 x.num, .int .i64 x.weight, .int .i64 x.bytes, .int .i64 x.entries, .string x.least, .string x.greatest]) l ((A ++ W) ++ w :: ([] ++ x :: (W' ++ (Y2 ++ B)))) := ⟨by simpa using B4, (S1.up.trans p3).trans p4⟩
          generalize ((g.wr b3 (0 + (((A.length + W.length : Nat) : Int)).toNat * 6) [.int .u64 w.num, .int .i64 w.weight, .int .i64 w.bytes, .int .i64 w.entries, .string w.least, .string w.greatest]).wr b4 (0 + (((A.length + W.length : Nat) : Int) + 1).toNat * 6) [.int .u64 x.num, .int .i64 x.weight, .int .i64 x.bytes, .int .i64 x.entries, .string x.least, .string x.greatest]) = g2 at S2 ⊢
          clear B3 p3 B4 p4 b1 b2 b3 b4 o1 o2
          exact ⟨⟨W ++ [w], W', by simp, by simp; omega, ⟨by simpa using S2.b, S2.up⟩⟩, by dsimp only; omega⟩
      · have hW : W' = [] := List.eq_nil_of_length_eq_zero (by omega)
        subst hW
        refine hQ g (W ++ x :: Y2) ⟨by simpa using S.b, S.up⟩ ?_ (by simpa using srt)
        simp only [List.append_nil, List.singleton_append]
        exact List.perm_middle
  · -- one on the right
    obtain ⟨y, rfl⟩ : ∃ y, Y = [y] := by
      match Y, y0 with
      | [y], _ => exact ⟨y, rfl⟩
      | _ :: _ :: _, _ => simp only [List.length_cons] at eb; omega
    simp only [List.length_cons, List.length_nil] at eb hl hN
    refine ⟨fun i j g => ∃ i' j' : Nat, i = a + (i' : Int) ∧ j = a + (j' : Int) ∧ i' ≤ j' ∧ j' ≤ X.length ∧ (i' = 0 ∨ ∃ x, X[i' - 1]? = some x ∧ Le x.least y.least) ∧ (j' = X.length ∨ ∃ x, X[j']? = some x ∧ Bl y.least x.least) ∧ h = g, fun i j _ => (j - i).toNat, ⟨0, X.length, by omega, by omega, Nat.zero_le _, Nat.le_refl _, .inl rfl, .inl rfl, rfl⟩, ?_⟩
    rintro i j g ⟨i', j', rfl, rfl, hij, hj, f1, f2, rfl⟩
    refine ⟨fun hlt => ⟨by decide, ?_⟩, fun hge => ?_⟩
    · rw [half (x := a + (i' : Int)) (y := a + (j' : Int)) (by omega) (by omega)]
      obtain ⟨c, hc⟩ : ∃ c : Nat, (a + (i' : Int) + (a + (j' : Int))) / 2 = a + (c : Int) := ⟨((a + (i' : Int) + (a + (j' : Int))) / 2 - a).toNat, by omega⟩
      have c0 : i' ≤ c := by omega
      have c1 : c < j' := by omega
      rw [hc, wr64 (x := a + (c : Int) + 1) (by omega) (by omega)]
      obtain ⟨X1, x, X2, hXs, hx1, hxc⟩ := split_i (l := X) (i := c) (by omega)
      refine Tb.rd (P := A ++ X) (t := y) (R := B) (by simp) (by simp; omega) fun b1 o1 => Tb.rd (P := A ++ X1) (t := x) (R := X2 ++ ([y] ++ B)) (by rw [hXs]; simp) (by simp; omega) fun b2 o2 => cmp_spec (fun hb n hn0 => ⟨n, rfl, fun _ => ?_, fun hc => absurd hn0 hc⟩) (fun hle n hn0 => ⟨n, rfl, fun hc => absurd hc hn0, fun _ => ?_⟩)
      · exact ⟨⟨i', c, rfl, rfl, by omega, by omega, f1, .inr ⟨x, hxc, hb⟩, rfl⟩, by dsimp only; omega⟩
      · exact ⟨⟨c + 1, j', by omega, rfl, by omega, hj, .inr ⟨x, by simpa using hxc, hle⟩, f2, rfl⟩, by dsimp only; omega⟩
    · have hij' : i' = j' := by omega
      subst hij'
      obtain ⟨X1, X2, hXs, hx1⟩ := cut_at (l := X) hj
      subst hXs
      have s2 : Srt ([y] ++ X2) := srt_app (List.pairwise_singleton _ _) (srt_r hX) (cross (List.pairwise_singleton _ _) (srt_r hX) (by
        rcases f2 with f | ⟨x, f, g⟩
        · right; left; apply List.eq_nil_of_length_eq_zero; rw [List.length_append] at f; omega
        · right; right; rw [← hx1, get_r] at f; exact ⟨y, x, rfl, f, .of g⟩))
      have srt : Srt (X1 ++ y :: X2) := by
        refine srt_app (srt_l hX) s2 (cross (srt_l hX) s2 ?_)
        rcases f1 with f | ⟨x, f, g⟩
        · left; exact List.eq_nil_of_length_eq_zero (by omega)
        · by_cases hne : X1 = []
          · left; exact hne
          · right; right; rw [← hx1, get_l hne] at f; exact ⟨x, y, f, rfl, g⟩
      simp only [List.length_append] at em eb hl
      refine ⟨fun k g => ∃ W W', X2 = W ++ W' ∧ k = ((A.length + X1.length + W.length : Nat) : Int) ∧ Sv h g l (A ++ (X1 ++ (W ++ y :: (W' ++ B)))), fun k _ => k.toNat, ⟨X2, [], by simp, by omega, ⟨by simpa using Tb, Upd.refl _ _⟩⟩, ?_⟩
      rintro k g ⟨W, W', rfl, rfl, S⟩
      simp only [List.length_append] at em eb hl
      refine ⟨fun hlt => ?_, fun hge => ?_⟩
      · have hne : W ≠ [] := fun e => by subst e; simp at hlt; omega
        obtain ⟨W0, w, rfl⟩ := snoc_of hne
        simp only [List.length_append, List.length_singleton] at em eb hl hlt
        have e1 : ((A.length + X1.length + (W0 ++ [w]).length : Nat) : Int) = ((A.length + X1.length + W0.length : Nat) : Int) + 1 := by simp; omega
        rw [e1, wr64 (x := ((A.length + X1.length + W0.length : Nat) : Int) + 1 - 1) (by omega) (by omega), show ((A.length + X1.length + W0.length : Nat) : Int) + 1 - 1 = ((A.length + X1.length + W0.length : Nat) : Int) by omega]
        have S1 : Sv h g l ((A ++ (X1 ++ W0)) ++ w :: ([] ++ y :: (W' ++ B))) := ⟨by simpa using S.b, S.up⟩
        refine S1.b.rd (P := (A ++ (X1 ++ W0))) (t := w) (R := [] ++ y :: (W' ++ B)) (by simp) (i := ((A.length + X1.length + W0.length : Nat) : Int)) (by simp <;> omega) fun b1 o1 => S1.b.rd (P := (A ++ (X1 ++ W0)) ++ w :: ([])) (t := y) (R := W' ++ B) (by simp) (i := ((A.length + X1.length + W0.length : Nat) : Int) + 1) (by simp <;> omega) fun b2 o2 => TB.wr S1.b (P := (A ++ (X1 ++ W0)) ++ w :: ([])) (x := y) (t := w) (R := W' ++ B) (by simp) (i := ((A.length + X1.length + W0.length : Nat) : Int) + 1) (by simp <;> omega) fun b3 B3 p3 => TB.wr B3 (P := (A ++ (X1 ++ W0))) (x := w) (t := y) (R := [] ++ w :: (W' ++ B)) (by simp) (i := ((A.length + X1.length + W0.length : Nat) : Int)) (by simp <;> omega) fun b4 B4 p4 => ?_
        have S2 : Sv h ((g.wr b3 (0 + (((A.length + X1.length + W0.length : Nat) : Int) + 1).toNat * 6) [.int .u64 w.num, .int .i64 w.weight, .int .i64 w.bytes, .int .i64 w.entries, .string w.least, .string w.greatest]).wr b4 (0 + (((A.length + X1.length + W0.length : Nat) : Int)).toNat * 6) [.int .u64 y.num, .int .i64 y.weight, .int .i64 y.bytes, .int .i64 y.entries, .string y.least, .string y.greatest]) l ((A ++ (X1 ++ W0)) ++ y :: ([] ++ w :: (W' ++ B))) := ⟨by simpa using B4, (S1.up.trans p3).trans p4⟩
        generalize ((g.wr b3 (0 + (((A.length + X1.length + W0.length : Nat) : Int) + 1).toNat * 6) [.int .u64 w.num, .int .i64 w.weight, .int .i64 w.bytes, .int .i64 w.entries, .string w.least, .string w.greatest]).wr b4 (0 + (((A.length + X1.length + W0.length : Nat) : Int)).toNat * 6) [.int .u64 y.num, .int .i64 y.weight, .int .i64 y.bytes, .int .i64 y.entries, .string y.least, .string y.greatest]) = g2 at S2 ⊢
        clear B3 p3 B4 p4 b1 b2 b3 b4 o1 o2
        exact ⟨⟨W0, w :: W', by simp, rfl, ⟨by simpa using S2.b, S2.up⟩⟩, by dsimp only; omega⟩
      · have hW : W = [] := List.eq_nil_of_length_eq_zero (by omega)
        subst hW
        refine hQ g (X1 ++ y :: W') ⟨by simpa using S.b, S.up⟩ ?_ (by simpa using srt)
        simp only [List.nil_append]
        rw [List.append_assoc]
        refine List.Perm.append_left X1 ?_
        exact (List.perm_append_comm (l₁ := [y]) (l₂ := W'))
  · -- more
    have hm := half (x := a) (y := b) (by omega) (by omega)
    rw [hm]
    obtain ⟨d, hd⟩ : ∃ d : Nat, (a + b) / 2 = ((A.length + d : Nat) : Int) := ⟨((a + b) / 2 - a).toNat, by omega⟩
    have d0 : 0 < d := by omega
    have d1 : 2 * d ≤ X.length + Y.length := by omega
    have d2 : X.length + Y.length ≤ 2 * d + 1 := by omega
    rw [hd]
    have hN2 : 3 ≤ X.length + Y.length := by omega
    generalize hmid : ((A.length + d : Nat) : Int) = mid
    rw [wr64 (x := mid + m) (by omega) (by omega), wr64 (x := mid + m - 1) (by omega) (by omega), wr64 (x := mid + m - b) (by omega) (by omega)]
    refine ⟨by decide, fun lo hi g => h = g ∧ ((mid < m ∧ lo = mid + m - b ∧ hi = mid) ∨ (m ≤ mid ∧ lo = a ∧ hi = m)), ?_, fun hc => ⟨rfl, .inl ⟨hc, rfl, rfl⟩⟩, fun hc => ⟨rfl, .inr ⟨by omega, rfl, rfl⟩⟩⟩
    rintro lo hi g ⟨rfl, hcase⟩
    have lo0 : a ≤ lo := by omega
    have hi0 : hi ≤ m := by omega
    have him : hi ≤ mid := by omega
    have lohi : lo ≤ hi := by omega
    have lob : mid + m - lo ≤ b := by omega
    have him2 : m ≤ mid + m - hi := by omega
    refine ⟨fun s r g => lo ≤ s ∧ s ≤ r ∧ r ≤ hi ∧ (s = lo ∨ ∃ x y, X[(s - 1 - a).toNat]? = some x ∧ Y[(mid - s).toNat]? = some y ∧ Le x.least y.least) ∧ (r = hi ∨ ∃ x y, X[(r - a).toNat]? = some x ∧ Y[(mid - 1 - r).toNat]? = some y ∧ Bl y.least x.least) ∧ h = g, fun s r _ => (r - s).toNat, ⟨Int.le_refl _, lohi, Int.le_refl _, .inl rfl, .inl rfl, rfl⟩, ?_⟩
    rintro s r g ⟨s0, s1, s2, f1, f2, rfl⟩
    refine ⟨fun hlt => ⟨by decide, ?_⟩, fun hge => ?_⟩
    · rw [half (x := s) (y := r) (by omega) (by omega)]
      obtain ⟨c, hc⟩ : ∃ c : Int, (s + r) / 2 = c := ⟨_, rfl⟩
      rw [hc, wr64 (x := mid + m - 1 - c) (by omega) (by omega), wr64 (x := c + 1) (by omega) (by omega)]
      have c0 : s ≤ c := by omega
      have c1 : c < r := by omega
      obtain ⟨X1, x, X2, hXs, hx1, hxc⟩ := split_i (l := X) (i := (c - a).toNat) (by omega)
      obtain ⟨Y1, y, Y2, hYs, hy1, hyc⟩ := split_i (l := Y) (i := (mid - 1 - c).toNat) (by omega)
      refine Tb.rd (P := A ++ (X ++ Y1)) (t := y) (R := Y2 ++ B) (by rw [hYs]; simp) (by simp; omega) fun b1 o1 => Tb.rd (P := A ++ X1) (t := x) (R := X2 ++ (Y ++ B)) (by rw [hXs]; simp) (by simp; omega) fun b2 o2 => cmp_spec (fun hb n hn0 => ⟨n, rfl, fun _ => ?_, fun hc => absurd hn0 hc⟩) (fun hle n hn0 => ⟨n, rfl, fun hc => absurd hc hn0, fun _ => ?_⟩)
      · exact ⟨⟨s0, by omega, by omega, f1, .inr ⟨x, y, hxc, hyc, hb⟩, rfl⟩, by dsimp only; omega⟩
      · exact ⟨⟨by omega, by omega, by omega, .inr ⟨x, y, by rw [show c + 1 - 1 - a = c - a by omega]; exact hxc, by rw [show mid - (c + 1) = mid - 1 - c by omega]; exact hyc, hle⟩, f2, rfl⟩, by dsimp only; omega⟩
    · have hsr : r = s := by omega
      subst hsr
      rw [wr64 (x := mid + m - r) (by omega) (by omega)]
      obtain ⟨X1, X2, hXs, hx1⟩ := cut_at (l := X) (k := (r - a).toNat) (by omega)
      obtain ⟨Y1, Y2, hYs, hy1⟩ := cut_at (l := Y) (k := (mid - r).toNat) (by omega)
      have hxl : X.length = X1.length + X2.length := by rw [hXs, List.length_append]
      have hyl : Y.length = Y1.length + Y2.length := by rw [hYs, List.length_append]
      subst hXs hYs
      have k1 : ∀ x ∈ X1, ∀ y ∈ Y2, Le x.least y.least := by
        refine cross (srt_l hX) (srt_r hY) ?_
        rcases f1 with f | ⟨x, y, fx, fy, g⟩
        · rcases hcase with ⟨c1, c2, c3⟩ | ⟨c1, c2, c3⟩
          · right; left; exact List.eq_nil_of_length_eq_zero (by omega)
          · left; exact List.eq_nil_of_length_eq_zero (by omega)
        · by_cases hne : X1 = []
          · left; exact hne
          · right; right
            refine ⟨x, y, ?_, ?_, g⟩
            · rw [← get_l (S := X2) hne, hx1, ← fx]; congr 1; omega
            · rw [← hy1, get_r] at fy; exact fy
      have k2 : ∀ y ∈ Y1, ∀ x ∈ X2, Le y.least x.least := by
        refine cross (srt_l hY) (srt_r hX) ?_
        rcases f2 with f | ⟨x, y, fx, fy, g⟩
        · rcases hcase with ⟨c1, c2, c3⟩ | ⟨c1, c2, c3⟩
          · left; exact List.eq_nil_of_length_eq_zero (by omega)
          · right; left; exact List.eq_nil_of_length_eq_zero (by omega)
        · by_cases hne : Y1 = []
          · left; exact hne
          · right; right
            refine ⟨y, x, ?_, ?_, .of g⟩
            · rw [← get_l (S := Y2) hne, hy1, ← fy]; congr 1; omega
            · rw [← hx1, get_r] at fx; exact fx
      have k3 := (List.pairwise_append.1 hX).2.2
      have k4 := (List.pairwise_append.1 hY).2.2
      refine ⟨fun g => Sv h g l (A ++ (X1 ++ (Y1 ++ (X2 ++ (Y2 ++ B))))), ?_, ?_⟩
      · intro g S
        refine ⟨fun g => ∃ Z1, Sv h g l (A ++ (Z1 ++ (X2 ++ (Y2 ++ B)))) ∧ Z1.Perm (X1 ++ Y1) ∧ Srt Z1, ?_, ?_⟩
        · rintro g ⟨Z1, S, hp1, hs1⟩
          have hz1 : Z1.length = d := by have := hp1.length_eq; rw [List.length_append] at this; omega
          have fin : ∀ {g : Hp} {Z2 : List Tab}, Sv h g l (A ++ (Z1 ++ (Z2 ++ B))) → Z2.Perm (X2 ++ Y2) → Srt Z2 → Q (.tuple ⟨[]⟩) g := by
            intro g Z2 S hp2 hs2
            refine hQ g (Z1 ++ Z2) ⟨by simpa using S.b, S.up⟩ ?_ (srt_app hs1 hs2 fun z hz w hw => ?_)
            · refine (hp1.append hp2).trans ?_
              have e1 : X1 ++ Y1 ++ (X2 ++ Y2) = X1 ++ ((Y1 ++ X2) ++ Y2) := by simp
              have e2 : X1 ++ X2 ++ (Y1 ++ Y2) = X1 ++ ((X2 ++ Y1) ++ Y2) := by simp
              rw [e1, e2]
              exact List.Perm.append_left X1 (List.Perm.append_right Y2 List.perm_append_comm)
            · have hz' := hp1.mem_iff.1 hz
              have hw' := hp2.mem_iff.1 hw
              rcases List.mem_append.1 hz' with hz' | hz' <;> rcases List.mem_append.1 hw' with hw' | hw'
              · exact k3 z hz' w hw'
              · exact k1 z hz' w hw'
              · exact k2 z hz' w hw'
              · exact k4 z hz' w hw'
          refine ⟨fun c1 => ⟨fun c2 => ?_, fun c2 => ?_⟩, fun c1 => ?_⟩
          · refine hT (A ++ Z1) X2 Y2 B mid (mid + m - r) b g _ (by simpa using S.b) (srt_r hX) (srt_r hY) (by omega) (by omega) (by omega) (by simp; omega) (by simp; omega) (by simp; omega) fun g2 Z2 S2 hp2 hs2 => fin ⟨by simpa using S2.b, S.up.trans S2.up⟩ hp2 hs2
          · have : Y2 = [] := List.eq_nil_of_length_eq_zero (by omega)
            subst this
            exact fin (Z2 := X2) (by simpa using S) (by simp) (srt_r hX)
          · have : X2 = [] := List.eq_nil_of_length_eq_zero (by omega)
            subst this
            exact fin (Z2 := Y2) (by simpa using S) (by simp) (srt_r hY)
        · refine ⟨fun c1 => ⟨fun c2 => ?_, fun c2 => ?_⟩, fun c1 => ?_⟩
          · refine hT A X1 Y1 (X2 ++ (Y2 ++ B)) a r mid g _ S.b (srt_l hX) (srt_l hY) (by omega) (by omega) (by omega) ea (by omega) (by omega) fun g2 Z1 S2 hp1 hs1 => ⟨Z1, ⟨S2.b, S.up.trans S2.up⟩, hp1, hs1⟩
          · have : Y1 = [] := List.eq_nil_of_length_eq_zero (by omega)
            subst this
            exact ⟨X1, by simpa using S, by simp, srt_l hX⟩
          · have : X1 = [] := List.eq_nil_of_length_eq_zero (by omega)
            subst this
            exact ⟨Y1, by simpa using S, by simp, srt_l hY⟩
      · refine ⟨fun c1 => ⟨fun c2 => ?_, fun c2 => ?_⟩, fun c1 => ?_⟩
        · refine rotate_t (A := A ++ X1) (U := X2) (V := Y1) (B := Y2 ++ B) (by simpa using Tb) (by omega) (by omega) (by simp; omega) (by simp; omega) (by simp; omega) hn fun g2 S2 => ⟨by simpa using S2.b, S2.up⟩
        · have : Y1 = [] := List.eq_nil_of_length_eq_zero (by omega)
          subst this
          exact ⟨by simpa using Tb, Upd.refl _ _⟩
        · have : X2 = [] := List.eq_nil_of_length_eq_zero (by omega)
          subst this
          exact ⟨by simpa using Tb, Upd.refl _ _⟩
theorem merge_ok {l : Sl} (hn : l.n ≤ 60000) : ∀ (nf : Nat), MergeOk l (F91.TN nf) nf
  | 0 => fun A X Y B a m b h Q T hX hY x0 y0 hN ea em eb hQ => absurd hN (by omega)
  | nf + 1 => fun A X Y B a m b h Q T hX hY x0 y0 hN ea em eb hQ => merge_step hn (merge_ok hn nf) T hX hY x0 y0 (by omega) ea em eb hQ
theorem merge_t {h : Hp} {l : Sl} (hn : l.n ≤ 60000) {A X Y B : List Tab} {a m b : Int} {Q : Value → Hp → Prop} (T : TB h l (A ++ (X ++ (Y ++ B)))) (hX : Srt X) (hY : Srt Y) (x0 : 0 < X.length) (y0 : 0 < Y.length)
    (ea : a = (A.length : Int)) (em : m = ((A.length + X.length : Nat) : Int)) (eb : b = ((A.length + X.length + Y.length : Nat) : Int)) (hQ : ∀ h' Z, Sv h h' l (A ++ (Z ++ B)) → Z.Perm (X ++ Y) → Srt Z → Q (.tuple ⟨[]⟩) h') : F91.T l a m b h Q :=
  ⟨X.length + Y.length + 1, merge_ok hn (X.length + Y.length + 1) A X Y B a m b h Q T hX hY x0 y0 (by omega) ea em eb hQ⟩
end Go.Eng.YtbjnlacacapjiaaGreat
end
section
set_option maxRecDepth 100000
namespace Go.Eng.YtbjnlacacapjiaaGreat
def Blk (k : Nat) (bl : List (List Tab)) : Prop := ∀ b ∈ bl, Srt b ∧ b.length = k
theorem blk_len {k : Nat} : ∀ {bl : List (List Tab)}, Blk k bl → bl.flatten.length = bl.length * k
  | [], _ => by simp
  | b :: bl, h => by
    have h1 := (h b List.mem_cons_self).2
    have h2 := blk_len (bl := bl) fun c hc => h c (List.mem_cons_of_mem _ hc)
    rw [List.flatten_cons, List.length_append, h1, h2, List.length_cons, Nat.succ_mul]; omega
theorem blk_snoc {k : Nat} {bl : List (List Tab)} {b : List Tab} (h : Blk k bl) (h1 : Srt b) (h2 : b.length = k) : Blk k (bl ++ [b]) := fun c hc => by
  rcases List.mem_append.1 hc with hc | hc
  · exact h c hc
  · rw [List.mem_singleton] at hc; subst hc; exact ⟨h1, h2⟩
theorem fl_snoc (bl : List (List Tab)) (b : List Tab) : (bl ++ [b]).flatten = bl.flatten ++ b := by simp
def Runs (k : Nat) (ts : List Tab) : Prop := ∃ bl R, ts = bl.flatten ++ R ∧ Blk k bl ∧ Srt R ∧ R.length < k
theorem runs_end {k : Nat} {ts : List Tab} (h : Runs k ts) (hk : ts.length ≤ k) : Srt ts := by
  obtain ⟨bl, R, rfl, hb, hs, hl⟩ := h
  rw [List.length_append, blk_len hb] at hk
  match bl, hb with
  | [], _ => simpa using hs
  | [b], hb =>
    have := hb b List.mem_cons_self
    simp only [List.length_cons, List.length_nil] at hk
    have hR : R = [] := List.eq_nil_of_length_eq_zero (by omega)
    subst hR
    simpa using this.1
  | _ :: _ :: bl, _ =>
    exfalso
    simp only [List.length_cons] at hk
    have : (bl.length + 1 + 1) * k = bl.length * k + 2 * k := by rw [Nat.succ_mul, Nat.succ_mul]; omega
    have h0 : 0 ≤ bl.length * k := Nat.zero_le _
    omega
theorem stable_t {h : Hp} {l : Sl} {ts : List Tab} {Q : Value → Hp → Prop} (T : TB h l ts) (hn : l.n ≤ 60000) (hQ : ∀ h' us, Sv h h' l us → us.Perm ts → Srt us → Q (.tuple ⟨[]⟩) h') : F76.T l h Q := by
  have hl := T.n
  unfold F76.T F84.T F76.G F84.G
  refine ⟨fun a b g => ∃ bl R, Sv h g l (bl.flatten ++ R) ∧ (bl.flatten ++ R).Perm ts ∧ Blk 20 bl ∧ a = ((bl.flatten.length : Nat) : Int) ∧ b = a + 20 ∧ bl.flatten.length + R.length = l.n, fun a _ _ => ((l.n : Int) - a).toNat, ⟨[], ts, ⟨T, Upd.refl _ _⟩, List.Perm.refl _, fun b hb => (by cases hb), rfl, rfl, by simp; omega⟩, ?_⟩
  rintro a b g ⟨bl, R, S, hp, hb, rfl, rfl, hlen⟩
  refine ⟨fun hle => ?_, fun hgt => ?_⟩
  · obtain ⟨R1, R2, rfl, hr1⟩ := cut_at (l := R) (k := 20) (by omega)
    rw [List.length_append] at hlen
    rw [wr64 (by omega) (by omega)]
    refine insertion_t (A := bl.flatten) (M := R1) (B := R2) (by simpa using S.b) rfl (by omega) hn fun g2 M' S2 hp2 hs2 => ?_
    have hml := hp2.length_eq
    refine ⟨⟨bl ++ [M'], R2, ⟨by simpa using S2.b, S.up.trans S2.up⟩, ?_, blk_snoc hb hs2 (by omega), by rw [fl_snoc, List.length_append]; omega, by omega, by rw [fl_snoc, List.length_append]; omega⟩, by dsimp only; omega⟩
    refine List.Perm.trans ?_ hp
    have e1 : (bl ++ [M']).flatten ++ R2 = bl.flatten ++ (M' ++ R2) := by simp
    rw [e1]
    exact List.Perm.append_left _ (hp2.append_right R2)
  · refine insertion_t (A := bl.flatten) (M := R) (B := []) (by simpa using S.b) rfl (by omega) hn fun g2 M' S2 hp2 hs2 => ?_
    have hml := hp2.length_eq
    have hp' : (bl.flatten ++ M').Perm ts := (List.Perm.append_left _ hp2).trans hp
    have hruns : Runs 20 (bl.flatten ++ M') := ⟨bl, M', rfl, hb, hs2, by omega⟩
    have hlen' : (bl.flatten ++ M').length = l.n := by rw [List.length_append]; omega
    have S3 : Sv h g2 l (bl.flatten ++ M') := ⟨by simpa using S2.b, S.up.trans S2.up⟩
    generalize bl.flatten ++ M' = us at hp' hruns hlen' S3
    clear hp hb hlen hgt S S2 hp2 hs2 hml bl R M' g
    refine ⟨fun k g => ∃ us kk, k = ((kk : Nat) : Int) ∧ 20 ≤ kk ∧ kk ≤ 200000 ∧ Sv h g l us ∧ us.Perm ts ∧ Runs kk us, fun k _ => ((l.n : Int) - k).toNat, ⟨us, 20, rfl, by decide, by decide, S3, hp', hruns⟩, ?_⟩
    clear S3 hp' hruns hlen' us g2
    rintro k g ⟨us, kk, rfl, k0, k1, S, hp, hr⟩
    have hul : us.length = l.n := by have := S.b.n; omega
    refine ⟨fun hlt => ?_, fun hge => hQ g us S hp (runs_end hr (by omega))⟩
    rw [wr64 (x := 2 * (kk : Int)) (by omega) (by omega), wr64 (x := (kk : Int) * 2) (by omega) (by omega)]
    obtain ⟨bl, R, rfl, hb, hs, hR⟩ := hr
    refine ⟨fun a b g => ∃ d bl, Sv h g l (d.flatten ++ (bl.flatten ++ R)) ∧ (d.flatten ++ (bl.flatten ++ R)).Perm ts ∧ Blk (2 * kk) d ∧ Blk kk bl ∧ a = ((d.flatten.length : Nat) : Int) ∧ b = a + 2 * (kk : Int) ∧ d.flatten.length + (bl.flatten.length + R.length) = l.n, fun a _ _ => ((l.n : Int) - a).toNat, ⟨[], bl, by simpa using S, by simpa using hp, fun b hb => (by cases hb), hb, rfl, by simp, by rw [List.length_append] at hul; simp only [List.flatten_nil, List.length_nil]; omega⟩, ?_⟩
    clear hul hp hb S bl
    rintro a b g ⟨d, bl, S, hp, hd, hb, rfl, rfl, hlen⟩
    have hbl := blk_len hb
    have nxt : ∀ {g : Hp} {R' : List Tab}, Sv h g l (d.flatten ++ R') → R'.Perm (bl.flatten ++ R) → Srt R' → R'.length < 2 * kk → (∃ us kk_1, ((2 * kk : Nat) : Int) = ((kk_1 : Nat) : Int) ∧ 20 ≤ kk_1 ∧ kk_1 ≤ 200000 ∧ Sv h g l us ∧ us.Perm ts ∧ Runs kk_1 us) := fun Sg hp2 hs2 hl2 => ⟨_, 2 * kk, rfl, by omega, by omega, Sg, (List.Perm.append_left _ hp2).trans hp, d, _, rfl, hd, hs2, hl2⟩
    rw [wr64 (x := ((d.flatten.length : Nat) : Int) + (kk : Int)) (by omega) (by omega), wr64 (x := ((d.flatten.length : Nat) : Int) + 2 * (kk : Int) + 2 * (kk : Int)) (by omega) (by omega)]
    have ek : (kk : Int) * 2 = ((2 * kk : Nat) : Int) := by omega
    refine ⟨fun hle => ?_, fun hgt => ⟨fun hm => ?_, fun hm => ?_⟩⟩
    · match bl, hb with
      | [], hb => simp only [List.flatten_nil, List.length_nil] at hlen hbl; omega
      | [b0], hb =>
        simp only [List.length_cons, List.length_nil] at hbl
        omega
      | b0 :: b1 :: bl, hb =>
        have h0 := hb b0 List.mem_cons_self
        have h1 := hb b1 (List.mem_cons_of_mem _ List.mem_cons_self)
        have hlen2 : d.flatten.length + (b0.length + (b1.length + bl.flatten.length) + R.length) = l.n := by
          rw [List.flatten_cons, List.flatten_cons, List.length_append, List.length_append] at hlen; omega
        refine merge_t (A := d.flatten) (X := b0) (Y := b1) (B := bl.flatten ++ R) hn (by simpa using S.b) h0.1 h1.1 (by omega) (by omega) rfl (by omega) (by omega) fun g2 Z S2 hp2 hs2 => ?_
        have hzl := hp2.length_eq
        rw [List.length_append] at hzl
        refine ⟨⟨d ++ [Z], bl, ⟨by rw [fl_snoc]; simpa using S2.b, S.up.trans S2.up⟩, ?_, blk_snoc hd hs2 (by omega), fun c hc => hb c (List.mem_cons_of_mem _ (List.mem_cons_of_mem _ hc)), by rw [fl_snoc, List.length_append]; omega, by omega, by rw [fl_snoc, List.length_append]; omega⟩, by dsimp only; omega⟩
        refine List.Perm.trans ?_ hp
        have e1 : (d ++ [Z]).flatten ++ (bl.flatten ++ R) = d.flatten ++ (Z ++ (bl.flatten ++ R)) := by simp
        have e2 : d.flatten ++ ((b0 :: b1 :: bl).flatten ++ R) = d.flatten ++ ((b0 ++ b1) ++ (bl.flatten ++ R)) := by simp
        rw [e1, e2]
        exact List.Perm.append_left _ (hp2.append_right _)
    · match bl, hb with
      | [], hb => simp only [List.flatten_nil, List.length_nil] at hlen hbl; omega
      | [b0], hb =>
        have h0 := hb b0 List.mem_cons_self
        have e0 : [b0].flatten = b0 := by simp
        rw [e0] at S hp hlen hbl nxt
        refine merge_t (A := d.flatten) (X := b0) (Y := R) (B := []) hn (by simpa using S.b) h0.1 hs (by omega) (by omega) rfl (by omega) (by omega) fun g2 Z S2 hp2 hs2 => ?_
        have hzl := hp2.length_eq
        rw [List.length_append] at hzl
        rw [ek]
        exact ⟨nxt (R' := Z) ⟨by simpa using S2.b, S.up.trans S2.up⟩ hp2 hs2 (by omega), by dsimp only; omega⟩
      | b0 :: b1 :: bl, hb =>
        exfalso
        simp only [List.length_cons] at hbl
        have : (bl.length + 1 + 1) * kk = bl.length * kk + 2 * kk := by rw [Nat.succ_mul, Nat.succ_mul]; omega
        have h0 : 0 ≤ bl.length * kk := Nat.zero_le _
        omega
    · rw [ek]
      match bl, hb with
      | [], hb => exact ⟨nxt (R' := R) (by simpa using S) (by simp) hs (by omega), by dsimp only; omega⟩
      | [b0], hb =>
        have h0 := hb b0 List.mem_cons_self
        have e0 : [b0].flatten = b0 := by simp
        rw [e0] at S hp hlen hbl nxt
        have hR0 : R = [] := List.eq_nil_of_length_eq_zero (by omega)
        subst hR0
        exact ⟨nxt (R' := b0) (by simpa using S) (by simp) h0.1 (by omega), by dsimp only; omega⟩
      | b0 :: b1 :: bl, hb =>
        exfalso
        simp only [List.length_cons] at hbl
        have : (bl.length + 1 + 1) * kk = bl.length * kk + 2 * kk := by rw [Nat.succ_mul, Nat.succ_mul]; omega
        have h0 : 0 ≤ bl.length * kk := Nat.zero_le _
        omega
end Go.Eng.YtbjnlacacapjiaaGreat
end
section
namespace Go.Eng.YtbjnlacacapjiaaGreat
def Placed.tab (p : Placed) : Tab := ⟨p.num, p.weight, p.bytes, p.entries, p.least, p.greatest⟩
abbrev Lv := List (List Tab)
def blB (a b : ByteArray) : Bool := decide (cmpI a b < 0)
theorem blB_t {a b : ByteArray} : blB a b = true ↔ Bl a b := by unfold blB Bl; exact decide_eq_true_iff
def cutN (n : Int) : List Tab → Option (List Tab)
  | [] => none
  | t :: ts => if t.num = n then some ts else (cutN n ts).map (t :: ·)
theorem cutN_some {n : Int} : ∀ {P : List Tab} {x : Tab} {R : List Tab}, (∀ y ∈ P, y.num ≠ n) → x.num = n → cutN n (P ++ x :: R) = some (P ++ R)
  | [], x, R, _, hx => by simp [cutN, hx]
  | y :: P, x, R, hP, hx => by
    simp only [List.cons_append, cutN]
    rw [if_neg (hP y List.mem_cons_self), cutN_some (fun z hz => hP z (List.mem_cons_of_mem _ hz)) hx]
    rfl
theorem cutN_none {n : Int} : ∀ {ts : List Tab}, (∀ y ∈ ts, y.num ≠ n) → cutN n ts = none
  | [], _ => rfl
  | y :: P, hP => by
    simp only [cutN]
    rw [if_neg (hP y List.mem_cons_self), cutN_none (fun z hz => hP z (List.mem_cons_of_mem _ hz))]
    rfl
theorem cutN_sub {n : Int} : ∀ {ts us : List Tab}, cutN n ts = some us → us.length ≤ ts.length ∧ ∀ y ∈ us, y ∈ ts
  | [], us, h => by cases h
  | t :: ts, us, h => by
    simp only [cutN] at h
    by_cases ht : t.num = n
    · rw [if_pos ht] at h; cases h; exact ⟨by simp, fun y hy => List.mem_cons_of_mem _ hy⟩
    · rw [if_neg ht] at h
      cases hc : cutN n ts with
      | none => rw [hc] at h; cases h
      | some vs =>
        rw [hc] at h; cases h
        have := cutN_sub hc
        exact ⟨by simp; exact this.1, fun y hy => by
          rcases List.mem_cons.1 hy with rfl | hy
          · exact List.mem_cons_self
          · exact List.mem_cons_of_mem _ (this.2 y hy)⟩
def totL (lv : Lv) : Nat := (lv.map List.length).sum
def nums (lv : Lv) : List Int := lv.flatten.map Tab.num
def Hulls (lv : Lv) : Prop := ∀ l ∈ lv, ∀ t ∈ l, Le t.least t.greatest
def outM : List Place → Lv → Int × Lv
  | [], lv => (0, lv)
  | p :: ps, lv => if p.lv < 0 then (133, lv) else match lv[p.lv.toNat]? with
    | none => (133, lv)
    | some ts => match cutN p.num ts with
      | none => (130, lv)
      | some us => outM ps (lv.set p.lv.toNat us)
def inM : List Placed → Lv → Int × Lv
  | [], lv => (0, lv)
  | p :: ps, lv => if p.lv < 0 then (133, lv) else match lv[p.lv.toNat]? with
    | none => (133, lv)
    | some ts => if p.num ∈ nums lv then (131, lv) else if blB p.greatest p.least then (132, lv) else inM ps (lv.set p.lv.toNat (ts ++ [p.tab]))
theorem totL_set : ∀ {lv : Lv} {k : Nat} {ts us : List Tab}, lv[k]? = some ts → totL (lv.set k us) + ts.length = totL lv + us.length
  | [], k, ts, us, h => by simp at h
  | l :: lv, 0, ts, us, h => by
    simp only [List.getElem?_cons_zero, Option.some.injEq] at h
    subst h
    simp only [totL, List.set_cons_zero, List.map_cons, List.sum_cons]; omega
  | l :: lv, k + 1, ts, us, h => by
    simp only [List.getElem?_cons_succ] at h
    have := totL_set (us := us) h
    simp only [totL, List.set_cons_succ, List.map_cons, List.sum_cons] at this ⊢; omega
theorem totL_mem : ∀ {lv : Lv} {l : List Tab}, l ∈ lv → l.length ≤ totL lv
  | [], l, h => by cases h
  | m :: lv, l, h => by
    simp only [totL, List.map_cons, List.sum_cons]
    rcases List.mem_cons.1 h with rfl | h
    · omega
    · have := totL_mem h; unfold totL at this; omega
theorem Hulls.set {lv : Lv} (H : Hulls lv) {k : Nat} {us : List Tab} (hu : ∀ t ∈ us, Le t.least t.greatest) : Hulls (lv.set k us) := fun l hl => by
  rcases List.mem_or_eq_of_mem_set hl with h | rfl
  · exact H l h
  · exact hu
theorem outM_sum : ∀ (ps : List Place) (lv : Lv), totL (outM ps lv).2 ≤ totL lv ∧ (outM ps lv).2.length = lv.length ∧ (Hulls lv → Hulls (outM ps lv).2)
  | [], lv => ⟨Nat.le_refl _, rfl, id⟩
  | p :: ps, lv => by
    unfold outM
    split
    · exact ⟨Nat.le_refl _, rfl, id⟩
    · split
      · exact ⟨Nat.le_refl _, rfl, id⟩
      · next ts h =>
        split
        · exact ⟨Nat.le_refl _, rfl, id⟩
        · next us hc =>
          obtain ⟨h1, h2, h3⟩ := outM_sum ps (lv.set p.lv.toNat us)
          have h4 := totL_set (us := us) h
          have h5 := cutN_sub hc
          refine ⟨by omega, by rw [h2, List.length_set], fun H => h3 (H.set fun t ht => H ts (List.mem_of_getElem? h) t (h5.2 t ht))⟩
theorem inM_sum : ∀ (ps : List Placed) (lv : Lv), totL (inM ps lv).2 ≤ totL lv + ps.length ∧ (inM ps lv).2.length = lv.length ∧ (Hulls lv → Hulls (inM ps lv).2)
  | [], lv => ⟨Nat.le_refl _, rfl, id⟩
  | p :: ps, lv => by
    unfold inM
    split
    · exact ⟨Nat.le_add_right _ _, rfl, id⟩
    · split
      · exact ⟨Nat.le_add_right _ _, rfl, id⟩
      · next ts h =>
        split
        · exact ⟨Nat.le_add_right _ _, rfl, id⟩
        · split
          · exact ⟨Nat.le_add_right _ _, rfl, id⟩
          · next hb =>
            obtain ⟨h1, h2, h3⟩ := inM_sum ps (lv.set p.lv.toNat (ts ++ [p.tab]))
            have h4 := totL_set (us := ts ++ [p.tab]) h
            rw [List.length_append, List.length_singleton] at h4
            refine ⟨by simp only [List.length_cons]; omega, by rw [h2, List.length_set], fun H => h3 (H.set fun t ht => ?_)⟩
            rcases List.mem_append.1 ht with ht | ht
            · exact H ts (List.mem_of_getElem? h) t ht
            · rw [List.mem_singleton] at ht; subst ht
              intro hbl
              exact hb (blB_t.2 hbl)
def Adj (us : List Tab) : Prop := ∀ i x y, us[i]? = some x → us[i + 1]? = some y → Bl x.greatest y.least
def Fine (ts us : List Tab) : Prop := us.Perm ts ∧ Srt us ∧ Adj us
def Bad (ts : List Tab) : Prop := ∃ us : List Tab, us.Perm ts ∧ Srt us ∧ ∃ (i : Nat) (x y : Tab), us[i]? = some x ∧ us[i + 1]? = some y ∧ ¬ Bl x.greatest y.least
def Sorted (lv lw : Lv) : Prop := lw.length = lv.length ∧ lw[0]? = lv[0]? ∧ ∀ i ts us, 1 ≤ i → lv[i]? = some ts → lw[i]? = some us → Fine ts us
def Res (lv : Lv) (e : Edit) (c : Int) (lw : Lv) : Prop :=
  if e.ptr.length = lv.length then
    if (outM e.out lv).1 = 0 then
      if (inM e.inn (outM e.out lv).2).1 = 0 then
        (c = 132 ∧ ∃ i ts, 1 ≤ i ∧ (inM e.inn (outM e.out lv).2).2[i]? = some ts ∧ Bad ts) ∨ (c = 0 ∧ Sorted (inM e.inn (outM e.out lv).2).2 lw)
      else c = (inM e.inn (outM e.out lv).2).1
    else c = (outM e.out lv).1
  else c = 133
theorem Sorted.hulls {lv lw : Lv} (H : Hulls lv) (h : Sorted lv lw) : Hulls lw := fun l hl t ht => by
  obtain ⟨i, hi, rfl⟩ := List.mem_iff_getElem.1 hl
  have hi' : i < lv.length := by rw [← h.1]; exact hi
  have a1 := List.getElem?_eq_getElem hi
  have b1 := List.getElem?_eq_getElem hi'
  rcases Nat.eq_zero_or_pos i with rfl | h0
  · have := h.2.1
    rw [a1, b1] at this
    simp only [Option.some.injEq] at this
    exact H _ (List.getElem_mem hi') t (by rw [← this]; exact ht)
  · exact H _ (List.getElem_mem hi') t ((h.2.2 i _ _ h0 b1 a1).1.mem_iff.1 ht)
theorem Sorted.totL {lv lw : Lv} (h : Sorted lv lw) : totL lw = totL lv := by
  have : lw.map List.length = lv.map List.length := by
    apply List.ext_getElem (by simp [h.1])
    intro i h1 h2
    simp only [List.length_map] at h1 h2
    simp only [List.getElem_map]
    have a1 := List.getElem?_eq_getElem h1
    have b1 := List.getElem?_eq_getElem h2
    rcases Nat.eq_zero_or_pos i with rfl | h0
    · have := h.2.1
      rw [a1, b1] at this
      simp only [Option.some.injEq] at this
      rw [this]
    · exact (h.2.2 i _ _ h0 b1 a1).1.length_eq
  unfold Go.Eng.YtbjnlacacapjiaaGreat.totL; rw [this]
theorem Res.ok {lv lw : Lv} {e : Edit} (h : Res lv e 0 lw) : e.ptr.length = lv.length ∧ ∃ l2, Sorted l2 lw ∧ totL l2 ≤ totL lv + e.inn.length ∧ l2.length = lv.length ∧ (Hulls lv → Hulls l2) := by
  unfold Res at h
  split at h
  · next h1 =>
    split at h
    · split at h
      · rcases h with ⟨h, _⟩ | ⟨_, h⟩
        · exact absurd h (by decide)
        · have a := outM_sum e.out lv
          have b := inM_sum e.inn (outM e.out lv).2
          exact ⟨h1, _, h, by omega, by omega, fun H => b.2.2 (a.2.2 H)⟩
      · next h3 => exact absurd h.symm h3
    · next h2 => exact absurd h.symm h2
  · exact absurd h (by decide)
end Go.Eng.YtbjnlacacapjiaaGreat
end
section
set_option maxRecDepth 100000
namespace Go.Eng.YtbjnlacacapjiaaGreat
theorem wr_nil (h : Hp) (b o : Nat) : h.wr b o [] = h := by
  funext k
  unfold Hp.wr
  by_cases hk : k = b
  · subst hk
    rw [if_pos rfl]
    split
    · next c t f e => rw [e]; simp [setL]
    · rfl
  · rw [if_neg hk]
theorem bufWr' {h : Hp} {s : Sl} {sz t b : Nat} {A U V B : List Value} (Bf : Buf h s sz t (A ++ (U ++ B))) (hu : U.length = V.length) (hb : s.a = some ⟨b, 0, none⟩) :
    h.canWA (some ⟨b, A.length, none⟩) V.length ∧ Upd h (h.wrA (some ⟨b, A.length, none⟩) V) s s ∧ Buf (h.wrA (some ⟨b, A.length, none⟩) V) s sz t (A ++ (V ++ B)) := by
  rcases Nat.eq_zero_or_pos U.length with h0 | h0
  · have hU : U = [] := List.eq_nil_of_length_eq_zero h0
    have hV : V = [] := List.eq_nil_of_length_eq_zero (by omega)
    subst hU hV
    refine ⟨.inl rfl, ?_⟩
    show Upd h (h.wr b A.length []) s s ∧ Buf (h.wr b A.length []) s sz t _
    rw [wr_nil]
    exact ⟨Upd.refl _ _, Bf⟩
  · obtain ⟨b', hb', hc, Up, Bw⟩ := bufWr Bf hu h0
    rw [hb] at hb'
    simp only [Option.some.injEq, Addr.mk.injEq, and_true] at hb'
    subst hb'
    exact ⟨.inr ⟨_, _, rfl, hc⟩, Up, Bw⟩
theorem buf_shrink {h : Hp} {s : Sl} {sz t k : Nat} {A B : List Value} (Bf : Buf h s sz t (A ++ B)) (hA : A.length = k * sz) (hk : k ≤ s.n) : Buf h ⟨s.a, k, s.c⟩ sz t A := by
  refine ⟨hA, Nat.le_trans hk Bf.cap, Bf.own.imp id ?_⟩
  rintro ⟨b, c, f, h1, h2, h3, h4, h5⟩
  refine ⟨b, c, f, h1, h2, h3, h4, ?_⟩
  have := congrArg (List.take A.length) h5
  rw [List.take_take, List.take_left' rfl, List.length_append, Nat.min_eq_left (Nat.le_add_right _ _)] at this
  exact this
theorem tabV_app (P R : List Tab) : tabV (P ++ R) = tabV P ++ tabV R := by unfold tabV; simp
theorem tabV_cons (x : Tab) (R : List Tab) : tabV (x :: R) = x.cells ++ tabV R := by unfold tabV; simp
theorem tab_one : ∀ (ts : List Tab), ∀ v ∈ tabV ts, Value.oneCell' v = true
  | [], v, h => by cases h
  | t :: ts, v, h => by
    rw [tabV_cons, List.mem_append] at h
    rcases h with h | h
    · simp only [Tab.cells, List.mem_cons, List.not_mem_nil, or_false] at h
      rcases h with rfl | rfl | rfl | rfl | rfl | rfl <;> rfl
    · exact tab_one ts v h
def zT : Tab := ⟨0, 0, 0, 0, ⟨#[]⟩, ⟨#[]⟩⟩
theorem zeros_tab (n : Nat) : zerosV [.int .u64 0, .int .i64 0, .int .i64 0, .int .i64 0, .string (ByteArray.mk #[]), .string (ByteArray.mk #[])] n = tabV (List.replicate n zT) := by
  apply List.ext_getElem
  · rw [zerosV_length, tabV_len, List.length_replicate]; rfl
  · intro i h1 h2
    rw [tabV_len, List.length_replicate] at h2
    have hg : (tabV (List.replicate n zT))[i / 6 * 6 + i % 6]? = (Tab.cells zT)[i % 6]? := by
      have := flat_get Tab.cells 6 (fun _ => rfl) (List.replicate n zT) (i / 6) (i % 6) (by rw [List.length_replicate]; omega) (by omega)
      rw [List.getElem_replicate] at this
      exact this
    have he : i / 6 * 6 + i % 6 = i := by omega
    rw [he] at hg
    rw [← Option.some_inj, ← List.getElem?_eq_getElem, ← List.getElem?_eq_getElem, hg]
    unfold zerosV Builtin.zeroCells
    have hi : i < n * 6 := h2
    rw [Array.toList_map, Array.toList_range]
    simp only [List.getElem?_map, List.size_toArray, List.length_cons, List.length_nil]
    rw [List.getElem?_range (by simpa using hi)]
    simp only [Option.map_some]
    have hm : i % 6 < 6 := Nat.mod_lt _ (by decide)
    generalize i % 6 = j at hm
    match j, hm with
    | 0, _ => rfl
    | 1, _ => rfl
    | 2, _ => rfl
    | 3, _ => rfl
    | 4, _ => rfl
    | 5, _ => rfl
theorem off_upd {h h1 : Hp} {s s' y : Sl} {sz t : Nat} {vs : List Value} (U : Upd h h1 s s') (B : Buf h y sz t vs) (o : Off s y ∧ Off y s) : Off s' y ∧ Off y s' := by
  rcases U.at_ with e | ⟨b, e, hn⟩
  · exact ⟨fun k p q a => o.1 k p q (by rw [← e]; exact a), fun k p q a a' => o.2 k p q a (by rw [← e]; exact a')⟩
  · have := NewN.off (s := s') (.inr ⟨b, e, hn⟩) B
    exact ⟨this.2, this.1⟩
structure Lvs (g h : Hp) (ls : Sl) (xs : List (Sl × List Tab)) : Prop where
  k : Keep g h
  nl : NewN g ls
  l : Buf h ls 1 75 (slV (xs.map (·.1)))
  t : ∀ x ∈ xs, TB h x.1 x.2
  n : ∀ x ∈ xs, NewN g x.1
  d : ∀ (i j : Nat) x y, xs[i]? = some x → xs[j]? = some y → i ≠ j → Off x.1 y.1
variable {g h h1 : Hp} {ls : Sl} {xs : List (Sl × List Tab)}
theorem Lvs.len (L : Lvs g h ls xs) : ls.n = xs.length := by have := L.l.len; rw [slV_length, List.length_map] at this; omega
theorem Lvs.ck {κ : List Nat} (L : Lvs g h ls xs) (C : Ck κ h h1) (K : Keep g h1) (a : 77 ∉ κ) (b : 67 ∉ κ) : Lvs g h1 ls xs :=
  ⟨K, L.nl, C.buf a L.l, fun x hx => C.buf b (L.t x hx), L.n, L.d⟩
theorem Lvs.keep (L : Lvs g h ls xs) (K : Keep h h1) : Lvs g h1 ls xs := L.ck (κ := []) (Ck.of_keep K) (L.k.trans K) (by simp) (by simp)
theorem Lvs.rd (L : Lvs g h ls xs) {i : Nat} {x : Sl × List Tab} (hx : xs[i]? = some x) : ∃ b, ls.a = some ⟨b, 0, none⟩ ∧ h.at b i = some (.slice x.1.a x.1.n x.1.c) := by
  have hi : i < xs.length := (List.getElem?_eq_some_iff.1 hx).1
  obtain ⟨b, ha, hat, _⟩ := buf_set L.l (k := i) (by rw [slV_length, List.length_map]; exact hi)
  refine ⟨b, ha, ?_⟩
  rw [hat]
  unfold slV
  rw [List.getElem?_map, List.getElem?_map, hx]
  rfl
theorem set_get {α : Type} {xs : List α} {i j : Nat} {a y : α} (h : (xs.set i a)[j]? = some y) : (j = i ∧ y = a ∧ i < xs.length) ∨ (j ≠ i ∧ xs[j]? = some y) := by
  rw [List.getElem?_set] at h
  by_cases hj : i = j
  · rw [if_pos hj] at h
    split at h
    · next hl => exact .inl ⟨hj.symm, (Option.some.inj h).symm, hl⟩
    · cases h
  · rw [if_neg hj] at h
    exact .inr ⟨fun e => hj e.symm, h⟩
theorem Lvs.put (L : Lvs g h ls xs) {i : Nat} {x : Sl × List Tab} (hx : xs[i]? = some x) {s' : Sl} {us : List Tab} (U : Upd h h1 x.1 s') (T : TB h1 s' us) :
    ∃ b, ls.a = some ⟨b, 0, none⟩ ∧ h1.at b i = some (.slice x.1.a x.1.n x.1.c) ∧ h1.canW b i 1 ∧ Lvs g (h1.wr b i [.slice s'.a s'.n s'.c]) ls (xs.set i (s', us)) ∧ Ck [67, 77] h (h1.wr b i [.slice s'.a s'.n s'.c]) := by
  have hm : x ∈ xs := List.mem_of_getElem? hx
  have hi : i < xs.length := (List.getElem?_eq_some_iff.1 hx).1
  have C1 : Ck [67] h h1 := Ck.of_upd (L.t x hm) U
  have B1 := C1.buf (by decide) L.l
  obtain ⟨K1, N1⟩ := (L.n x hm).upd L.k U
  obtain ⟨b, ha, hat, hc, hw⟩ := buf_set B1 (k := i) (by rw [slV_length, List.length_map]; exact hi)
  obtain ⟨U2, B2⟩ := hw (.slice s'.a s'.n s'.c)
  have C2 : Ck [77] h1 _ := Ck.of_upd B1 U2
  refine ⟨b, ha, ?_, hc, ⟨(L.nl.upd K1 U2).1, L.nl, ?_, ?_, ?_, ?_⟩, (C1.mono (by simp)).trans (C2.mono (by simp))⟩
  · rw [hat]; unfold slV; rw [List.getElem?_map, List.getElem?_map, hx]; rfl
  · have e : (slV (xs.map (·.1))).set i (.slice s'.a s'.n s'.c) = slV ((xs.set i (s', us)).map (·.1)) := by
      unfold slV; rw [List.map_set, List.map_set]
    rw [← e]; exact B2
  · intro y hy
    obtain ⟨j, hj⟩ := List.mem_iff_getElem?.1 hy
    rcases set_get hj with ⟨_, rfl, _⟩ | ⟨hne, hj⟩
    · exact C2.buf (by decide) T
    · exact C2.buf (by decide) ((L.t y (List.mem_of_getElem? hj)).upd U (L.d j i y x hj hx hne))
  · intro y hy
    obtain ⟨j, hj⟩ := List.mem_iff_getElem?.1 hy
    rcases set_get hj with ⟨_, rfl, _⟩ | ⟨hne, hj⟩
    · exact N1
    · exact L.n y (List.mem_of_getElem? hj)
  · intro p q y z hp hq hpq
    rcases set_get hp with ⟨rfl, rfl, _⟩ | ⟨hne, hp'⟩ <;> rcases set_get hq with ⟨rfl, rfl, _⟩ | ⟨hne2, hq'⟩
    · exact absurd rfl hpq
    · exact (off_upd U (L.t z (List.mem_of_getElem? hq')) ⟨L.d _ _ x z hx hq' hpq, L.d _ _ z x hq' hx (Ne.symm hpq)⟩).1
    · exact (off_upd U (L.t y (List.mem_of_getElem? hp')) ⟨L.d _ _ x y hx hp' (Ne.symm hpq), L.d _ _ y x hp' hx hpq⟩).2
    · exact L.d p q y z hp' hq' hpq
theorem Lvs.fill (L : Lvs g h ls xs) {i : Nat} {x : Sl × List Tab} (hx : xs[i]? = some x) {us : List Tab} (U : Upd h h1 x.1 x.1) (T : TB h1 x.1 us) : Lvs g h1 ls (xs.set i (x.1, us)) ∧ Ck [67] h h1 := by
  have hm : x ∈ xs := List.mem_of_getElem? hx
  have C1 : Ck [67] h h1 := Ck.of_upd (L.t x hm) U
  obtain ⟨K1, N1⟩ := (L.n x hm).upd L.k U
  have eq1 : (xs.set i (x.1, us)).map (·.1) = xs.map (·.1) := by
    rw [List.map_set]
    apply List.ext_getElem?
    intro j
    rw [List.getElem?_set]
    by_cases hj : i = j
    · subst hj
      rw [if_pos rfl, List.getElem?_map, hx]
      simp [(List.getElem?_eq_some_iff.1 hx).1]
    · rw [if_neg hj]
  refine ⟨⟨K1, L.nl, by rw [eq1]; exact C1.buf (by decide) L.l, ?_, ?_, ?_⟩, C1⟩
  · intro y hy
    obtain ⟨j, hj⟩ := List.mem_iff_getElem?.1 hy
    rcases set_get hj with ⟨_, rfl, _⟩ | ⟨hne, hj⟩
    · exact T
    · exact (L.t y (List.mem_of_getElem? hj)).upd U (L.d j i y x hj hx hne)
  · intro y hy
    obtain ⟨j, hj⟩ := List.mem_iff_getElem?.1 hy
    rcases set_get hj with ⟨_, rfl, _⟩ | ⟨hne, hj⟩
    · exact N1
    · exact L.n y (List.mem_of_getElem? hj)
  · intro p q y z hp hq hpq
    rcases set_get hp with ⟨rfl, rfl, _⟩ | ⟨hne, hp'⟩ <;> rcases set_get hq with ⟨rfl, rfl, _⟩ | ⟨hne2, hq'⟩
    · exact absurd rfl hpq
    · exact L.d _ _ x z hx hq' hpq
    · exact L.d _ _ y x hp' hx hpq
    · exact L.d p q y z hp' hq' hpq
end Go.Eng.YtbjnlacacapjiaaGreat
end
section
namespace Go.Eng.YtbjnlacacapjiaaGreat
theorem buf_b {h : Hp} {s : Sl} {sz t : Nat} {vs : List Value} (B : Buf h s sz t vs) (hk : 0 < vs.length) : ∃ b, s.a = some ⟨b, 0, none⟩ := by
  obtain ⟨b, hb, _⟩ := buf_set B hk
  exact ⟨b, hb⟩
end Go.Eng.YtbjnlacacapjiaaGreat
end
section
namespace Go.Eng.YtbjnlacacapjiaaGreat
theorem cut_a (s : Sl) (k m : Int) {sz : Nat} : (Sl.cut s sz 0 k m).a = s.a := by
  unfold Sl.cut
  simp only [Int.toNat_zero, Nat.zero_mul]
  split
  · rfl
  · cases s.a with
    | none => rfl
    | some a => simp [Addr.add]
end Go.Eng.YtbjnlacacapjiaaGreat
end
section
set_option maxRecDepth 100000
namespace Go.Eng.YtbjnlacacapjiaaGreat
def VerR (h : Hp) (vb : Nat) (lv : Lv) : Prop := ∃ (ls : Sl) (xs : List (Sl × List Tab)), h vb = some (.cells ⟨[.slice ls.a ls.n ls.c]⟩ 96 (0, 0)) ∧ h.row ls.a (ls.n * 1) (slV (xs.map (·.1))) ∧ (∀ x ∈ xs, h.row x.1.a (x.1.n * 6) (tabV x.2)) ∧ xs.map (·.2) = lv
theorem VerR.keep {h h' : Hp} {vb : Nat} {lv : Lv} (k : Keep h h') (V : VerR h vb lv) : VerR h' vb lv := by
  obtain ⟨ls, xs, h1, h2, h3, h4⟩ := V
  exact ⟨ls, xs, k _ _ h1, k.row h2, fun x hx => k.row (h3 x hx), h4⟩
structure Ver (g h : Hp) (vb : Nat) (ls : Sl) (xs : List (Sl × List Tab)) : Prop where
  L : Lvs g h ls xs
  nv : g vb = none
  v : h vb = some (.cells ⟨[.slice ls.a ls.n ls.c]⟩ 96 (0, 0))
theorem Ver.r {g h : Hp} {vb : Nat} {ls : Sl} {xs : List (Sl × List Tab)} (V : Ver g h vb ls xs) : VerR h vb (xs.map (·.2)) := ⟨ls, xs, V.v, V.L.l.row, fun x hx => (V.L.t x hx).row, rfl⟩
theorem Ver.keep {g h h' : Hp} {vb : Nat} {ls : Sl} {xs : List (Sl × List Tab)} (V : Ver g h vb ls xs) (K : Keep h h') : Ver g h' vb ls xs := ⟨V.L.keep K, V.nv, K _ _ V.v⟩
theorem Ver.ck {κ : List Nat} {g h h' : Hp} {vb : Nat} {ls : Sl} {xs : List (Sl × List Tab)} (V : Ver g h vb ls xs) (C : Ck κ h h') (K : Keep g h') (a : 77 ∉ κ) (b : 67 ∉ κ) (c : 98 ∉ κ) : Ver g h' vb ls xs := ⟨V.L.ck C K a b, V.nv, C.keep _ _ V.v c⟩
theorem rows_rd {h : Hp} {ls : Sl} {xs : List (Sl × List Tab)} (hr : h.row ls.a (ls.n * 1) (slV (xs.map (·.1)))) {i : Nat} {x : Sl × List Tab} (hx : xs[i]? = some x) : ls.n = xs.length ∧ ∃ b o, ls.a = some ⟨b, o, none⟩ ∧ h.at b (o + i) = some (.slice x.1.a x.1.n x.1.c) := by
  have hi : i < xs.length := (List.getElem?_eq_some_iff.1 hx).1
  have hn : ls.n = xs.length := by have := hr.1; rw [slV_length, List.length_map] at this; omega
  obtain ⟨b, o, ha, hat⟩ := row_get hr (i := i) (by omega)
  refine ⟨hn, b, o, ha, ?_⟩
  rw [hat i (by omega)]
  unfold slV; rw [List.getElem?_map, List.getElem?_map, hx]; rfl
theorem upd_new {h : Hp} {b t n c : Nat} {x : Array Value} (hb : h b = none) (sz : Nat) : Upd h (h.new b (.cells x t (0, 0))) ⟨none, 0, 0⟩ ⟨some ⟨b, 0, none⟩, n, c⟩ :=
  ⟨fun k y _ e => Keep.new hb _ k y e, .inr ⟨b, rfl, hb⟩, (Keep.new hb _).dom⟩
theorem rep_get {α : Type} {ys : List α} {n : Nat} {z : α} (hn : 0 < n) : (ys ++ List.replicate n z)[ys.length]? = some z := by
  rw [List.getElem?_append_right (Nat.le_refl _), Nat.sub_self, List.getElem?_replicate, if_pos hn]
theorem rep_set {α : Type} {ys : List α} {n : Nat} {z a : α} : (ys ++ List.replicate (n + 1) z).set ys.length a = (ys ++ [a]) ++ List.replicate n z := by
  rw [List.set_append_right _ _ (Nat.le_refl _), Nat.sub_self, List.replicate_succ]
  simp
theorem copied_ver {h : Hp} {vb : Nat} {lv : Lv} {Q : Value → Hp → Prop} (V : VerR h vb lv) (h5 : lv.length ≤ 5) (hs : totL lv ≤ 60000)
    (hQ : ∀ h' vb' ls xs, Ver h h' vb' ls xs → xs.map (·.2) = lv → Q (.pointer (some ⟨vb', 0, none⟩)) h') : F49.T (some ⟨vb, 0, none⟩) h Q := by
  obtain ⟨ls, xs, hv, hr, ht, rfl⟩ := V
  rw [List.length_map] at h5
  have hn : ls.n = xs.length := by have := hr.1; rw [slV_length, List.length_map] at this; omega
  unfold F49.T
  simp only [Int.toNat_natCast]
  refine ⟨vb, 0, rfl, ls, at_of hv 0, ⟨by omega, by omega, by omega⟩, fun b1 hb1 => ?_⟩
  have K1 := Keep.new hb1 (.cells (Builtin.zeroCells (List.toArray [.slice none 0 0]) ls.n) 75 (0, 0))
  refine ⟨vb, 0, rfl, ls, at_of (K1 _ _ hv) 0, fun n h1 => ∃ ys : List (Sl × List Tab), n = (ys.length : Int) ∧ ys.map (·.2) = (xs.map (·.2)).take ys.length ∧ ys.length ≤ xs.length ∧ Lvs h h1 ⟨some ⟨b1, 0, none⟩, ls.n, ls.n⟩ (ys ++ List.replicate (xs.length - ys.length) (⟨none, 0, 0⟩, [])), fun n _ => xs.length - n.toNat, ⟨[], rfl, rfl, Nat.zero_le _, K1, .inr ⟨b1, rfl, hb1⟩, ?_, ?_, ?_, ?_⟩, ?_⟩
  · have B := buf_make h b1 ls.n 75 [.slice none 0 0] (by decide)
    rw [zerosV_one] at B
    have e : slV ((([] : List (Sl × List Tab)) ++ List.replicate (xs.length - ([] : List (Sl × List Tab)).length) ((⟨none, 0, 0⟩ : Sl), ([] : List Tab))).map (·.1)) = List.replicate ls.n (.slice none 0 0) := by
      rw [hn]; simp [slV]
    rw [e]; exact B
  · intro x hx
    simp only [List.nil_append, List.mem_replicate] at hx
    rw [hx.2]; exact Buf.nil _ _ _
  · intro x hx
    simp only [List.nil_append, List.mem_replicate] at hx
    rw [hx.2]; exact .inl rfl
  · intro i j x y hx _ _
    have := List.mem_of_getElem? hx
    simp only [List.nil_append, List.mem_replicate] at this
    rw [this.2]; exact off_nil (.inl rfl)
  rintro n h1 ⟨ys, rfl, he, hl, L⟩
  refine ⟨fun hlt => ?_, fun hge => ?_⟩
  · have hlt' : ys.length < xs.length := by omega
    have hx := List.getElem?_eq_getElem hlt'
    generalize xs[ys.length] = x at hx
    have hxm := List.mem_of_getElem? hx
    obtain ⟨_, b3, o2, ha3, hat3⟩ := rows_rd (L.k.row hr) hx
    have htx := ht x hxm
    have hxn : x.1.n = x.2.length := by have := htx.1; rw [tabV_len] at this; omega
    have hxs : x.2.length ≤ totL (xs.map (·.2)) := totL_mem (List.mem_map_of_mem hxm)
    refine ⟨b3, o2, ha3, ⟨by omega, by omega⟩, x.1, hat3, ⟨by omega, by omega, by omega⟩, fun b4 hb4 => ?_⟩
    have B4 := buf_make h1 b4 x.1.n 65 [.int .u64 0, .int .i64 0, .int .i64 0, .int .i64 0, .string (ByteArray.mk #[]), .string (ByteArray.mk #[])] (by decide)
    rw [zeros_tab] at B4
    have U4 : Upd h1 _ ⟨none, 0, 0⟩ ⟨some ⟨b4, 0, none⟩, x.1.n, x.1.n⟩ := upd_new (t := 65) (x := Builtin.zeroCells (List.toArray [.int .u64 0, .int .i64 0, .int .i64 0, .int .i64 0, .string (ByteArray.mk #[]), .string (ByteArray.mk #[])]) x.1.n) hb4 6
    have hz : (ys ++ List.replicate (xs.length - ys.length) ((⟨none, 0, 0⟩ : Sl), ([] : List Tab)))[ys.length]? = some (⟨none, 0, 0⟩, []) := rep_get (by omega)
    obtain ⟨b5, ha5, _, hc5, L5, C5⟩ := L.put hz U4 B4
    have hb15 : b1 = b5 := by simpa using ha5
    subst hb15
    obtain ⟨k, hk⟩ : ∃ k, xs.length - ys.length = k + 1 := ⟨xs.length - ys.length - 1, by omega⟩
    rw [hk, rep_set] at L5
    have hz5 : (ys ++ [((⟨some ⟨b4, 0, none⟩, x.1.n, x.1.n⟩ : Sl), List.replicate x.1.n zT)] ++ List.replicate k ((⟨none, 0, 0⟩ : Sl), ([] : List Tab)))[ys.length]? = some (⟨some ⟨b4, 0, none⟩, x.1.n, x.1.n⟩, List.replicate x.1.n zT) := by
      rw [List.append_assoc, List.getElem?_append_right (Nat.le_refl _), Nat.sub_self]; rfl
    obtain ⟨b6, ha6, hat6⟩ := L5.rd hz5
    have hb16 : b1 = b6 := by simpa using ha6
    subst hb16
    refine ⟨b1, 0, rfl, ⟨by omega, by omega⟩, by rw [Nat.zero_add]; exact hc5, b1, 0, rfl, ⟨by omega, by omega⟩, ⟨some ⟨b4, 0, none⟩, x.1.n, x.1.n⟩, by rw [Nat.zero_add]; exact hat6, tabV x.2, ?_⟩
    simp only [Nat.zero_add]
    have hT5 := L5.t _ (List.mem_of_getElem? hz5)
    have hmin : Nat.min x.1.n x.1.n = x.1.n := Nat.min_self _
    obtain ⟨hc6, U6, T6⟩ := bufWr' (A := []) (U := tabV (List.replicate x.1.n zT)) (V := tabV x.2) (B := []) (b := b4) (by rw [List.nil_append, List.append_nil]; exact hT5) (by rw [tabV_len, tabV_len, List.length_replicate, hxn]) rfl
    simp only [List.nil_append, List.append_nil, List.length_nil] at hc6 U6 T6
    obtain ⟨L6, C6⟩ := L5.fill hz5 U6 T6
    refine ⟨by rw [hmin]; exact L5.k.row htx, tab_one _, hc6, ⟨ys ++ [(⟨some ⟨b4, 0, none⟩, x.1.n, x.1.n⟩, x.2)], ?_, ?_, ?_, ?_⟩, ?_⟩
    · rw [next_i (n := 100) (by omega) (by omega)]; simp
    · rw [List.map_append, he, List.length_append, List.length_singleton, List.take_succ_eq_append_getElem (by rw [List.length_map]; exact hlt')]
      rw [List.getElem_map]
      rw [List.getElem?_eq_getElem hlt'] at hx
      simp only [Option.some.injEq] at hx
      rw [hx]; rfl
    · rw [List.length_append, List.length_singleton]; omega
    · have e1 : xs.length - (ys ++ [((⟨some ⟨b4, 0, none⟩, x.1.n, x.1.n⟩ : Sl), x.2)]).length = k := by rw [List.length_append, List.length_singleton]; omega
      rw [e1]
      have e2 : (ys ++ [((⟨some ⟨b4, 0, none⟩, x.1.n, x.1.n⟩ : Sl), List.replicate x.1.n zT)] ++ List.replicate k ((⟨none, 0, 0⟩ : Sl), ([] : List Tab))).set ys.length (⟨some ⟨b4, 0, none⟩, x.1.n, x.1.n⟩, x.2) = ys ++ [((⟨some ⟨b4, 0, none⟩, x.1.n, x.1.n⟩ : Sl), x.2)] ++ List.replicate k ((⟨none, 0, 0⟩ : Sl), ([] : List Tab)) := by
        rw [List.append_assoc, List.set_append_right _ _ (Nat.le_refl _), Nat.sub_self]; simp
      rw [← e2]
      exact L6
    · rw [next_i (n := 100) (by omega) (by omega)]; omega
  · have hl2 : ys.length = xs.length := by omega
    intro b7 hb7
    have K7 := Keep.new hb7 (.cells ⟨[.slice (some ⟨b1, 0, none⟩) ls.n ls.n]⟩ 96 (0, 0))
    refine hQ _ b7 ⟨some ⟨b1, 0, none⟩, ls.n, ls.n⟩ ys ⟨?_, L.k.dom b7 hb7, new_at _ _ _⟩ ?_
    · rw [hl2, Nat.sub_self, List.replicate_zero, List.append_nil] at L
      exact L.keep K7
    · rw [he, hl2, ← List.length_map (f := fun x : Sl × List Tab => x.2), List.take_length]
theorem has_spec {h : Hp} {vb : Nat} {ls : Sl} {n : Int} {Q : Value → Hp → Prop} (hv : h vb = some (.cells ⟨[.slice ls.a ls.n ls.c]⟩ 96 (0, 0))) (hT : 0 ≤ n → n < (ls.n : Int) → Q (.bool true) h) (hF : n < 0 ∨ (ls.n : Int) ≤ n → Q (.bool false) h) : F53.T (some ⟨vb, 0, none⟩) n h Q :=
  ⟨fun h0 => ⟨vb, 0, rfl, ls, at_of hv 0, fun h1 => hT h0 h1, fun h1 => hF (.inr (by omega))⟩, fun h0 => hF (.inl (by omega))⟩
theorem index_spec {h : Hp} {l : Sl} {ts : List Tab} {b : Nat} {num : Int} {Q : Value → Hp → Prop} (hr : h.row l.a (l.n * 6) (tabV ts)) (hn : l.n ≤ 60000) (hb : h.at b 1 = some (.int .u64 num))
    (h1 : ∀ P x R, ts = P ++ x :: R → (∀ y ∈ P, y.num ≠ num) → x.num = num → Q (.int .i64 (P.length : Int)) h) (h2 : (∀ y ∈ ts, y.num ≠ num) → Q (.int .i64 (-1)) h) : F72.T l b 0 h Q := by
  have hl : l.n = ts.length := by have := hr.1; rw [tabV_len] at this; omega
  refine ⟨fun n g => g = h ∧ ∃ P R, ts = P ++ R ∧ n = (P.length : Int) ∧ ∀ y ∈ P, y.num ≠ num, fun n _ => ts.length - n.toNat, ⟨rfl, [], ts, rfl, rfl, fun y hy => by cases hy⟩, ?_⟩
  rintro n g ⟨rfl, P, R, rfl, rfl, hP⟩
  rw [List.length_append] at hl
  refine ⟨fun hlt => ?_, fun hge => ?_⟩
  · rcases R with _ | ⟨x, R⟩
    · exact absurd hlt (by simp at hl; omega)
    refine tab_rd hr rfl fun b1 o1 => ⟨num, hb, fun he => ⟨true, rfl, fun _ => h1 P x R rfl hP he, fun h0 => (by cases h0)⟩, fun hne => ⟨false, rfl, fun h0 => (by cases h0), fun _ => ?_⟩⟩
    rw [List.length_cons] at hl
    rw [next_i (n := 70000) (by omega) (by omega)]
    refine ⟨⟨rfl, P ++ [x], R, by simp, by simp, fun y hy => ?_⟩, by dsimp only; rw [List.length_append, List.length_cons]; omega⟩
    rcases List.mem_append.1 hy with hy | hy
    · exact hP y hy
    · rw [List.mem_singleton] at hy; subst hy; exact hne
  · have : R = [] := List.eq_nil_of_length_eq_zero (by omega)
    subst this
    exact h2 (by simpa using hP)
theorem delete_spec {h : Hp} {l : Sl} {P R : List Tab} {x : Tab} {n n1 : Int} {Q : Value → Hp → Prop} (B : TB h l (P ++ x :: R)) (hn : l.n ≤ 60000) (e : n = (P.length : Int)) (e1 : n1 = ((P.length + 1 : Nat) : Int))
    (hQ : ∀ h' l', TB h' l' (P ++ R) → Upd h h' l l' → Q (.slice l'.a l'.n l'.c) h') : F74.T l n n1 h Q := by
  subst e e1
  have hl := B.n
  have hcap := Buf.cap B
  rw [List.length_append, List.length_cons] at hl
  obtain ⟨b, hb⟩ := buf_b B (by rw [tabV_len, List.length_append, List.length_cons]; omega)
  have hcb := cut_back (k := P.length + 1) (Buf.row B) (by omega) hcap
  have hdrop : (tabV (P ++ x :: R)).drop ((P.length + 1) * 6) = tabV R := by
    rw [tabV_app, tabV_cons, ← List.append_assoc]
    exact List.drop_left' (by rw [List.length_append, tabV_len]; show P.length * 6 + 6 = _; omega)
  rw [hdrop] at hcb
  have hbn : (Sl.cut l 6 ((P.length + 1 : Nat) : Int) (l.n : Int) (l.c : Int)).n = R.length := by unfold Sl.cut; dsimp only; omega
  have hfn : (Sl.cut l 6 0 (P.length : Int) (l.c : Int)).n = P.length := by unfold Sl.cut; dsimp only; omega
  have hfc : (Sl.cut l 6 0 (P.length : Int) (l.c : Int)).c = l.c := by unfold Sl.cut; dsimp only; omega
  refine ⟨⟨by omega, by omega, by omega, by omega⟩, fun he => absurd he (by omega), fun _ => ⟨⟨by omega, by omega, by omega, by omega⟩, ⟨by omega, by omega, by omega, by omega⟩, tabV R, hcb, tab_one _, ?_⟩⟩
  unfold appendD
  rw [hbn, hfn, hfc, cut_a, hb]
  have hadd : (some (⟨b, 0, none⟩ : Addr)).map (·.add (P.length * 6)) = some ⟨b, P.length * 6, none⟩ := by simp [addr_add]
  rw [hadd]
  refine ⟨by omega, fun _ => ?_, fun hlt => absurd hlt (by omega)⟩
  -- the tail over what goes
  obtain ⟨U2, B2, hUB, hUl⟩ := cut_at (l := x.cells ++ tabV R) (k := R.length * 6) (by rw [List.length_append, tabV_len]; omega)
  have hB2 : B2.length = 6 := by
    have := congrArg List.length hUB
    rw [List.length_append, List.length_append, tabV_len] at this
    have h6 : x.cells.length = 6 := rfl
    omega
  have Bf : Buf h l 6 65 (tabV P ++ (U2 ++ B2)) := by rw [← hUB, ← tabV_cons, ← tabV_app]; exact B
  obtain ⟨c1, Up1, W1⟩ := bufWr' (V := tabV R) Bf (by rw [tabV_len]; exact hUl) hb
  rw [tabV_len] at c1 Up1 W1
  refine ⟨c1, ⟨by dsimp only; omega, by dsimp only; omega, by dsimp only; omega, by dsimp only; omega⟩, ?_⟩
  have hcn : (Sl.cut ⟨some ⟨b, 0, none⟩, P.length + R.length, l.c⟩ 6 ((P.length + R.length : Nat) : Int) (l.n : Int) (l.c : Int)).n = 1 := by unfold Sl.cut; dsimp only; omega
  have hca : (Sl.cut ⟨some ⟨b, 0, none⟩, P.length + R.length, l.c⟩ 6 ((P.length + R.length : Nat) : Int) (l.n : Int) (l.c : Int)).a = some ⟨b, (tabV P ++ tabV R).length, none⟩ := by
    unfold Sl.cut
    dsimp only
    rw [if_neg (by omega)]
    simp only [Option.map_some, addr_add, List.length_append, tabV_len, Option.some.injEq, Addr.mk.injEq, and_true, true_and]
    omega
  have W1' : Buf (h.wrA (some ⟨b, P.length * 6, none⟩) (tabV R)) l 6 65 ((tabV P ++ tabV R) ++ (B2 ++ [])) := by simpa using W1
  have hz : zerosV [.int .u64 0, .int .i64 0, .int .i64 0, .int .i64 0, .string (ByteArray.mk #[]), .string (ByteArray.mk #[])] 1 = tabV [zT] := zeros_tab 1
  obtain ⟨c2, Up2, W2⟩ := bufWr' (V := tabV [zT]) W1' (by rw [tabV_len]; exact hB2) hb
  rw [tabV_len] at c2
  dsimp only
  rw [hcn, hca, hz]
  refine ⟨c2, hQ _ ⟨some ⟨b, 0, none⟩, P.length + R.length, l.c⟩ ?_ ?_⟩
  · have := buf_shrink (k := P.length + R.length) W2 (by rw [List.length_append, tabV_len, tabV_len]; omega) (by omega)
    rw [hb] at this
    show Buf _ _ 6 65 (tabV (P ++ R))
    rw [tabV_app]
    exact this
  · have Up := Up1.trans Up2
    exact ⟨Up.keep, .inl hb.symm, Up.dom⟩
end Go.Eng.YtbjnlacacapjiaaGreat
end
section
set_option maxRecDepth 100000
namespace Go.Eng.YtbjnlacacapjiaaGreat
theorem out_rd {h : Hp} {l : Sl} {P R : List Place} {p : Place} (hr : h.row l.a (l.n * 2) (outV (P ++ p :: R))) : ∃ b o, l.a = some ⟨b, o, none⟩ ∧ (P.length : Int) < (l.n : Int) ∧ h.at b (o + (P.length : Int).toNat * 2) = some (.int .i64 p.lv) ∧ h.at b ((o + (P.length : Int).toNat * 2) + 1) = some (.int .u64 p.num) := by
  have hl := hr.1
  rw [outV_len, List.length_append, List.length_cons] at hl
  obtain ⟨b, o, ha, hat⟩ := row_get hr (i := P.length * 2) (by omega)
  have c : ∀ j, j < 2 → h.at b ((o + (P.length : Int).toNat * 2) + j) = (Place.cells p)[j]? := fun j hj => by
    rw [Int.toNat_natCast, Nat.add_assoc, hat _ (by omega)]
    have := flat_get Place.cells 2 (fun _ => rfl) (P ++ p :: R) P.length j (by rw [List.length_append, List.length_cons]; omega) hj
    rw [List.getElem_append_right (Nat.le_refl _)] at this
    simp only [Nat.sub_self, List.getElem_cons_zero] at this
    exact this
  exact ⟨b, o, ha, by omega, c 0 (by decide), c 1 (by decide)⟩
theorem out_spec {g h : Hp} {vb : Nat} {ls l : Sl} {xs : List (Sl × List Tab)} {ps : List Place} {Q : Value → Hp → Prop} (V : Ver g h vb ls xs) (hr : g.row l.a (l.n * 2) (outV ps)) (hs : totL (xs.map (·.2)) ≤ 60000) (hp : ps.length ≤ 60000)
    (hQ : ∀ h' xs', Ver g h' vb ls xs' → Ck [67, 77] h h' → xs'.map (·.2) = (outM ps (xs.map (·.2))).2 → Q (.int .i64 (outM ps (xs.map (·.2))).1) h') : F50.T (some ⟨vb, 0, none⟩) l h Q := by
  have hln : l.n = ps.length := by have := hr.1; rw [outV_len] at this; omega
  refine ⟨fun n h1 => ∃ P R xs1, ps = P ++ R ∧ n = (P.length : Int) ∧ Ver g h1 vb ls xs1 ∧ Ck [67, 77] h h1 ∧ outM ps (xs.map (·.2)) = outM R (xs1.map (·.2)) ∧ totL (xs1.map (·.2)) ≤ 60000, fun n _ => ps.length - n.toNat, ⟨[], ps, xs, rfl, rfl, V, Ck.refl _ _, rfl, hs⟩, ?_⟩
  rintro n h1 ⟨P, R, xs1, rfl, rfl, V1, C1, he, ht⟩
  rw [List.length_append] at hln hp
  rw [he] at hQ
  refine ⟨fun hlt => ?_, fun hge => ?_⟩
  · rcases R with _ | ⟨p, R⟩
    · exact absurd hlt (by simp at hln; omega)
    rw [List.length_cons] at hln hp
    obtain ⟨b, o, ha, hb, h0, hn1⟩ := out_rd (V1.L.k.row hr)
    refine ⟨b, o, ha, ⟨by omega, hb⟩, p.lv, h0, p.num, hn1, fun b1 hb1 => ?_⟩
    rw [new_wr]
    have eS : (setL ((⟨[Value.int .i64 0, Value.int .u64 0]⟩ : Array Value).toList) 0 [.int .i64 p.lv, .int .u64 p.num]).toArray = ⟨[.int .i64 p.lv, .int .u64 p.num]⟩ := rfl
    rw [eS]
    have K1 := Keep.new hb1 (.cells ⟨[.int .i64 p.lv, .int .u64 p.num]⟩ 132 (0, 0))
    have hx1 : (h1.new b1 (.cells ⟨[.int .i64 p.lv, .int .u64 p.num]⟩ 132 (0, 0))) b1 = some (.cells ⟨[.int .i64 p.lv, .int .u64 p.num]⟩ 132 (0, 0)) := new_at _ _ _
    have V2 := V1.keep K1
    have C2 : Ck [67, 77] h (h1.new b1 (.cells ⟨[.int .i64 p.lv, .int .u64 p.num]⟩ 132 (0, 0))) := C1.trans (Ck.of_keep K1)
    refine ⟨canW_new (new_at _ _ _) (Nat.le_refl _), p.lv, at_of hx1 0, ?_⟩
    clear V1 C1 K1 h0 hn1
    generalize h1.new b1 (.cells ⟨[.int .i64 p.lv, .int .u64 p.num]⟩ 132 (0, 0)) = h2 at hx1 V2 C2 ⊢
    refine has_spec V2.v (fun c0 c1 => ⟨true, rfl, fun _ => ?_, fun h0 => (by cases h0)⟩) (fun hc => ⟨false, rfl, fun h0 => (by cases h0), fun _ => ?_⟩)
    · have hlx := V2.L.len
      obtain ⟨x, hx⟩ : ∃ x, xs1[p.lv.toNat]? = some x := ⟨_, List.getElem?_eq_getElem (by omega)⟩
      obtain ⟨b4, ha4, hat4⟩ := V2.L.rd hx
      have hxm := List.mem_of_getElem? hx
      have T2 := V2.L.t x hxm
      have hx6 : x.2.length ≤ 60000 := Nat.le_trans (totL_mem (List.mem_map_of_mem hxm)) ht
      have hlv : (xs1.map (·.2))[p.lv.toNat]? = some x.2 := by rw [List.getElem?_map, hx]; rfl
      refine ⟨vb, 0, rfl, ls, at_of V2.v 0, p.lv, at_of hx1 0, b4, 0, ha4, ⟨c0, c1⟩, x.1, by rw [Nat.zero_add]; exact hat4, at_of V2.v 0, at_of hx1 0, by rw [Nat.zero_add]; exact hat4, ?_⟩
      refine index_spec (Buf.row T2) (by rw [T2.n]; exact hx6) (at_of hx1 1) (fun A y B e hA hy => ⟨(A.length : Int), rfl, fun h0 => absurd h0 (by omega), fun _ => ?_⟩) (fun hno => ⟨-1, rfl, fun _ => ?_, fun h0 => absurd (by decide) h0⟩)
      · refine ⟨vb, 0, rfl, ls, at_of V2.v 0, p.lv, at_of hx1 0, vb, 0, rfl, ls, at_of V2.v 0, p.lv, at_of hx1 0, b4, 0, ha4, ⟨c0, c1⟩, x.1, by rw [Nat.zero_add]; exact hat4, ?_⟩
        have hcut : cutN p.num x.2 = some (A ++ B) := by rw [e]; exact cutN_some hA hy
        have T2' : TB h2 x.1 (A ++ y :: B) := by rw [← e]; exact T2
        have eA : x.2.length = A.length + (B.length + 1) := by rw [e, List.length_append, List.length_cons]
        refine delete_spec T2' (by rw [T2.n]; exact hx6) rfl (by rw [next_i (n := 70000) (by omega) (by omega)]) fun h4 l' T4 U4 => ⟨l', rfl, ?_⟩
        have C4 : Ck [67] h2 h4 := Ck.of_upd T2' U4
        obtain ⟨b8, ha8, _, hc8, L8, C8⟩ := V2.L.put hx U4 T4
        refine ⟨by rw [C4.at V2.v (by decide)]; rfl, by rw [C4.at hx1 (by decide)]; rfl, b8, 0, ha8, ⟨c0, c1⟩, by rw [Nat.zero_add]; exact hc8, ?_⟩
        rw [Nat.zero_add, next_i (n := 70000) (by omega) (by omega)]
        refine ⟨⟨P ++ [p], R, xs1.set p.lv.toNat (l', A ++ B), by simp, by simp, ⟨L8, V2.nv, C8.keep _ _ V2.v (show 98 ∉ [67, 77] by decide)⟩, C2.trans C8, ?_, ?_⟩, by dsimp only; rw [List.length_append, List.length_cons]; omega⟩
        · rw [he, outM, if_neg (by omega), hlv]
          dsimp only
          rw [hcut]
          dsimp only
          rw [List.map_set]
        · rw [List.map_set]
          have := totL_set (us := A ++ B) hlv
          rw [List.length_append] at this
          dsimp only
          omega
      · have e1 : outM (p :: R) (xs1.map (·.2)) = (130, xs1.map (·.2)) := by
          rw [outM, if_neg (by omega), hlv]
          dsimp only
          rw [cutN_none hno]
        rw [e1] at hQ
        exact hQ h2 xs1 V2 C2 rfl
    · have e1 : outM (p :: R) (xs1.map (·.2)) = (133, xs1.map (·.2)) := by
        rw [outM]
        by_cases h0 : p.lv < 0
        · rw [if_pos h0]
        · rw [if_neg h0, List.getElem?_eq_none (by rw [List.length_map, ← V2.L.len]; omega)]
      rw [e1] at hQ
      exact hQ h2 xs1 V2 C2 rfl
  · have : R = [] := List.eq_nil_of_length_eq_zero (by omega)
    subst this
    exact hQ h1 xs1 V1 C1 rfl
theorem nums_app (A B : Lv) : nums (A ++ B) = nums A ++ nums B := by unfold nums; simp
theorem nums_one (l : List Tab) : nums [l] = l.map Tab.num := by unfold nums; simp
theorem nums_len (A : Lv) : (nums A).length = totL A := by unfold nums totL; rw [List.length_map, List.length_flatten]
def cnt (l : List Int) (k : Int) : Int := ((l.count k : Nat) : Int)
theorem cnt_nil (k : Int) : cnt [] k = 0 := rfl
theorem cnt_app (A B : List Int) (k : Int) : cnt (A ++ B) k = cnt A k + cnt B k := by unfold cnt; rw [List.count_append]; omega
theorem cnt_one (j k : Int) : cnt [j] k = if k = j then 1 else 0 := by
  unfold cnt
  by_cases h : k = j
  · subst h; simp
  · rw [if_neg h, List.count_eq_zero.2 (by simpa using h)]; rfl
theorem cnt_le (l : List Int) (k : Int) : 0 ≤ cnt l k ∧ cnt l k ≤ (l.length : Int) := by
  unfold cnt
  have := List.count_le_length (a := k) (l := l)
  omega
theorem cnt_pos (l : List Int) (k : Int) : 0 < cnt l k ↔ k ∈ l := by
  unfold cnt
  rw [← List.count_pos_iff]
  omega
theorem Mp.congr {h : Hp} {b : Nat} {f f' : Int → Int} (M : Mp h b f) (e : ∀ k, f k = f' k) : Mp h b f' := by
  have : f = f' := funext e
  rw [← this]; exact M
theorem counted_spec {h : Hp} {vb b : Nat} {lv : Lv} {f : Int → Int} {Q : Value → Hp → Prop} (V : VerR h vb lv) (M : Mp h b f) (hf : ∀ k, 0 ≤ f k ∧ f k ≤ 1000000000) (hs : totL lv ≤ 60000) (h5 : lv.length ≤ 5)
    (hQ : ∀ h', Mp h' b (fun k => f k + cnt (nums lv) k) → One b h h' → Q (.tuple ⟨[]⟩) h') : F75.T (some ⟨vb, 0, none⟩) (some b) h Q := by
  obtain ⟨ls, xs, hv, hr, ht, rfl⟩ := V
  obtain ⟨es0, c0, hb0, _⟩ := id M
  rw [List.length_map] at h5
  have hn : ls.n = xs.length := by have := hr.1; rw [slV_length, List.length_map] at this; omega
  refine ⟨vb, 0, rfl, ls, at_of hv 0, fun n h1 => ∃ P R, xs = P ++ R ∧ n = (P.length : Int) ∧ Mp h1 b (fun k => f k + cnt (nums (P.map (·.2))) k) ∧ One b h h1, fun n _ => xs.length - n.toNat, ⟨[], xs, rfl, rfl, Mp.congr M fun k => by show f k = f k + cnt [] k; rw [cnt_nil]; omega, One.refl _ _⟩, ?_⟩
  rintro n h1 ⟨P, R, rfl, rfl, M1, O1⟩
  rw [List.length_append] at hn h5
  refine ⟨fun hlt => ?_, fun hge => ?_⟩
  · rcases R with _ | ⟨x, R⟩
    · exact absurd hlt (by simp at hn; omega)
    rw [List.length_cons] at hn h5
    obtain ⟨_, b1, o1, ha1, hat1⟩ := rows_rd (O1.row hb0 hr) (i := P.length) (x := x) (by simp)
    have htx := ht x (by simp)
    have hxn : x.1.n = x.2.length := by have := htx.1; rw [tabV_len] at this; omega
    have hxs : totL (P.map (·.2)) + x.2.length ≤ 60000 := by
      unfold totL at hs ⊢
      rw [List.map_append, List.map_cons, List.map_append, List.map_cons, List.sum_append, List.sum_cons] at hs
      omega
    refine ⟨b1, o1, ha1, ⟨by omega, hlt⟩, x.1, by rw [Int.toNat_natCast]; exact hat1, fun n1 h2 => ∃ A B, x.2 = A ++ B ∧ n1 = (A.length : Int) ∧ Mp h2 b (fun k => f k + cnt (nums (P.map (·.2))) k + cnt (A.map Tab.num) k) ∧ One b h h2, fun n1 _ => x.2.length - n1.toNat, ⟨[], x.2, rfl, rfl, Mp.congr M1 fun k => by rw [List.map_nil, cnt_nil]; omega, O1⟩, ?_⟩
    rintro n1 h2 ⟨A, B, eAB, rfl, M2, O2⟩
    refine ⟨fun hlt1 => ?_, fun hge1 => ?_⟩
    · rcases B with _ | ⟨t, B⟩
      · exact absurd hlt1 (by rw [hxn, eAB]; simp)
      rw [eAB] at htx
      have eL : x.2.length = A.length + (B.length + 1) := by rw [eAB, List.length_append, List.length_cons]
      refine tab_rd (O2.row hb0 htx) rfl fun b2 o2 => ?_
      refine Mp.add M2 t.num fun es c hes M3 => ?_
      rw [next_i (n := 70000) (by omega) (by omega)]
      have b1 := cnt_le (nums (P.map (·.2))) t.num
      have b2 := cnt_le (A.map Tab.num) t.num
      rw [nums_len] at b1
      rw [List.length_map] at b2
      have b3 := hf t.num
      refine ⟨⟨A ++ [t], B, by rw [eAB]; simp, by simp, Mp.congr M3 fun k => ?_, O2.trans (One.new _ (by rw [hes]; simp))⟩, by rw [eL]; dsimp only; omega⟩
      rw [wrap_i64 (by omega) (by omega), List.map_append, cnt_app, List.map_cons, List.map_nil, cnt_one]
      by_cases hk : k = t.num
      · rw [if_pos hk, if_pos hk, hk]; omega
      · rw [if_neg hk, if_neg hk]; omega
    · have hB : B = [] := List.eq_nil_of_length_eq_zero (by have := congrArg List.length eAB; rw [List.length_append] at this; omega)
      subst hB
      rw [List.append_nil] at eAB
      rw [next_i (n := 100) (by omega) (by omega)]
      refine ⟨⟨P ++ [x], R, by simp, by simp, Mp.congr M2 fun k => ?_, O2⟩, by (try dsimp only); rw [List.length_append, List.length_cons]; omega⟩
      rw [List.map_append, nums_app, cnt_app, List.map_cons, List.map_nil, nums_one, eAB]; omega
  · have : R = [] := List.eq_nil_of_length_eq_zero (by omega)
    subst this
    rw [List.append_nil] at hQ
    exact hQ h1 M1 O1
end Go.Eng.YtbjnlacacapjiaaGreat
end
section
set_option maxRecDepth 100000
namespace Go.Eng.YtbjnlacacapjiaaGreat
theorem tab_at {h : Hp} {l : Sl} {ts : List Tab} (hr : h.row l.a (l.n * 6) (tabV ts)) {i : Nat} {x : Tab} (hx : ts[i]? = some x) : ∃ b o, l.a = some ⟨b, o, none⟩ ∧ i < l.n ∧ ∀ j, j < 6 → h.at b ((o + i * 6) + j) = (Tab.cells x)[j]? := by
  have hi : i < ts.length := (List.getElem?_eq_some_iff.1 hx).1
  have hl := hr.1
  rw [tabV_len] at hl
  obtain ⟨b, o, ha, hat⟩ := row_get hr (i := i * 6) (by omega)
  refine ⟨b, o, ha, by omega, fun j hj => ?_⟩
  rw [Nat.add_assoc, hat _ (by omega)]
  have := flat_get Tab.cells 6 (fun _ => rfl) ts i j hi hj
  rw [List.getElem?_eq_getElem hi] at hx
  rw [Option.some.inj hx] at this
  exact this
theorem in_rd {h : Hp} {l : Sl} {P R : List Placed} {p : Placed} (hr : h.row l.a (l.n * 7) (inV (P ++ p :: R))) {i : Int} (hi : i = (P.length : Int)) {K : Nat → Nat → Int → Int → Int → Int → Int → ByteArray → ByteArray → Prop} (hK : ∀ b o, K b o p.lv p.num p.weight p.bytes p.entries p.least p.greatest) :
    ∃ b o, (l.a : Option Addr) = some ⟨b, o, none⟩ ∧ ((0 : Int) ≤ i ∧ i < (l.n : Int)) ∧ ∃ n1 : Int, h.at b (o + i.toNat * 7) = some (.int .i64 n1) ∧ ∃ n2 : Int, h.at b ((o + i.toNat * 7) + 1) = some (.int .u64 n2) ∧ ∃ n3 : Int, h.at b ((o + i.toNat * 7) + 2) = some (.int .i64 n3) ∧ ∃ n4 : Int, h.at b ((o + i.toNat * 7) + 3) = some (.int .i64 n4) ∧ ∃ n5 : Int, h.at b ((o + i.toNat * 7) + 4) = some (.int .i64 n5) ∧ ∃ s : ByteArray, h.at b ((o + i.toNat * 7) + 5) = some (.string s) ∧ ∃ s1 : ByteArray, h.at b ((o + i.toNat * 7) + 6) = some (.string s1) ∧ K b o n1 n2 n3 n4 n5 s s1 := by
  subst hi
  have hl := hr.1
  rw [inV_len, List.length_append, List.length_cons] at hl
  obtain ⟨b, o, ha, hat⟩ := row_get hr (i := P.length * 7) (by omega)
  have c : ∀ j, j < 7 → h.at b ((o + (P.length : Int).toNat * 7) + j) = (Placed.cells p)[j]? := fun j hj => by
    rw [Int.toNat_natCast, Nat.add_assoc, hat _ (by omega)]
    have := flat_get Placed.cells 7 (fun _ => rfl) (P ++ p :: R) P.length j (by rw [List.length_append, List.length_cons]; omega) hj
    rw [List.getElem_append_right (Nat.le_refl _)] at this
    simp only [Nat.sub_self, List.getElem_cons_zero] at this
    exact this
  exact ⟨b, o, ha, ⟨by omega, by omega⟩, _, c 0 (by decide), _, c 1 (by decide), _, c 2 (by decide), _, c 3 (by decide), _, c 4 (by decide), _, c 5 (by decide), _, c 6 (by decide), hK b o⟩
theorem cnt_set : ∀ {lv : Lv} {k : Nat} {ts : List Tab} (t : Tab), lv[k]? = some ts → ∀ j, cnt (nums (lv.set k (ts ++ [t]))) j = cnt (nums lv) j + if j = t.num then 1 else 0
  | [], k, ts, t, h, j => by simp at h
  | l :: lv, 0, ts, t, h, j => by
    simp only [List.getElem?_cons_zero, Option.some.injEq] at h
    subst h
    rw [List.set_cons_zero, show (l ++ [t]) :: lv = [l ++ [t]] ++ lv from rfl, show l :: lv = [l] ++ lv from rfl, nums_app, nums_app, nums_one, nums_one, List.map_append, cnt_app, cnt_app, cnt_app, List.map_cons, List.map_nil, cnt_one]; omega
  | l :: lv, k + 1, ts, t, h, j => by
    simp only [List.getElem?_cons_succ] at h
    have := cnt_set t h j
    rw [List.set_cons_succ, show l :: lv.set k (ts ++ [t]) = [l] ++ lv.set k (ts ++ [t]) from rfl, show l :: lv = [l] ++ lv from rfl, nums_app, nums_app, cnt_app, cnt_app, this]; omega
def InR (lv : Lv) (ps : List Placed) (c : Int) (lw : Lv) : Prop :=
  if (inM ps lv).1 = 0 then (c = 132 ∧ ∃ i ts, 1 ≤ i ∧ (inM ps lv).2[i]? = some ts ∧ Bad ts) ∨ (c = 0 ∧ Sorted (inM ps lv).2 lw) else c = (inM ps lv).1
def SortTo (k : Nat) (lv lw : Lv) : Prop := lw.length = lv.length ∧ ∀ i ts us, lv[i]? = some ts → lw[i]? = some us → if 1 ≤ i ∧ i < k then Fine ts us else us = ts
theorem SortTo.step {k : Nat} {lv lw : Lv} {us : List Tab} (S : SortTo k lv lw) (hk : 1 ≤ k) {ts : List Tab} (h1 : lw[k]? = some ts) (hF : Fine ts us) : SortTo (k + 1) lv (lw.set k us) := by
  refine ⟨by rw [List.length_set]; exact S.1, fun i x y hx hy => ?_⟩
  rcases set_get hy with ⟨rfl, rfl, _⟩ | ⟨hne, hy⟩
  · have := S.2 i x ts hx h1
    rw [if_neg (by omega)] at this
    rw [if_pos ⟨hk, by omega⟩, ← this]; exact hF
  · have := S.2 i x y hx hy
    by_cases hi : 1 ≤ i ∧ i < k
    · rw [if_pos hi] at this; rw [if_pos ⟨hi.1, by omega⟩]; exact this
    · rw [if_neg hi] at this; rw [if_neg (by omega)]; exact this
theorem SortTo.done {k : Nat} {lv lw : Lv} (S : SortTo k lv lw) (hk : lv.length ≤ k) : Sorted lv lw := by
  refine ⟨S.1, ?_, fun i ts us hi h1 h2 => ?_⟩
  · by_cases h0 : 0 < lv.length
    · have h1 := List.getElem?_eq_getElem h0
      have h2 := List.getElem?_eq_getElem (l := lw) (i := 0) (by rw [S.1]; exact h0)
      have := S.2 0 _ _ h1 h2
      rw [if_neg (by omega)] at this
      rw [h1, h2, this]
    · have e1 := S.1
      have e2 : lv = [] := List.eq_nil_of_length_eq_zero (by omega)
      have e3 : lw = [] := List.eq_nil_of_length_eq_zero (by omega)
      rw [e2, e3]
  · have := S.2 i ts us h1 h2
    rw [if_pos ⟨hi, by have := (List.getElem?_eq_some_iff.1 h1).1; omega⟩] at this
    exact this
theorem sle {a b : ByteArray} : (sLt a b ∨ a = b) ↔ ¬ Bl b a := by
  rw [sLt_bl]
  constructor
  · rintro (h | rfl)
    · exact h.asym
    · exact Bl.irr
  · intro h
    rcases bl_tri a b with x | x | x
    · exact .inl x
    · exact absurd x h
    · exact .inr x
theorem sort_levels {g h : Hp} {vb : Nat} {ls : Sl} {xs : List (Sl × List Tab)} {Q : Value → Hp → Prop} (V : Ver g h vb ls xs) (hs : totL (xs.map (·.2)) ≤ 60000) (h1 : 1 ≤ xs.length) (h5 : xs.length ≤ 5)
    (hB : ∀ h' xs', Ver g h' vb ls xs' → Ck [67, 77] h h' → (∃ i ts, 1 ≤ i ∧ (xs.map (·.2))[i]? = some ts ∧ Bad ts) → Q (.int .i64 132) h')
    (hG : ∀ h' xs', Ver g h' vb ls xs' → Ck [67, 77] h h' → Sorted (xs.map (·.2)) (xs'.map (·.2)) → Q (.int .i64 0) h') :
    ∃ b8 o5, ((some ⟨vb, 0, none⟩) : Option Addr) = some ⟨b8, o5, none⟩ ∧ ∃ l5 : Sl, h.at b8 o5 = some (.slice l5.a l5.n l5.c) ∧ Sl.okCut l5 1 (l5.n : Int) (l5.c : Int) ∧ ∃ (I1 : Int → Hp → Prop) (m1 : Int → Hp → Nat), I1 0 h ∧ (∀ n8 : Int, ∀ h5 : Hp, I1 n8 h5 → par (n8 < ((Sl.cut l5 1 1 (l5.n : Int) (l5.c : Int)).n : Int)) (∃ b9 o6, ((Sl.cut l5 1 1 (l5.n : Int) (l5.c : Int)).a : Option Addr) = some ⟨b9, o6, none⟩ ∧ ((0 : Int) ≤ n8 ∧ n8 < ((Sl.cut l5 1 1 (l5.n : Int) (l5.c : Int)).n : Int)) ∧ ∃ l6 : Sl, h5.at b9 (o6 + n8.toNat) = some (.slice l6.a l6.n l6.c) ∧ F76.T l6 h5 fun r2 h6 => ∃ (I2 : Int → Hp → Prop) (m2 : Int → Hp → Nat), I2 1 h6 ∧ (∀ n9 : Int, ∀ h7 : Hp, I2 n9 h7 → par (n9 < (l6.n : Int)) (∃ b10 o7, (l6.a : Option Addr) = some ⟨b10, o7, none⟩ ∧ ((0 : Int) ≤ n9 ∧ n9 < (l6.n : Int)) ∧ ∃ s2 : ByteArray, h7.at b10 ((o7 + n9.toNat * 6) + 4) = some (.string s2) ∧ ∃ b11 o8, (l6.a : Option Addr) = some ⟨b11, o8, none⟩ ∧ ((0 : Int) ≤ (IntKind.wrap .i64 (n9 - 1)) ∧ (IntKind.wrap .i64 (n9 - 1)) < (l6.n : Int)) ∧ ∃ s3 : ByteArray, h7.at b11 ((o8 + ((IntKind.wrap .i64 (n9 - 1))).toNat * 6) + 5) = some (.string s3) ∧ par (sLt s2 s3 ∨ s2 = s3) (Q (.int .i64 132) h7) (I2 (IntKind.wrap .i64 (n9 + 1)) h7 ∧ m2 (IntKind.wrap .i64 (n9 + 1)) h7 < m2 n9 h7)) (I1 (IntKind.wrap .i64 (n8 + 1)) h7 ∧ m1 (IntKind.wrap .i64 (n8 + 1)) h7 < m1 n8 h5))) (Q (.int .i64 0) h5)) := by
  have hln := V.L.len
  have hcap := V.L.l.cap
  have hcn : (Sl.cut ls 1 1 (ls.n : Int) (ls.c : Int)).n = xs.length - 1 := by unfold Sl.cut; dsimp only; omega
  refine ⟨vb, 0, rfl, ls, at_of V.v 0, ⟨by omega, by omega, by omega, by omega⟩, fun n h' => ∃ (j : Nat) (xs2 : List (Sl × List Tab)), n = (j : Int) ∧ j + 1 ≤ xs.length ∧ Ver g h' vb ls xs2 ∧ Ck [67, 77] h h' ∧ SortTo (j + 1) (xs.map (·.2)) (xs2.map (·.2)), fun n _ => xs.length - n.toNat, ⟨0, xs, rfl, by omega, V, Ck.refl _ _, rfl, fun i ts us a b => by rw [if_neg (by omega)]; rw [a] at b; exact (Option.some.inj b).symm⟩, ?_⟩
  rintro n h2 ⟨j, xs2, rfl, hj, V2, C2, S2⟩
  have hl2 := V2.L.len
  rw [hcn]
  refine ⟨fun hlt => ?_, fun hge => ?_⟩
  · obtain ⟨x, hx⟩ : ∃ x, xs2[j + 1]? = some x := ⟨_, List.getElem?_eq_getElem (by omega)⟩
    have hxm := List.mem_of_getElem? hx
    obtain ⟨b, ha, hat⟩ := V2.L.rd hx
    have hlv2 : (xs2.map (·.2))[j + 1]? = some x.2 := by rw [List.getElem?_map, hx]; rfl
    obtain ⟨ts, hts⟩ : ∃ ts, (xs.map (·.2))[j + 1]? = some ts := ⟨_, List.getElem?_eq_getElem (by rw [List.length_map]; omega)⟩
    have hxts : x.2 = ts := by
      have := S2.2 (j + 1) ts x.2 hts hlv2
      rw [if_neg (by omega)] at this; exact this
    have hx6 : x.2.length ≤ 60000 := by rw [hxts]; exact Nat.le_trans (totL_mem (List.mem_of_getElem? hts)) hs
    have hca : (Sl.cut ls 1 1 (ls.n : Int) (ls.c : Int)).a = some ⟨b, 1, none⟩ := by
      unfold Sl.cut
      dsimp only
      rw [if_neg (by omega), ha]
      simp [addr_add]
    have T2 := V2.L.t x hxm
    refine ⟨b, 1, hca, ⟨by omega, by omega⟩, x.1, by rw [Int.toNat_natCast, Nat.add_comm]; exact hat, ?_⟩
    refine stable_t T2 (by rw [T2.n]; exact hx6) fun h3 us Sv3 hp hsrt => ?_
    obtain ⟨L3, C3⟩ := V2.L.fill hx Sv3.up Sv3.b
    have V3 : Ver g h3 vb ls (xs2.set (j + 1) (x.1, us)) := ⟨L3, V2.nv, C3.keep _ _ V2.v (show 98 ∉ [67] by decide)⟩
    have C23 : Ck [67, 77] h h3 := C2.trans (C3.mono (by simp))
    have hun : x.1.n = us.length := Sv3.b.n
    have hul : us.length ≤ 60000 := by rw [hp.length_eq]; exact hx6
    refine ⟨fun n9 h7 => h7 = h3 ∧ ∃ q : Nat, n9 = (q : Int) ∧ 1 ≤ q ∧ q ≤ us.length + 1 ∧ ∀ i a b, i + 1 < q → us[i]? = some a → us[i + 1]? = some b → Bl a.greatest b.least, fun n9 _ => us.length + 1 - n9.toNat, ⟨rfl, 1, rfl, Nat.le_refl _, by omega, fun i a b h0 => absurd h0 (by omega)⟩, ?_⟩
    rintro n9 h7 ⟨rfl, q, rfl, q1, q2, hA⟩
    refine ⟨fun hq => ?_, fun hq => ?_⟩
    · obtain ⟨y, hy⟩ : ∃ y, us[q]? = some y := ⟨_, List.getElem?_eq_getElem (by omega)⟩
      obtain ⟨z, hz⟩ : ∃ z, us[q - 1]? = some z := ⟨_, List.getElem?_eq_getElem (by omega)⟩
      obtain ⟨b1, o1, a1, l1, r1⟩ := tab_at (Buf.row Sv3.b) hy
      obtain ⟨b2, o2, a2, l2, r2⟩ := tab_at (Buf.row Sv3.b) hz
      have ew : IntKind.wrap .i64 ((q : Int) - 1) = ((q - 1 : Nat) : Int) := by rw [wrap_i64 (by omega) (by omega)]; omega
      rw [ew]
      refine ⟨b1, o1, a1, ⟨by omega, hq⟩, y.least, r1 4 (by decide), b2, o2, a2, ⟨by omega, by omega⟩, z.greatest, r2 5 (by decide), fun hc => ?_, fun hc => ?_⟩
      · exact hB h7 _ V3 C23 ⟨j + 1, ts, by omega, hts, us, by rw [← hxts]; exact hp, hsrt, q - 1, z, y, hz, by rw [Nat.sub_add_cancel q1]; exact hy, sle.1 hc⟩
      · rw [next_i (n := 70000) (by omega) (by omega)]
        refine ⟨⟨rfl, q + 1, rfl, by omega, by omega, fun i a b hi ea eb => ?_⟩, by (try dsimp only); omega⟩
        by_cases hiq : i + 1 < q
        · exact hA i a b hiq ea eb
        · have : i = q - 1 := by omega
          subst this
          rw [Nat.sub_add_cancel q1, hy] at eb
          rw [hz] at ea
          cases ea; cases eb
          rcases bl_tri z.greatest y.least with t | t | t
          · exact t
          · exact absurd (sle.2 t.asym) hc
          · exact absurd (Or.inr t.symm) hc
    · rw [next_i (n := 100) (by omega) (by omega)]
      refine ⟨⟨j + 1, _, rfl, by omega, V3, C23, ?_⟩, by (try dsimp only); omega⟩
      rw [List.map_set]
      exact S2.step (by omega) hlv2 ⟨hp, hsrt, fun i a b ea eb => hA i a b (by have := (List.getElem?_eq_some_iff.1 eb).1; dsimp only at this; omega) ea eb⟩
  · exact hG h2 xs2 V2 C2 (S2.done (by rw [List.length_map]; omega))
theorem in_spec {g h : Hp} {vb : Nat} {ls l : Sl} {xs : List (Sl × List Tab)} {ps : List Placed} {Q : Value → Hp → Prop} (V : Ver g h vb ls xs) (hr : g.row l.a (l.n * 7) (inV ps)) (hs : totL (xs.map (·.2)) + ps.length ≤ 60000) (h1 : 1 ≤ xs.length) (h5 : xs.length ≤ 5)
    (hQ : ∀ h' c xs', Ver g h' vb ls xs' → Ck [67, 77] h h' → InR (xs.map (·.2)) ps c (xs'.map (·.2)) → Q (.int .i64 c) h') : F51.T (some ⟨vb, 0, none⟩) l h Q := by
  have hln : l.n = ps.length := by have := hr.1; rw [inV_len] at this; omega
  intro b hb
  have gb : g b = none := V.L.k.dom b hb
  have K0 := Keep.new hb (.map #[] 0)
  refine counted_spec (V.r.keep K0) (Mp.new h b 0) (fun k => ⟨Int.le_refl _, by omega⟩) (by omega) (by rw [List.length_map]; exact h5) fun h1 M1 O1 => ?_
  have hb0 := new_at h b (.map #[] 0)
  have V1 : Ver g h1 vb ls xs := (V.keep K0).ck (O1.ck hb0) ((V.L.k.trans K0).one O1 gb) (by decide) (by decide) (by decide)
  have C1 : Ck [67, 77] h h1 := (Ck.of_keep K0).one O1 hb
  refine ⟨fun n h2 => ∃ P R xs1, ps = P ++ R ∧ n = (P.length : Int) ∧ Ver g h2 vb ls xs1 ∧ Ck [67, 77] h h2 ∧ inM ps (xs.map (·.2)) = inM R (xs1.map (·.2)) ∧ totL (xs1.map (·.2)) + R.length ≤ 60000 ∧ Mp h2 b (fun k => cnt (nums (xs1.map (·.2))) k), fun n _ => ps.length - n.toNat, ⟨[], ps, xs, rfl, rfl, V1, C1, rfl, hs, Mp.congr M1 fun k => by omega⟩, ?_⟩
  rintro n h2 ⟨P, R, xs1, rfl, rfl, V2, C2, he, ht, M2⟩
  rw [List.length_append] at hln
  have hs' := hs
  rw [List.length_append] at hs'
  have hxl := V2.L.len
  have hx0 := V.L.len
  refine ⟨fun hlt => ?_, fun hge => ?_⟩
  · rcases R with _ | ⟨p, R⟩
    · exact absurd hlt (by simp at hln; omega)
    rw [List.length_cons] at hln ht hs'
    have err : ∀ {c : Int}, c ≠ 0 → inM (p :: R) (xs1.map (·.2)) = (c, xs1.map (·.2)) → Q (.int .i64 c) h2 := fun {c} hc e => hQ h2 c xs1 V2 C2 (by unfold InR; rw [he, e, if_neg hc])
    refine in_rd (V2.L.k.row hr) rfl fun b1 o1 => ?_
    refine has_spec V2.v (fun c0 c1 => ⟨true, rfl, fun _ => ?_, fun h0 => (by cases h0)⟩) (fun hc => ⟨false, rfl, fun h0 => (by cases h0), fun _ => ?_⟩)
    · obtain ⟨x, hx⟩ : ∃ x, xs1[p.lv.toNat]? = some x := ⟨_, List.getElem?_eq_getElem (by omega)⟩
      have hxm := List.mem_of_getElem? hx
      have hlv : (xs1.map (·.2))[p.lv.toNat]? = some x.2 := by rw [List.getElem?_map, hx]; rfl
      refine Mp.get M2 p.num fun es c => ⟨fun h0 => ?_, fun h0 => ⟨fun hlt2 => ?_, fun hge2 => ?_⟩⟩
      · refine err (by decide) ?_
        rw [inM, if_neg (by omega), hlv]
        dsimp only
        rw [if_pos ((cnt_pos _ _).1 h0)]
      · refine err (by decide) ?_
        rw [inM, if_neg (by omega), hlv]
        dsimp only
        rw [if_neg (fun hm => h0 ((cnt_pos _ _).2 hm)), if_pos (blB_t.2 ((sLt_bl _ _).1 hlt2))]
      · refine Mp.add M2 p.num fun es1 c1' hes M3 => ?_
        have hcb := cnt_le (nums (xs1.map (·.2))) p.num
        rw [nums_len] at hcb
        have O3 : One b h2 _ := One.new (mPut es1 c1' (.int .u64 p.num) (.int .i64 (IntKind.wrap .i64 (cnt (nums (xs1.map (·.2))) p.num + 1)))) (by rw [hes]; simp)
        have V3 := V2.ck (O3.ck hes) (V2.L.k.one O3 gb) (show 77 ∉ [0] by decide) (show 67 ∉ [0] by decide) (show 98 ∉ [0] by decide)
        have C3 := C2.one O3 hb
        rw [wrap_i64 (by omega) (by omega)] at M3 V3 C3 ⊢
        clear O3
        generalize h2.new b (mPut es1 c1' (.int .u64 p.num) (.int .i64 (cnt (nums (xs1.map (·.2))) p.num + 1))) = h3 at M3 V3 C3 ⊢
        obtain ⟨b6, ha6, hat6⟩ := V3.L.rd hx
        have T3 := V3.L.t x hxm
        have hx6 : x.2.length + 1 ≤ 60000 := by have := totL_mem (List.mem_of_getElem? hlv); omega
        refine ⟨vb, 0, rfl, ls, at_of V3.v 0, vb, 0, rfl, ls, at_of V3.v 0, b6, 0, ha6, ⟨c0, c1⟩, x.1, by rw [Nat.zero_add]; exact hat6, at_of V3.v 0, at_of V3.v 0, by rw [Nat.zero_add]; exact hat6, ?_⟩
        refine append_buf T3 rfl rfl (by have := T3.n; omega) fun l' h4 B4 hl4 U4 => ?_
        have T4 : TB h4 l' (x.2 ++ [p.tab]) := by
          show Buf _ _ 6 65 (tabV _)
          rw [tabV_app]; exact B4
        have C4 : Ck [67] h3 h4 := Ck.of_upd T3 U4
        obtain ⟨b8, ha8, _, hc8, L8, C8⟩ := V3.L.put hx U4 T4
        refine ⟨by rw [C4.at V3.v (by decide)]; rfl, b8, 0, ha8, ⟨c0, c1⟩, by rw [Nat.zero_add]; exact hc8, ?_⟩
        rw [Nat.zero_add, next_i (n := 70000) (by omega) (by omega)]
        refine ⟨⟨P ++ [p], R, xs1.set p.lv.toNat (l', x.2 ++ [p.tab]), by simp, by simp, ⟨L8, V3.nv, C8.keep _ _ V3.v (show 98 ∉ [67, 77] by decide)⟩, C3.trans C8, ?_, ?_, ?_⟩, by (try dsimp only); simp only [List.length_append, List.length_cons]; omega⟩
        · rw [he, inM, if_neg (by omega), hlv]
          dsimp only
          rw [if_neg (fun hm => h0 ((cnt_pos _ _).2 hm)), if_neg (fun hbl => hge2 ((sLt_bl _ _).2 (blB_t.1 hbl))), List.map_set]
        · rw [List.map_set]
          have := totL_set (us := x.2 ++ [p.tab]) hlv
          rw [List.length_append, List.length_singleton] at this
          dsimp only
          omega
        · refine Mp.congr (Mp.ck C8 (by decide) M3) fun k => ?_
          rw [List.map_set, cnt_set p.tab hlv k]
          show (if k = p.num then _ else _) = _ + if k = p.num then 1 else 0
          by_cases hk : k = p.num
          · rw [if_pos hk, if_pos hk, hk]
          · rw [if_neg hk, if_neg hk]; omega
    · refine err (by decide) ?_
      rw [inM]
      by_cases h0 : p.lv < 0
      · rw [if_pos h0]
      · rw [if_neg h0, List.getElem?_eq_none (by rw [List.length_map]; omega)]
  · have : R = [] := List.eq_nil_of_length_eq_zero (by omega)
    subst this
    refine sort_levels V2 (by simpa using ht) (by omega) (by omega) (fun h3 xs3 V3 C3 hbad => hQ h3 132 xs3 V3 (C2.trans C3) ?_) (fun h3 xs3 V3 C3 hS => hQ h3 0 xs3 V3 (C2.trans C3) ?_)
    · unfold InR; rw [he]; exact .inl ⟨rfl, hbad⟩
    · unfold InR; rw [he]; exact .inr ⟨rfl, hS⟩
end Go.Eng.YtbjnlacacapjiaaGreat
end
section
set_option maxRecDepth 100000
namespace Go.Eng.YtbjnlacacapjiaaGreat
theorem insertion {h : Hp} {l : Sl} {lo hi : Int} {Q : Value → Hp → Prop} (U : Us h l) (h1 : 0 ≤ lo) (h2 : hi ≤ (l.n : Int)) (hn : l.n ≤ 60000) (h3 : lo ≤ 60000)
    (hQ : ∀ h', Sw h h' l → Q (.tuple ⟨[]⟩) h') : F93.T l lo hi h Q := by
  unfold F93.T F93.G
  rw [wr64 (x := lo + 1) (by omega) (by omega)]
  refine ⟨fun n2 h1 => Sw h h1 l ∧ lo + 1 ≤ n2 ∧ n2 ≤ 70000, fun n2 _ => (hi - n2).toNat, ⟨Sw.refl U, by omega, by omega⟩, ?_⟩
  rintro i g1 ⟨S, i0, i1⟩
  refine ⟨fun hlt => ?_, fun _ => hQ g1 S⟩
  rw [wr64 (x := i + 1) (by omega) (by omega)]
  refine ⟨fun n3 h2 => Sw h h2 l ∧ lo ≤ n3 ∧ n3 ≤ i, fun n3 _ => n3.toNat, ⟨S, by omega, by omega⟩, ?_⟩
  rintro j g ⟨S, j0, j1⟩
  refine ⟨fun hlt2 => ?_, fun _ => ⟨⟨S, by omega, by omega⟩, by dsimp only; omega⟩⟩
  rw [wr64 (x := j - 1) (by omega) (by omega)]
  refine Us.rd S.u (by omega) (by omega) fun b1 v1 => Us.rd S.u (by omega) (by omega) fun b2 v2 => less_any fun q => ⟨q, rfl, fun _ => ?_, fun _ => ⟨⟨S, by omega, by omega⟩, by dsimp only; omega⟩⟩
  clear b1 v1 b2 v2
  refine Us.rd S.u (i := j - 1) (by omega) (by omega) fun b1 v1 => Us.rd S.u (i := j) (by omega) (by omega) fun b2 v2 => Us.wr (v := v1) S.u (i := j) (by omega) (by omega) fun b3 U3 p3 => Us.wr (v := v2) U3 (i := j - 1) (by omega) (by omega) fun b4 U4 p4 => ?_
  have S2 : Sw h ((g.wr b3 (0 + (j).toNat) [.int .u64 v1]).wr b4 (0 + (j - 1).toNat) [.int .u64 v2]) l := ⟨U4, (S.up.trans p3).trans p4⟩
  generalize ((g.wr b3 (0 + (j).toNat) [.int .u64 v1]).wr b4 (0 + (j - 1).toNat) [.int .u64 v2]) = g2 at S2 ⊢
  clear U3 p3 U4 p4 b1 b2 b3 b4 v1 v2
  exact ⟨⟨S2, by omega, by omega⟩, by dsimp only; omega⟩
theorem reverse_u {h : Hp} {l : Sl} {lo hi : Int} {Q : Value → Hp → Prop} (U : Us h l) (h1 : 0 ≤ lo) (h2 : hi ≤ (l.n : Int)) (hn : l.n ≤ 60000) (h3 : lo ≤ 60000) (h4 : 0 ≤ hi)
    (hQ : ∀ h', Sw h h' l → Q (.tuple ⟨[]⟩) h') : F97.T l lo hi h Q := by
  unfold F97.T
  rw [wr64 (x := hi - 1) (by omega) (by omega)]
  refine ⟨fun n2 n3 h1 => Sw h h1 l ∧ lo ≤ n2 ∧ n3 < hi ∧ n2 ≤ 70000 ∧ -1 ≤ n3, fun n2 n3 _ => (n3 - n2 + 1).toNat, ⟨Sw.refl U, by omega, by omega, by omega, by omega⟩, ?_⟩
  rintro i j g ⟨S, i0, j0, i1, j1⟩
  refine ⟨fun hlt => ?_, fun _ => hQ g S⟩
  rw [wr64 (x := i + 1) (by omega) (by omega), wr64 (x := j - 1) (by omega) (by omega)]
  refine Us.rd S.u (i := j) (by omega) (by omega) fun b1 v1 => Us.rd S.u (i := i) (by omega) (by omega) fun b2 v2 => Us.wr (v := v1) S.u (i := i) (by omega) (by omega) fun b3 U3 p3 => Us.wr (v := v2) U3 (i := j) (by omega) (by omega) fun b4 U4 p4 => ?_
  have S2 : Sw h ((g.wr b3 (0 + (i).toNat) [.int .u64 v1]).wr b4 (0 + (j).toNat) [.int .u64 v2]) l := ⟨U4, (S.up.trans p3).trans p4⟩
  generalize ((g.wr b3 (0 + (i).toNat) [.int .u64 v1]).wr b4 (0 + (j).toNat) [.int .u64 v2]) = g2 at S2 ⊢
  clear U3 p3 U4 p4 b1 b2 b3 b4 v1 v2
  exact ⟨⟨S2, by omega, by omega, by omega, by omega⟩, by dsimp only; omega⟩
theorem sift {h : Hp} {l : Sl} {lo hi fi : Int} {Q : Value → Hp → Prop} (U : Us h l) (h1 : 0 ≤ lo) (h2 : 0 ≤ fi) (h3 : fi + hi ≤ (l.n : Int)) (h4 : lo ≤ 60000) (h5 : fi ≤ 60000) (hn : l.n ≤ 60000)
    (hQ : ∀ h', Sw h h' l → Q (.tuple ⟨[]⟩) h') : F106.T l lo hi fi h Q := by
  refine ⟨fun n3 h1 => Sw h h1 l ∧ lo ≤ n3 ∧ n3 ≤ 60000, fun n3 _ => (60000 - n3).toNat, ⟨Sw.refl U, by omega, by omega⟩, ?_⟩
  rintro r g ⟨S, r0, r1⟩
  rw [wr64 (x := 2 * r) (by omega) (by omega), wr64 (x := 2 * r + 1) (by omega) (by omega)]
  refine ⟨fun _ => hQ g S, fun hlt => ?_⟩
  rw [wr64 (x := 2 * r + 1 + 1) (by omega) (by omega), wr64 (x := fi + (2 * r + 1)) (by omega) (by omega), wr64 (x := fi + (2 * r + 1) + 1) (by omega) (by omega)]
  refine ⟨fun c g' => Sw h g' l ∧ r < c ∧ c < hi ∧ c ≤ 60000, ?_, fun hlt2 => ?_, fun _ => ⟨S, by omega, by omega, by omega⟩⟩
  · rintro c g ⟨S, c0, c1, c2⟩
    rw [wr64 (x := fi + r) (by omega) (by omega), wr64 (x := fi + c) (by omega) (by omega)]
    refine Us.rd S.u (by omega) (by omega) fun b1 v1 => Us.rd S.u (by omega) (by omega) fun b2 v2 => less_any fun q => ⟨q, rfl, fun _ => ?_, fun _ => hQ g S⟩
    clear b1 v1 b2 v2
    refine Us.rd S.u (i := fi + c) (by omega) (by omega) fun b1 v1 => Us.rd S.u (i := fi + r) (by omega) (by omega) fun b2 v2 => Us.wr (v := v1) S.u (i := fi + r) (by omega) (by omega) fun b3 U3 p3 => Us.wr (v := v2) U3 (i := fi + c) (by omega) (by omega) fun b4 U4 p4 => ?_
    have S2 : Sw h ((g.wr b3 (0 + (fi + r).toNat) [.int .u64 v1]).wr b4 (0 + (fi + c).toNat) [.int .u64 v2]) l := ⟨U4, (S.up.trans p3).trans p4⟩
    generalize ((g.wr b3 (0 + (fi + r).toNat) [.int .u64 v1]).wr b4 (0 + (fi + c).toNat) [.int .u64 v2]) = g2 at S2 ⊢
    clear U3 p3 U4 p4 b1 b2 b3 b4 v1 v2
    exact ⟨⟨S2, by omega, by omega⟩, by dsimp only; omega⟩
  · refine Us.rd S.u (by omega) (by omega) fun b1 v1 => Us.rd S.u (by omega) (by omega) fun b2 v2 => less_any fun q => ⟨q, rfl, fun _ => ⟨S, by omega, by omega, by omega⟩, fun _ => ⟨S, by omega, by omega, by omega⟩⟩
theorem heap_u {h : Hp} {l : Sl} {lo hi : Int} {Q : Value → Hp → Prop} (U : Us h l) (h1 : 0 ≤ lo) (h2 : hi ≤ (l.n : Int)) (hn : l.n ≤ 60000) (h3 : lo ≤ hi)
    (hQ : ∀ h', Sw h h' l → Q (.tuple ⟨[]⟩) h') : F94.T l lo hi h Q := by
  unfold F94.T F94.G
  rw [wr64 (x := hi - lo) (by omega) (by omega), wr64 (x := hi - lo - 1) (by omega) (by omega)]
  have hd : -1 ≤ Int.tdiv (hi - lo - 1) 2 ∧ Int.tdiv (hi - lo - 1) 2 ≤ 60000 := by
    by_cases h0 : hi - lo - 1 = -1
    · rw [h0]; decide
    · rw [Int.tdiv_eq_ediv_of_nonneg (by omega)]; omega
  rw [wr64 (x := Int.tdiv (hi - lo - 1) 2) (by omega) (by omega)]
  generalize Int.tdiv (hi - lo - 1) 2 = s at hd ⊢
  refine ⟨by decide, fun n2 h1 => Sw h h1 l ∧ -1 ≤ n2 ∧ n2 ≤ 60000, fun n2 _ => (n2 + 1).toNat, ⟨Sw.refl U, by omega, by omega⟩, ?_⟩
  rintro i g ⟨S, i0, i1⟩
  refine ⟨fun hlt => ?_, fun _ => ?_⟩
  · rw [wr64 (x := i - 1) (by omega) (by omega)]
    exact sift S.u hlt h1 (by omega) (by omega) (by omega) hn fun g2 S2 => ⟨⟨S.trans S2, by omega, by omega⟩, by dsimp only; omega⟩
  · refine ⟨fun n2 h1 => Sw h h1 l ∧ -1 ≤ n2 ∧ n2 < hi - lo, fun n2 _ => (n2 + 1).toNat, ⟨S, by omega, by omega⟩, ?_⟩
    rintro i g ⟨S, i0, i1⟩
    refine ⟨fun hlt => ?_, fun _ => hQ g S⟩
    rw [wr64 (x := i - 1) (by omega) (by omega), wr64 (x := lo + i) (by omega) (by omega)]
    refine Us.rd S.u (i := lo + i) (by omega) (by omega) fun b1 v1 => Us.rd S.u (i := lo) (by omega) (by omega) fun b2 v2 => Us.wr (v := v1) S.u (i := lo) (by omega) (by omega) fun b3 U3 p3 => Us.wr (v := v2) U3 (i := lo + i) (by omega) (by omega) fun b4 U4 p4 => ?_
    have S2 : Sw h ((g.wr b3 (0 + (lo).toNat) [.int .u64 v1]).wr b4 (0 + (lo + i).toNat) [.int .u64 v2]) l := ⟨U4, (S.up.trans p3).trans p4⟩
    generalize ((g.wr b3 (0 + (lo).toNat) [.int .u64 v1]).wr b4 (0 + (lo + i).toNat) [.int .u64 v2]) = g2 at S2 ⊢
    clear U3 p3 U4 p4 b1 b2 b3 b4 v1 v2
    exact sift S2.u (by decide) h1 (by omega) (by decide) (by omega) hn fun g3 S3 => ⟨⟨S2.trans S3, by omega, by omega⟩, by dsimp only; omega⟩
theorem partial_u {h : Hp} {l : Sl} {lo hi : Int} {Q : Value → Hp → Prop} (U : Us h l) (h1 : 0 ≤ lo) (h2 : hi ≤ (l.n : Int)) (hn : l.n ≤ 60000) (h3 : lo < hi)
    (hQ : ∀ h' b, Sw h h' l → Q (.bool b) h') : F98.T l lo hi h Q := by
  unfold F98.T F98.G
  rw [wr64 (x := lo + 1) (by omega) (by omega), wr64 (x := hi - lo) (by omega) (by omega)]
  refine ⟨fun n2 n3 h1 => Sw h h1 l ∧ lo + 1 ≤ n2 ∧ n2 ≤ hi ∧ 0 ≤ n3 ∧ n3 ≤ 5, fun _ n3 _ => (5 - n3).toNat, ⟨Sw.refl U, by omega, by omega, by omega, by omega⟩, ?_⟩
  rintro i k g ⟨S, i0, i1, k0, k1⟩
  refine ⟨fun hlt => ?_, fun _ => hQ g false S⟩
  rw [wr64 (x := k + 1) (by omega) (by omega)]
  refine ⟨fun n4 h2 => Sw h h2 l ∧ lo + 1 ≤ n4 ∧ n4 ≤ hi, ?_, ?_⟩
  · rintro i g ⟨S, i0, i1⟩
    refine ⟨fun _ => hQ g true S, fun hne => ⟨fun _ => hQ g false S, fun hb => ?_⟩⟩
    rw [wr64 (x := i - 1) (by omega) (by omega), wr64 (x := i - lo) (by omega) (by omega), wr64 (x := hi - i) (by omega) (by omega)]
    refine Us.rd S.u (i := i - 1) (by omega) (by omega) fun b1 v1 => Us.rd S.u (i := i) (by omega) (by omega) fun b2 v2 => Us.wr (v := v1) S.u (i := i) (by omega) (by omega) fun b3 U3 p3 => Us.wr (v := v2) U3 (i := i - 1) (by omega) (by omega) fun b4 U4 p4 => ?_
    have S2 : Sw h ((g.wr b3 (0 + (i).toNat) [.int .u64 v1]).wr b4 (0 + (i - 1).toNat) [.int .u64 v2]) l := ⟨U4, (S.up.trans p3).trans p4⟩
    generalize ((g.wr b3 (0 + (i).toNat) [.int .u64 v1]).wr b4 (0 + (i - 1).toNat) [.int .u64 v2]) = g2 at S2 ⊢
    clear U3 p3 U4 p4 b1 b2 b3 b4 v1 v2
    refine ⟨fun h3 => Sw h h3 l, ?_, fun h5 => ?_, fun _ => S2⟩
    · intro g3 S3
      refine ⟨fun _ => ?_, fun _ => ⟨⟨S3, i0, i1, by omega, by omega⟩, by dsimp only; omega⟩⟩
      rw [wr64 (x := i + 1) (by omega) (by omega)]
      refine ⟨fun n7 h4 => Sw h h4 l ∧ i + 1 ≤ n7 ∧ n7 ≤ hi, fun n7 _ => (hi - n7).toNat, ⟨S3, by omega, by omega⟩, ?_⟩
      rintro j g ⟨S, j0, j1⟩
      refine ⟨fun hlt => ?_, fun _ => ⟨⟨S, i0, i1, by omega, by omega⟩, by dsimp only; omega⟩⟩
      rw [wr64 (x := j - 1) (by omega) (by omega), wr64 (x := j + 1) (by omega) (by omega)]
      refine Us.rd S.u (by omega) (by omega) fun b1 v1 => Us.rd S.u (by omega) (by omega) fun b2 v2 => less_any fun q => ⟨q, rfl, fun _ => ?_, fun _ => ⟨⟨S, i0, i1, by omega, by omega⟩, by dsimp only; omega⟩⟩
      clear b1 v1 b2 v2
      refine Us.rd S.u (i := j - 1) (by omega) (by omega) fun b1 v1 => Us.rd S.u (i := j) (by omega) (by omega) fun b2 v2 => Us.wr (v := v1) S.u (i := j) (by omega) (by omega) fun b3 U3 p3 => Us.wr (v := v2) U3 (i := j - 1) (by omega) (by omega) fun b4 U4 p4 => ?_
      have S4 : Sw h ((g.wr b3 (0 + (j).toNat) [.int .u64 v1]).wr b4 (0 + (j - 1).toNat) [.int .u64 v2]) l := ⟨U4, (S.up.trans p3).trans p4⟩
      generalize ((g.wr b3 (0 + (j).toNat) [.int .u64 v1]).wr b4 (0 + (j - 1).toNat) [.int .u64 v2]) = g4 at S4 ⊢
      clear U3 p3 U4 p4 b1 b2 b3 b4 v1 v2
      exact ⟨⟨S4, by omega, by omega⟩, by dsimp only; omega⟩
    · refine ⟨fun n7 h4 => Sw h h4 l ∧ 0 ≤ n7 ∧ n7 < hi, fun n7 _ => n7.toNat, ⟨S2, by omega, by omega⟩, ?_⟩
      rintro j g ⟨S, j0, j1⟩
      refine ⟨fun hlt => ?_, fun _ => S⟩
      rw [wr64 (x := j - 1) (by omega) (by omega)]
      refine Us.rd S.u (by omega) (by omega) fun b1 v1 => Us.rd S.u (by omega) (by omega) fun b2 v2 => less_any fun q => ⟨q, rfl, fun _ => ?_, fun _ => S⟩
      clear b1 v1 b2 v2
      refine Us.rd S.u (i := j - 1) (by omega) (by omega) fun b1 v1 => Us.rd S.u (i := j) (by omega) (by omega) fun b2 v2 => Us.wr (v := v1) S.u (i := j) (by omega) (by omega) fun b3 U3 p3 => Us.wr (v := v2) U3 (i := j - 1) (by omega) (by omega) fun b4 U4 p4 => ?_
      have S4 : Sw h ((g.wr b3 (0 + (j).toNat) [.int .u64 v1]).wr b4 (0 + (j - 1).toNat) [.int .u64 v2]) l := ⟨U4, (S.up.trans p3).trans p4⟩
      generalize ((g.wr b3 (0 + (j).toNat) [.int .u64 v1]).wr b4 (0 + (j - 1).toNat) [.int .u64 v2]) = g4 at S4 ⊢
      clear U3 p3 U4 p4 b1 b2 b3 b4 v1 v2
      exact ⟨⟨S4, by omega, by omega⟩, by dsimp only; omega⟩
  · refine ⟨fun n7 h4 => Sw h h4 l ∧ lo + 1 ≤ n7 ∧ n7 ≤ hi, fun n7 _ => (hi - n7).toNat, ⟨S, i0, i1⟩, ?_⟩
    rintro j g ⟨S, j0, j1⟩
    refine ⟨fun hlt => ?_, fun _ => ⟨S, j0, j1⟩⟩
    rw [wr64 (x := j - 1) (by omega) (by omega), wr64 (x := j + 1) (by omega) (by omega)]
    exact Us.rd S.u (by omega) (by omega) fun b1 v1 => Us.rd S.u (by omega) (by omega) fun b2 v2 => less_any fun q => ⟨q, rfl, fun _ => ⟨S, j0, j1⟩, fun _ => ⟨⟨S, by omega, by omega⟩, by dsimp only; omega⟩⟩
end Go.Eng.YtbjnlacacapjiaaGreat
end
