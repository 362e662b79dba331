/-
  TEXTS OF MINE, JOINED: J0 J1 J2 J3 J4 J5 JS1 JS2 JS3 JS4 JS5 JS6 JS7 JS8.
-/
import Derived.Test.YtbjnlacacapjiaaK2
import Derived.Test.YtbjnlacacapjiaaProg
import Derived.Lib.Bytealg
set_option linter.unusedSimpArgs false
set_option linter.unusedVariables false
section
set_option maxRecDepth 100000
open Go.Proofs
namespace Go.Eng.Ytbjnlacacapjiaa
@[reducible] def bytes8 : ByteArray := ByteArray.mk (List.toArray [0, 1, 2, 2, 3, 3, 3, 3, 4, 4, 4, 4, 4, 4, 4, 4, 5, 5, 5, 5, 5, 5, 5, 5, 5, 5, 5, 5, 5, 5, 5, 5, 6, 6, 6, 6, 6, 6, 6, 6, 6, 6, 6, 6, 6, 6, 6, 6, 6, 6, 6, 6, 6, 6, 6, 6, 6, 6, 6, 6, 6, 6, 6, 6, 7, 7, 7, 7, 7, 7, 7, 7, 7, 7, 7, 7, 7, 7, 7, 7, 7, 7, 7, 7, 7, 7, 7, 7, 7, 7, 7, 7, 7, 7, 7, 7, 7, 7, 7, 7, 7, 7, 7, 7, 7, 7, 7, 7, 7, 7, 7, 7, 7, 7, 7, 7, 7, 7, 7, 7, 7, 7, 7, 7, 7, 7, 7, 7, 8, 8, 8, 8, 8, 8, 8, 8, 8, 8, 8, 8, 8, 8, 8, 8, 8, 8, 8, 8, 8, 8, 8, 8, 8, 8, 8, 8, 8, 8, 8, 8, 8, 8, 8, 8, 8, 8, 8, 8, 8, 8, 8, 8, 8, 8, 8, 8, 8, 8, 8, 8, 8, 8, 8, 8, 8, 8, 8, 8, 8, 8, 8, 8, 8, 8, 8, 8, 8, 8, 8, 8, 8, 8, 8, 8, 8, 8, 8, 8, 8, 8, 8, 8, 8, 8, 8, 8, 8, 8, 8, 8, 8, 8, 8, 8, 8, 8, 8, 8, 8, 8, 8, 8, 8, 8, 8, 8, 8, 8, 8, 8, 8, 8, 8, 8, 8, 8, 8, 8, 8, 8, 8, 8, 8, 8, 8, 8])
def F109.T (n : Int) : PT := fun h Q =>
  par (n = n) (Q (.bool false) h) (Q (.bool true) h)
theorem F109.den (V n) : denF Try.prog [] [] V [] Try.f109 [.v (.int .u64 n)] = F109.T n := by kernel_rfl
def F109.W (T109 : Int → PT) (args : List Value) : PT := match args with
  | [.int .u64 n] => T109 n
  | _ => fun _ _ => False
def F109.V : List Value → PT := F109.W F109.T
theorem F109.ok : FOk Try.prog 109 F109.V := by
  refine ⟨⟨_, Try.func109, rfl, rfl⟩, fun args => ?_⟩
  unfold F109.V F109.W
  split
  · exact denF_okE (GOk.nil) noV_ok Try.func109 (F109.den noV _)
  · exact fun _ _ h => h.elim
@[reducible] def F97.G (T109 : Int → PT) (n n1 : Int) : PT := fun h Q =>
  T109 n h fun r h1 => retB r (T109 n1 h1 fun r1 h2 => retB r1 (par (n < n1) (Q (.bool true) h2) (Q (.bool false) h2)) (Q (.bool true) h2)) (par (n < n1) (Q (.bool true) h1) (Q (.bool false) h1))
def F97.T := F97.G F109.T
theorem F97.gen (V T109 n n1) : denF Try.prog [] [(109, F109.W T109)] V [] Try.f97 [.v (.int .u64 n), .v (.int .u64 n1)] = F97.G T109 n n1 := by kernel_rfl
def F97.W (T97 : Int → Int → PT) (args : List Value) : PT := match args with
  | [.int .u64 n, .int .u64 n1] => T97 n n1
  | _ => fun _ _ => False
def F97.V : List Value → PT := F97.W F97.T
theorem F97.ok : FOk Try.prog 97 F97.V := by
  refine ⟨⟨_, Try.func97, rfl, rfl⟩, fun args => ?_⟩
  unfold F97.V F97.W
  split
  · exact denF_okE (GOk.cons F109.ok (GOk.nil)) noV_ok Try.func97 (F97.gen noV F109.T _ _)
  · exact fun _ _ h => h.elim
@[reducible] def F91.G (T97 : Int → Int → PT) (l : Sl) (n n1 : Int) : PT := fun h Q =>
  ∃ (I : Int → Hp → Prop) (m : Int → Hp → Nat), I (IntKind.wrap .i64 (n + 1)) h ∧ (∀ n2 : Int, ∀ h1 : Hp, I n2 h1 → par (n2 < n1) (∃ (I1 : Int → Hp → Prop) (m1 : Int → Hp → Nat), I1 n2 h1 ∧ (∀ n3 : Int, ∀ h2 : Hp, I1 n3 h2 → par (n < n3) (ix l.a n3 l.n fun b o => ldI .u64 h2 b (o + n3.toNat) fun n4 => ix l.a (IntKind.wrap .i64 (n3 - 1)) l.n fun b1 o1 => ldI .u64 h2 b1 (o1 + ((IntKind.wrap .i64 (n3 - 1))).toNat) fun n5 => T97 n4 n5 h2 fun r h3 => retB r (ix l.a (IntKind.wrap .i64 (n3 - 1)) l.n fun b2 o2 => ldI .u64 h3 b2 (o2 + ((IntKind.wrap .i64 (n3 - 1))).toNat) fun n6 => ix l.a n3 l.n fun b3 o3 => ldI .u64 h3 b3 (o3 + n3.toNat) fun n7 => ix l.a n3 l.n fun b4 o4 => st h3 b4 (o4 + n3.toNat) 1 [.int .u64 n6] fun h4 => ix l.a (IntKind.wrap .i64 (n3 - 1)) l.n fun b5 o5 => st h4 b5 (o5 + ((IntKind.wrap .i64 (n3 - 1))).toNat) 1 [.int .u64 n7] fun h5 => I1 (IntKind.wrap .i64 (n3 - 1)) h5 ∧ m1 (IntKind.wrap .i64 (n3 - 1)) h5 < m1 n3 h2) (I (IntKind.wrap .i64 (n2 + 1)) h3 ∧ m (IntKind.wrap .i64 (n2 + 1)) h3 < m n2 h1)) (I (IntKind.wrap .i64 (n2 + 1)) h2 ∧ m (IntKind.wrap .i64 (n2 + 1)) h2 < m n2 h1))) (Q (.tuple ⟨[]⟩) h1))
def F91.T := F91.G F97.T
theorem F91.gen (V T97 l n n1) : denF Try.prog [] [(97, F97.W T97)] V [(6, .loop [(6, .int .i64)] []), (402, .loop [(7, .int .i64)] []), (3216, .order [0, 1, 2, 3, 4, 5, 6, 7, 8, 9, 10, 11, 12, 13, 14]), (6436, .order [0, 1, 2, 3, 4, 5, 6, 7, 8, 9, 10, 11, 12, 13, 14, 15, 16, 17])] Try.f91 [.v (.slice l.a l.n l.c), .v (.int .i64 n), .v (.int .i64 n1)] = F91.G T97 l n n1 := by kernel_rfl
def F91.W (T91 : Sl → Int → Int → PT) (args : List Value) : PT := match args with
  | [.slice l_a l_n l_c, .int .i64 n, .int .i64 n1] => T91 ⟨l_a, l_n, l_c⟩ n n1
  | _ => fun _ _ => False
def F91.V : List Value → PT := F91.W F91.T
theorem F91.ok : FOk Try.prog 91 F91.V := by
  refine ⟨⟨_, Try.func91, rfl, rfl⟩, fun args => ?_⟩
  unfold F91.V F91.W
  split
  · exact denF_okE (GOk.cons F97.ok (GOk.nil)) noV_ok Try.func91 (F91.gen noV F97.T ⟨_, _, _⟩ _ _)
  · exact fun _ _ h => h.elim
@[reducible] def F104.G (T97 : Int → Int → PT) (l : Sl) (n n1 n2 : Int) : PT := fun h Q =>
  ∃ (I : Int → Hp → Prop) (m : Int → Hp → Nat), I n h ∧ (∀ n3 : Int, ∀ h1 : Hp, I n3 h1 → par (n1 ≤ (IntKind.wrap .i64 ((IntKind.wrap .i64 (2 * n3)) + 1))) (Q (.tuple ⟨[]⟩) h1) (∃ J : Int → Hp → Prop, (∀ n4 : Int, ∀ h2 : Hp, J n4 h2 → ix l.a (IntKind.wrap .i64 (n2 + n3)) l.n fun b o => ldI .u64 h2 b (o + ((IntKind.wrap .i64 (n2 + n3))).toNat) fun n5 => ix l.a (IntKind.wrap .i64 (n2 + n4)) l.n fun b1 o1 => ldI .u64 h2 b1 (o1 + ((IntKind.wrap .i64 (n2 + n4))).toNat) fun n6 => T97 n5 n6 h2 fun r h3 => retB r (ix l.a (IntKind.wrap .i64 (n2 + n4)) l.n fun b2 o2 => ldI .u64 h3 b2 (o2 + ((IntKind.wrap .i64 (n2 + n4))).toNat) fun n7 => ix l.a (IntKind.wrap .i64 (n2 + n3)) l.n fun b3 o3 => ldI .u64 h3 b3 (o3 + ((IntKind.wrap .i64 (n2 + n3))).toNat) fun n8 => ix l.a (IntKind.wrap .i64 (n2 + n3)) l.n fun b4 o4 => st h3 b4 (o4 + ((IntKind.wrap .i64 (n2 + n3))).toNat) 1 [.int .u64 n7] fun h4 => ix l.a (IntKind.wrap .i64 (n2 + n4)) l.n fun b5 o5 => st h4 b5 (o5 + ((IntKind.wrap .i64 (n2 + n4))).toNat) 1 [.int .u64 n8] fun h5 => I n4 h5 ∧ m n4 h5 < m n3 h1) (Q (.tuple ⟨[]⟩) h3)) ∧ (par ((IntKind.wrap .i64 ((IntKind.wrap .i64 ((IntKind.wrap .i64 (2 * n3)) + 1)) + 1)) < n1) (ix l.a (IntKind.wrap .i64 (n2 + (IntKind.wrap .i64 ((IntKind.wrap .i64 (2 * n3)) + 1)))) l.n fun b6 o6 => ldI .u64 h1 b6 (o6 + ((IntKind.wrap .i64 (n2 + (IntKind.wrap .i64 ((IntKind.wrap .i64 (2 * n3)) + 1))))).toNat) fun n9 => ix l.a (IntKind.wrap .i64 ((IntKind.wrap .i64 (n2 + (IntKind.wrap .i64 ((IntKind.wrap .i64 (2 * n3)) + 1)))) + 1)) l.n fun b7 o7 => ldI .u64 h1 b7 (o7 + ((IntKind.wrap .i64 ((IntKind.wrap .i64 (n2 + (IntKind.wrap .i64 ((IntKind.wrap .i64 (2 * n3)) + 1)))) + 1))).toNat) fun n10 => T97 n9 n10 h1 fun r1 h6 => retB r1 (J (IntKind.wrap .i64 ((IntKind.wrap .i64 ((IntKind.wrap .i64 (2 * n3)) + 1)) + 1)) h6) (J (IntKind.wrap .i64 ((IntKind.wrap .i64 (2 * n3)) + 1)) h6)) (J (IntKind.wrap .i64 ((IntKind.wrap .i64 (2 * n3)) + 1)) h1))))
def F104.T := F104.G F97.T
theorem F104.gen (V T97 l n n1 n2) : denF Try.prog [] [(97, F97.W T97)] V [(6, .loop [(8, .int .i64)] []), (99, .join [(9, .int .i64)] []), (396, .order [0, 1, 2, 3, 4, 5, 6, 7, 8, 9, 10, 11, 12, 13, 14, 15, 16, 17, 18, 19]), (796, .order [0, 1, 2, 3, 4, 5, 6, 7, 8, 9, 10, 11, 12, 13]), (798, .order [0, 1, 2, 3, 4, 5, 6, 7, 8, 9, 10, 11, 12, 13, 14, 15, 16, 17, 18, 19, 20, 21, 22, 23])] Try.f104 [.v (.slice l.a l.n l.c), .v (.int .i64 n), .v (.int .i64 n1), .v (.int .i64 n2)] = F104.G T97 l n n1 n2 := by kernel_rfl
def F104.W (T104 : Sl → Int → Int → Int → PT) (args : List Value) : PT := match args with
  | [.slice l_a l_n l_c, .int .i64 n, .int .i64 n1, .int .i64 n2] => T104 ⟨l_a, l_n, l_c⟩ n n1 n2
  | _ => fun _ _ => False
def F104.V : List Value → PT := F104.W F104.T
theorem F104.ok : FOk Try.prog 104 F104.V := by
  refine ⟨⟨_, Try.func104, rfl, rfl⟩, fun args => ?_⟩
  unfold F104.V F104.W
  split
  · exact denF_okE (GOk.cons F97.ok (GOk.nil)) noV_ok Try.func104 (F104.gen noV F97.T ⟨_, _, _⟩ _ _ _)
  · exact fun _ _ h => h.elim
@[reducible] def F92.G (T104 : Sl → Int → Int → Int → PT) (l : Sl) (n n1 : Int) : PT := fun h Q =>
  (2 : Int) ≠ 0 ∧ ∃ (I : Int → Hp → Prop) (m : Int → Hp → Nat), I (IntKind.wrap .i64 (Int.tdiv (IntKind.wrap .i64 ((IntKind.wrap .i64 (n1 - n)) - 1)) 2)) h ∧ (∀ n2 : Int, ∀ h1 : Hp, I n2 h1 → par ((0 : Int) ≤ n2) (T104 l n2 (IntKind.wrap .i64 (n1 - n)) n h1 fun r h2 => I (IntKind.wrap .i64 (n2 - 1)) h2 ∧ m (IntKind.wrap .i64 (n2 - 1)) h2 < m n2 h1) (∃ (I1 : Int → Hp → Prop) (m1 : Int → Hp → Nat), I1 (IntKind.wrap .i64 ((IntKind.wrap .i64 (n1 - n)) - 1)) h1 ∧ (∀ n3 : Int, ∀ h3 : Hp, I1 n3 h3 → par ((0 : Int) ≤ n3) (ix l.a (IntKind.wrap .i64 (n + n3)) l.n fun b o => ldI .u64 h3 b (o + ((IntKind.wrap .i64 (n + n3))).toNat) fun n4 => ix l.a n l.n fun b1 o1 => ldI .u64 h3 b1 (o1 + n.toNat) fun n5 => ix l.a n l.n fun b2 o2 => st h3 b2 (o2 + n.toNat) 1 [.int .u64 n4] fun h4 => ix l.a (IntKind.wrap .i64 (n + n3)) l.n fun b3 o3 => st h4 b3 (o3 + ((IntKind.wrap .i64 (n + n3))).toNat) 1 [.int .u64 n5] fun h5 => T104 l 0 n3 n h5 fun r1 h6 => I1 (IntKind.wrap .i64 (n3 - 1)) h6 ∧ m1 (IntKind.wrap .i64 (n3 - 1)) h6 < m1 n3 h3) (Q (.tuple ⟨[]⟩) h3))))
def F92.T := F92.G F104.T
theorem F92.gen (V T104 l n n1) : denF Try.prog [] [(104, F104.W T104)] V [(122, .loop [(9, .int .i64)] []), (126, .loop [(10, .int .i64)] []), (4040, .order [0, 1, 2, 3, 4, 5, 6, 7, 8, 9, 10, 11, 12, 13, 14, 15, 16, 17, 18, 19])] Try.f92 [.v (.slice l.a l.n l.c), .v (.int .i64 n), .v (.int .i64 n1)] = F92.G T104 l n n1 := by kernel_rfl
def F92.W (T92 : Sl → Int → Int → PT) (args : List Value) : PT := match args with
  | [.slice l_a l_n l_c, .int .i64 n, .int .i64 n1] => T92 ⟨l_a, l_n, l_c⟩ n n1
  | _ => fun _ _ => False
def F92.V : List Value → PT := F92.W F92.T
theorem F92.ok : FOk Try.prog 92 F92.V := by
  refine ⟨⟨_, Try.func92, rfl, rfl⟩, fun args => ?_⟩
  unfold F92.V F92.W
  split
  · exact denF_okE (GOk.cons F104.ok (GOk.nil)) noV_ok Try.func92 (F92.gen noV F104.T ⟨_, _, _⟩ _ _)
  · exact fun _ _ h => h.elim
def F101.T (n : Int) : PT := fun h Q =>
  par ((4294967296 : Int) ≤ n) ((0 : Int) ≤ 32 ∧ par ((65536 : Int) ≤ (shrI .u64 n 32)) ((0 : Int) ≤ 16 ∧ par ((256 : Int) ≤ (shrI .u64 (shrI .u64 n 32) 16)) ((0 : Int) ≤ 8 ∧ ((0 : Int) ≤ (IntKind.wrap .u8 (shrI .u64 (shrI .u64 (shrI .u64 n 32) 16) 8)) ∧ (IntKind.wrap .u8 (shrI .u64 (shrI .u64 (shrI .u64 n 32) 16) 8)) < (bytes8.size : Int)) ∧ Q (.int .i64 (IntKind.wrap .i64 ((IntKind.wrap .i64 ((IntKind.wrap .i64 (32 + 16)) + 8)) + (IntKind.wrap .i64 (bt bytes8 (IntKind.wrap .u8 (shrI .u64 (shrI .u64 (shrI .u64 n 32) 16) 8))))))) h) (((0 : Int) ≤ (IntKind.wrap .u8 (shrI .u64 (shrI .u64 n 32) 16)) ∧ (IntKind.wrap .u8 (shrI .u64 (shrI .u64 n 32) 16)) < (bytes8.size : Int)) ∧ Q (.int .i64 (IntKind.wrap .i64 ((IntKind.wrap .i64 (32 + 16)) + (IntKind.wrap .i64 (bt bytes8 (IntKind.wrap .u8 (shrI .u64 (shrI .u64 n 32) 16))))))) h)) (par ((256 : Int) ≤ (shrI .u64 n 32)) ((0 : Int) ≤ 8 ∧ ((0 : Int) ≤ (IntKind.wrap .u8 (shrI .u64 (shrI .u64 n 32) 8)) ∧ (IntKind.wrap .u8 (shrI .u64 (shrI .u64 n 32) 8)) < (bytes8.size : Int)) ∧ Q (.int .i64 (IntKind.wrap .i64 ((IntKind.wrap .i64 (32 + 8)) + (IntKind.wrap .i64 (bt bytes8 (IntKind.wrap .u8 (shrI .u64 (shrI .u64 n 32) 8))))))) h) (((0 : Int) ≤ (IntKind.wrap .u8 (shrI .u64 n 32)) ∧ (IntKind.wrap .u8 (shrI .u64 n 32)) < (bytes8.size : Int)) ∧ Q (.int .i64 (IntKind.wrap .i64 (32 + (IntKind.wrap .i64 (bt bytes8 (IntKind.wrap .u8 (shrI .u64 n 32))))))) h))) (par ((65536 : Int) ≤ n) ((0 : Int) ≤ 16 ∧ par ((256 : Int) ≤ (shrI .u64 n 16)) ((0 : Int) ≤ 8 ∧ ((0 : Int) ≤ (IntKind.wrap .u8 (shrI .u64 (shrI .u64 n 16) 8)) ∧ (IntKind.wrap .u8 (shrI .u64 (shrI .u64 n 16) 8)) < (bytes8.size : Int)) ∧ Q (.int .i64 (IntKind.wrap .i64 ((IntKind.wrap .i64 ((IntKind.wrap .i64 (0 + 16)) + 8)) + (IntKind.wrap .i64 (bt bytes8 (IntKind.wrap .u8 (shrI .u64 (shrI .u64 n 16) 8))))))) h) (((0 : Int) ≤ (IntKind.wrap .u8 (shrI .u64 n 16)) ∧ (IntKind.wrap .u8 (shrI .u64 n 16)) < (bytes8.size : Int)) ∧ Q (.int .i64 (IntKind.wrap .i64 ((IntKind.wrap .i64 (0 + 16)) + (IntKind.wrap .i64 (bt bytes8 (IntKind.wrap .u8 (shrI .u64 n 16))))))) h)) (par ((256 : Int) ≤ n) ((0 : Int) ≤ 8 ∧ ((0 : Int) ≤ (IntKind.wrap .u8 (shrI .u64 n 8)) ∧ (IntKind.wrap .u8 (shrI .u64 n 8)) < (bytes8.size : Int)) ∧ Q (.int .i64 (IntKind.wrap .i64 ((IntKind.wrap .i64 (0 + 8)) + (IntKind.wrap .i64 (bt bytes8 (IntKind.wrap .u8 (shrI .u64 n 8))))))) h) (((0 : Int) ≤ (IntKind.wrap .u8 n) ∧ (IntKind.wrap .u8 n) < (bytes8.size : Int)) ∧ Q (.int .i64 (IntKind.wrap .i64 (0 + (IntKind.wrap .i64 (bt bytes8 (IntKind.wrap .u8 n)))))) h)))
theorem F101.den (V n) : denF Try.prog [] [] V [] Try.f101 [.v (.int .u64 n)] = F101.T n := by kernel_rfl
def F101.W (T101 : Int → PT) (args : List Value) : PT := match args with
  | [.int .u64 n] => T101 n
  | _ => fun _ _ => False
def F101.V : List Value → PT := F101.W F101.T
theorem F101.ok : FOk Try.prog 101 F101.V := by
  refine ⟨⟨_, Try.func101, rfl, rfl⟩, fun args => ?_⟩
  unfold F101.V F101.W
  split
  · exact denF_okE (GOk.nil) noV_ok Try.func101 (F101.den noV _)
  · exact fun _ _ h => h.elim
@[reducible] def F83.G (T101 : Int → PT) (n : Int) : PT := fun h Q =>
  T101 n h fun r h1 => retI .i64 r fun n1 => Q (.int .i64 n1) h1
def F83.T := F83.G F101.T
theorem F83.gen (V T101 n) : denF Try.prog [] [(101, F101.W T101)] V [] Try.f83 [.v (.int .u64 n)] = F83.G T101 n := by kernel_rfl
def F83.W (T83 : Int → PT) (args : List Value) : PT := match args with
  | [.int .u64 n] => T83 n
  | _ => fun _ _ => False
def F83.V : List Value → PT := F83.W F83.T
theorem F83.ok : FOk Try.prog 83 F83.V := by
  refine ⟨⟨_, Try.func83, rfl, rfl⟩, fun args => ?_⟩
  unfold F83.V F83.W
  split
  · exact denF_okE (GOk.cons F101.ok (GOk.nil)) noV_ok Try.func83 (F83.gen noV F101.T _)
  · exact fun _ _ h => h.elim
@[reducible] def F105.G (T83 : Int → PT) (n : Int) : PT := fun h Q =>
  T83 (IntKind.wrap .u64 n) h fun r h1 => retI .i64 r fun n1 => (0 : Int) ≤ n1 ∧ Q (.int .u64 (shlI .u64 1 n1)) h1
def F105.T := F105.G F83.T
theorem F105.gen (V T83 n) : denF Try.prog [] [(83, F83.W T83)] V [] Try.f105 [.v (.int .i64 n)] = F105.G T83 n := by kernel_rfl
def F105.W (T105 : Int → PT) (args : List Value) : PT := match args with
  | [.int .i64 n] => T105 n
  | _ => fun _ _ => False
def F105.V : List Value → PT := F105.W F105.T
theorem F105.ok : FOk Try.prog 105 F105.V := by
  refine ⟨⟨_, Try.func105, rfl, rfl⟩, fun args => ?_⟩
  unfold F105.V F105.W
  split
  · exact denF_okE (GOk.cons F83.ok (GOk.nil)) noV_ok Try.func105 (F105.gen noV F83.T _)
  · exact fun _ _ h => h.elim
def F106.T (p : Option Addr) : PT := fun h Q =>
  dr p fun b o => ldI .u64 h b o fun n => dr p fun b1 o1 => ldI .u64 h b1 o1 fun n1 => (0 : Int) ≤ 13 ∧ dr p fun b2 o2 => st h b2 o2 1 [.int .u64 (bitsI .xor .u64 n (shlI .u64 n1 13))] fun h1 => dr p fun b3 o3 => ldI .u64 h1 b3 o3 fun n2 => dr p fun b4 o4 => ldI .u64 h1 b4 o4 fun n3 => (0 : Int) ≤ 7 ∧ dr p fun b5 o5 => st h1 b5 o5 1 [.int .u64 (bitsI .xor .u64 n2 (shrI .u64 n3 7))] fun h2 => dr p fun b6 o6 => ldI .u64 h2 b6 o6 fun n4 => dr p fun b7 o7 => ldI .u64 h2 b7 o7 fun n5 => (0 : Int) ≤ 17 ∧ dr p fun b8 o8 => st h2 b8 o8 1 [.int .u64 (bitsI .xor .u64 n4 (shlI .u64 n5 17))] fun h3 => dr p fun b9 o9 => ldI .u64 h3 b9 o9 fun n6 => Q (.int .u64 n6) h3
theorem F106.den (V p) : denF Try.prog [] [] V [(6, .order [0, 1, 2, 3, 4, 5, 6, 7, 8, 9]), (14, .order [0, 1, 2, 3, 4, 5, 6, 7, 8, 9]), (30, .order [0, 1, 2, 3, 4, 5, 6, 7, 8, 9])] Try.f106 [.v (.pointer p)] = F106.T p := by kernel_rfl
def F106.W (T106 : Option Addr → PT) (args : List Value) : PT := match args with
  | [.pointer p] => T106 p
  | _ => fun _ _ => False
def F106.V : List Value → PT := F106.W F106.T
theorem F106.ok : FOk Try.prog 106 F106.V := by
  refine ⟨⟨_, Try.func106, rfl, rfl⟩, fun args => ?_⟩
  unfold F106.V F106.W
  split
  · exact denF_okE (GOk.nil) noV_ok Try.func106 (F106.den noV _)
  · exact fun _ _ h => h.elim
@[reducible] def F93.G (T105 : Int → PT) (T106 : Option Addr → PT) (l : Sl) (n n1 : Int) : PT := fun h Q =>
  par ((8 : Int) ≤ (IntKind.wrap .i64 (n1 - n))) (nw h (.cells ⟨[.int .u64 0]⟩ 151 (0, 0)) fun b h1 => st h1 b 0 1 [.int .u64 (IntKind.wrap .u64 (IntKind.wrap .i64 (n1 - n)))] fun h2 => T105 (IntKind.wrap .i64 (n1 - n)) h2 fun r h3 => retI .u64 r fun n2 => (4 : Int) ≠ 0 ∧ ∃ (I : Int → Hp → Prop) (m : Int → Hp → Nat), I (IntKind.wrap .i64 ((IntKind.wrap .i64 (n + (IntKind.wrap .i64 ((IntKind.wrap .i64 (Int.tdiv (IntKind.wrap .i64 (n1 - n)) 4)) * 2)))) - 1)) h3 ∧ (∀ n3 : Int, ∀ h4 : Hp, I n3 h4 → (4 : Int) ≠ 0 ∧ par (n3 ≤ (IntKind.wrap .i64 ((IntKind.wrap .i64 (n + (IntKind.wrap .i64 ((IntKind.wrap .i64 (Int.tdiv (IntKind.wrap .i64 (n1 - n)) 4)) * 2)))) + 1))) (T106 (some ⟨b, 0, none⟩) h4 fun r1 h5 => retI .u64 r1 fun n4 => par ((IntKind.wrap .i64 (n1 - n)) ≤ (IntKind.wrap .i64 (bitsI .and .u64 n4 (IntKind.wrap .u64 (n2 - 1))))) (ix l.a (IntKind.wrap .i64 (n + (IntKind.wrap .i64 ((IntKind.wrap .i64 (bitsI .and .u64 n4 (IntKind.wrap .u64 (n2 - 1)))) - (IntKind.wrap .i64 (n1 - n)))))) l.n fun b1 o => ldI .u64 h5 b1 (o + ((IntKind.wrap .i64 (n + (IntKind.wrap .i64 ((IntKind.wrap .i64 (bitsI .and .u64 n4 (IntKind.wrap .u64 (n2 - 1)))) - (IntKind.wrap .i64 (n1 - n))))))).toNat) fun n5 => ix l.a n3 l.n fun b2 o1 => ldI .u64 h5 b2 (o1 + n3.toNat) fun n6 => ix l.a n3 l.n fun b3 o2 => st h5 b3 (o2 + n3.toNat) 1 [.int .u64 n5] fun h6 => ix l.a (IntKind.wrap .i64 (n + (IntKind.wrap .i64 ((IntKind.wrap .i64 (bitsI .and .u64 n4 (IntKind.wrap .u64 (n2 - 1)))) - (IntKind.wrap .i64 (n1 - n)))))) l.n fun b4 o3 => st h6 b4 (o3 + ((IntKind.wrap .i64 (n + (IntKind.wrap .i64 ((IntKind.wrap .i64 (bitsI .and .u64 n4 (IntKind.wrap .u64 (n2 - 1)))) - (IntKind.wrap .i64 (n1 - n))))))).toNat) 1 [.int .u64 n6] fun h7 => I (IntKind.wrap .i64 (n3 + 1)) h7 ∧ m (IntKind.wrap .i64 (n3 + 1)) h7 < m n3 h4) (ix l.a (IntKind.wrap .i64 (n + (IntKind.wrap .i64 (bitsI .and .u64 n4 (IntKind.wrap .u64 (n2 - 1)))))) l.n fun b5 o4 => ldI .u64 h5 b5 (o4 + ((IntKind.wrap .i64 (n + (IntKind.wrap .i64 (bitsI .and .u64 n4 (IntKind.wrap .u64 (n2 - 1))))))).toNat) fun n7 => ix l.a n3 l.n fun b6 o5 => ldI .u64 h5 b6 (o5 + n3.toNat) fun n8 => ix l.a n3 l.n fun b7 o6 => st h5 b7 (o6 + n3.toNat) 1 [.int .u64 n7] fun h8 => ix l.a (IntKind.wrap .i64 (n + (IntKind.wrap .i64 (bitsI .and .u64 n4 (IntKind.wrap .u64 (n2 - 1)))))) l.n fun b8 o7 => st h8 b8 (o7 + ((IntKind.wrap .i64 (n + (IntKind.wrap .i64 (bitsI .and .u64 n4 (IntKind.wrap .u64 (n2 - 1))))))).toNat) 1 [.int .u64 n8] fun h9 => I (IntKind.wrap .i64 (n3 + 1)) h9 ∧ m (IntKind.wrap .i64 (n3 + 1)) h9 < m n3 h4)) (Q (.tuple ⟨[]⟩) h4))) (Q (.tuple ⟨[]⟩) h)
def F93.T := F93.G F105.T F106.T
theorem F93.gen (V T105 T106 l n n1) : denF Try.prog [] [(105, F105.W T105), (106, F106.W T106)] V [(238, .loop [(9, .int .i64)] []), (15251, .order [0, 1, 2, 3, 4, 5, 6, 7, 8, 9, 10, 11, 12, 13, 14, 15, 16, 17, 18, 19])] Try.f93 [.v (.slice l.a l.n l.c), .v (.int .i64 n), .v (.int .i64 n1)] = F93.G T105 T106 l n n1 := by kernel_rfl
def F93.W (T93 : Sl → Int → Int → PT) (args : List Value) : PT := match args with
  | [.slice l_a l_n l_c, .int .i64 n, .int .i64 n1] => T93 ⟨l_a, l_n, l_c⟩ n n1
  | _ => fun _ _ => False
def F93.V : List Value → PT := F93.W F93.T
theorem F93.ok : FOk Try.prog 93 F93.V := by
  refine ⟨⟨_, Try.func93, rfl, rfl⟩, fun args => ?_⟩
  unfold F93.V F93.W
  split
  · exact denF_okE (GOk.cons F105.ok (GOk.cons F106.ok (GOk.nil))) noV_ok Try.func93 (F93.gen noV F105.T F106.T ⟨_, _, _⟩ _ _)
  · exact fun _ _ h => h.elim
@[reducible] def F112.G (T97 : Int → Int → PT) (l : Sl) (n n1 : Int) (p : Option Addr) : PT := fun h Q =>
  ix l.a n1 l.n fun b o => ldI .u64 h b (o + n1.toNat) fun n2 => ix l.a n l.n fun b1 o1 => ldI .u64 h b1 (o1 + n.toNat) fun n3 => T97 n2 n3 h fun r h1 => retB r (dr p fun b2 o2 => ldI .i64 h1 b2 o2 fun n4 => dr p fun b3 o3 => st h1 b3 o3 1 [.int .i64 (IntKind.wrap .i64 (n4 + 1))] fun h2 => Q (.tuple ⟨[.int .i64 n1, .int .i64 n]⟩) h2) (Q (.tuple ⟨[.int .i64 n, .int .i64 n1]⟩) h1)
def F112.T := F112.G F97.T
theorem F112.gen (V T97 l n n1 p) : denF Try.prog [] [(97, F97.W T97)] V [(12, .order [0, 1, 2, 3, 4, 5, 6, 7, 8])] Try.f112 [.v (.slice l.a l.n l.c), .v (.int .i64 n), .v (.int .i64 n1), .v (.pointer p)] = F112.G T97 l n n1 p := by kernel_rfl
def F112.W (T112 : Sl → Int → Int → Option Addr → PT) (args : List Value) : PT := match args with
  | [.slice l_a l_n l_c, .int .i64 n, .int .i64 n1, .pointer p] => T112 ⟨l_a, l_n, l_c⟩ n n1 p
  | _ => fun _ _ => False
def F112.V : List Value → PT := F112.W F112.T
theorem F112.ok : FOk Try.prog 112 F112.V := by
  refine ⟨⟨_, Try.func112, rfl, rfl⟩, fun args => ?_⟩
  unfold F112.V F112.W
  split
  · exact denF_okE (GOk.cons F97.ok (GOk.nil)) noV_ok Try.func112 (F112.gen noV F97.T ⟨_, _, _⟩ _ _ _)
  · exact fun _ _ h => h.elim
@[reducible] def F108.G (T112 : Sl → Int → Int → Option Addr → PT) (l : Sl) (n n1 n2 : Int) (p : Option Addr) : PT := fun h Q =>
  T112 l n n1 p h fun r h1 => ∃ n3 n4 : Int, r = .tuple ⟨[.int .i64 n3, .int .i64 n4]⟩ ∧ T112 l n4 n2 p h1 fun r1 h2 => ∃ n5 n6 : Int, r1 = .tuple ⟨[.int .i64 n5, .int .i64 n6]⟩ ∧ T112 l n3 n5 p h2 fun r2 h3 => ∃ n7 n8 : Int, r2 = .tuple ⟨[.int .i64 n7, .int .i64 n8]⟩ ∧ Q (.int .i64 n8) h3
def F108.T := F108.G F112.T
theorem F108.gen (V T112 l n n1 n2 p) : denF Try.prog [] [(112, F112.W T112)] V [] Try.f108 [.v (.slice l.a l.n l.c), .v (.int .i64 n), .v (.int .i64 n1), .v (.int .i64 n2), .v (.pointer p)] = F108.G T112 l n n1 n2 p := by kernel_rfl
def F108.W (T108 : Sl → Int → Int → Int → Option Addr → PT) (args : List Value) : PT := match args with
  | [.slice l_a l_n l_c, .int .i64 n, .int .i64 n1, .int .i64 n2, .pointer p] => T108 ⟨l_a, l_n, l_c⟩ n n1 n2 p
  | _ => fun _ _ => False
def F108.V : List Value → PT := F108.W F108.T
theorem F108.ok : FOk Try.prog 108 F108.V := by
  refine ⟨⟨_, Try.func108, rfl, rfl⟩, fun args => ?_⟩
  unfold F108.V F108.W
  split
  · exact denF_okE (GOk.cons F112.ok (GOk.nil)) noV_ok Try.func108 (F108.gen noV F112.T ⟨_, _, _⟩ _ _ _ _)
  · exact fun _ _ h => h.elim
@[reducible] def F107.G (T108 : Sl → Int → Int → Int → Option Addr → PT) (l : Sl) (n : Int) (p : Option Addr) : PT := fun h Q =>
  T108 l (IntKind.wrap .i64 (n - 1)) n (IntKind.wrap .i64 (n + 1)) p h fun r h1 => retI .i64 r fun n1 => Q (.int .i64 n1) h1
def F107.T := F107.G F108.T
theorem F107.gen (V T108 l n p) : denF Try.prog [] [(108, F108.W T108)] V [] Try.f107 [.v (.slice l.a l.n l.c), .v (.int .i64 n), .v (.pointer p)] = F107.G T108 l n p := by kernel_rfl
def F107.W (T107 : Sl → Int → Option Addr → PT) (args : List Value) : PT := match args with
  | [.slice l_a l_n l_c, .int .i64 n, .pointer p] => T107 ⟨l_a, l_n, l_c⟩ n p
  | _ => fun _ _ => False
def F107.V : List Value → PT := F107.W F107.T
theorem F107.ok : FOk Try.prog 107 F107.V := by
  refine ⟨⟨_, Try.func107, rfl, rfl⟩, fun args => ?_⟩
  unfold F107.V F107.W
  split
  · exact denF_okE (GOk.cons F108.ok (GOk.nil)) noV_ok Try.func107 (F107.gen noV F108.T ⟨_, _, _⟩ _ _)
  · exact fun _ _ h => h.elim
@[reducible] def F94.G (T107 : Sl → Int → Option Addr → PT) (T108 : Sl → Int → Int → Int → Option Addr → PT) (l : Sl) (n n1 : Int) : PT := fun h Q =>
  nw h (.cells ⟨[.int .i64 0]⟩ 3 (0, 0)) fun b h1 => (4 : Int) ≠ 0 ∧ (4 : Int) ≠ 0 ∧ (4 : Int) ≠ 0 ∧ ∃ J : Int → Hp → Prop, (∀ n2 : Int, ∀ h2 : Hp, J n2 h2 → ldI .i64 h2 b 0 fun n3 => par (n3 = 0) (Q (.tuple ⟨[.int .i64 n2, .int .i64 1]⟩) h2) (par (n3 = 12) (Q (.tuple ⟨[.int .i64 n2, .int .i64 2]⟩) h2) (Q (.tuple ⟨[.int .i64 n2, .int .i64 0]⟩) h2))) ∧ (par ((8 : Int) ≤ (IntKind.wrap .i64 (n1 - n))) (par ((50 : Int) ≤ (IntKind.wrap .i64 (n1 - n))) (T107 l (IntKind.wrap .i64 (n + (IntKind.wrap .i64 ((IntKind.wrap .i64 (Int.tdiv (IntKind.wrap .i64 (n1 - n)) 4)) * 1)))) (some ⟨b, 0, none⟩) h1 fun r h3 => retI .i64 r fun n4 => T107 l (IntKind.wrap .i64 (n + (IntKind.wrap .i64 ((IntKind.wrap .i64 (Int.tdiv (IntKind.wrap .i64 (n1 - n)) 4)) * 2)))) (some ⟨b, 0, none⟩) h3 fun r1 h4 => retI .i64 r1 fun n5 => T107 l (IntKind.wrap .i64 (n + (IntKind.wrap .i64 ((IntKind.wrap .i64 (Int.tdiv (IntKind.wrap .i64 (n1 - n)) 4)) * 3)))) (some ⟨b, 0, none⟩) h4 fun r2 h5 => retI .i64 r2 fun n6 => T108 l n4 n5 n6 (some ⟨b, 0, none⟩) h5 fun r3 h6 => retI .i64 r3 fun n7 => J n7 h6) (T108 l (IntKind.wrap .i64 (n + (IntKind.wrap .i64 ((IntKind.wrap .i64 (Int.tdiv (IntKind.wrap .i64 (n1 - n)) 4)) * 1)))) (IntKind.wrap .i64 (n + (IntKind.wrap .i64 ((IntKind.wrap .i64 (Int.tdiv (IntKind.wrap .i64 (n1 - n)) 4)) * 2)))) (IntKind.wrap .i64 (n + (IntKind.wrap .i64 ((IntKind.wrap .i64 (Int.tdiv (IntKind.wrap .i64 (n1 - n)) 4)) * 3)))) (some ⟨b, 0, none⟩) h1 fun r4 h7 => retI .i64 r4 fun n8 => J n8 h7)) (J (IntKind.wrap .i64 (n + (IntKind.wrap .i64 ((IntKind.wrap .i64 (Int.tdiv (IntKind.wrap .i64 (n1 - n)) 4)) * 2)))) h1))
def F94.T := F94.G F107.T F108.T
theorem F94.gen (V T107 T108 l n n1) : denF Try.prog [] [(107, F107.W T107), (108, F108.W T108)] V [(127, .join [(11, .int .i64)] [])] Try.f94 [.v (.slice l.a l.n l.c), .v (.int .i64 n), .v (.int .i64 n1)] = F94.G T107 T108 l n n1 := by kernel_rfl
def F94.W (T94 : Sl → Int → Int → PT) (args : List Value) : PT := match args with
  | [.slice l_a l_n l_c, .int .i64 n, .int .i64 n1] => T94 ⟨l_a, l_n, l_c⟩ n n1
  | _ => fun _ _ => False
def F94.V : List Value → PT := F94.W F94.T
theorem F94.ok : FOk Try.prog 94 F94.V := by
  refine ⟨⟨_, Try.func94, rfl, rfl⟩, fun args => ?_⟩
  unfold F94.V F94.W
  split
  · exact denF_okE (GOk.cons F107.ok (GOk.cons F108.ok (GOk.nil))) noV_ok Try.func94 (F94.gen noV F107.T F108.T ⟨_, _, _⟩ _ _)
  · exact fun _ _ h => h.elim
def F95.T (l : Sl) (n n1 : Int) : PT := fun h Q =>
  ∃ (I : Int → Int → Hp → Prop) (m : Int → Int → Hp → Nat), I n (IntKind.wrap .i64 (n1 - 1)) h ∧ (∀ n2 n3 : Int, ∀ h1 : Hp, I n2 n3 h1 → par (n2 < n3) (ix l.a n3 l.n fun b o => ldI .u64 h1 b (o + n3.toNat) fun n4 => ix l.a n2 l.n fun b1 o1 => ldI .u64 h1 b1 (o1 + n2.toNat) fun n5 => ix l.a n2 l.n fun b2 o2 => st h1 b2 (o2 + n2.toNat) 1 [.int .u64 n4] fun h2 => ix l.a n3 l.n fun b3 o3 => st h2 b3 (o3 + n3.toNat) 1 [.int .u64 n5] fun h3 => I (IntKind.wrap .i64 (n2 + 1)) (IntKind.wrap .i64 (n3 - 1)) h3 ∧ m (IntKind.wrap .i64 (n2 + 1)) (IntKind.wrap .i64 (n3 - 1)) h3 < m n2 n3 h1) (Q (.tuple ⟨[]⟩) h1))
theorem F95.den (V l n n1) : denF Try.prog [] [] V [(14, .loop [(6, .int .i64), (7, .int .i64)] []), (228, .order [0, 1, 2, 3, 4, 5, 6, 7, 8, 9, 10, 11, 12, 13, 14, 15])] Try.f95 [.v (.slice l.a l.n l.c), .v (.int .i64 n), .v (.int .i64 n1)] = F95.T l n n1 := by kernel_rfl
def F95.W (T95 : Sl → Int → Int → PT) (args : List Value) : PT := match args with
  | [.slice l_a l_n l_c, .int .i64 n, .int .i64 n1] => T95 ⟨l_a, l_n, l_c⟩ n n1
  | _ => fun _ _ => False
def F95.V : List Value → PT := F95.W F95.T
theorem F95.ok : FOk Try.prog 95 F95.V := by
  refine ⟨⟨_, Try.func95, rfl, rfl⟩, fun args => ?_⟩
  unfold F95.V F95.W
  split
  · exact denF_okE (GOk.nil) noV_ok Try.func95 (F95.den noV ⟨_, _, _⟩ _ _)
  · exact fun _ _ h => h.elim
@[reducible] def F96.G (T97 : Int → Int → PT) (l : Sl) (n n1 : Int) : PT := fun h Q =>
  ∃ (I : Int → Int → Hp → Prop) (m : Int → Int → Hp → Nat), I (IntKind.wrap .i64 (n + 1)) 0 h ∧ (∀ n2 n3 : Int, ∀ h1 : Hp, I n2 n3 h1 → par (n3 < 5) (∃ J : Int → Hp → Prop, (∀ n4 : Int, ∀ h2 : Hp, J n4 h2 → par (n4 = n1) (Q (.bool true) h2) (par ((IntKind.wrap .i64 (n1 - n)) < 50) (Q (.bool false) h2) (ix l.a (IntKind.wrap .i64 (n4 - 1)) l.n fun b o => ldI .u64 h2 b (o + ((IntKind.wrap .i64 (n4 - 1))).toNat) fun n5 => ix l.a n4 l.n fun b1 o1 => ldI .u64 h2 b1 (o1 + n4.toNat) fun n6 => ix l.a n4 l.n fun b2 o2 => st h2 b2 (o2 + n4.toNat) 1 [.int .u64 n5] fun h3 => ix l.a (IntKind.wrap .i64 (n4 - 1)) l.n fun b3 o3 => st h3 b3 (o3 + ((IntKind.wrap .i64 (n4 - 1))).toNat) 1 [.int .u64 n6] fun h4 => ∃ J1 : Hp → Prop, (∀ h5 : Hp, J1 h5 → par ((2 : Int) ≤ (IntKind.wrap .i64 (n1 - n4))) (∃ (I1 : Int → Hp → Prop) (m1 : Int → Hp → Nat), I1 (IntKind.wrap .i64 (n4 + 1)) h5 ∧ (∀ n7 : Int, ∀ h6 : Hp, I1 n7 h6 → par (n7 < n1) (ix l.a n7 l.n fun b4 o4 => ldI .u64 h6 b4 (o4 + n7.toNat) fun n8 => ix l.a (IntKind.wrap .i64 (n7 - 1)) l.n fun b5 o5 => ldI .u64 h6 b5 (o5 + ((IntKind.wrap .i64 (n7 - 1))).toNat) fun n9 => T97 n8 n9 h6 fun r h7 => retB r (ix l.a (IntKind.wrap .i64 (n7 - 1)) l.n fun b6 o6 => ldI .u64 h7 b6 (o6 + ((IntKind.wrap .i64 (n7 - 1))).toNat) fun n10 => ix l.a n7 l.n fun b7 o7 => ldI .u64 h7 b7 (o7 + n7.toNat) fun n11 => ix l.a n7 l.n fun b8 o8 => st h7 b8 (o8 + n7.toNat) 1 [.int .u64 n10] fun h8 => ix l.a (IntKind.wrap .i64 (n7 - 1)) l.n fun b9 o9 => st h8 b9 (o9 + ((IntKind.wrap .i64 (n7 - 1))).toNat) 1 [.int .u64 n11] fun h9 => I1 (IntKind.wrap .i64 (n7 + 1)) h9 ∧ m1 (IntKind.wrap .i64 (n7 + 1)) h9 < m1 n7 h6) (I n4 (IntKind.wrap .i64 (n3 + 1)) h7 ∧ m n4 (IntKind.wrap .i64 (n3 + 1)) h7 < m n2 n3 h1)) (I n4 (IntKind.wrap .i64 (n3 + 1)) h6 ∧ m n4 (IntKind.wrap .i64 (n3 + 1)) h6 < m n2 n3 h1))) (I n4 (IntKind.wrap .i64 (n3 + 1)) h5 ∧ m n4 (IntKind.wrap .i64 (n3 + 1)) h5 < m n2 n3 h1)) ∧ (par ((2 : Int) ≤ (IntKind.wrap .i64 (n4 - n))) (∃ (I2 : Int → Hp → Prop) (m2 : Int → Hp → Nat), I2 (IntKind.wrap .i64 (n4 - 1)) h4 ∧ (∀ n12 : Int, ∀ h10 : Hp, I2 n12 h10 → par ((1 : Int) ≤ n12) (ix l.a n12 l.n fun b10 o10 => ldI .u64 h10 b10 (o10 + n12.toNat) fun n13 => ix l.a (IntKind.wrap .i64 (n12 - 1)) l.n fun b11 o11 => ldI .u64 h10 b11 (o11 + ((IntKind.wrap .i64 (n12 - 1))).toNat) fun n14 => T97 n13 n14 h10 fun r1 h11 => retB r1 (ix l.a (IntKind.wrap .i64 (n12 - 1)) l.n fun b12 o12 => ldI .u64 h11 b12 (o12 + ((IntKind.wrap .i64 (n12 - 1))).toNat) fun n15 => ix l.a n12 l.n fun b13 o13 => ldI .u64 h11 b13 (o13 + n12.toNat) fun n16 => ix l.a n12 l.n fun b14 o14 => st h11 b14 (o14 + n12.toNat) 1 [.int .u64 n15] fun h12 => ix l.a (IntKind.wrap .i64 (n12 - 1)) l.n fun b15 o15 => st h12 b15 (o15 + ((IntKind.wrap .i64 (n12 - 1))).toNat) 1 [.int .u64 n16] fun h13 => I2 (IntKind.wrap .i64 (n12 - 1)) h13 ∧ m2 (IntKind.wrap .i64 (n12 - 1)) h13 < m2 n12 h10) (J1 h11)) (J1 h10))) (J1 h4))))) ∧ (∃ (I3 : Int → Hp → Prop) (m3 : Int → Hp → Nat), I3 n2 h1 ∧ (∀ n17 : Int, ∀ h14 : Hp, I3 n17 h14 → par (n17 < n1) (ix l.a n17 l.n fun b16 o16 => ldI .u64 h14 b16 (o16 + n17.toNat) fun n18 => ix l.a (IntKind.wrap .i64 (n17 - 1)) l.n fun b17 o17 => ldI .u64 h14 b17 (o17 + ((IntKind.wrap .i64 (n17 - 1))).toNat) fun n19 => T97 n18 n19 h14 fun r2 h15 => retB r2 (J n17 h15) (I3 (IntKind.wrap .i64 (n17 + 1)) h15 ∧ m3 (IntKind.wrap .i64 (n17 + 1)) h15 < m3 n17 h14)) (J n17 h14)))) (Q (.bool false) h1))
def F96.T := F96.G F97.T
theorem F96.gen (V T97 l n n1) : denF Try.prog [] [(97, F97.W T97)] V [(58, .loop [(7, .int .i64), (8, .int .i64)] []), (932, .join [(7, .int .i64)] []), (3728, .loop [(7, .int .i64)] []), (14926, .order [0, 1, 2, 3, 4, 5, 6, 7, 8, 9, 10, 11, 12, 13, 14, 15, 16, 17]), (14927, .join [] []), (29824, .order [0, 1, 2, 3, 4, 5, 6, 7, 8, 9, 10, 11, 12, 13, 14, 15]), (477674, .loop [(9, .int .i64)] []), (477690, .loop [(10, .int .i64)] []), (15285577, .order [0, 1, 2, 3, 4, 5, 6, 7, 8, 9, 10, 11, 12, 13, 14, 15, 16, 17]), (15286089, .order [0, 1, 2, 3, 4, 5, 6, 7, 8, 9, 10, 11, 12, 13, 14, 15, 16, 17]), (30571152, .order [0, 1, 2, 3, 4, 5, 6, 7, 8, 9, 10]), (30572176, .order [0, 1, 2, 3, 4, 5, 6, 7, 8, 9, 10])] Try.f96 [.v (.slice l.a l.n l.c), .v (.int .i64 n), .v (.int .i64 n1)] = F96.G T97 l n n1 := by kernel_rfl
def F96.W (T96 : Sl → Int → Int → PT) (args : List Value) : PT := match args with
  | [.slice l_a l_n l_c, .int .i64 n, .int .i64 n1] => T96 ⟨l_a, l_n, l_c⟩ n n1
  | _ => fun _ _ => False
def F96.V : List Value → PT := F96.W F96.T
theorem F96.ok : FOk Try.prog 96 F96.V := by
  refine ⟨⟨_, Try.func96, rfl, rfl⟩, fun args => ?_⟩
  unfold F96.V F96.W
  split
  · exact denF_okE (GOk.cons F97.ok (GOk.nil)) noV_ok Try.func96 (F96.gen noV F97.T ⟨_, _, _⟩ _ _)
  · exact fun _ _ h => h.elim
@[reducible] def F98.G (T97 : Int → Int → PT) (l : Sl) (n n1 n2 : Int) : PT := fun h Q =>
  ix l.a n2 l.n fun b o => ldI .u64 h b (o + n2.toNat) fun n3 => ix l.a n l.n fun b1 o1 => ldI .u64 h b1 (o1 + n.toNat) fun n4 => ix l.a n l.n fun b2 o2 => st h b2 (o2 + n.toNat) 1 [.int .u64 n3] fun h1 => ix l.a n2 l.n fun b3 o3 => st h1 b3 (o3 + n2.toNat) 1 [.int .u64 n4] fun h2 => ∃ (I : Int → Int → Hp → Prop) (m : Int → Int → Hp → Nat), I (IntKind.wrap .i64 (n + 1)) (IntKind.wrap .i64 (n1 - 1)) h2 ∧ (∀ n5 n6 : Int, ∀ h3 : Hp, I n5 n6 h3 → ∃ J : Int → Hp → Prop, (∀ n7 : Int, ∀ h4 : Hp, J n7 h4 → ∃ (I1 : Int → Hp → Prop) (m1 : Int → Hp → Nat), I1 n6 h4 ∧ (∀ n8 : Int, ∀ h5 : Hp, I1 n8 h5 → par (n7 ≤ n8) (ix l.a n l.n fun b4 o4 => ldI .u64 h5 b4 (o4 + n.toNat) fun n9 => ix l.a n8 l.n fun b5 o5 => ldI .u64 h5 b5 (o5 + n8.toNat) fun n10 => T97 n9 n10 h5 fun r h6 => retB r (I1 (IntKind.wrap .i64 (n8 - 1)) h6 ∧ m1 (IntKind.wrap .i64 (n8 - 1)) h6 < m1 n8 h5) (par (n8 < n7) (Q (.int .i64 n7) h6) (ix l.a n8 l.n fun b6 o6 => ldI .u64 h6 b6 (o6 + n8.toNat) fun n11 => ix l.a n7 l.n fun b7 o7 => ldI .u64 h6 b7 (o7 + n7.toNat) fun n12 => ix l.a n7 l.n fun b8 o8 => st h6 b8 (o8 + n7.toNat) 1 [.int .u64 n11] fun h7 => ix l.a n8 l.n fun b9 o9 => st h7 b9 (o9 + n8.toNat) 1 [.int .u64 n12] fun h8 => I (IntKind.wrap .i64 (n7 + 1)) (IntKind.wrap .i64 (n8 - 1)) h8 ∧ m (IntKind.wrap .i64 (n7 + 1)) (IntKind.wrap .i64 (n8 - 1)) h8 < m n5 n6 h3))) (par (n8 < n7) (Q (.int .i64 n7) h5) (ix l.a n8 l.n fun b10 o10 => ldI .u64 h5 b10 (o10 + n8.toNat) fun n13 => ix l.a n7 l.n fun b11 o11 => ldI .u64 h5 b11 (o11 + n7.toNat) fun n14 => ix l.a n7 l.n fun b12 o12 => st h5 b12 (o12 + n7.toNat) 1 [.int .u64 n13] fun h9 => ix l.a n8 l.n fun b13 o13 => st h9 b13 (o13 + n8.toNat) 1 [.int .u64 n14] fun h10 => I (IntKind.wrap .i64 (n7 + 1)) (IntKind.wrap .i64 (n8 - 1)) h10 ∧ m (IntKind.wrap .i64 (n7 + 1)) (IntKind.wrap .i64 (n8 - 1)) h10 < m n5 n6 h3)))) ∧ (∃ (I2 : Int → Hp → Prop) (m2 : Int → Hp → Nat), I2 n5 h3 ∧ (∀ n15 : Int, ∀ h11 : Hp, I2 n15 h11 → par (n15 ≤ n6) (ix l.a n l.n fun b14 o14 => ldI .u64 h11 b14 (o14 + n.toNat) fun n16 => ix l.a n15 l.n fun b15 o15 => ldI .u64 h11 b15 (o15 + n15.toNat) fun n17 => T97 n16 n17 h11 fun r1 h12 => retB r1 (J n15 h12) (I2 (IntKind.wrap .i64 (n15 + 1)) h12 ∧ m2 (IntKind.wrap .i64 (n15 + 1)) h12 < m2 n15 h11)) (J n15 h11))))
def F98.T := F98.G F97.T
theorem F98.gen (V T97 l n n1 n2) : denF Try.prog [] [(97, F97.W T97)] V [(6, .order [0, 1, 2, 3, 4, 5, 6, 7, 8, 9, 10, 11, 12, 13, 14, 15]), (60, .loop [(9, .int .i64), (10, .int .i64)] []), (240, .join [(9, .int .i64)] []), (960, .loop [(9, .int .i64)] []), (1924, .loop [(10, .int .i64)] []), (3854, .order [0, 1, 2, 3, 4, 5, 6, 7, 8, 9, 10, 11, 12, 13, 14, 15]), (7680, .order [0, 1, 2, 3, 4, 5, 6, 7, 8, 9, 10, 11, 12, 13, 14]), (15392, .order [0, 1, 2, 3, 4, 5, 6, 7, 8, 9, 10, 11, 12, 13])] Try.f98 [.v (.slice l.a l.n l.c), .v (.int .i64 n), .v (.int .i64 n1), .v (.int .i64 n2)] = F98.G T97 l n n1 n2 := by kernel_rfl
def F98.W (T98 : Sl → Int → Int → Int → PT) (args : List Value) : PT := match args with
  | [.slice l_a l_n l_c, .int .i64 n, .int .i64 n1, .int .i64 n2] => T98 ⟨l_a, l_n, l_c⟩ n n1 n2
  | _ => fun _ _ => False
def F98.V : List Value → PT := F98.W F98.T
theorem F98.ok : FOk Try.prog 98 F98.V := by
  refine ⟨⟨_, Try.func98, rfl, rfl⟩, fun args => ?_⟩
  unfold F98.V F98.W
  split
  · exact denF_okE (GOk.cons F97.ok (GOk.nil)) noV_ok Try.func98 (F98.gen noV F97.T ⟨_, _, _⟩ _ _ _)
  · exact fun _ _ h => h.elim
@[reducible] def F99.G (T97 : Int → Int → PT) (l : Sl) (n n1 n2 : Int) : PT := fun h Q =>
  ix l.a n2 l.n fun b o => ldI .u64 h b (o + n2.toNat) fun n3 => ix l.a n l.n fun b1 o1 => ldI .u64 h b1 (o1 + n.toNat) fun n4 => ix l.a n l.n fun b2 o2 => st h b2 (o2 + n.toNat) 1 [.int .u64 n3] fun h1 => ix l.a n2 l.n fun b3 o3 => st h1 b3 (o3 + n2.toNat) 1 [.int .u64 n4] fun h2 => ∃ J : Int → Hp → Prop, (∀ n5 : Int, ∀ h3 : Hp, J n5 h3 → ∃ J1 : Int → Hp → Prop, (∀ n6 : Int, ∀ h4 : Hp, J1 n6 h4 → par (n6 < n5) (ix l.a n l.n fun b4 o4 => ldI .u64 h4 b4 (o4 + n.toNat) fun n7 => ix l.a n6 l.n fun b5 o5 => ldI .u64 h4 b5 (o5 + n6.toNat) fun n8 => ix l.a n6 l.n fun b6 o6 => st h4 b6 (o6 + n6.toNat) 1 [.int .u64 n7] fun h5 => ix l.a n l.n fun b7 o7 => st h5 b7 (o7 + n.toNat) 1 [.int .u64 n8] fun h6 => Q (.tuple ⟨[.int .i64 n6, .bool true]⟩) h6) (ix l.a n6 l.n fun b8 o8 => ldI .u64 h4 b8 (o8 + n6.toNat) fun n9 => ix l.a n5 l.n fun b9 o9 => ldI .u64 h4 b9 (o9 + n5.toNat) fun n10 => ix l.a n5 l.n fun b10 o10 => st h4 b10 (o10 + n5.toNat) 1 [.int .u64 n9] fun h7 => ix l.a n6 l.n fun b11 o11 => st h7 b11 (o11 + n6.toNat) 1 [.int .u64 n10] fun h8 => ∃ (I : Int → Int → Hp → Prop) (m : Int → Int → Hp → Nat), I (IntKind.wrap .i64 (n5 + 1)) (IntKind.wrap .i64 (n6 - 1)) h8 ∧ (∀ n11 n12 : Int, ∀ h9 : Hp, I n11 n12 h9 → ∃ J2 : Int → Hp → Prop, (∀ n13 : Int, ∀ h10 : Hp, J2 n13 h10 → ∃ (I1 : Int → Hp → Prop) (m1 : Int → Hp → Nat), I1 n12 h10 ∧ (∀ n14 : Int, ∀ h11 : Hp, I1 n14 h11 → par (n13 ≤ n14) (ix l.a n14 l.n fun b12 o12 => ldI .u64 h11 b12 (o12 + n14.toNat) fun n15 => ix l.a n l.n fun b13 o13 => ldI .u64 h11 b13 (o13 + n.toNat) fun n16 => T97 n15 n16 h11 fun r h12 => retB r (par (n14 < n13) (ix l.a n l.n fun b14 o14 => ldI .u64 h12 b14 (o14 + n.toNat) fun n17 => ix l.a n14 l.n fun b15 o15 => ldI .u64 h12 b15 (o15 + n14.toNat) fun n18 => ix l.a n14 l.n fun b16 o16 => st h12 b16 (o16 + n14.toNat) 1 [.int .u64 n17] fun h13 => ix l.a n l.n fun b17 o17 => st h13 b17 (o17 + n.toNat) 1 [.int .u64 n18] fun h14 => Q (.tuple ⟨[.int .i64 n14, .bool false]⟩) h14) (ix l.a n14 l.n fun b18 o18 => ldI .u64 h12 b18 (o18 + n14.toNat) fun n19 => ix l.a n13 l.n fun b19 o19 => ldI .u64 h12 b19 (o19 + n13.toNat) fun n20 => ix l.a n13 l.n fun b20 o20 => st h12 b20 (o20 + n13.toNat) 1 [.int .u64 n19] fun h15 => ix l.a n14 l.n fun b21 o21 => st h15 b21 (o21 + n14.toNat) 1 [.int .u64 n20] fun h16 => I (IntKind.wrap .i64 (n13 + 1)) (IntKind.wrap .i64 (n14 - 1)) h16 ∧ m (IntKind.wrap .i64 (n13 + 1)) (IntKind.wrap .i64 (n14 - 1)) h16 < m n11 n12 h9)) (I1 (IntKind.wrap .i64 (n14 - 1)) h12 ∧ m1 (IntKind.wrap .i64 (n14 - 1)) h12 < m1 n14 h11)) (par (n14 < n13) (ix l.a n l.n fun b22 o22 => ldI .u64 h11 b22 (o22 + n.toNat) fun n21 => ix l.a n14 l.n fun b23 o23 => ldI .u64 h11 b23 (o23 + n14.toNat) fun n22 => ix l.a n14 l.n fun b24 o24 => st h11 b24 (o24 + n14.toNat) 1 [.int .u64 n21] fun h17 => ix l.a n l.n fun b25 o25 => st h17 b25 (o25 + n.toNat) 1 [.int .u64 n22] fun h18 => Q (.tuple ⟨[.int .i64 n14, .bool false]⟩) h18) (ix l.a n14 l.n fun b26 o26 => ldI .u64 h11 b26 (o26 + n14.toNat) fun n23 => ix l.a n13 l.n fun b27 o27 => ldI .u64 h11 b27 (o27 + n13.toNat) fun n24 => ix l.a n13 l.n fun b28 o28 => st h11 b28 (o28 + n13.toNat) 1 [.int .u64 n23] fun h19 => ix l.a n14 l.n fun b29 o29 => st h19 b29 (o29 + n14.toNat) 1 [.int .u64 n24] fun h20 => I (IntKind.wrap .i64 (n13 + 1)) (IntKind.wrap .i64 (n14 - 1)) h20 ∧ m (IntKind.wrap .i64 (n13 + 1)) (IntKind.wrap .i64 (n14 - 1)) h20 < m n11 n12 h9)))) ∧ (∃ (I2 : Int → Hp → Prop) (m2 : Int → Hp → Nat), I2 n11 h9 ∧ (∀ n25 : Int, ∀ h21 : Hp, I2 n25 h21 → par (n25 ≤ n12) (ix l.a n25 l.n fun b30 o30 => ldI .u64 h21 b30 (o30 + n25.toNat) fun n26 => ix l.a n l.n fun b31 o31 => ldI .u64 h21 b31 (o31 + n.toNat) fun n27 => T97 n26 n27 h21 fun r1 h22 => retB r1 (I2 (IntKind.wrap .i64 (n25 + 1)) h22 ∧ m2 (IntKind.wrap .i64 (n25 + 1)) h22 < m2 n25 h21) (J2 n25 h22)) (J2 n25 h21)))))) ∧ (∃ (I3 : Int → Hp → Prop) (m3 : Int → Hp → Nat), I3 (IntKind.wrap .i64 (n1 - 1)) h3 ∧ (∀ n28 : Int, ∀ h23 : Hp, I3 n28 h23 → par (n5 ≤ n28) (ix l.a n28 l.n fun b32 o32 => ldI .u64 h23 b32 (o32 + n28.toNat) fun n29 => ix l.a n l.n fun b33 o33 => ldI .u64 h23 b33 (o33 + n.toNat) fun n30 => T97 n29 n30 h23 fun r2 h24 => retB r2 (J1 n28 h24) (I3 (IntKind.wrap .i64 (n28 - 1)) h24 ∧ m3 (IntKind.wrap .i64 (n28 - 1)) h24 < m3 n28 h23)) (J1 n28 h23)))) ∧ (∃ (I4 : Int → Hp → Prop) (m4 : Int → Hp → Nat), I4 (IntKind.wrap .i64 (n + 1)) h2 ∧ (∀ n31 : Int, ∀ h25 : Hp, I4 n31 h25 → par (n31 ≤ (IntKind.wrap .i64 (n1 - 1))) (ix l.a n31 l.n fun b34 o34 => ldI .u64 h25 b34 (o34 + n31.toNat) fun n32 => ix l.a n l.n fun b35 o35 => ldI .u64 h25 b35 (o35 + n.toNat) fun n33 => T97 n32 n33 h25 fun r3 h26 => retB r3 (I4 (IntKind.wrap .i64 (n31 + 1)) h26 ∧ m4 (IntKind.wrap .i64 (n31 + 1)) h26 < m4 n31 h25) (J n31 h26)) (J n31 h25)))
def F99.T := F99.G F97.T
theorem F99.gen (V T97 l n n1 n2) : denF Try.prog [] [(97, F97.W T97)] V [(6, .order [0, 1, 2, 3, 4, 5, 6, 7, 8, 9, 10, 11, 12, 13, 14, 15]), (15, .join [(10, .int .i64)] []), (31, .join [(11, .int .i64)] []), (60, .loop [(10, .int .i64)] []), (124, .loop [(11, .int .i64)] []), (254, .order [0, 1, 2, 3, 4, 5, 6, 7, 8, 9, 10, 11, 12, 13, 14, 15]), (480, .order [0, 1, 2, 3, 4, 5, 6, 7, 8, 9, 10, 11, 12, 13]), (992, .order [0, 1, 2, 3, 4, 5, 6, 7, 8, 9, 10, 11, 12, 13, 14]), (1012, .order [0, 1, 2, 3, 4, 5, 6, 7, 8, 9, 10, 11, 12, 13, 14, 15]), (4092, .loop [(10, .int .i64), (11, .int .i64)] []), (4094, .order [0, 1, 2, 3, 4, 5, 6, 7, 8, 9, 10, 11, 12, 13, 14, 15]), (16368, .join [(10, .int .i64)] []), (65472, .loop [(10, .int .i64)] []), (130948, .loop [(11, .int .i64)] []), (261902, .order [0, 1, 2, 3, 4, 5, 6, 7, 8, 9, 10, 11, 12, 13, 14, 15]), (523776, .order [0, 1, 2, 3, 4, 5, 6, 7, 8, 9, 10, 11, 12, 13]), (1047584, .order [0, 1, 2, 3, 4, 5, 6, 7, 8, 9, 10, 11, 12, 13, 14])] Try.f99 [.v (.slice l.a l.n l.c), .v (.int .i64 n), .v (.int .i64 n1), .v (.int .i64 n2)] = F99.G T97 l n n1 n2 := by kernel_rfl
def F99.W (T99 : Sl → Int → Int → Int → PT) (args : List Value) : PT := match args with
  | [.slice l_a l_n l_c, .int .i64 n, .int .i64 n1, .int .i64 n2] => T99 ⟨l_a, l_n, l_c⟩ n n1 n2
  | _ => fun _ _ => False
def F99.V : List Value → PT := F99.W F99.T
theorem F99.ok : FOk Try.prog 99 F99.V := by
  refine ⟨⟨_, Try.func99, rfl, rfl⟩, fun args => ?_⟩
  unfold F99.V F99.W
  split
  · exact denF_okE (GOk.cons F97.ok (GOk.nil)) noV_ok Try.func99 (F99.gen noV F97.T ⟨_, _, _⟩ _ _ _)
  · exact fun _ _ h => h.elim
end Go.Eng.Ytbjnlacacapjiaa
end
section
set_option maxRecDepth 100000
open Go.Proofs
namespace Go.Eng.Ytbjnlacacapjiaa
def F82.G (T82 : Sl → Int → Int → Int → PT) (l : Sl) (n n1 n2 : Int) : PT := fun h Q =>
  ∃ (I : Int → Int → Int → Bool → Bool → Hp → Prop) (m : Int → Int → Int → Bool → Bool → Hp → Nat), I n n1 n2 true true h ∧ (∀ n3 n4 n5 : Int, ((∀ h1 : Hp, I n3 n4 n5 true true h1 → par ((IntKind.wrap .i64 (n4 - n3)) ≤ 12) (F91.T l n3 n4 h1 fun r h2 => Q (.tuple ⟨[]⟩) h2) (par (n5 = 0) (F92.T l n3 n4 h1 fun r1 h3 => Q (.tuple ⟨[]⟩) h3) (F94.T l n3 n4 h1 fun r2 h4 => ∃ n6 n7 : Int, r2 = .tuple ⟨[.int .i64 n6, .int .i64 n7]⟩ ∧ ∃ J : Int → Int → Hp → Prop, (∀ n8 n9 : Int, ∀ h5 : Hp, J n8 n9 h5 → ∃ J1 : Hp → Prop, (∀ h6 : Hp, J1 h6 → ∃ J2 : Int → Hp → Prop, (∀ n10 : Int, ∀ h7 : Hp, J2 n10 h7 → F99.T l n10 n4 n8 h7 fun r3 h8 => ∃ n11 : Int, ∃ b2 : Bool, parB b2 (r3 = .tuple ⟨[.int .i64 n11, .bool true]⟩ ∧ (8 : Int) ≠ 0 ∧ par ((IntKind.wrap .i64 (n11 - n10)) < (IntKind.wrap .i64 (n4 - n11))) (par ((IntKind.wrap .i64 (Int.tdiv (IntKind.wrap .i64 (n4 - n3)) 8)) ≤ (IntKind.wrap .i64 (n11 - n10))) (T82 l n10 n11 n5 h8 fun r4 h9 => I (IntKind.wrap .i64 (n11 + 1)) n4 n5 true true h9 ∧ m (IntKind.wrap .i64 (n11 + 1)) n4 n5 true true h9 < m n3 n4 n5 true true h1) (T82 l n10 n11 n5 h8 fun r5 h10 => I (IntKind.wrap .i64 (n11 + 1)) n4 n5 false true h10 ∧ m (IntKind.wrap .i64 (n11 + 1)) n4 n5 false true h10 < m n3 n4 n5 true true h1)) (par ((IntKind.wrap .i64 (Int.tdiv (IntKind.wrap .i64 (n4 - n3)) 8)) ≤ (IntKind.wrap .i64 (n4 - n11))) (T82 l (IntKind.wrap .i64 (n11 + 1)) n4 n5 h8 fun r6 h11 => I n10 n11 n5 true true h11 ∧ m n10 n11 n5 true true h11 < m n3 n4 n5 true true h1) (T82 l (IntKind.wrap .i64 (n11 + 1)) n4 n5 h8 fun r7 h12 => I n10 n11 n5 false true h12 ∧ m n10 n11 n5 false true h12 < m n3 n4 n5 true true h1))) (r3 = .tuple ⟨[.int .i64 n11, .bool false]⟩ ∧ (8 : Int) ≠ 0 ∧ par ((IntKind.wrap .i64 (n11 - n10)) < (IntKind.wrap .i64 (n4 - n11))) (par ((IntKind.wrap .i64 (Int.tdiv (IntKind.wrap .i64 (n4 - n3)) 8)) ≤ (IntKind.wrap .i64 (n11 - n10))) (T82 l n10 n11 n5 h8 fun r8 h13 => I (IntKind.wrap .i64 (n11 + 1)) n4 n5 true false h13 ∧ m (IntKind.wrap .i64 (n11 + 1)) n4 n5 true false h13 < m n3 n4 n5 true true h1) (T82 l n10 n11 n5 h8 fun r9 h14 => I (IntKind.wrap .i64 (n11 + 1)) n4 n5 false false h14 ∧ m (IntKind.wrap .i64 (n11 + 1)) n4 n5 false false h14 < m n3 n4 n5 true true h1)) (par ((IntKind.wrap .i64 (Int.tdiv (IntKind.wrap .i64 (n4 - n3)) 8)) ≤ (IntKind.wrap .i64 (n4 - n11))) (T82 l (IntKind.wrap .i64 (n11 + 1)) n4 n5 h8 fun r10 h15 => I n10 n11 n5 true false h15 ∧ m n10 n11 n5 true false h15 < m n3 n4 n5 true true h1) (T82 l (IntKind.wrap .i64 (n11 + 1)) n4 n5 h8 fun r11 h16 => I n10 n11 n5 false false h16 ∧ m n10 n11 n5 false false h16 < m n3 n4 n5 true true h1)))) ∧ (par ((0 : Int) < n3) (ix l.a (IntKind.wrap .i64 (n3 - 1)) l.n fun b3 o => ldI .u64 h6 b3 (o + ((IntKind.wrap .i64 (n3 - 1))).toNat) fun n12 => ix l.a n8 l.n fun b4 o1 => ldI .u64 h6 b4 (o1 + n8.toNat) fun n13 => F97.T n12 n13 h6 fun r12 h17 => retB r12 (J2 n3 h17) (F98.T l n3 n4 n8 h17 fun r13 h18 => retI .i64 r13 fun n14 => I n14 n4 n5 true true h18 ∧ m n14 n4 n5 true true h18 < m n3 n4 n5 true true h1)) (J2 n3 h6))) ∧ (par (n9 = 1) (F96.T l n3 n4 h5 fun r14 h19 => retB r14 (Q (.tuple ⟨[]⟩) h19) (J1 h19)) (J1 h5))) ∧ (par (n7 = 2) (F95.T l n3 n4 h4 fun r15 h20 => J (IntKind.wrap .i64 ((IntKind.wrap .i64 (n4 - 1)) - (IntKind.wrap .i64 (n6 - n3)))) 1 h20) (J n6 n7 h4))))) ∧ (∀ h1 : Hp, I n3 n4 n5 true false h1 → par ((IntKind.wrap .i64 (n4 - n3)) ≤ 12) (F91.T l n3 n4 h1 fun r16 h21 => Q (.tuple ⟨[]⟩) h21) (par (n5 = 0) (F92.T l n3 n4 h1 fun r17 h22 => Q (.tuple ⟨[]⟩) h22) (F94.T l n3 n4 h1 fun r18 h23 => ∃ n15 n16 : Int, r18 = .tuple ⟨[.int .i64 n15, .int .i64 n16]⟩ ∧ ∃ J3 : Int → Int → Hp → Prop, (∀ n17 n18 : Int, ∀ h24 : Hp, J3 n17 n18 h24 → ∃ J4 : Hp → Prop, (∀ h25 : Hp, J4 h25 → ∃ J5 : Int → Hp → Prop, (∀ n19 : Int, ∀ h26 : Hp, J5 n19 h26 → F99.T l n19 n4 n17 h26 fun r19 h27 => ∃ n20 : Int, ∃ b5 : Bool, parB b5 (r19 = .tuple ⟨[.int .i64 n20, .bool true]⟩ ∧ (8 : Int) ≠ 0 ∧ par ((IntKind.wrap .i64 (n20 - n19)) < (IntKind.wrap .i64 (n4 - n20))) (par ((IntKind.wrap .i64 (Int.tdiv (IntKind.wrap .i64 (n4 - n3)) 8)) ≤ (IntKind.wrap .i64 (n20 - n19))) (T82 l n19 n20 n5 h27 fun r20 h28 => I (IntKind.wrap .i64 (n20 + 1)) n4 n5 true true h28 ∧ m (IntKind.wrap .i64 (n20 + 1)) n4 n5 true true h28 < m n3 n4 n5 true false h1) (T82 l n19 n20 n5 h27 fun r21 h29 => I (IntKind.wrap .i64 (n20 + 1)) n4 n5 false true h29 ∧ m (IntKind.wrap .i64 (n20 + 1)) n4 n5 false true h29 < m n3 n4 n5 true false h1)) (par ((IntKind.wrap .i64 (Int.tdiv (IntKind.wrap .i64 (n4 - n3)) 8)) ≤ (IntKind.wrap .i64 (n4 - n20))) (T82 l (IntKind.wrap .i64 (n20 + 1)) n4 n5 h27 fun r22 h30 => I n19 n20 n5 true true h30 ∧ m n19 n20 n5 true true h30 < m n3 n4 n5 true false h1) (T82 l (IntKind.wrap .i64 (n20 + 1)) n4 n5 h27 fun r23 h31 => I n19 n20 n5 false true h31 ∧ m n19 n20 n5 false true h31 < m n3 n4 n5 true false h1))) (r19 = .tuple ⟨[.int .i64 n20, .bool false]⟩ ∧ (8 : Int) ≠ 0 ∧ par ((IntKind.wrap .i64 (n20 - n19)) < (IntKind.wrap .i64 (n4 - n20))) (par ((IntKind.wrap .i64 (Int.tdiv (IntKind.wrap .i64 (n4 - n3)) 8)) ≤ (IntKind.wrap .i64 (n20 - n19))) (T82 l n19 n20 n5 h27 fun r24 h32 => I (IntKind.wrap .i64 (n20 + 1)) n4 n5 true false h32 ∧ m (IntKind.wrap .i64 (n20 + 1)) n4 n5 true false h32 < m n3 n4 n5 true false h1) (T82 l n19 n20 n5 h27 fun r25 h33 => I (IntKind.wrap .i64 (n20 + 1)) n4 n5 false false h33 ∧ m (IntKind.wrap .i64 (n20 + 1)) n4 n5 false false h33 < m n3 n4 n5 true false h1)) (par ((IntKind.wrap .i64 (Int.tdiv (IntKind.wrap .i64 (n4 - n3)) 8)) ≤ (IntKind.wrap .i64 (n4 - n20))) (T82 l (IntKind.wrap .i64 (n20 + 1)) n4 n5 h27 fun r26 h34 => I n19 n20 n5 true false h34 ∧ m n19 n20 n5 true false h34 < m n3 n4 n5 true false h1) (T82 l (IntKind.wrap .i64 (n20 + 1)) n4 n5 h27 fun r27 h35 => I n19 n20 n5 false false h35 ∧ m n19 n20 n5 false false h35 < m n3 n4 n5 true false h1)))) ∧ (par ((0 : Int) < n3) (ix l.a (IntKind.wrap .i64 (n3 - 1)) l.n fun b6 o2 => ldI .u64 h25 b6 (o2 + ((IntKind.wrap .i64 (n3 - 1))).toNat) fun n21 => ix l.a n17 l.n fun b7 o3 => ldI .u64 h25 b7 (o3 + n17.toNat) fun n22 => F97.T n21 n22 h25 fun r28 h36 => retB r28 (J5 n3 h36) (F98.T l n3 n4 n17 h36 fun r29 h37 => retI .i64 r29 fun n23 => I n23 n4 n5 true false h37 ∧ m n23 n4 n5 true false h37 < m n3 n4 n5 true false h1)) (J5 n3 h25))) ∧ (J4 h24)) ∧ (par (n16 = 2) (F95.T l n3 n4 h23 fun r30 h38 => J3 (IntKind.wrap .i64 ((IntKind.wrap .i64 (n4 - 1)) - (IntKind.wrap .i64 (n15 - n3)))) 1 h38) (J3 n15 n16 h23)))))) ∧ ((∀ h1 : Hp, I n3 n4 n5 false true h1 → par ((IntKind.wrap .i64 (n4 - n3)) ≤ 12) (F91.T l n3 n4 h1 fun r31 h39 => Q (.tuple ⟨[]⟩) h39) (par (n5 = 0) (F92.T l n3 n4 h1 fun r32 h40 => Q (.tuple ⟨[]⟩) h40) (F93.T l n3 n4 h1 fun r33 h41 => F94.T l n3 n4 h41 fun r34 h42 => ∃ n24 n25 : Int, r34 = .tuple ⟨[.int .i64 n24, .int .i64 n25]⟩ ∧ ∃ J6 : Int → Int → Hp → Prop, (∀ n26 n27 : Int, ∀ h43 : Hp, J6 n26 n27 h43 → ∃ J7 : Hp → Prop, (∀ h44 : Hp, J7 h44 → ∃ J8 : Int → Hp → Prop, (∀ n28 : Int, ∀ h45 : Hp, J8 n28 h45 → F99.T l n28 n4 n26 h45 fun r35 h46 => ∃ n29 : Int, ∃ b8 : Bool, parB b8 (r35 = .tuple ⟨[.int .i64 n29, .bool true]⟩ ∧ (8 : Int) ≠ 0 ∧ par ((IntKind.wrap .i64 (n29 - n28)) < (IntKind.wrap .i64 (n4 - n29))) (par ((IntKind.wrap .i64 (Int.tdiv (IntKind.wrap .i64 (n4 - n3)) 8)) ≤ (IntKind.wrap .i64 (n29 - n28))) (T82 l n28 n29 (IntKind.wrap .i64 (n5 - 1)) h46 fun r36 h47 => I (IntKind.wrap .i64 (n29 + 1)) n4 (IntKind.wrap .i64 (n5 - 1)) true true h47 ∧ m (IntKind.wrap .i64 (n29 + 1)) n4 (IntKind.wrap .i64 (n5 - 1)) true true h47 < m n3 n4 n5 false true h1) (T82 l n28 n29 (IntKind.wrap .i64 (n5 - 1)) h46 fun r37 h48 => I (IntKind.wrap .i64 (n29 + 1)) n4 (IntKind.wrap .i64 (n5 - 1)) false true h48 ∧ m (IntKind.wrap .i64 (n29 + 1)) n4 (IntKind.wrap .i64 (n5 - 1)) false true h48 < m n3 n4 n5 false true h1)) (par ((IntKind.wrap .i64 (Int.tdiv (IntKind.wrap .i64 (n4 - n3)) 8)) ≤ (IntKind.wrap .i64 (n4 - n29))) (T82 l (IntKind.wrap .i64 (n29 + 1)) n4 (IntKind.wrap .i64 (n5 - 1)) h46 fun r38 h49 => I n28 n29 (IntKind.wrap .i64 (n5 - 1)) true true h49 ∧ m n28 n29 (IntKind.wrap .i64 (n5 - 1)) true true h49 < m n3 n4 n5 false true h1) (T82 l (IntKind.wrap .i64 (n29 + 1)) n4 (IntKind.wrap .i64 (n5 - 1)) h46 fun r39 h50 => I n28 n29 (IntKind.wrap .i64 (n5 - 1)) false true h50 ∧ m n28 n29 (IntKind.wrap .i64 (n5 - 1)) false true h50 < m n3 n4 n5 false true h1))) (r35 = .tuple ⟨[.int .i64 n29, .bool false]⟩ ∧ (8 : Int) ≠ 0 ∧ par ((IntKind.wrap .i64 (n29 - n28)) < (IntKind.wrap .i64 (n4 - n29))) (par ((IntKind.wrap .i64 (Int.tdiv (IntKind.wrap .i64 (n4 - n3)) 8)) ≤ (IntKind.wrap .i64 (n29 - n28))) (T82 l n28 n29 (IntKind.wrap .i64 (n5 - 1)) h46 fun r40 h51 => I (IntKind.wrap .i64 (n29 + 1)) n4 (IntKind.wrap .i64 (n5 - 1)) true false h51 ∧ m (IntKind.wrap .i64 (n29 + 1)) n4 (IntKind.wrap .i64 (n5 - 1)) true false h51 < m n3 n4 n5 false true h1) (T82 l n28 n29 (IntKind.wrap .i64 (n5 - 1)) h46 fun r41 h52 => I (IntKind.wrap .i64 (n29 + 1)) n4 (IntKind.wrap .i64 (n5 - 1)) false false h52 ∧ m (IntKind.wrap .i64 (n29 + 1)) n4 (IntKind.wrap .i64 (n5 - 1)) false false h52 < m n3 n4 n5 false true h1)) (par ((IntKind.wrap .i64 (Int.tdiv (IntKind.wrap .i64 (n4 - n3)) 8)) ≤ (IntKind.wrap .i64 (n4 - n29))) (T82 l (IntKind.wrap .i64 (n29 + 1)) n4 (IntKind.wrap .i64 (n5 - 1)) h46 fun r42 h53 => I n28 n29 (IntKind.wrap .i64 (n5 - 1)) true false h53 ∧ m n28 n29 (IntKind.wrap .i64 (n5 - 1)) true false h53 < m n3 n4 n5 false true h1) (T82 l (IntKind.wrap .i64 (n29 + 1)) n4 (IntKind.wrap .i64 (n5 - 1)) h46 fun r43 h54 => I n28 n29 (IntKind.wrap .i64 (n5 - 1)) false false h54 ∧ m n28 n29 (IntKind.wrap .i64 (n5 - 1)) false false h54 < m n3 n4 n5 false true h1)))) ∧ (par ((0 : Int) < n3) (ix l.a (IntKind.wrap .i64 (n3 - 1)) l.n fun b9 o4 => ldI .u64 h44 b9 (o4 + ((IntKind.wrap .i64 (n3 - 1))).toNat) fun n30 => ix l.a n26 l.n fun b10 o5 => ldI .u64 h44 b10 (o5 + n26.toNat) fun n31 => F97.T n30 n31 h44 fun r44 h55 => retB r44 (J8 n3 h55) (F98.T l n3 n4 n26 h55 fun r45 h56 => retI .i64 r45 fun n32 => I n32 n4 (IntKind.wrap .i64 (n5 - 1)) false true h56 ∧ m n32 n4 (IntKind.wrap .i64 (n5 - 1)) false true h56 < m n3 n4 n5 false true h1)) (J8 n3 h44))) ∧ (J7 h43)) ∧ (par (n25 = 2) (F95.T l n3 n4 h42 fun r46 h57 => J6 (IntKind.wrap .i64 ((IntKind.wrap .i64 (n4 - 1)) - (IntKind.wrap .i64 (n24 - n3)))) 1 h57) (J6 n24 n25 h42))))) ∧ (∀ h1 : Hp, I n3 n4 n5 false false h1 → par ((IntKind.wrap .i64 (n4 - n3)) ≤ 12) (F91.T l n3 n4 h1 fun r47 h58 => Q (.tuple ⟨[]⟩) h58) (par (n5 = 0) (F92.T l n3 n4 h1 fun r48 h59 => Q (.tuple ⟨[]⟩) h59) (F93.T l n3 n4 h1 fun r49 h60 => F94.T l n3 n4 h60 fun r50 h61 => ∃ n33 n34 : Int, r50 = .tuple ⟨[.int .i64 n33, .int .i64 n34]⟩ ∧ ∃ J9 : Int → Int → Hp → Prop, (∀ n35 n36 : Int, ∀ h62 : Hp, J9 n35 n36 h62 → ∃ J10 : Hp → Prop, (∀ h63 : Hp, J10 h63 → ∃ J11 : Int → Hp → Prop, (∀ n37 : Int, ∀ h64 : Hp, J11 n37 h64 → F99.T l n37 n4 n35 h64 fun r51 h65 => ∃ n38 : Int, ∃ b11 : Bool, parB b11 (r51 = .tuple ⟨[.int .i64 n38, .bool true]⟩ ∧ (8 : Int) ≠ 0 ∧ par ((IntKind.wrap .i64 (n38 - n37)) < (IntKind.wrap .i64 (n4 - n38))) (par ((IntKind.wrap .i64 (Int.tdiv (IntKind.wrap .i64 (n4 - n3)) 8)) ≤ (IntKind.wrap .i64 (n38 - n37))) (T82 l n37 n38 (IntKind.wrap .i64 (n5 - 1)) h65 fun r52 h66 => I (IntKind.wrap .i64 (n38 + 1)) n4 (IntKind.wrap .i64 (n5 - 1)) true true h66 ∧ m (IntKind.wrap .i64 (n38 + 1)) n4 (IntKind.wrap .i64 (n5 - 1)) true true h66 < m n3 n4 n5 false false h1) (T82 l n37 n38 (IntKind.wrap .i64 (n5 - 1)) h65 fun r53 h67 => I (IntKind.wrap .i64 (n38 + 1)) n4 (IntKind.wrap .i64 (n5 - 1)) false true h67 ∧ m (IntKind.wrap .i64 (n38 + 1)) n4 (IntKind.wrap .i64 (n5 - 1)) false true h67 < m n3 n4 n5 false false h1)) (par ((IntKind.wrap .i64 (Int.tdiv (IntKind.wrap .i64 (n4 - n3)) 8)) ≤ (IntKind.wrap .i64 (n4 - n38))) (T82 l (IntKind.wrap .i64 (n38 + 1)) n4 (IntKind.wrap .i64 (n5 - 1)) h65 fun r54 h68 => I n37 n38 (IntKind.wrap .i64 (n5 - 1)) true true h68 ∧ m n37 n38 (IntKind.wrap .i64 (n5 - 1)) true true h68 < m n3 n4 n5 false false h1) (T82 l (IntKind.wrap .i64 (n38 + 1)) n4 (IntKind.wrap .i64 (n5 - 1)) h65 fun r55 h69 => I n37 n38 (IntKind.wrap .i64 (n5 - 1)) false true h69 ∧ m n37 n38 (IntKind.wrap .i64 (n5 - 1)) false true h69 < m n3 n4 n5 false false h1))) (r51 = .tuple ⟨[.int .i64 n38, .bool false]⟩ ∧ (8 : Int) ≠ 0 ∧ par ((IntKind.wrap .i64 (n38 - n37)) < (IntKind.wrap .i64 (n4 - n38))) (par ((IntKind.wrap .i64 (Int.tdiv (IntKind.wrap .i64 (n4 - n3)) 8)) ≤ (IntKind.wrap .i64 (n38 - n37))) (T82 l n37 n38 (IntKind.wrap .i64 (n5 - 1)) h65 fun r56 h70 => I (IntKind.wrap .i64 (n38 + 1)) n4 (IntKind.wrap .i64 (n5 - 1)) true false h70 ∧ m (IntKind.wrap .i64 (n38 + 1)) n4 (IntKind.wrap .i64 (n5 - 1)) true false h70 < m n3 n4 n5 false false h1) (T82 l n37 n38 (IntKind.wrap .i64 (n5 - 1)) h65 fun r57 h71 => I (IntKind.wrap .i64 (n38 + 1)) n4 (IntKind.wrap .i64 (n5 - 1)) false false h71 ∧ m (IntKind.wrap .i64 (n38 + 1)) n4 (IntKind.wrap .i64 (n5 - 1)) false false h71 < m n3 n4 n5 false false h1)) (par ((IntKind.wrap .i64 (Int.tdiv (IntKind.wrap .i64 (n4 - n3)) 8)) ≤ (IntKind.wrap .i64 (n4 - n38))) (T82 l (IntKind.wrap .i64 (n38 + 1)) n4 (IntKind.wrap .i64 (n5 - 1)) h65 fun r58 h72 => I n37 n38 (IntKind.wrap .i64 (n5 - 1)) true false h72 ∧ m n37 n38 (IntKind.wrap .i64 (n5 - 1)) true false h72 < m n3 n4 n5 false false h1) (T82 l (IntKind.wrap .i64 (n38 + 1)) n4 (IntKind.wrap .i64 (n5 - 1)) h65 fun r59 h73 => I n37 n38 (IntKind.wrap .i64 (n5 - 1)) false false h73 ∧ m n37 n38 (IntKind.wrap .i64 (n5 - 1)) false false h73 < m n3 n4 n5 false false h1)))) ∧ (par ((0 : Int) < n3) (ix l.a (IntKind.wrap .i64 (n3 - 1)) l.n fun b12 o6 => ldI .u64 h63 b12 (o6 + ((IntKind.wrap .i64 (n3 - 1))).toNat) fun n39 => ix l.a n35 l.n fun b13 o7 => ldI .u64 h63 b13 (o7 + n35.toNat) fun n40 => F97.T n39 n40 h63 fun r60 h74 => retB r60 (J11 n3 h74) (F98.T l n3 n4 n35 h74 fun r61 h75 => retI .i64 r61 fun n41 => I n41 n4 (IntKind.wrap .i64 (n5 - 1)) false false h75 ∧ m n41 n4 (IntKind.wrap .i64 (n5 - 1)) false false h75 < m n3 n4 n5 false false h1)) (J11 n3 h63))) ∧ (J10 h62)) ∧ (par (n34 = 2) (F95.T l n3 n4 h61 fun r62 h76 => J9 (IntKind.wrap .i64 ((IntKind.wrap .i64 (n4 - 1)) - (IntKind.wrap .i64 (n33 - n3)))) 1 h76) (J9 n33 n34 h61)))))))
def F82.TN : Nat → Sl → Int → Int → Int → PT
  | 0 => fun _ _ _ _ _ _ => False
  | n + 1 => F82.G (F82.TN n)
def F82.T (l : Sl) (n n1 n2 : Int) : PT := fun h Q => ∃ nf, F82.TN nf l n n1 n2 h Q
def F82.W (T82 : Sl → Int → Int → Int → PT) (args : List Value) : PT := match args with
  | [.slice l_a l_n l_c, .int .i64 n, .int .i64 n1, .int .i64 n2] => T82 ⟨l_a, l_n, l_c⟩ n n1 n2
  | _ => fun _ _ => False
def F82.V : List Value → PT := F82.W F82.T
theorem F82.gen (V : Value → List Value → PT) (T82 : Sl → Int → Int → Int → PT) (T91 : Sl → Int → Int → PT) (T92 : Sl → Int → Int → PT) (T93 : Sl → Int → Int → PT) (T94 : Sl → Int → Int → PT) (T95 : Sl → Int → Int → PT) (T96 : Sl → Int → Int → PT) (T97 : Int → Int → PT) (T98 : Sl → Int → Int → Int → PT) (T99 : Sl → Int → Int → Int → PT) (l : Sl) (n n1 n2 : Int) : denF Try.prog [] [(82, F82.W T82), (91, F91.W T91), (92, F92.W T92), (93, F93.W T93), (94, F94.W T94), (95, F95.W T95), (96, F96.W T96), (97, F97.W T97), (98, F98.W T98), (99, F99.W T99)] V [(14, .loop [(1, .int .i64), (2, .int .i64), (3, .int .i64), (8, .bool), (9, .bool)] []), (1823, .join [(11, .int .i64), (12, .int .i64)] []), (3647, .join [] []), (7295, .join [(1, .int .i64)] []), (29180, .order [0, 1, 2, 3, 4, 5, 6, 7, 8, 9, 10, 11, 12, 13, 14])] Try.f82 [.v (.slice l.a l.n l.c), .v (.int .i64 n), .v (.int .i64 n1), .v (.int .i64 n2)] = fun h Q =>
  ∃ (I : Int → Int → Int → Bool → Bool → Hp → Prop) (m : Int → Int → Int → Bool → Bool → Hp → Nat), I n n1 n2 true true h ∧ (∀ n3 n4 n5 : Int, ((∀ h1 : Hp, I n3 n4 n5 true true h1 → par ((IntKind.wrap .i64 (n4 - n3)) ≤ 12) (T91 l n3 n4 h1 fun r h2 => Q (.tuple ⟨[]⟩) h2) (par (n5 = 0) (T92 l n3 n4 h1 fun r1 h3 => Q (.tuple ⟨[]⟩) h3) (T94 l n3 n4 h1 fun r2 h4 => ∃ n6 n7 : Int, r2 = .tuple ⟨[.int .i64 n6, .int .i64 n7]⟩ ∧ ∃ J : Int → Int → Hp → Prop, (∀ n8 n9 : Int, ∀ h5 : Hp, J n8 n9 h5 → ∃ J1 : Hp → Prop, (∀ h6 : Hp, J1 h6 → ∃ J2 : Int → Hp → Prop, (∀ n10 : Int, ∀ h7 : Hp, J2 n10 h7 → T99 l n10 n4 n8 h7 fun r3 h8 => ∃ n11 : Int, ∃ b2 : Bool, parB b2 (r3 = .tuple ⟨[.int .i64 n11, .bool true]⟩ ∧ (8 : Int) ≠ 0 ∧ par ((IntKind.wrap .i64 (n11 - n10)) < (IntKind.wrap .i64 (n4 - n11))) (par ((IntKind.wrap .i64 (Int.tdiv (IntKind.wrap .i64 (n4 - n3)) 8)) ≤ (IntKind.wrap .i64 (n11 - n10))) (T82 l n10 n11 n5 h8 fun r4 h9 => I (IntKind.wrap .i64 (n11 + 1)) n4 n5 true true h9 ∧ m (IntKind.wrap .i64 (n11 + 1)) n4 n5 true true h9 < m n3 n4 n5 true true h1) (T82 l n10 n11 n5 h8 fun r5 h10 => I (IntKind.wrap .i64 (n11 + 1)) n4 n5 false true h10 ∧ m (IntKind.wrap .i64 (n11 + 1)) n4 n5 false true h10 < m n3 n4 n5 true true h1)) (par ((IntKind.wrap .i64 (Int.tdiv (IntKind.wrap .i64 (n4 - n3)) 8)) ≤ (IntKind.wrap .i64 (n4 - n11))) (T82 l (IntKind.wrap .i64 (n11 + 1)) n4 n5 h8 fun r6 h11 => I n10 n11 n5 true true h11 ∧ m n10 n11 n5 true true h11 < m n3 n4 n5 true true h1) (T82 l (IntKind.wrap .i64 (n11 + 1)) n4 n5 h8 fun r7 h12 => I n10 n11 n5 false true h12 ∧ m n10 n11 n5 false true h12 < m n3 n4 n5 true true h1))) (r3 = .tuple ⟨[.int .i64 n11, .bool false]⟩ ∧ (8 : Int) ≠ 0 ∧ par ((IntKind.wrap .i64 (n11 - n10)) < (IntKind.wrap .i64 (n4 - n11))) (par ((IntKind.wrap .i64 (Int.tdiv (IntKind.wrap .i64 (n4 - n3)) 8)) ≤ (IntKind.wrap .i64 (n11 - n10))) (T82 l n10 n11 n5 h8 fun r8 h13 => I (IntKind.wrap .i64 (n11 + 1)) n4 n5 true false h13 ∧ m (IntKind.wrap .i64 (n11 + 1)) n4 n5 true false h13 < m n3 n4 n5 true true h1) (T82 l n10 n11 n5 h8 fun r9 h14 => I (IntKind.wrap .i64 (n11 + 1)) n4 n5 false false h14 ∧ m (IntKind.wrap .i64 (n11 + 1)) n4 n5 false false h14 < m n3 n4 n5 true true h1)) (par ((IntKind.wrap .i64 (Int.tdiv (IntKind.wrap .i64 (n4 - n3)) 8)) ≤ (IntKind.wrap .i64 (n4 - n11))) (T82 l (IntKind.wrap .i64 (n11 + 1)) n4 n5 h8 fun r10 h15 => I n10 n11 n5 true false h15 ∧ m n10 n11 n5 true false h15 < m n3 n4 n5 true true h1) (T82 l (IntKind.wrap .i64 (n11 + 1)) n4 n5 h8 fun r11 h16 => I n10 n11 n5 false false h16 ∧ m n10 n11 n5 false false h16 < m n3 n4 n5 true true h1)))) ∧ (par ((0 : Int) < n3) (ix l.a (IntKind.wrap .i64 (n3 - 1)) l.n fun b3 o => ldI .u64 h6 b3 (o + ((IntKind.wrap .i64 (n3 - 1))).toNat) fun n12 => ix l.a n8 l.n fun b4 o1 => ldI .u64 h6 b4 (o1 + n8.toNat) fun n13 => T97 n12 n13 h6 fun r12 h17 => retB r12 (J2 n3 h17) (T98 l n3 n4 n8 h17 fun r13 h18 => retI .i64 r13 fun n14 => I n14 n4 n5 true true h18 ∧ m n14 n4 n5 true true h18 < m n3 n4 n5 true true h1)) (J2 n3 h6))) ∧ (par (n9 = 1) (T96 l n3 n4 h5 fun r14 h19 => retB r14 (Q (.tuple ⟨[]⟩) h19) (J1 h19)) (J1 h5))) ∧ (par (n7 = 2) (T95 l n3 n4 h4 fun r15 h20 => J (IntKind.wrap .i64 ((IntKind.wrap .i64 (n4 - 1)) - (IntKind.wrap .i64 (n6 - n3)))) 1 h20) (J n6 n7 h4))))) ∧ (∀ h1 : Hp, I n3 n4 n5 true false h1 → par ((IntKind.wrap .i64 (n4 - n3)) ≤ 12) (T91 l n3 n4 h1 fun r16 h21 => Q (.tuple ⟨[]⟩) h21) (par (n5 = 0) (T92 l n3 n4 h1 fun r17 h22 => Q (.tuple ⟨[]⟩) h22) (T94 l n3 n4 h1 fun r18 h23 => ∃ n15 n16 : Int, r18 = .tuple ⟨[.int .i64 n15, .int .i64 n16]⟩ ∧ ∃ J3 : Int → Int → Hp → Prop, (∀ n17 n18 : Int, ∀ h24 : Hp, J3 n17 n18 h24 → ∃ J4 : Hp → Prop, (∀ h25 : Hp, J4 h25 → ∃ J5 : Int → Hp → Prop, (∀ n19 : Int, ∀ h26 : Hp, J5 n19 h26 → T99 l n19 n4 n17 h26 fun r19 h27 => ∃ n20 : Int, ∃ b5 : Bool, parB b5 (r19 = .tuple ⟨[.int .i64 n20, .bool true]⟩ ∧ (8 : Int) ≠ 0 ∧ par ((IntKind.wrap .i64 (n20 - n19)) < (IntKind.wrap .i64 (n4 - n20))) (par ((IntKind.wrap .i64 (Int.tdiv (IntKind.wrap .i64 (n4 - n3)) 8)) ≤ (IntKind.wrap .i64 (n20 - n19))) (T82 l n19 n20 n5 h27 fun r20 h28 => I (IntKind.wrap .i64 (n20 + 1)) n4 n5 true true h28 ∧ m (IntKind.wrap .i64 (n20 + 1)) n4 n5 true true h28 < m n3 n4 n5 true false h1) (T82 l n19 n20 n5 h27 fun r21 h29 => I (IntKind.wrap .i64 (n20 + 1)) n4 n5 false true h29 ∧ m (IntKind.wrap .i64 (n20 + 1)) n4 n5 false true h29 < m n3 n4 n5 true false h1)) (par ((IntKind.wrap .i64 (Int.tdiv (IntKind.wrap .i64 (n4 - n3)) 8)) ≤ (IntKind.wrap .i64 (n4 - n20))) (T82 l (IntKind.wrap .i64 (n20 + 1)) n4 n5 h27 fun r22 h30 => I n19 n20 n5 true true h30 ∧ m n19 n20 n5 true true h30 < m n3 n4 n5 true false h1) (T82 l (IntKind.wrap .i64 (n20 + 1)) n4 n5 h27 fun r23 h31 => I n19 n20 n5 false true h31 ∧ m n19 n20 n5 false true h31 < m n3 n4 n5 true false h1))) (r19 = .tuple ⟨[.int .i64 n20, .bool false]⟩ ∧ (8 : Int) ≠ 0 ∧ par ((IntKind.wrap .i64 (n20 - n19)) < (IntKind.wrap .i64 (n4 - n20))) (par ((IntKind.wrap .i64 (Int.tdiv (IntKind.wrap .i64 (n4 - n3)) 8)) ≤ (IntKind.wrap .i64 (n20 - n19))) (T82 l n19 n20 n5 h27 fun r24 h32 => I (IntKind.wrap .i64 (n20 + 1)) n4 n5 true false h32 ∧ m (IntKind.wrap .i64 (n20 + 1)) n4 n5 true false h32 < m n3 n4 n5 true false h1) (T82 l n19 n20 n5 h27 fun r25 h33 => I (IntKind.wrap .i64 (n20 + 1)) n4 n5 false false h33 ∧ m (IntKind.wrap .i64 (n20 + 1)) n4 n5 false false h33 < m n3 n4 n5 true false h1)) (par ((IntKind.wrap .i64 (Int.tdiv (IntKind.wrap .i64 (n4 - n3)) 8)) ≤ (IntKind.wrap .i64 (n4 - n20))) (T82 l (IntKind.wrap .i64 (n20 + 1)) n4 n5 h27 fun r26 h34 => I n19 n20 n5 true false h34 ∧ m n19 n20 n5 true false h34 < m n3 n4 n5 true false h1) (T82 l (IntKind.wrap .i64 (n20 + 1)) n4 n5 h27 fun r27 h35 => I n19 n20 n5 false false h35 ∧ m n19 n20 n5 false false h35 < m n3 n4 n5 true false h1)))) ∧ (par ((0 : Int) < n3) (ix l.a (IntKind.wrap .i64 (n3 - 1)) l.n fun b6 o2 => ldI .u64 h25 b6 (o2 + ((IntKind.wrap .i64 (n3 - 1))).toNat) fun n21 => ix l.a n17 l.n fun b7 o3 => ldI .u64 h25 b7 (o3 + n17.toNat) fun n22 => T97 n21 n22 h25 fun r28 h36 => retB r28 (J5 n3 h36) (T98 l n3 n4 n17 h36 fun r29 h37 => retI .i64 r29 fun n23 => I n23 n4 n5 true false h37 ∧ m n23 n4 n5 true false h37 < m n3 n4 n5 true false h1)) (J5 n3 h25))) ∧ (J4 h24)) ∧ (par (n16 = 2) (T95 l n3 n4 h23 fun r30 h38 => J3 (IntKind.wrap .i64 ((IntKind.wrap .i64 (n4 - 1)) - (IntKind.wrap .i64 (n15 - n3)))) 1 h38) (J3 n15 n16 h23)))))) ∧ ((∀ h1 : Hp, I n3 n4 n5 false true h1 → par ((IntKind.wrap .i64 (n4 - n3)) ≤ 12) (T91 l n3 n4 h1 fun r31 h39 => Q (.tuple ⟨[]⟩) h39) (par (n5 = 0) (T92 l n3 n4 h1 fun r32 h40 => Q (.tuple ⟨[]⟩) h40) (T93 l n3 n4 h1 fun r33 h41 => T94 l n3 n4 h41 fun r34 h42 => ∃ n24 n25 : Int, r34 = .tuple ⟨[.int .i64 n24, .int .i64 n25]⟩ ∧ ∃ J6 : Int → Int → Hp → Prop, (∀ n26 n27 : Int, ∀ h43 : Hp, J6 n26 n27 h43 → ∃ J7 : Hp → Prop, (∀ h44 : Hp, J7 h44 → ∃ J8 : Int → Hp → Prop, (∀ n28 : Int, ∀ h45 : Hp, J8 n28 h45 → T99 l n28 n4 n26 h45 fun r35 h46 => ∃ n29 : Int, ∃ b8 : Bool, parB b8 (r35 = .tuple ⟨[.int .i64 n29, .bool true]⟩ ∧ (8 : Int) ≠ 0 ∧ par ((IntKind.wrap .i64 (n29 - n28)) < (IntKind.wrap .i64 (n4 - n29))) (par ((IntKind.wrap .i64 (Int.tdiv (IntKind.wrap .i64 (n4 - n3)) 8)) ≤ (IntKind.wrap .i64 (n29 - n28))) (T82 l n28 n29 (IntKind.wrap .i64 (n5 - 1)) h46 fun r36 h47 => I (IntKind.wrap .i64 (n29 + 1)) n4 (IntKind.wrap .i64 (n5 - 1)) true true h47 ∧ m (IntKind.wrap .i64 (n29 + 1)) n4 (IntKind.wrap .i64 (n5 - 1)) true true h47 < m n3 n4 n5 false true h1) (T82 l n28 n29 (IntKind.wrap .i64 (n5 - 1)) h46 fun r37 h48 => I (IntKind.wrap .i64 (n29 + 1)) n4 (IntKind.wrap .i64 (n5 - 1)) false true h48 ∧ m (IntKind.wrap .i64 (n29 + 1)) n4 (IntKind.wrap .i64 (n5 - 1)) false true h48 < m n3 n4 n5 false true h1)) (par ((IntKind.wrap .i64 (Int.tdiv (IntKind.wrap .i64 (n4 - n3)) 8)) ≤ (IntKind.wrap .i64 (n4 - n29))) (T82 l (IntKind.wrap .i64 (n29 + 1)) n4 (IntKind.wrap .i64 (n5 - 1)) h46 fun r38 h49 => I n28 n29 (IntKind.wrap .i64 (n5 - 1)) true true h49 ∧ m n28 n29 (IntKind.wrap .i64 (n5 - 1)) true true h49 < m n3 n4 n5 false true h1) (T82 l (IntKind.wrap .i64 (n29 + 1)) n4 (IntKind.wrap .i64 (n5 - 1)) h46 fun r39 h50 => I n28 n29 (IntKind.wrap .i64 (n5 - 1)) false true h50 ∧ m n28 n29 (IntKind.wrap .i64 (n5 - 1)) false true h50 < m n3 n4 n5 false true h1))) (r35 = .tuple ⟨[.int .i64 n29, .bool false]⟩ ∧ (8 : Int) ≠ 0 ∧ par ((IntKind.wrap .i64 (n29 - n28)) < (IntKind.wrap .i64 (n4 - n29))) (par ((IntKind.wrap .i64 (Int.tdiv (IntKind.wrap .i64 (n4 - n3)) 8)) ≤ (IntKind.wrap .i64 (n29 - n28))) (T82 l n28 n29 (IntKind.wrap .i64 (n5 - 1)) h46 fun r40 h51 => I (IntKind.wrap .i64 (n29 + 1)) n4 (IntKind.wrap .i64 (n5 - 1)) true false h51 ∧ m (IntKind.wrap .i64 (n29 + 1)) n4 (IntKind.wrap .i64 (n5 - 1)) true false h51 < m n3 n4 n5 false true h1) (T82 l n28 n29 (IntKind.wrap .i64 (n5 - 1)) h46 fun r41 h52 => I (IntKind.wrap .i64 (n29 + 1)) n4 (IntKind.wrap .i64 (n5 - 1)) false false h52 ∧ m (IntKind.wrap .i64 (n29 + 1)) n4 (IntKind.wrap .i64 (n5 - 1)) false false h52 < m n3 n4 n5 false true h1)) (par ((IntKind.wrap .i64 (Int.tdiv (IntKind.wrap .i64 (n4 - n3)) 8)) ≤ (IntKind.wrap .i64 (n4 - n29))) (T82 l (IntKind.wrap .i64 (n29 + 1)) n4 (IntKind.wrap .i64 (n5 - 1)) h46 fun r42 h53 => I n28 n29 (IntKind.wrap .i64 (n5 - 1)) true false h53 ∧ m n28 n29 (IntKind.wrap .i64 (n5 - 1)) true false h53 < m n3 n4 n5 false true h1) (T82 l (IntKind.wrap .i64 (n29 + 1)) n4 (IntKind.wrap .i64 (n5 - 1)) h46 fun r43 h54 => I n28 n29 (IntKind.wrap .i64 (n5 - 1)) false false h54 ∧ m n28 n29 (IntKind.wrap .i64 (n5 - 1)) false false h54 < m n3 n4 n5 false true h1)))) ∧ (par ((0 : Int) < n3) (ix l.a (IntKind.wrap .i64 (n3 - 1)) l.n fun b9 o4 => ldI .u64 h44 b9 (o4 + ((IntKind.wrap .i64 (n3 - 1))).toNat) fun n30 => ix l.a n26 l.n fun b10 o5 => ldI .u64 h44 b10 (o5 + n26.toNat) fun n31 => T97 n30 n31 h44 fun r44 h55 => retB r44 (J8 n3 h55) (T98 l n3 n4 n26 h55 fun r45 h56 => retI .i64 r45 fun n32 => I n32 n4 (IntKind.wrap .i64 (n5 - 1)) false true h56 ∧ m n32 n4 (IntKind.wrap .i64 (n5 - 1)) false true h56 < m n3 n4 n5 false true h1)) (J8 n3 h44))) ∧ (J7 h43)) ∧ (par (n25 = 2) (T95 l n3 n4 h42 fun r46 h57 => J6 (IntKind.wrap .i64 ((IntKind.wrap .i64 (n4 - 1)) - (IntKind.wrap .i64 (n24 - n3)))) 1 h57) (J6 n24 n25 h42))))) ∧ (∀ h1 : Hp, I n3 n4 n5 false false h1 → par ((IntKind.wrap .i64 (n4 - n3)) ≤ 12) (T91 l n3 n4 h1 fun r47 h58 => Q (.tuple ⟨[]⟩) h58) (par (n5 = 0) (T92 l n3 n4 h1 fun r48 h59 => Q (.tuple ⟨[]⟩) h59) (T93 l n3 n4 h1 fun r49 h60 => T94 l n3 n4 h60 fun r50 h61 => ∃ n33 n34 : Int, r50 = .tuple ⟨[.int .i64 n33, .int .i64 n34]⟩ ∧ ∃ J9 : Int → Int → Hp → Prop, (∀ n35 n36 : Int, ∀ h62 : Hp, J9 n35 n36 h62 → ∃ J10 : Hp → Prop, (∀ h63 : Hp, J10 h63 → ∃ J11 : Int → Hp → Prop, (∀ n37 : Int, ∀ h64 : Hp, J11 n37 h64 → T99 l n37 n4 n35 h64 fun r51 h65 => ∃ n38 : Int, ∃ b11 : Bool, parB b11 (r51 = .tuple ⟨[.int .i64 n38, .bool true]⟩ ∧ (8 : Int) ≠ 0 ∧ par ((IntKind.wrap .i64 (n38 - n37)) < (IntKind.wrap .i64 (n4 - n38))) (par ((IntKind.wrap .i64 (Int.tdiv (IntKind.wrap .i64 (n4 - n3)) 8)) ≤ (IntKind.wrap .i64 (n38 - n37))) (T82 l n37 n38 (IntKind.wrap .i64 (n5 - 1)) h65 fun r52 h66 => I (IntKind.wrap .i64 (n38 + 1)) n4 (IntKind.wrap .i64 (n5 - 1)) true true h66 ∧ m (IntKind.wrap .i64 (n38 + 1)) n4 (IntKind.wrap .i64 (n5 - 1)) true true h66 < m n3 n4 n5 false false h1) (T82 l n37 n38 (IntKind.wrap .i64 (n5 - 1)) h65 fun r53 h67 => I (IntKind.wrap .i64 (n38 + 1)) n4 (IntKind.wrap .i64 (n5 - 1)) false true h67 ∧ m (IntKind.wrap .i64 (n38 + 1)) n4 (IntKind.wrap .i64 (n5 - 1)) false true h67 < m n3 n4 n5 false false h1)) (par ((IntKind.wrap .i64 (Int.tdiv (IntKind.wrap .i64 (n4 - n3)) 8)) ≤ (IntKind.wrap .i64 (n4 - n38))) (T82 l (IntKind.wrap .i64 (n38 + 1)) n4 (IntKind.wrap .i64 (n5 - 1)) h65 fun r54 h68 => I n37 n38 (IntKind.wrap .i64 (n5 - 1)) true true h68 ∧ m n37 n38 (IntKind.wrap .i64 (n5 - 1)) true true h68 < m n3 n4 n5 false false h1) (T82 l (IntKind.wrap .i64 (n38 + 1)) n4 (IntKind.wrap .i64 (n5 - 1)) h65 fun r55 h69 => I n37 n38 (IntKind.wrap .i64 (n5 - 1)) false true h69 ∧ m n37 n38 (IntKind.wrap .i64 (n5 - 1)) false true h69 < m n3 n4 n5 false false h1))) (r51 = .tuple ⟨[.int .i64 n38, .bool false]⟩ ∧ (8 : Int) ≠ 0 ∧ par ((IntKind.wrap .i64 (n38 - n37)) < (IntKind.wrap .i64 (n4 - n38))) (par ((IntKind.wrap .i64 (Int.tdiv (IntKind.wrap .i64 (n4 - n3)) 8)) ≤ (IntKind.wrap .i64 (n38 - n37))) (T82 l n37 n38 (IntKind.wrap .i64 (n5 - 1)) h65 fun r56 h70 => I (IntKind.wrap .i64 (n38 + 1)) n4 (IntKind.wrap .i64 (n5 - 1)) true false h70 ∧ m (IntKind.wrap .i64 (n38 + 1)) n4 (IntKind.wrap .i64 (n5 - 1)) true false h70 < m n3 n4 n5 false false h1) (T82 l n37 n38 (IntKind.wrap .i64 (n5 - 1)) h65 fun r57 h71 => I (IntKind.wrap .i64 (n38 + 1)) n4 (IntKind.wrap .i64 (n5 - 1)) false false h71 ∧ m (IntKind.wrap .i64 (n38 + 1)) n4 (IntKind.wrap .i64 (n5 - 1)) false false h71 < m n3 n4 n5 false false h1)) (par ((IntKind.wrap .i64 (Int.tdiv (IntKind.wrap .i64 (n4 - n3)) 8)) ≤ (IntKind.wrap .i64 (n4 - n38))) (T82 l (IntKind.wrap .i64 (n38 + 1)) n4 (IntKind.wrap .i64 (n5 - 1)) h65 fun r58 h72 => I n37 n38 (IntKind.wrap .i64 (n5 - 1)) true false h72 ∧ m n37 n38 (IntKind.wrap .i64 (n5 - 1)) true false h72 < m n3 n4 n5 false false h1) (T82 l (IntKind.wrap .i64 (n38 + 1)) n4 (IntKind.wrap .i64 (n5 - 1)) h65 fun r59 h73 => I n37 n38 (IntKind.wrap .i64 (n5 - 1)) false false h73 ∧ m n37 n38 (IntKind.wrap .i64 (n5 - 1)) false false h73 < m n3 n4 n5 false false h1)))) ∧ (par ((0 : Int) < n3) (ix l.a (IntKind.wrap .i64 (n3 - 1)) l.n fun b12 o6 => ldI .u64 h63 b12 (o6 + ((IntKind.wrap .i64 (n3 - 1))).toNat) fun n39 => ix l.a n35 l.n fun b13 o7 => ldI .u64 h63 b13 (o7 + n35.toNat) fun n40 => T97 n39 n40 h63 fun r60 h74 => retB r60 (J11 n3 h74) (T98 l n3 n4 n35 h74 fun r61 h75 => retI .i64 r61 fun n41 => I n41 n4 (IntKind.wrap .i64 (n5 - 1)) false false h75 ∧ m n41 n4 (IntKind.wrap .i64 (n5 - 1)) false false h75 < m n3 n4 n5 false false h1)) (J11 n3 h63))) ∧ (J10 h62)) ∧ (par (n34 = 2) (T95 l n3 n4 h61 fun r62 h76 => J9 (IntKind.wrap .i64 ((IntKind.wrap .i64 (n4 - 1)) - (IntKind.wrap .i64 (n33 - n3)))) 1 h76) (J9 n33 n34 h61))))))) := by kernel_rfl
theorem F82.den (V : Value → List Value → PT) (nf : Nat) (l : Sl) (n n1 n2 : Int) : denF Try.prog [] [(82, F82.W (F82.TN nf)), (91, F91.V), (92, F92.V), (93, F93.V), (94, F94.V), (95, F95.V), (96, F96.V), (97, F97.V), (98, F98.V), (99, F99.V)] V [(14, .loop [(1, .int .i64), (2, .int .i64), (3, .int .i64), (8, .bool), (9, .bool)] []), (1823, .join [(11, .int .i64), (12, .int .i64)] []), (3647, .join [] []), (7295, .join [(1, .int .i64)] []), (29180, .order [0, 1, 2, 3, 4, 5, 6, 7, 8, 9, 10, 11, 12, 13, 14])] Try.f82 [.v (.slice l.a l.n l.c), .v (.int .i64 n), .v (.int .i64 n1), .v (.int .i64 n2)] = F82.TN (nf + 1) l n n1 n2 := F82.gen V (F82.TN nf) F91.T F92.T F93.T F94.T F95.T F96.T F97.T F98.T F99.T l n n1 n2
theorem F82.okN : ∀ n, FOk Try.prog 82 (F82.W (F82.TN n))
  | 0 => by
    refine ⟨⟨_, Try.func82, rfl, rfl⟩, fun args => ?_⟩
    unfold F82.W
    split
    · exact fun h Q hq => hq.elim
    · exact fun h Q hq => hq.elim
  | nf + 1 => by
    refine ⟨⟨_, Try.func82, rfl, rfl⟩, fun args => ?_⟩
    have hG : GOk Try.prog [(82, F82.W (F82.TN nf)), (91, F91.V), (92, F92.V), (93, F93.V), (94, F94.V), (95, F95.V), (96, F96.V), (97, F97.V), (98, F98.V), (99, F99.V)] := GOk.cons (F82.okN nf) (GOk.cons F91.ok (GOk.cons F92.ok (GOk.cons F93.ok (GOk.cons F94.ok (GOk.cons F95.ok (GOk.cons F96.ok (GOk.cons F97.ok (GOk.cons F98.ok (GOk.cons F99.ok (GOk.nil))))))))))
    have hV : VOk Try.prog noV := noV_ok
    unfold F82.W
    split
    · exact denF_okV hG hV Try.func82 (fun h Q hq => (F82.den _ nf _ _ _ _) ▸ hq)
    · exact fun h Q hq => hq.elim
theorem F82.ok : FOk Try.prog 82 F82.V := by
  refine ⟨(F82.okN 0).1, fun args h Q hq => ?_⟩
  unfold F82.V F82.W at hq
  split at hq
  · obtain ⟨nf, hn⟩ := hq
    exact (F82.okN nf).2 _ h Q hn
  · exact hq.elim
@[reducible] def F73.G (T82 : Sl → Int → Int → Int → PT) (T83 : Int → PT) (l : Sl) : PT := fun h Q =>
  T83 (IntKind.wrap .u64 (l.n : Int)) h fun r h1 => retI .i64 r fun n => T82 l 0 (l.n : Int) n h1 fun r1 h2 => Q (.tuple ⟨[]⟩) h2
def F73.T := F73.G F82.T F83.T
theorem F73.gen (V T82 T83 l) : denF Try.prog [] [(82, F82.W T82), (83, F83.W T83)] V [] Try.f73 [.v (.slice l.a l.n l.c)] = F73.G T82 T83 l := by kernel_rfl
def F73.W (T73 : Sl → PT) (args : List Value) : PT := match args with
  | [.slice l_a l_n l_c] => T73 ⟨l_a, l_n, l_c⟩
  | _ => fun _ _ => False
def F73.V : List Value → PT := F73.W F73.T
theorem F73.ok : FOk Try.prog 73 F73.V := by
  refine ⟨⟨_, Try.func73, rfl, rfl⟩, fun args => ?_⟩
  unfold F73.V F73.W
  split
  · exact denF_okE (GOk.cons F82.ok (GOk.cons F83.ok (GOk.nil))) noV_ok Try.func73 (F73.gen noV F82.T F83.T ⟨_, _, _⟩)
  · exact fun _ _ h => h.elim
end Go.Eng.Ytbjnlacacapjiaa
end
section
open Go.Proofs
namespace Go.Eng.Ytbjnlacacapjiaa
def cmpI (a b : ByteArray) : Int := Go.Lib.compareBytes a.data.toList b.data.toList
def F90.T (s s1 : ByteArray) : PT := fun h Q => Q (.int .i64 (cmpI s s1)) h
def F90.W (T90 : ByteArray → ByteArray → PT) (args : List Value) : PT := match args with
  | [.string s, .string s1] => T90 s s1
  | _ => fun _ _ => False
def F90.V : List Value → PT := F90.W F90.T
theorem F90.fd : Extern.findNext Try.f90 = none := by kernel_rfl
theorem F90.fx : Extern.find Try.f90 = some Extern.BytealgCompare.compare := by kernel_rfl
theorem F90.ok : ExtOk Try.prog 90 F90.V := by
  intro args h Q hq w
  unfold F90.V F90.W at hq
  split at hq
  · refine ⟨_, ?_, hq⟩
    unfold callFunc
    simp only [Sem.run_bind, run_program, Result.andThen_ok, Try.func90]
    have h1 : (Try.f90.name == "runtime.NumGoroutine") = false := by kernel_rfl
    have h2 : Try.f90.body.isNone = true := by kernel_rfl
    simp only [h1, Bool.false_eq_true, if_false, h2, if_true, F90.fd, F90.fx, Sem.run_bind]
    have hm : (mark (.extern 90)).run Try.prog w = .ok () w := rfl
    simp only [hm, Go.Lib.run_compareString, Result.andThen_ok, Sem.run_pure]
    rfl
  · exact hq.elim
end Go.Eng.Ytbjnlacacapjiaa
end
section
set_option maxRecDepth 100000
open Go.Proofs
namespace Go.Eng.Ytbjnlacacapjiaa
def F111.T (l : Sl) (n n1 n2 : Int) : PT := fun h Q =>
  ∃ (I : Int → Hp → Prop) (m : Int → Hp → Nat), I 0 h ∧ (∀ n3 : Int, ∀ h1 : Hp, I n3 h1 → par (n3 < n2) (∃ b o, (l.a : Option Addr) = some ⟨b, o, none⟩ ∧ ((0 : Int) ≤ (IntKind.wrap .i64 (n1 + n3)) ∧ (IntKind.wrap .i64 (n1 + n3)) < (l.n : Int)) ∧ ∃ n4 : Int, h1.at b (o + ((IntKind.wrap .i64 (n1 + n3))).toNat * 6) = some (.int .u64 n4) ∧ ∃ n5 : Int, h1.at b ((o + ((IntKind.wrap .i64 (n1 + n3))).toNat * 6) + 1) = some (.int .i64 n5) ∧ ∃ n6 : Int, h1.at b ((o + ((IntKind.wrap .i64 (n1 + n3))).toNat * 6) + 2) = some (.int .i64 n6) ∧ ∃ n7 : Int, h1.at b ((o + ((IntKind.wrap .i64 (n1 + n3))).toNat * 6) + 3) = some (.int .i64 n7) ∧ ∃ s : ByteArray, h1.at b ((o + ((IntKind.wrap .i64 (n1 + n3))).toNat * 6) + 4) = some (.string s) ∧ ∃ s1 : ByteArray, h1.at b ((o + ((IntKind.wrap .i64 (n1 + n3))).toNat * 6) + 5) = some (.string s1) ∧ ∃ b1 o1, (l.a : Option Addr) = some ⟨b1, o1, none⟩ ∧ ((0 : Int) ≤ (IntKind.wrap .i64 (n + n3)) ∧ (IntKind.wrap .i64 (n + n3)) < (l.n : Int)) ∧ ∃ n8 : Int, h1.at b1 (o1 + ((IntKind.wrap .i64 (n + n3))).toNat * 6) = some (.int .u64 n8) ∧ ∃ n9 : Int, h1.at b1 ((o1 + ((IntKind.wrap .i64 (n + n3))).toNat * 6) + 1) = some (.int .i64 n9) ∧ ∃ n10 : Int, h1.at b1 ((o1 + ((IntKind.wrap .i64 (n + n3))).toNat * 6) + 2) = some (.int .i64 n10) ∧ ∃ n11 : Int, h1.at b1 ((o1 + ((IntKind.wrap .i64 (n + n3))).toNat * 6) + 3) = some (.int .i64 n11) ∧ ∃ s2 : ByteArray, h1.at b1 ((o1 + ((IntKind.wrap .i64 (n + n3))).toNat * 6) + 4) = some (.string s2) ∧ ∃ s3 : ByteArray, h1.at b1 ((o1 + ((IntKind.wrap .i64 (n + n3))).toNat * 6) + 5) = some (.string s3) ∧ ∃ b2 o2, (l.a : Option Addr) = some ⟨b2, o2, none⟩ ∧ ((0 : Int) ≤ (IntKind.wrap .i64 (n + n3)) ∧ (IntKind.wrap .i64 (n + n3)) < (l.n : Int)) ∧ h1.canW b2 (o2 + ((IntKind.wrap .i64 (n + n3))).toNat * 6) 6 ∧ ∃ b3 o3, (l.a : Option Addr) = some ⟨b3, o3, none⟩ ∧ ((0 : Int) ≤ (IntKind.wrap .i64 (n1 + n3)) ∧ (IntKind.wrap .i64 (n1 + n3)) < (l.n : Int)) ∧ (h1.wr b2 (o2 + ((IntKind.wrap .i64 (n + n3))).toNat * 6) [.int .u64 n4, .int .i64 n5, .int .i64 n6, .int .i64 n7, .string s, .string s1]).canW b3 (o3 + ((IntKind.wrap .i64 (n1 + n3))).toNat * 6) 6 ∧ I (IntKind.wrap .i64 (n3 + 1)) ((h1.wr b2 (o2 + ((IntKind.wrap .i64 (n + n3))).toNat * 6) [.int .u64 n4, .int .i64 n5, .int .i64 n6, .int .i64 n7, .string s, .string s1]).wr b3 (o3 + ((IntKind.wrap .i64 (n1 + n3))).toNat * 6) [.int .u64 n8, .int .i64 n9, .int .i64 n10, .int .i64 n11, .string s2, .string s3]) ∧ m (IntKind.wrap .i64 (n3 + 1)) ((h1.wr b2 (o2 + ((IntKind.wrap .i64 (n + n3))).toNat * 6) [.int .u64 n4, .int .i64 n5, .int .i64 n6, .int .i64 n7, .string s, .string s1]).wr b3 (o3 + ((IntKind.wrap .i64 (n1 + n3))).toNat * 6) [.int .u64 n8, .int .i64 n9, .int .i64 n10, .int .i64 n11, .string s2, .string s3]) < m n3 h1) (Q (.tuple ⟨[]⟩) h1))
theorem F111.den (V l n n1 n2) : denF Try.prog [] [] V [(6, .loop [(10, .int .i64)] []), (100, .order [0, 1, 2, 3, 4, 5, 6, 7, 8, 9, 10, 11, 12, 13, 14, 15, 16, 17, 18, 19, 20, 21, 22, 23])] Try.f111 [.v (.slice l.a l.n l.c), .v (.int .i64 n), .v (.int .i64 n1), .v (.int .i64 n2), .v (.func (.func 71) ⟨[]⟩ ⟨[]⟩)] = F111.T l n n1 n2 := by kernel_rfl
def F111.W (T111 : Sl → Int → Int → Int → PT) (args : List Value) : PT := match args with
  | [.slice l_a l_n l_c, .int .i64 n, .int .i64 n1, .int .i64 n2, .func (.func 71) ⟨[]⟩ ⟨[]⟩] => T111 ⟨l_a, l_n, l_c⟩ n n1 n2
  | _ => fun _ _ => False
def F111.V : List Value → PT := F111.W F111.T
theorem F111.ok : FOk Try.prog 111 F111.V := by
  refine ⟨⟨_, Try.func111, rfl, rfl⟩, fun args => ?_⟩
  unfold F111.V F111.W
  split
  · exact denF_okE (GOk.nil) noV_ok Try.func111 (F111.den noV ⟨_, _, _⟩ _ _ _)
  · exact fun _ _ h => h.elim
@[reducible] def F103.G (T111 : Sl → Int → Int → Int → PT) (l : Sl) (n n1 n2 : Int) : PT := fun h Q =>
  ∃ (I : Int → Int → Hp → Prop) (m : Int → Int → Hp → Nat), I (IntKind.wrap .i64 (n1 - n)) (IntKind.wrap .i64 (n2 - n1)) h ∧ (∀ n3 n4 : Int, ∀ h1 : Hp, I n3 n4 h1 → par (n3 = n4) (T111 l (IntKind.wrap .i64 (n1 - n3)) n1 n3 h1 fun r h2 => Q (.tuple ⟨[]⟩) h2) (par (n4 < n3) (T111 l (IntKind.wrap .i64 (n1 - n3)) n1 n4 h1 fun r1 h3 => I (IntKind.wrap .i64 (n3 - n4)) n4 h3 ∧ m (IntKind.wrap .i64 (n3 - n4)) n4 h3 < m n3 n4 h1) (T111 l (IntKind.wrap .i64 (n1 - n3)) (IntKind.wrap .i64 ((IntKind.wrap .i64 (n1 + n4)) - n3)) n3 h1 fun r2 h4 => I n3 (IntKind.wrap .i64 (n4 - n3)) h4 ∧ m n3 (IntKind.wrap .i64 (n4 - n3)) h4 < m n3 n4 h1)))
def F103.T := F103.G F111.T
theorem F103.gen (V T111 l n n1 n2) : denF Try.prog [] [(111, F111.W T111)] V [(28, .loop [(10, .int .i64), (11, .int .i64)] [])] Try.f103 [.v (.slice l.a l.n l.c), .v (.int .i64 n), .v (.int .i64 n1), .v (.int .i64 n2), .v (.func (.func 71) ⟨[]⟩ ⟨[]⟩)] = F103.G T111 l n n1 n2 := by kernel_rfl
def F103.W (T103 : Sl → Int → Int → Int → PT) (args : List Value) : PT := match args with
  | [.slice l_a l_n l_c, .int .i64 n, .int .i64 n1, .int .i64 n2, .func (.func 71) ⟨[]⟩ ⟨[]⟩] => T103 ⟨l_a, l_n, l_c⟩ n n1 n2
  | _ => fun _ _ => False
def F103.V : List Value → PT := F103.W F103.T
theorem F103.ok : FOk Try.prog 103 F103.V := by
  refine ⟨⟨_, Try.func103, rfl, rfl⟩, fun args => ?_⟩
  unfold F103.V F103.W
  split
  · exact denF_okE (GOk.cons F111.ok (GOk.nil)) noV_ok Try.func103 (F103.gen noV F111.T ⟨_, _, _⟩ _ _ _)
  · exact fun _ _ h => h.elim
@[reducible] def F81.G (T90 : ByteArray → ByteArray → PT) (s s1 : ByteArray) : PT := fun h Q =>
  T90 s s1 h fun r h1 => ∃ n : Int, r = .int .i64 n ∧ Q (.int .i64 n) h1
def F81.T := F81.G F90.T
theorem F81.gen (V T90 s s1) : denF Try.prog [] [(90, F90.W T90)] V [] Try.f81 [.v (.string s), .v (.string s1)] = F81.G T90 s s1 := by kernel_rfl
def F81.W (T81 : ByteArray → ByteArray → PT) (args : List Value) : PT := match args with
  | [.string s, .string s1] => T81 s s1
  | _ => fun _ _ => False
def F81.V : List Value → PT := F81.W F81.T
theorem F81.ok : FOk Try.prog 81 F81.V := by
  refine ⟨⟨_, Try.func81, rfl, rfl⟩, fun args => ?_⟩
  unfold F81.V F81.W
  split
  · exact denF_okE (GOk.consX F90.ok (GOk.nil)) noV_ok Try.func81 (F81.gen noV F90.T _ _)
  · exact fun _ _ h => h.elim
@[reducible] def F72.G (T81 : ByteArray → ByteArray → PT) (s s1 : ByteArray) : PT := fun h Q =>
  T81 s s1 h fun r h1 => ∃ n : Int, r = .int .i64 n ∧ Q (.int .i64 n) h1
def F72.T := F72.G F81.T
theorem F72.gen (V T81 s s1) : denF Try.prog [] [(81, F81.W T81)] V [] Try.f72 [.v (.string s), .v (.string s1)] = F72.G T81 s s1 := by kernel_rfl
def F72.W (T72 : ByteArray → ByteArray → PT) (args : List Value) : PT := match args with
  | [.string s, .string s1] => T72 s s1
  | _ => fun _ _ => False
def F72.V : List Value → PT := F72.W F72.T
theorem F72.ok : FOk Try.prog 72 F72.V := by
  refine ⟨⟨_, Try.func72, rfl, rfl⟩, fun args => ?_⟩
  unfold F72.V F72.W
  split
  · exact denF_okE (GOk.cons F81.ok (GOk.nil)) noV_ok Try.func72 (F72.gen noV F81.T _ _)
  · exact fun _ _ h => h.elim
@[reducible] def F71.G (T72 : ByteArray → ByteArray → PT) (n n1 n2 n3 : Int) (s s1 : ByteArray) (n4 n5 n6 n7 : Int) (s2 s3 : ByteArray) : PT := fun h Q =>
  T72 s s2 h fun r h1 => ∃ n8 : Int, r = .int .i64 n8 ∧ Q (.int .i64 n8) h1
def F71.T := F71.G F72.T
theorem F71.gen (V T72 n n1 n2 n3 s s1 n4 n5 n6 n7 s2 s3) : denF Try.prog [2, 3] [(72, F72.W T72)] V [] Try.f71 [.v (.agg ⟨[.int .u64 n, .int .i64 n1, .int .i64 n2, .int .i64 n3, .string s, .string s1]⟩), .v (.agg ⟨[.int .u64 n4, .int .i64 n5, .int .i64 n6, .int .i64 n7, .string s2, .string s3]⟩)] = F71.G T72 n n1 n2 n3 s s1 n4 n5 n6 n7 s2 s3 := by kernel_rfl
def F71.W (T71 : Int → Int → Int → Int → ByteArray → ByteArray → Int → Int → Int → Int → ByteArray → ByteArray → PT) (args : List Value) : PT := match args with
  | [.agg ⟨[.int .u64 n, .int .i64 n1, .int .i64 n2, .int .i64 n3, .string s, .string s1]⟩, .agg ⟨[.int .u64 n4, .int .i64 n5, .int .i64 n6, .int .i64 n7, .string s2, .string s3]⟩] => T71 n n1 n2 n3 s s1 n4 n5 n6 n7 s2 s3
  | _ => fun _ _ => False
def F71.V : List Value → PT := F71.W F71.T
theorem F71.ok : FOk Try.prog 71 F71.V := by
  refine ⟨⟨_, Try.func71, rfl, rfl⟩, fun args => ?_⟩
  unfold F71.V F71.W
  split
  · exact denF_okE (GOk.cons F72.ok (GOk.nil)) noV_ok Try.func71 (F71.gen noV F72.T _ _ _ _ _ _ _ _ _ _ _ _)
  · exact fun _ _ h => h.elim
@[reducible] def F88.G (T71 : Int → Int → Int → Int → ByteArray → ByteArray → Int → Int → Int → Int → ByteArray → ByteArray → PT) (l : Sl) (n n1 : Int) : PT := fun h Q =>
  ∃ (I : Int → Hp → Prop) (m : Int → Hp → Nat), I (IntKind.wrap .i64 (n + 1)) h ∧ (∀ n2 : Int, ∀ h1 : Hp, I n2 h1 → par (n2 < n1) (∃ (I1 : Int → Hp → Prop) (m1 : Int → Hp → Nat), I1 n2 h1 ∧ (∀ n3 : Int, ∀ h2 : Hp, I1 n3 h2 → par (n < n3) (∃ b o, (l.a : Option Addr) = some ⟨b, o, none⟩ ∧ ((0 : Int) ≤ n3 ∧ n3 < (l.n : Int)) ∧ ∃ n4 : Int, h2.at b (o + n3.toNat * 6) = some (.int .u64 n4) ∧ ∃ n5 : Int, h2.at b ((o + n3.toNat * 6) + 1) = some (.int .i64 n5) ∧ ∃ n6 : Int, h2.at b ((o + n3.toNat * 6) + 2) = some (.int .i64 n6) ∧ ∃ n7 : Int, h2.at b ((o + n3.toNat * 6) + 3) = some (.int .i64 n7) ∧ ∃ s : ByteArray, h2.at b ((o + n3.toNat * 6) + 4) = some (.string s) ∧ ∃ s1 : ByteArray, h2.at b ((o + n3.toNat * 6) + 5) = some (.string s1) ∧ ∃ b1 o1, (l.a : Option Addr) = some ⟨b1, o1, none⟩ ∧ ((0 : Int) ≤ (IntKind.wrap .i64 (n3 - 1)) ∧ (IntKind.wrap .i64 (n3 - 1)) < (l.n : Int)) ∧ ∃ n8 : Int, h2.at b1 (o1 + ((IntKind.wrap .i64 (n3 - 1))).toNat * 6) = some (.int .u64 n8) ∧ ∃ n9 : Int, h2.at b1 ((o1 + ((IntKind.wrap .i64 (n3 - 1))).toNat * 6) + 1) = some (.int .i64 n9) ∧ ∃ n10 : Int, h2.at b1 ((o1 + ((IntKind.wrap .i64 (n3 - 1))).toNat * 6) + 2) = some (.int .i64 n10) ∧ ∃ n11 : Int, h2.at b1 ((o1 + ((IntKind.wrap .i64 (n3 - 1))).toNat * 6) + 3) = some (.int .i64 n11) ∧ ∃ s2 : ByteArray, h2.at b1 ((o1 + ((IntKind.wrap .i64 (n3 - 1))).toNat * 6) + 4) = some (.string s2) ∧ ∃ s3 : ByteArray, h2.at b1 ((o1 + ((IntKind.wrap .i64 (n3 - 1))).toNat * 6) + 5) = some (.string s3) ∧ T71 n4 n5 n6 n7 s s1 n8 n9 n10 n11 s2 s3 h2 fun r h3 => ∃ n12 : Int, r = .int .i64 n12 ∧ par (n12 < 0) (∃ b2 o2, (l.a : Option Addr) = some ⟨b2, o2, none⟩ ∧ ((0 : Int) ≤ (IntKind.wrap .i64 (n3 - 1)) ∧ (IntKind.wrap .i64 (n3 - 1)) < (l.n : Int)) ∧ ∃ n13 : Int, h3.at b2 (o2 + ((IntKind.wrap .i64 (n3 - 1))).toNat * 6) = some (.int .u64 n13) ∧ ∃ n14 : Int, h3.at b2 ((o2 + ((IntKind.wrap .i64 (n3 - 1))).toNat * 6) + 1) = some (.int .i64 n14) ∧ ∃ n15 : Int, h3.at b2 ((o2 + ((IntKind.wrap .i64 (n3 - 1))).toNat * 6) + 2) = some (.int .i64 n15) ∧ ∃ n16 : Int, h3.at b2 ((o2 + ((IntKind.wrap .i64 (n3 - 1))).toNat * 6) + 3) = some (.int .i64 n16) ∧ ∃ s4 : ByteArray, h3.at b2 ((o2 + ((IntKind.wrap .i64 (n3 - 1))).toNat * 6) + 4) = some (.string s4) ∧ ∃ s5 : ByteArray, h3.at b2 ((o2 + ((IntKind.wrap .i64 (n3 - 1))).toNat * 6) + 5) = some (.string s5) ∧ ∃ b3 o3, (l.a : Option Addr) = some ⟨b3, o3, none⟩ ∧ ((0 : Int) ≤ n3 ∧ n3 < (l.n : Int)) ∧ ∃ n17 : Int, h3.at b3 (o3 + n3.toNat * 6) = some (.int .u64 n17) ∧ ∃ n18 : Int, h3.at b3 ((o3 + n3.toNat * 6) + 1) = some (.int .i64 n18) ∧ ∃ n19 : Int, h3.at b3 ((o3 + n3.toNat * 6) + 2) = some (.int .i64 n19) ∧ ∃ n20 : Int, h3.at b3 ((o3 + n3.toNat * 6) + 3) = some (.int .i64 n20) ∧ ∃ s6 : ByteArray, h3.at b3 ((o3 + n3.toNat * 6) + 4) = some (.string s6) ∧ ∃ s7 : ByteArray, h3.at b3 ((o3 + n3.toNat * 6) + 5) = some (.string s7) ∧ ∃ b4 o4, (l.a : Option Addr) = some ⟨b4, o4, none⟩ ∧ ((0 : Int) ≤ n3 ∧ n3 < (l.n : Int)) ∧ h3.canW b4 (o4 + n3.toNat * 6) 6 ∧ ∃ b5 o5, (l.a : Option Addr) = some ⟨b5, o5, none⟩ ∧ ((0 : Int) ≤ (IntKind.wrap .i64 (n3 - 1)) ∧ (IntKind.wrap .i64 (n3 - 1)) < (l.n : Int)) ∧ (h3.wr b4 (o4 + n3.toNat * 6) [.int .u64 n13, .int .i64 n14, .int .i64 n15, .int .i64 n16, .string s4, .string s5]).canW b5 (o5 + ((IntKind.wrap .i64 (n3 - 1))).toNat * 6) 6 ∧ I1 (IntKind.wrap .i64 (n3 - 1)) ((h3.wr b4 (o4 + n3.toNat * 6) [.int .u64 n13, .int .i64 n14, .int .i64 n15, .int .i64 n16, .string s4, .string s5]).wr b5 (o5 + ((IntKind.wrap .i64 (n3 - 1))).toNat * 6) [.int .u64 n17, .int .i64 n18, .int .i64 n19, .int .i64 n20, .string s6, .string s7]) ∧ m1 (IntKind.wrap .i64 (n3 - 1)) ((h3.wr b4 (o4 + n3.toNat * 6) [.int .u64 n13, .int .i64 n14, .int .i64 n15, .int .i64 n16, .string s4, .string s5]).wr b5 (o5 + ((IntKind.wrap .i64 (n3 - 1))).toNat * 6) [.int .u64 n17, .int .i64 n18, .int .i64 n19, .int .i64 n20, .string s6, .string s7]) < m1 n3 h2) (I (IntKind.wrap .i64 (n2 + 1)) h3 ∧ m (IntKind.wrap .i64 (n2 + 1)) h3 < m n2 h1)) (I (IntKind.wrap .i64 (n2 + 1)) h2 ∧ m (IntKind.wrap .i64 (n2 + 1)) h2 < m n2 h1))) (Q (.tuple ⟨[]⟩) h1))
def F88.T := F88.G F71.T
theorem F88.gen (V T71 l n n1) : denF Try.prog [] [(71, F71.W T71)] V [(6, .loop [(8, .int .i64)] []), (402, .loop [(9, .int .i64)] []), (3216, .order [0, 1, 2, 3, 4, 5, 6, 7, 8, 9, 10, 11, 12, 13, 14, 15, 16]), (6436, .order [0, 1, 2, 3, 4, 5, 6, 7, 8, 9, 10, 11, 12, 13, 14, 15, 16, 17])] Try.f88 [.v (.slice l.a l.n l.c), .v (.int .i64 n), .v (.int .i64 n1), .v (.func (.func 71) ⟨[]⟩ ⟨[]⟩)] = F88.G T71 l n n1 := by kernel_rfl
def F88.W (T88 : Sl → Int → Int → PT) (args : List Value) : PT := match args with
  | [.slice l_a l_n l_c, .int .i64 n, .int .i64 n1, .func (.func 71) ⟨[]⟩ ⟨[]⟩] => T88 ⟨l_a, l_n, l_c⟩ n n1
  | _ => fun _ _ => False
def F88.V : List Value → PT := F88.W F88.T
theorem F88.ok : FOk Try.prog 88 F88.V := by
  refine ⟨⟨_, Try.func88, rfl, rfl⟩, fun args => ?_⟩
  unfold F88.V F88.W
  split
  · exact denF_okE (GOk.cons F71.ok (GOk.nil)) noV_ok Try.func88 (F88.gen noV F71.T ⟨_, _, _⟩ _ _)
  · exact fun _ _ h => h.elim
@[reducible] def F89.G (T89 : Sl → Int → Int → Int → PT) (l : Sl) (n n1 n2 : Int) : PT := fun h Q =>
  par ((IntKind.wrap .i64 (n1 - n)) = 1) (∃ (I : Int → Int → Hp → Prop) (m : Int → Int → Hp → Nat), I n1 n2 h ∧ (∀ n3 n4 : Int, ∀ h1 : Hp, I n3 n4 h1 → par (n3 < n4) ((0 : Int) ≤ 1 ∧ ∃ b o, (l.a : Option Addr) = some ⟨b, o, none⟩ ∧ ((0 : Int) ≤ (IntKind.wrap .i64 (shrI .u64 (IntKind.wrap .u64 (IntKind.wrap .i64 (n3 + n4))) 1)) ∧ (IntKind.wrap .i64 (shrI .u64 (IntKind.wrap .u64 (IntKind.wrap .i64 (n3 + n4))) 1)) < (l.n : Int)) ∧ ∃ n5 : Int, h1.at b (o + ((IntKind.wrap .i64 (shrI .u64 (IntKind.wrap .u64 (IntKind.wrap .i64 (n3 + n4))) 1))).toNat * 6) = some (.int .u64 n5) ∧ ∃ n6 : Int, h1.at b ((o + ((IntKind.wrap .i64 (shrI .u64 (IntKind.wrap .u64 (IntKind.wrap .i64 (n3 + n4))) 1))).toNat * 6) + 1) = some (.int .i64 n6) ∧ ∃ n7 : Int, h1.at b ((o + ((IntKind.wrap .i64 (shrI .u64 (IntKind.wrap .u64 (IntKind.wrap .i64 (n3 + n4))) 1))).toNat * 6) + 2) = some (.int .i64 n7) ∧ ∃ n8 : Int, h1.at b ((o + ((IntKind.wrap .i64 (shrI .u64 (IntKind.wrap .u64 (IntKind.wrap .i64 (n3 + n4))) 1))).toNat * 6) + 3) = some (.int .i64 n8) ∧ ∃ s : ByteArray, h1.at b ((o + ((IntKind.wrap .i64 (shrI .u64 (IntKind.wrap .u64 (IntKind.wrap .i64 (n3 + n4))) 1))).toNat * 6) + 4) = some (.string s) ∧ ∃ s1 : ByteArray, h1.at b ((o + ((IntKind.wrap .i64 (shrI .u64 (IntKind.wrap .u64 (IntKind.wrap .i64 (n3 + n4))) 1))).toNat * 6) + 5) = some (.string s1) ∧ ∃ b1 o1, (l.a : Option Addr) = some ⟨b1, o1, none⟩ ∧ ((0 : Int) ≤ n ∧ n < (l.n : Int)) ∧ ∃ n9 : Int, h1.at b1 (o1 + n.toNat * 6) = some (.int .u64 n9) ∧ ∃ n10 : Int, h1.at b1 ((o1 + n.toNat * 6) + 1) = some (.int .i64 n10) ∧ ∃ n11 : Int, h1.at b1 ((o1 + n.toNat * 6) + 2) = some (.int .i64 n11) ∧ ∃ n12 : Int, h1.at b1 ((o1 + n.toNat * 6) + 3) = some (.int .i64 n12) ∧ ∃ s2 : ByteArray, h1.at b1 ((o1 + n.toNat * 6) + 4) = some (.string s2) ∧ ∃ s3 : ByteArray, h1.at b1 ((o1 + n.toNat * 6) + 5) = some (.string s3) ∧ F71.T n5 n6 n7 n8 s s1 n9 n10 n11 n12 s2 s3 h1 fun r h2 => ∃ n13 : Int, r = .int .i64 n13 ∧ par (n13 < 0) (I (IntKind.wrap .i64 ((IntKind.wrap .i64 (shrI .u64 (IntKind.wrap .u64 (IntKind.wrap .i64 (n3 + n4))) 1)) + 1)) n4 h2 ∧ m (IntKind.wrap .i64 ((IntKind.wrap .i64 (shrI .u64 (IntKind.wrap .u64 (IntKind.wrap .i64 (n3 + n4))) 1)) + 1)) n4 h2 < m n3 n4 h1) (I n3 (IntKind.wrap .i64 (shrI .u64 (IntKind.wrap .u64 (IntKind.wrap .i64 (n3 + n4))) 1)) h2 ∧ m n3 (IntKind.wrap .i64 (shrI .u64 (IntKind.wrap .u64 (IntKind.wrap .i64 (n3 + n4))) 1)) h2 < m n3 n4 h1)) (∃ (I1 : Int → Hp → Prop) (m1 : Int → Hp → Nat), I1 n h1 ∧ (∀ n14 : Int, ∀ h3 : Hp, I1 n14 h3 → par (n14 < (IntKind.wrap .i64 (n3 - 1))) (∃ b2 o2, (l.a : Option Addr) = some ⟨b2, o2, none⟩ ∧ ((0 : Int) ≤ (IntKind.wrap .i64 (n14 + 1)) ∧ (IntKind.wrap .i64 (n14 + 1)) < (l.n : Int)) ∧ ∃ n15 : Int, h3.at b2 (o2 + ((IntKind.wrap .i64 (n14 + 1))).toNat * 6) = some (.int .u64 n15) ∧ ∃ n16 : Int, h3.at b2 ((o2 + ((IntKind.wrap .i64 (n14 + 1))).toNat * 6) + 1) = some (.int .i64 n16) ∧ ∃ n17 : Int, h3.at b2 ((o2 + ((IntKind.wrap .i64 (n14 + 1))).toNat * 6) + 2) = some (.int .i64 n17) ∧ ∃ n18 : Int, h3.at b2 ((o2 + ((IntKind.wrap .i64 (n14 + 1))).toNat * 6) + 3) = some (.int .i64 n18) ∧ ∃ s4 : ByteArray, h3.at b2 ((o2 + ((IntKind.wrap .i64 (n14 + 1))).toNat * 6) + 4) = some (.string s4) ∧ ∃ s5 : ByteArray, h3.at b2 ((o2 + ((IntKind.wrap .i64 (n14 + 1))).toNat * 6) + 5) = some (.string s5) ∧ ∃ b3 o3, (l.a : Option Addr) = some ⟨b3, o3, none⟩ ∧ ((0 : Int) ≤ n14 ∧ n14 < (l.n : Int)) ∧ ∃ n19 : Int, h3.at b3 (o3 + n14.toNat * 6) = some (.int .u64 n19) ∧ ∃ n20 : Int, h3.at b3 ((o3 + n14.toNat * 6) + 1) = some (.int .i64 n20) ∧ ∃ n21 : Int, h3.at b3 ((o3 + n14.toNat * 6) + 2) = some (.int .i64 n21) ∧ ∃ n22 : Int, h3.at b3 ((o3 + n14.toNat * 6) + 3) = some (.int .i64 n22) ∧ ∃ s6 : ByteArray, h3.at b3 ((o3 + n14.toNat * 6) + 4) = some (.string s6) ∧ ∃ s7 : ByteArray, h3.at b3 ((o3 + n14.toNat * 6) + 5) = some (.string s7) ∧ ∃ b4 o4, (l.a : Option Addr) = some ⟨b4, o4, none⟩ ∧ ((0 : Int) ≤ n14 ∧ n14 < (l.n : Int)) ∧ h3.canW b4 (o4 + n14.toNat * 6) 6 ∧ ∃ b5 o5, (l.a : Option Addr) = some ⟨b5, o5, none⟩ ∧ ((0 : Int) ≤ (IntKind.wrap .i64 (n14 + 1)) ∧ (IntKind.wrap .i64 (n14 + 1)) < (l.n : Int)) ∧ (h3.wr b4 (o4 + n14.toNat * 6) [.int .u64 n15, .int .i64 n16, .int .i64 n17, .int .i64 n18, .string s4, .string s5]).canW b5 (o5 + ((IntKind.wrap .i64 (n14 + 1))).toNat * 6) 6 ∧ I1 (IntKind.wrap .i64 (n14 + 1)) ((h3.wr b4 (o4 + n14.toNat * 6) [.int .u64 n15, .int .i64 n16, .int .i64 n17, .int .i64 n18, .string s4, .string s5]).wr b5 (o5 + ((IntKind.wrap .i64 (n14 + 1))).toNat * 6) [.int .u64 n19, .int .i64 n20, .int .i64 n21, .int .i64 n22, .string s6, .string s7]) ∧ m1 (IntKind.wrap .i64 (n14 + 1)) ((h3.wr b4 (o4 + n14.toNat * 6) [.int .u64 n15, .int .i64 n16, .int .i64 n17, .int .i64 n18, .string s4, .string s5]).wr b5 (o5 + ((IntKind.wrap .i64 (n14 + 1))).toNat * 6) [.int .u64 n19, .int .i64 n20, .int .i64 n21, .int .i64 n22, .string s6, .string s7]) < m1 n14 h3) (Q (.tuple ⟨[]⟩) h3))))) (par ((IntKind.wrap .i64 (n2 - n1)) = 1) (∃ (I2 : Int → Int → Hp → Prop) (m2 : Int → Int → Hp → Nat), I2 n n1 h ∧ (∀ n23 n24 : Int, ∀ h4 : Hp, I2 n23 n24 h4 → par (n23 < n24) ((0 : Int) ≤ 1 ∧ ∃ b6 o6, (l.a : Option Addr) = some ⟨b6, o6, none⟩ ∧ ((0 : Int) ≤ n1 ∧ n1 < (l.n : Int)) ∧ ∃ n25 : Int, h4.at b6 (o6 + n1.toNat * 6) = some (.int .u64 n25) ∧ ∃ n26 : Int, h4.at b6 ((o6 + n1.toNat * 6) + 1) = some (.int .i64 n26) ∧ ∃ n27 : Int, h4.at b6 ((o6 + n1.toNat * 6) + 2) = some (.int .i64 n27) ∧ ∃ n28 : Int, h4.at b6 ((o6 + n1.toNat * 6) + 3) = some (.int .i64 n28) ∧ ∃ s8 : ByteArray, h4.at b6 ((o6 + n1.toNat * 6) + 4) = some (.string s8) ∧ ∃ s9 : ByteArray, h4.at b6 ((o6 + n1.toNat * 6) + 5) = some (.string s9) ∧ ∃ b7 o7, (l.a : Option Addr) = some ⟨b7, o7, none⟩ ∧ ((0 : Int) ≤ (IntKind.wrap .i64 (shrI .u64 (IntKind.wrap .u64 (IntKind.wrap .i64 (n23 + n24))) 1)) ∧ (IntKind.wrap .i64 (shrI .u64 (IntKind.wrap .u64 (IntKind.wrap .i64 (n23 + n24))) 1)) < (l.n : Int)) ∧ ∃ n29 : Int, h4.at b7 (o7 + ((IntKind.wrap .i64 (shrI .u64 (IntKind.wrap .u64 (IntKind.wrap .i64 (n23 + n24))) 1))).toNat * 6) = some (.int .u64 n29) ∧ ∃ n30 : Int, h4.at b7 ((o7 + ((IntKind.wrap .i64 (shrI .u64 (IntKind.wrap .u64 (IntKind.wrap .i64 (n23 + n24))) 1))).toNat * 6) + 1) = some (.int .i64 n30) ∧ ∃ n31 : Int, h4.at b7 ((o7 + ((IntKind.wrap .i64 (shrI .u64 (IntKind.wrap .u64 (IntKind.wrap .i64 (n23 + n24))) 1))).toNat * 6) + 2) = some (.int .i64 n31) ∧ ∃ n32 : Int, h4.at b7 ((o7 + ((IntKind.wrap .i64 (shrI .u64 (IntKind.wrap .u64 (IntKind.wrap .i64 (n23 + n24))) 1))).toNat * 6) + 3) = some (.int .i64 n32) ∧ ∃ s10 : ByteArray, h4.at b7 ((o7 + ((IntKind.wrap .i64 (shrI .u64 (IntKind.wrap .u64 (IntKind.wrap .i64 (n23 + n24))) 1))).toNat * 6) + 4) = some (.string s10) ∧ ∃ s11 : ByteArray, h4.at b7 ((o7 + ((IntKind.wrap .i64 (shrI .u64 (IntKind.wrap .u64 (IntKind.wrap .i64 (n23 + n24))) 1))).toNat * 6) + 5) = some (.string s11) ∧ F71.T n25 n26 n27 n28 s8 s9 n29 n30 n31 n32 s10 s11 h4 fun r1 h5 => ∃ n33 : Int, r1 = .int .i64 n33 ∧ par (n33 < 0) (I2 n23 (IntKind.wrap .i64 (shrI .u64 (IntKind.wrap .u64 (IntKind.wrap .i64 (n23 + n24))) 1)) h5 ∧ m2 n23 (IntKind.wrap .i64 (shrI .u64 (IntKind.wrap .u64 (IntKind.wrap .i64 (n23 + n24))) 1)) h5 < m2 n23 n24 h4) (I2 (IntKind.wrap .i64 ((IntKind.wrap .i64 (shrI .u64 (IntKind.wrap .u64 (IntKind.wrap .i64 (n23 + n24))) 1)) + 1)) n24 h5 ∧ m2 (IntKind.wrap .i64 ((IntKind.wrap .i64 (shrI .u64 (IntKind.wrap .u64 (IntKind.wrap .i64 (n23 + n24))) 1)) + 1)) n24 h5 < m2 n23 n24 h4)) (∃ (I3 : Int → Hp → Prop) (m3 : Int → Hp → Nat), I3 n1 h4 ∧ (∀ n34 : Int, ∀ h6 : Hp, I3 n34 h6 → par (n23 < n34) (∃ b8 o8, (l.a : Option Addr) = some ⟨b8, o8, none⟩ ∧ ((0 : Int) ≤ (IntKind.wrap .i64 (n34 - 1)) ∧ (IntKind.wrap .i64 (n34 - 1)) < (l.n : Int)) ∧ ∃ n35 : Int, h6.at b8 (o8 + ((IntKind.wrap .i64 (n34 - 1))).toNat * 6) = some (.int .u64 n35) ∧ ∃ n36 : Int, h6.at b8 ((o8 + ((IntKind.wrap .i64 (n34 - 1))).toNat * 6) + 1) = some (.int .i64 n36) ∧ ∃ n37 : Int, h6.at b8 ((o8 + ((IntKind.wrap .i64 (n34 - 1))).toNat * 6) + 2) = some (.int .i64 n37) ∧ ∃ n38 : Int, h6.at b8 ((o8 + ((IntKind.wrap .i64 (n34 - 1))).toNat * 6) + 3) = some (.int .i64 n38) ∧ ∃ s12 : ByteArray, h6.at b8 ((o8 + ((IntKind.wrap .i64 (n34 - 1))).toNat * 6) + 4) = some (.string s12) ∧ ∃ s13 : ByteArray, h6.at b8 ((o8 + ((IntKind.wrap .i64 (n34 - 1))).toNat * 6) + 5) = some (.string s13) ∧ ∃ b9 o9, (l.a : Option Addr) = some ⟨b9, o9, none⟩ ∧ ((0 : Int) ≤ n34 ∧ n34 < (l.n : Int)) ∧ ∃ n39 : Int, h6.at b9 (o9 + n34.toNat * 6) = some (.int .u64 n39) ∧ ∃ n40 : Int, h6.at b9 ((o9 + n34.toNat * 6) + 1) = some (.int .i64 n40) ∧ ∃ n41 : Int, h6.at b9 ((o9 + n34.toNat * 6) + 2) = some (.int .i64 n41) ∧ ∃ n42 : Int, h6.at b9 ((o9 + n34.toNat * 6) + 3) = some (.int .i64 n42) ∧ ∃ s14 : ByteArray, h6.at b9 ((o9 + n34.toNat * 6) + 4) = some (.string s14) ∧ ∃ s15 : ByteArray, h6.at b9 ((o9 + n34.toNat * 6) + 5) = some (.string s15) ∧ ∃ b10 o10, (l.a : Option Addr) = some ⟨b10, o10, none⟩ ∧ ((0 : Int) ≤ n34 ∧ n34 < (l.n : Int)) ∧ h6.canW b10 (o10 + n34.toNat * 6) 6 ∧ ∃ b11 o11, (l.a : Option Addr) = some ⟨b11, o11, none⟩ ∧ ((0 : Int) ≤ (IntKind.wrap .i64 (n34 - 1)) ∧ (IntKind.wrap .i64 (n34 - 1)) < (l.n : Int)) ∧ (h6.wr b10 (o10 + n34.toNat * 6) [.int .u64 n35, .int .i64 n36, .int .i64 n37, .int .i64 n38, .string s12, .string s13]).canW b11 (o11 + ((IntKind.wrap .i64 (n34 - 1))).toNat * 6) 6 ∧ I3 (IntKind.wrap .i64 (n34 - 1)) ((h6.wr b10 (o10 + n34.toNat * 6) [.int .u64 n35, .int .i64 n36, .int .i64 n37, .int .i64 n38, .string s12, .string s13]).wr b11 (o11 + ((IntKind.wrap .i64 (n34 - 1))).toNat * 6) [.int .u64 n39, .int .i64 n40, .int .i64 n41, .int .i64 n42, .string s14, .string s15]) ∧ m3 (IntKind.wrap .i64 (n34 - 1)) ((h6.wr b10 (o10 + n34.toNat * 6) [.int .u64 n35, .int .i64 n36, .int .i64 n37, .int .i64 n38, .string s12, .string s13]).wr b11 (o11 + ((IntKind.wrap .i64 (n34 - 1))).toNat * 6) [.int .u64 n39, .int .i64 n40, .int .i64 n41, .int .i64 n42, .string s14, .string s15]) < m3 n34 h6) (Q (.tuple ⟨[]⟩) h6))))) ((0 : Int) ≤ 1 ∧ ∃ J : Int → Int → Hp → Prop, (∀ n43 n44 : Int, ∀ h7 : Hp, J n43 n44 h7 → ∃ (I4 : Int → Int → Hp → Prop) (m4 : Int → Int → Hp → Nat), I4 n43 n44 h7 ∧ (∀ n45 n46 : Int, ∀ h8 : Hp, I4 n45 n46 h8 → par (n45 < n46) ((0 : Int) ≤ 1 ∧ ∃ b12 o12, (l.a : Option Addr) = some ⟨b12, o12, none⟩ ∧ ((0 : Int) ≤ (IntKind.wrap .i64 ((IntKind.wrap .i64 ((IntKind.wrap .i64 ((IntKind.wrap .i64 (shrI .u64 (IntKind.wrap .u64 (IntKind.wrap .i64 (n + n2))) 1)) + n1)) - 1)) - (IntKind.wrap .i64 (shrI .u64 (IntKind.wrap .u64 (IntKind.wrap .i64 (n45 + n46))) 1)))) ∧ (IntKind.wrap .i64 ((IntKind.wrap .i64 ((IntKind.wrap .i64 ((IntKind.wrap .i64 (shrI .u64 (IntKind.wrap .u64 (IntKind.wrap .i64 (n + n2))) 1)) + n1)) - 1)) - (IntKind.wrap .i64 (shrI .u64 (IntKind.wrap .u64 (IntKind.wrap .i64 (n45 + n46))) 1)))) < (l.n : Int)) ∧ ∃ n47 : Int, h8.at b12 (o12 + ((IntKind.wrap .i64 ((IntKind.wrap .i64 ((IntKind.wrap .i64 ((IntKind.wrap .i64 (shrI .u64 (IntKind.wrap .u64 (IntKind.wrap .i64 (n + n2))) 1)) + n1)) - 1)) - (IntKind.wrap .i64 (shrI .u64 (IntKind.wrap .u64 (IntKind.wrap .i64 (n45 + n46))) 1))))).toNat * 6) = some (.int .u64 n47) ∧ ∃ n48 : Int, h8.at b12 ((o12 + ((IntKind.wrap .i64 ((IntKind.wrap .i64 ((IntKind.wrap .i64 ((IntKind.wrap .i64 (shrI .u64 (IntKind.wrap .u64 (IntKind.wrap .i64 (n + n2))) 1)) + n1)) - 1)) - (IntKind.wrap .i64 (shrI .u64 (IntKind.wrap .u64 (IntKind.wrap .i64 (n45 + n46))) 1))))).toNat * 6) + 1) = some (.int .i64 n48) ∧ ∃ n49 : Int, h8.at b12 ((o12 + ((IntKind.wrap .i64 ((IntKind.wrap .i64 ((IntKind.wrap .i64 ((IntKind.wrap .i64 (shrI .u64 (IntKind.wrap .u64 (IntKind.wrap .i64 (n + n2))) 1)) + n1)) - 1)) - (IntKind.wrap .i64 (shrI .u64 (IntKind.wrap .u64 (IntKind.wrap .i64 (n45 + n46))) 1))))).toNat * 6) + 2) = some (.int .i64 n49) ∧ ∃ n50 : Int, h8.at b12 ((o12 + ((IntKind.wrap .i64 ((IntKind.wrap .i64 ((IntKind.wrap .i64 ((IntKind.wrap .i64 (shrI .u64 (IntKind.wrap .u64 (IntKind.wrap .i64 (n + n2))) 1)) + n1)) - 1)) - (IntKind.wrap .i64 (shrI .u64 (IntKind.wrap .u64 (IntKind.wrap .i64 (n45 + n46))) 1))))).toNat * 6) + 3) = some (.int .i64 n50) ∧ ∃ s16 : ByteArray, h8.at b12 ((o12 + ((IntKind.wrap .i64 ((IntKind.wrap .i64 ((IntKind.wrap .i64 ((IntKind.wrap .i64 (shrI .u64 (IntKind.wrap .u64 (IntKind.wrap .i64 (n + n2))) 1)) + n1)) - 1)) - (IntKind.wrap .i64 (shrI .u64 (IntKind.wrap .u64 (IntKind.wrap .i64 (n45 + n46))) 1))))).toNat * 6) + 4) = some (.string s16) ∧ ∃ s17 : ByteArray, h8.at b12 ((o12 + ((IntKind.wrap .i64 ((IntKind.wrap .i64 ((IntKind.wrap .i64 ((IntKind.wrap .i64 (shrI .u64 (IntKind.wrap .u64 (IntKind.wrap .i64 (n + n2))) 1)) + n1)) - 1)) - (IntKind.wrap .i64 (shrI .u64 (IntKind.wrap .u64 (IntKind.wrap .i64 (n45 + n46))) 1))))).toNat * 6) + 5) = some (.string s17) ∧ ∃ b13 o13, (l.a : Option Addr) = some ⟨b13, o13, none⟩ ∧ ((0 : Int) ≤ (IntKind.wrap .i64 (shrI .u64 (IntKind.wrap .u64 (IntKind.wrap .i64 (n45 + n46))) 1)) ∧ (IntKind.wrap .i64 (shrI .u64 (IntKind.wrap .u64 (IntKind.wrap .i64 (n45 + n46))) 1)) < (l.n : Int)) ∧ ∃ n51 : Int, h8.at b13 (o13 + ((IntKind.wrap .i64 (shrI .u64 (IntKind.wrap .u64 (IntKind.wrap .i64 (n45 + n46))) 1))).toNat * 6) = some (.int .u64 n51) ∧ ∃ n52 : Int, h8.at b13 ((o13 + ((IntKind.wrap .i64 (shrI .u64 (IntKind.wrap .u64 (IntKind.wrap .i64 (n45 + n46))) 1))).toNat * 6) + 1) = some (.int .i64 n52) ∧ ∃ n53 : Int, h8.at b13 ((o13 + ((IntKind.wrap .i64 (shrI .u64 (IntKind.wrap .u64 (IntKind.wrap .i64 (n45 + n46))) 1))).toNat * 6) + 2) = some (.int .i64 n53) ∧ ∃ n54 : Int, h8.at b13 ((o13 + ((IntKind.wrap .i64 (shrI .u64 (IntKind.wrap .u64 (IntKind.wrap .i64 (n45 + n46))) 1))).toNat * 6) + 3) = some (.int .i64 n54) ∧ ∃ s18 : ByteArray, h8.at b13 ((o13 + ((IntKind.wrap .i64 (shrI .u64 (IntKind.wrap .u64 (IntKind.wrap .i64 (n45 + n46))) 1))).toNat * 6) + 4) = some (.string s18) ∧ ∃ s19 : ByteArray, h8.at b13 ((o13 + ((IntKind.wrap .i64 (shrI .u64 (IntKind.wrap .u64 (IntKind.wrap .i64 (n45 + n46))) 1))).toNat * 6) + 5) = some (.string s19) ∧ F71.T n47 n48 n49 n50 s16 s17 n51 n52 n53 n54 s18 s19 h8 fun r2 h9 => ∃ n55 : Int, r2 = .int .i64 n55 ∧ par (n55 < 0) (I4 n45 (IntKind.wrap .i64 (shrI .u64 (IntKind.wrap .u64 (IntKind.wrap .i64 (n45 + n46))) 1)) h9 ∧ m4 n45 (IntKind.wrap .i64 (shrI .u64 (IntKind.wrap .u64 (IntKind.wrap .i64 (n45 + n46))) 1)) h9 < m4 n45 n46 h8) (I4 (IntKind.wrap .i64 ((IntKind.wrap .i64 (shrI .u64 (IntKind.wrap .u64 (IntKind.wrap .i64 (n45 + n46))) 1)) + 1)) n46 h9 ∧ m4 (IntKind.wrap .i64 ((IntKind.wrap .i64 (shrI .u64 (IntKind.wrap .u64 (IntKind.wrap .i64 (n45 + n46))) 1)) + 1)) n46 h9 < m4 n45 n46 h8)) (∃ J1 : Hp → Prop, (∀ h10 : Hp, J1 h10 → ∃ J2 : Hp → Prop, (∀ h11 : Hp, J2 h11 → par ((IntKind.wrap .i64 (shrI .u64 (IntKind.wrap .u64 (IntKind.wrap .i64 (n + n2))) 1)) < (IntKind.wrap .i64 ((IntKind.wrap .i64 ((IntKind.wrap .i64 (shrI .u64 (IntKind.wrap .u64 (IntKind.wrap .i64 (n + n2))) 1)) + n1)) - n45))) (par ((IntKind.wrap .i64 ((IntKind.wrap .i64 ((IntKind.wrap .i64 (shrI .u64 (IntKind.wrap .u64 (IntKind.wrap .i64 (n + n2))) 1)) + n1)) - n45)) < n2) (T89 l (IntKind.wrap .i64 (shrI .u64 (IntKind.wrap .u64 (IntKind.wrap .i64 (n + n2))) 1)) (IntKind.wrap .i64 ((IntKind.wrap .i64 ((IntKind.wrap .i64 (shrI .u64 (IntKind.wrap .u64 (IntKind.wrap .i64 (n + n2))) 1)) + n1)) - n45)) n2 h11 fun r3 h12 => Q (.tuple ⟨[]⟩) h12) (Q (.tuple ⟨[]⟩) h11)) (Q (.tuple ⟨[]⟩) h11)) ∧ (par (n < n45) (par (n45 < (IntKind.wrap .i64 (shrI .u64 (IntKind.wrap .u64 (IntKind.wrap .i64 (n + n2))) 1))) (T89 l n n45 (IntKind.wrap .i64 (shrI .u64 (IntKind.wrap .u64 (IntKind.wrap .i64 (n + n2))) 1)) h10 fun r4 h13 => J2 h13) (J2 h10)) (J2 h10))) ∧ (par (n45 < n1) (par (n1 < (IntKind.wrap .i64 ((IntKind.wrap .i64 ((IntKind.wrap .i64 (shrI .u64 (IntKind.wrap .u64 (IntKind.wrap .i64 (n + n2))) 1)) + n1)) - n45))) (F103.T l n45 n1 (IntKind.wrap .i64 ((IntKind.wrap .i64 ((IntKind.wrap .i64 (shrI .u64 (IntKind.wrap .u64 (IntKind.wrap .i64 (n + n2))) 1)) + n1)) - n45)) h8 fun r5 h14 => J1 h14) (J1 h8)) (J1 h8))))) ∧ (par ((IntKind.wrap .i64 (shrI .u64 (IntKind.wrap .u64 (IntKind.wrap .i64 (n + n2))) 1)) < n1) (J (IntKind.wrap .i64 ((IntKind.wrap .i64 ((IntKind.wrap .i64 (shrI .u64 (IntKind.wrap .u64 (IntKind.wrap .i64 (n + n2))) 1)) + n1)) - n2)) (IntKind.wrap .i64 (shrI .u64 (IntKind.wrap .u64 (IntKind.wrap .i64 (n + n2))) 1)) h) (J n n1 h))))
def F89.TN : Nat → Sl → Int → Int → Int → PT
  | 0 => fun _ _ _ _ _ _ => False
  | n + 1 => F89.G (F89.TN n)
def F89.T (l : Sl) (n n1 n2 : Int) : PT := fun h Q => ∃ nf, F89.TN nf l n n1 n2 h Q
def F89.W (T89 : Sl → Int → Int → Int → PT) (args : List Value) : PT := match args with
  | [.slice l_a l_n l_c, .int .i64 n, .int .i64 n1, .int .i64 n2, .func (.func 71) ⟨[]⟩ ⟨[]⟩] => T89 ⟨l_a, l_n, l_c⟩ n n1 n2
  | _ => fun _ _ => False
def F89.V : List Value → PT := F89.W F89.T
theorem F89.gen (V : Value → List Value → PT) (T71 : Int → Int → Int → Int → ByteArray → ByteArray → Int → Int → Int → Int → ByteArray → ByteArray → PT) (T89 : Sl → Int → Int → Int → PT) (T103 : Sl → Int → Int → Int → PT) (l : Sl) (n n1 n2 : Int) : denF Try.prog [] [(71, F71.W T71), (89, F89.W T89), (103, F103.W T103)] V [(63, .join [(20, .int .i64), (21, .int .i64)] []), (172, .loop [(10, .int .i64), (11, .int .i64)] []), (428, .loop [(14, .int .i64), (15, .int .i64)] []), (698, .loop [(13, .int .i64)] []), (1020, .loop [(20, .int .i64), (21, .int .i64)] []), (1023, .join [] []), (1722, .loop [(17, .int .i64)] []), (2047, .join [] []), (5514, .order [0, 1, 2, 3, 4, 5, 6, 7, 8, 9, 10]), (11172, .order [0, 1, 2, 3, 4, 5, 6, 7, 8, 9, 10, 11, 12, 13, 14, 15, 16, 17]), (13706, .order [0, 1, 2, 3, 4, 5, 6, 7, 8, 9, 10, 11]), (27556, .order [0, 1, 2, 3, 4, 5, 6, 7, 8, 9, 10, 11, 12, 13, 14, 15, 16, 17]), (32650, .order [0, 1, 2, 3, 4, 5, 6, 7, 8, 9, 10, 11, 12, 13])] Try.f89 [.v (.slice l.a l.n l.c), .v (.int .i64 n), .v (.int .i64 n1), .v (.int .i64 n2), .v (.func (.func 71) ⟨[]⟩ ⟨[]⟩)] = fun h Q =>
  par ((IntKind.wrap .i64 (n1 - n)) = 1) (∃ (I : Int → Int → Hp → Prop) (m : Int → Int → Hp → Nat), I n1 n2 h ∧ (∀ n3 n4 : Int, ∀ h1 : Hp, I n3 n4 h1 → par (n3 < n4) ((0 : Int) ≤ 1 ∧ ∃ b o, (l.a : Option Addr) = some ⟨b, o, none⟩ ∧ ((0 : Int) ≤ (IntKind.wrap .i64 (shrI .u64 (IntKind.wrap .u64 (IntKind.wrap .i64 (n3 + n4))) 1)) ∧ (IntKind.wrap .i64 (shrI .u64 (IntKind.wrap .u64 (IntKind.wrap .i64 (n3 + n4))) 1)) < (l.n : Int)) ∧ ∃ n5 : Int, h1.at b (o + ((IntKind.wrap .i64 (shrI .u64 (IntKind.wrap .u64 (IntKind.wrap .i64 (n3 + n4))) 1))).toNat * 6) = some (.int .u64 n5) ∧ ∃ n6 : Int, h1.at b ((o + ((IntKind.wrap .i64 (shrI .u64 (IntKind.wrap .u64 (IntKind.wrap .i64 (n3 + n4))) 1))).toNat * 6) + 1) = some (.int .i64 n6) ∧ ∃ n7 : Int, h1.at b ((o + ((IntKind.wrap .i64 (shrI .u64 (IntKind.wrap .u64 (IntKind.wrap .i64 (n3 + n4))) 1))).toNat * 6) + 2) = some (.int .i64 n7) ∧ ∃ n8 : Int, h1.at b ((o + ((IntKind.wrap .i64 (shrI .u64 (IntKind.wrap .u64 (IntKind.wrap .i64 (n3 + n4))) 1))).toNat * 6) + 3) = some (.int .i64 n8) ∧ ∃ s : ByteArray, h1.at b ((o + ((IntKind.wrap .i64 (shrI .u64 (IntKind.wrap .u64 (IntKind.wrap .i64 (n3 + n4))) 1))).toNat * 6) + 4) = some (.string s) ∧ ∃ s1 : ByteArray, h1.at b ((o + ((IntKind.wrap .i64 (shrI .u64 (IntKind.wrap .u64 (IntKind.wrap .i64 (n3 + n4))) 1))).toNat * 6) + 5) = some (.string s1) ∧ ∃ b1 o1, (l.a : Option Addr) = some ⟨b1, o1, none⟩ ∧ ((0 : Int) ≤ n ∧ n < (l.n : Int)) ∧ ∃ n9 : Int, h1.at b1 (o1 + n.toNat * 6) = some (.int .u64 n9) ∧ ∃ n10 : Int, h1.at b1 ((o1 + n.toNat * 6) + 1) = some (.int .i64 n10) ∧ ∃ n11 : Int, h1.at b1 ((o1 + n.toNat * 6) + 2) = some (.int .i64 n11) ∧ ∃ n12 : Int, h1.at b1 ((o1 + n.toNat * 6) + 3) = some (.int .i64 n12) ∧ ∃ s2 : ByteArray, h1.at b1 ((o1 + n.toNat * 6) + 4) = some (.string s2) ∧ ∃ s3 : ByteArray, h1.at b1 ((o1 + n.toNat * 6) + 5) = some (.string s3) ∧ T71 n5 n6 n7 n8 s s1 n9 n10 n11 n12 s2 s3 h1 fun r h2 => ∃ n13 : Int, r = .int .i64 n13 ∧ par (n13 < 0) (I (IntKind.wrap .i64 ((IntKind.wrap .i64 (shrI .u64 (IntKind.wrap .u64 (IntKind.wrap .i64 (n3 + n4))) 1)) + 1)) n4 h2 ∧ m (IntKind.wrap .i64 ((IntKind.wrap .i64 (shrI .u64 (IntKind.wrap .u64 (IntKind.wrap .i64 (n3 + n4))) 1)) + 1)) n4 h2 < m n3 n4 h1) (I n3 (IntKind.wrap .i64 (shrI .u64 (IntKind.wrap .u64 (IntKind.wrap .i64 (n3 + n4))) 1)) h2 ∧ m n3 (IntKind.wrap .i64 (shrI .u64 (IntKind.wrap .u64 (IntKind.wrap .i64 (n3 + n4))) 1)) h2 < m n3 n4 h1)) (∃ (I1 : Int → Hp → Prop) (m1 : Int → Hp → Nat), I1 n h1 ∧ (∀ n14 : Int, ∀ h3 : Hp, I1 n14 h3 → par (n14 < (IntKind.wrap .i64 (n3 - 1))) (∃ b2 o2, (l.a : Option Addr) = some ⟨b2, o2, none⟩ ∧ ((0 : Int) ≤ (IntKind.wrap .i64 (n14 + 1)) ∧ (IntKind.wrap .i64 (n14 + 1)) < (l.n : Int)) ∧ ∃ n15 : Int, h3.at b2 (o2 + ((IntKind.wrap .i64 (n14 + 1))).toNat * 6) = some (.int .u64 n15) ∧ ∃ n16 : Int, h3.at b2 ((o2 + ((IntKind.wrap .i64 (n14 + 1))).toNat * 6) + 1) = some (.int .i64 n16) ∧ ∃ n17 : Int, h3.at b2 ((o2 + ((IntKind.wrap .i64 (n14 + 1))).toNat * 6) + 2) = some (.int .i64 n17) ∧ ∃ n18 : Int, h3.at b2 ((o2 + ((IntKind.wrap .i64 (n14 + 1))).toNat * 6) + 3) = some (.int .i64 n18) ∧ ∃ s4 : ByteArray, h3.at b2 ((o2 + ((IntKind.wrap .i64 (n14 + 1))).toNat * 6) + 4) = some (.string s4) ∧ ∃ s5 : ByteArray, h3.at b2 ((o2 + ((IntKind.wrap .i64 (n14 + 1))).toNat * 6) + 5) = some (.string s5) ∧ ∃ b3 o3, (l.a : Option Addr) = some ⟨b3, o3, none⟩ ∧ ((0 : Int) ≤ n14 ∧ n14 < (l.n : Int)) ∧ ∃ n19 : Int, h3.at b3 (o3 + n14.toNat * 6) = some (.int .u64 n19) ∧ ∃ n20 : Int, h3.at b3 ((o3 + n14.toNat * 6) + 1) = some (.int .i64 n20) ∧ ∃ n21 : Int, h3.at b3 ((o3 + n14.toNat * 6) + 2) = some (.int .i64 n21) ∧ ∃ n22 : Int, h3.at b3 ((o3 + n14.toNat * 6) + 3) = some (.int .i64 n22) ∧ ∃ s6 : ByteArray, h3.at b3 ((o3 + n14.toNat * 6) + 4) = some (.string s6) ∧ ∃ s7 : ByteArray, h3.at b3 ((o3 + n14.toNat * 6) + 5) = some (.string s7) ∧ ∃ b4 o4, (l.a : Option Addr) = some ⟨b4, o4, none⟩ ∧ ((0 : Int) ≤ n14 ∧ n14 < (l.n : Int)) ∧ h3.canW b4 (o4 + n14.toNat * 6) 6 ∧ ∃ b5 o5, (l.a : Option Addr) = some ⟨b5, o5, none⟩ ∧ ((0 : Int) ≤ (IntKind.wrap .i64 (n14 + 1)) ∧ (IntKind.wrap .i64 (n14 + 1)) < (l.n : Int)) ∧ (h3.wr b4 (o4 + n14.toNat * 6) [.int .u64 n15, .int .i64 n16, .int .i64 n17, .int .i64 n18, .string s4, .string s5]).canW b5 (o5 + ((IntKind.wrap .i64 (n14 + 1))).toNat * 6) 6 ∧ I1 (IntKind.wrap .i64 (n14 + 1)) ((h3.wr b4 (o4 + n14.toNat * 6) [.int .u64 n15, .int .i64 n16, .int .i64 n17, .int .i64 n18, .string s4, .string s5]).wr b5 (o5 + ((IntKind.wrap .i64 (n14 + 1))).toNat * 6) [.int .u64 n19, .int .i64 n20, .int .i64 n21, .int .i64 n22, .string s6, .string s7]) ∧ m1 (IntKind.wrap .i64 (n14 + 1)) ((h3.wr b4 (o4 + n14.toNat * 6) [.int .u64 n15, .int .i64 n16, .int .i64 n17, .int .i64 n18, .string s4, .string s5]).wr b5 (o5 + ((IntKind.wrap .i64 (n14 + 1))).toNat * 6) [.int .u64 n19, .int .i64 n20, .int .i64 n21, .int .i64 n22, .string s6, .string s7]) < m1 n14 h3) (Q (.tuple ⟨[]⟩) h3))))) (par ((IntKind.wrap .i64 (n2 - n1)) = 1) (∃ (I2 : Int → Int → Hp → Prop) (m2 : Int → Int → Hp → Nat), I2 n n1 h ∧ (∀ n23 n24 : Int, ∀ h4 : Hp, I2 n23 n24 h4 → par (n23 < n24) ((0 : Int) ≤ 1 ∧ ∃ b6 o6, (l.a : Option Addr) = some ⟨b6, o6, none⟩ ∧ ((0 : Int) ≤ n1 ∧ n1 < (l.n : Int)) ∧ ∃ n25 : Int, h4.at b6 (o6 + n1.toNat * 6) = some (.int .u64 n25) ∧ ∃ n26 : Int, h4.at b6 ((o6 + n1.toNat * 6) + 1) = some (.int .i64 n26) ∧ ∃ n27 : Int, h4.at b6 ((o6 + n1.toNat * 6) + 2) = some (.int .i64 n27) ∧ ∃ n28 : Int, h4.at b6 ((o6 + n1.toNat * 6) + 3) = some (.int .i64 n28) ∧ ∃ s8 : ByteArray, h4.at b6 ((o6 + n1.toNat * 6) + 4) = some (.string s8) ∧ ∃ s9 : ByteArray, h4.at b6 ((o6 + n1.toNat * 6) + 5) = some (.string s9) ∧ ∃ b7 o7, (l.a : Option Addr) = some ⟨b7, o7, none⟩ ∧ ((0 : Int) ≤ (IntKind.wrap .i64 (shrI .u64 (IntKind.wrap .u64 (IntKind.wrap .i64 (n23 + n24))) 1)) ∧ (IntKind.wrap .i64 (shrI .u64 (IntKind.wrap .u64 (IntKind.wrap .i64 (n23 + n24))) 1)) < (l.n : Int)) ∧ ∃ n29 : Int, h4.at b7 (o7 + ((IntKind.wrap .i64 (shrI .u64 (IntKind.wrap .u64 (IntKind.wrap .i64 (n23 + n24))) 1))).toNat * 6) = some (.int .u64 n29) ∧ ∃ n30 : Int, h4.at b7 ((o7 + ((IntKind.wrap .i64 (shrI .u64 (IntKind.wrap .u64 (IntKind.wrap .i64 (n23 + n24))) 1))).toNat * 6) + 1) = some (.int .i64 n30) ∧ ∃ n31 : Int, h4.at b7 ((o7 + ((IntKind.wrap .i64 (shrI .u64 (IntKind.wrap .u64 (IntKind.wrap .i64 (n23 + n24))) 1))).toNat * 6) + 2) = some (.int .i64 n31) ∧ ∃ n32 : Int, h4.at b7 ((o7 + ((IntKind.wrap .i64 (shrI .u64 (IntKind.wrap .u64 (IntKind.wrap .i64 (n23 + n24))) 1))).toNat * 6) + 3) = some (.int .i64 n32) ∧ ∃ s10 : ByteArray, h4.at b7 ((o7 + ((IntKind.wrap .i64 (shrI .u64 (IntKind.wrap .u64 (IntKind.wrap .i64 (n23 + n24))) 1))).toNat * 6) + 4) = some (.string s10) ∧ ∃ s11 : ByteArray, h4.at b7 ((o7 + ((IntKind.wrap .i64 (shrI .u64 (IntKind.wrap .u64 (IntKind.wrap .i64 (n23 + n24))) 1))).toNat * 6) + 5) = some (.string s11) ∧ T71 n25 n26 n27 n28 s8 s9 n29 n30 n31 n32 s10 s11 h4 fun r1 h5 => ∃ n33 : Int, r1 = .int .i64 n33 ∧ par (n33 < 0) (I2 n23 (IntKind.wrap .i64 (shrI .u64 (IntKind.wrap .u64 (IntKind.wrap .i64 (n23 + n24))) 1)) h5 ∧ m2 n23 (IntKind.wrap .i64 (shrI .u64 (IntKind.wrap .u64 (IntKind.wrap .i64 (n23 + n24))) 1)) h5 < m2 n23 n24 h4) (I2 (IntKind.wrap .i64 ((IntKind.wrap .i64 (shrI .u64 (IntKind.wrap .u64 (IntKind.wrap .i64 (n23 + n24))) 1)) + 1)) n24 h5 ∧ m2 (IntKind.wrap .i64 ((IntKind.wrap .i64 (shrI .u64 (IntKind.wrap .u64 (IntKind.wrap .i64 (n23 + n24))) 1)) + 1)) n24 h5 < m2 n23 n24 h4)) (∃ (I3 : Int → Hp → Prop) (m3 : Int → Hp → Nat), I3 n1 h4 ∧ (∀ n34 : Int, ∀ h6 : Hp, I3 n34 h6 → par (n23 < n34) (∃ b8 o8, (l.a : Option Addr) = some ⟨b8, o8, none⟩ ∧ ((0 : Int) ≤ (IntKind.wrap .i64 (n34 - 1)) ∧ (IntKind.wrap .i64 (n34 - 1)) < (l.n : Int)) ∧ ∃ n35 : Int, h6.at b8 (o8 + ((IntKind.wrap .i64 (n34 - 1))).toNat * 6) = some (.int .u64 n35) ∧ ∃ n36 : Int, h6.at b8 ((o8 + ((IntKind.wrap .i64 (n34 - 1))).toNat * 6) + 1) = some (.int .i64 n36) ∧ ∃ n37 : Int, h6.at b8 ((o8 + ((IntKind.wrap .i64 (n34 - 1))).toNat * 6) + 2) = some (.int .i64 n37) ∧ ∃ n38 : Int, h6.at b8 ((o8 + ((IntKind.wrap .i64 (n34 - 1))).toNat * 6) + 3) = some (.int .i64 n38) ∧ ∃ s12 : ByteArray, h6.at b8 ((o8 + ((IntKind.wrap .i64 (n34 - 1))).toNat * 6) + 4) = some (.string s12) ∧ ∃ s13 : ByteArray, h6.at b8 ((o8 + ((IntKind.wrap .i64 (n34 - 1))).toNat * 6) + 5) = some (.string s13) ∧ ∃ b9 o9, (l.a : Option Addr) = some ⟨b9, o9, none⟩ ∧ ((0 : Int) ≤ n34 ∧ n34 < (l.n : Int)) ∧ ∃ n39 : Int, h6.at b9 (o9 + n34.toNat * 6) = some (.int .u64 n39) ∧ ∃ n40 : Int, h6.at b9 ((o9 + n34.toNat * 6) + 1) = some (.int .i64 n40) ∧ ∃ n41 : Int, h6.at b9 ((o9 + n34.toNat * 6) + 2) = some (.int .i64 n41) ∧ ∃ n42 : Int, h6.at b9 ((o9 + n34.toNat * 6) + 3) = some (.int .i64 n42) ∧ ∃ s14 : ByteArray, h6.at b9 ((o9 + n34.toNat * 6) + 4) = some (.string s14) ∧ ∃ s15 : ByteArray, h6.at b9 ((o9 + n34.toNat * 6) + 5) = some (.string s15) ∧ ∃ b10 o10, (l.a : Option Addr) = some ⟨b10, o10, none⟩ ∧ ((0 : Int) ≤ n34 ∧ n34 < (l.n : Int)) ∧ h6.canW b10 (o10 + n34.toNat * 6) 6 ∧ ∃ b11 o11, (l.a : Option Addr) = some ⟨b11, o11, none⟩ ∧ ((0 : Int) ≤ (IntKind.wrap .i64 (n34 - 1)) ∧ (IntKind.wrap .i64 (n34 - 1)) < (l.n : Int)) ∧ (h6.wr b10 (o10 + n34.toNat * 6) [.int .u64 n35, .int .i64 n36, .int .i64 n37, .int .i64 n38, .string s12, .string s13]).canW b11 (o11 + ((IntKind.wrap .i64 (n34 - 1))).toNat * 6) 6 ∧ I3 (IntKind.wrap .i64 (n34 - 1)) ((h6.wr b10 (o10 + n34.toNat * 6) [.int .u64 n35, .int .i64 n36, .int .i64 n37, .int .i64 n38, .string s12, .string s13]).wr b11 (o11 + ((IntKind.wrap .i64 (n34 - 1))).toNat * 6) [.int .u64 n39, .int .i64 n40, .int .i64 n41, .int .i64 n42, .string s14, .string s15]) ∧ m3 (IntKind.wrap .i64 (n34 - 1)) ((h6.wr b10 (o10 + n34.toNat * 6) [.int .u64 n35, .int .i64 n36, .int .i64 n37, .int .i64 n38, .string s12, .string s13]).wr b11 (o11 + ((IntKind.wrap .i64 (n34 - 1))).toNat * 6) [.int .u64 n39, .int .i64 n40, .int .i64 n41, .int .i64 n42, .string s14, .string s15]) < m3 n34 h6) (Q (.tuple ⟨[]⟩) h6))))) ((0 : Int) ≤ 1 ∧ ∃ J : Int → Int → Hp → Prop, (∀ n43 n44 : Int, ∀ h7 : Hp, J n43 n44 h7 → ∃ (I4 : Int → Int → Hp → Prop) (m4 : Int → Int → Hp → Nat), I4 n43 n44 h7 ∧ (∀ n45 n46 : Int, ∀ h8 : Hp, I4 n45 n46 h8 → par (n45 < n46) ((0 : Int) ≤ 1 ∧ ∃ b12 o12, (l.a : Option Addr) = some ⟨b12, o12, none⟩ ∧ ((0 : Int) ≤ (IntKind.wrap .i64 ((IntKind.wrap .i64 ((IntKind.wrap .i64 ((IntKind.wrap .i64 (shrI .u64 (IntKind.wrap .u64 (IntKind.wrap .i64 (n + n2))) 1)) + n1)) - 1)) - (IntKind.wrap .i64 (shrI .u64 (IntKind.wrap .u64 (IntKind.wrap .i64 (n45 + n46))) 1)))) ∧ (IntKind.wrap .i64 ((IntKind.wrap .i64 ((IntKind.wrap .i64 ((IntKind.wrap .i64 (shrI .u64 (IntKind.wrap .u64 (IntKind.wrap .i64 (n + n2))) 1)) + n1)) - 1)) - (IntKind.wrap .i64 (shrI .u64 (IntKind.wrap .u64 (IntKind.wrap .i64 (n45 + n46))) 1)))) < (l.n : Int)) ∧ ∃ n47 : Int, h8.at b12 (o12 + ((IntKind.wrap .i64 ((IntKind.wrap .i64 ((IntKind.wrap .i64 ((IntKind.wrap .i64 (shrI .u64 (IntKind.wrap .u64 (IntKind.wrap .i64 (n + n2))) 1)) + n1)) - 1)) - (IntKind.wrap .i64 (shrI .u64 (IntKind.wrap .u64 (IntKind.wrap .i64 (n45 + n46))) 1))))).toNat * 6) = some (.int .u64 n47) ∧ ∃ n48 : Int, h8.at b12 ((o12 + ((IntKind.wrap .i64 ((IntKind.wrap .i64 ((IntKind.wrap .i64 ((IntKind.wrap .i64 (shrI .u64 (IntKind.wrap .u64 (IntKind.wrap .i64 (n + n2))) 1)) + n1)) - 1)) - (IntKind.wrap .i64 (shrI .u64 (IntKind.wrap .u64 (IntKind.wrap .i64 (n45 + n46))) 1))))).toNat * 6) + 1) = some (.int .i64 n48) ∧ ∃ n49 : Int, h8.at b12 ((o12 + ((IntKind.wrap .i64 ((IntKind.wrap .i64 ((IntKind.wrap .i64 ((IntKind.wrap .i64 (shrI .u64 (IntKind.wrap .u64 (IntKind.wrap .i64 (n + n2))) 1)) + n1)) - 1)) - (IntKind.wrap .i64 (shrI .u64 (IntKind.wrap .u64 (IntKind.wrap .i64 (n45 + n46))) 1))))).toNat * 6) + 2) = some (.int .i64 n49) ∧ ∃ n50 : Int, h8.at b12 ((o12 + ((IntKind.wrap .i64 ((IntKind.wrap .i64 ((IntKind.wrap .i64 ((IntKind.wrap .i64 (shrI .u64 (IntKind.wrap .u64 (IntKind.wrap .i64 (n + n2))) 1)) + n1)) - 1)) - (IntKind.wrap .i64 (shrI .u64 (IntKind.wrap .u64 (IntKind.wrap .i64 (n45 + n46))) 1))))).toNat * 6) + 3) = some (.int .i64 n50) ∧ ∃ s16 : ByteArray, h8.at b12 ((o12 + ((IntKind.wrap .i64 ((IntKind.wrap .i64 ((IntKind.wrap .i64 ((IntKind.wrap .i64 (shrI .u64 (IntKind.wrap .u64 (IntKind.wrap .i64 (n + n2))) 1)) + n1)) - 1)) - (IntKind.wrap .i64 (shrI .u64 (IntKind.wrap .u64 (IntKind.wrap .i64 (n45 + n46))) 1))))).toNat * 6) + 4) = some (.string s16) ∧ ∃ s17 : ByteArray, h8.at b12 ((o12 + ((IntKind.wrap .i64 ((IntKind.wrap .i64 ((IntKind.wrap .i64 ((IntKind.wrap .i64 (shrI .u64 (IntKind.wrap .u64 (IntKind.wrap .i64 (n + n2))) 1)) + n1)) - 1)) - (IntKind.wrap .i64 (shrI .u64 (IntKind.wrap .u64 (IntKind.wrap .i64 (n45 + n46))) 1))))).toNat * 6) + 5) = some (.string s17) ∧ ∃ b13 o13, (l.a : Option Addr) = some ⟨b13, o13, none⟩ ∧ ((0 : Int) ≤ (IntKind.wrap .i64 (shrI .u64 (IntKind.wrap .u64 (IntKind.wrap .i64 (n45 + n46))) 1)) ∧ (IntKind.wrap .i64 (shrI .u64 (IntKind.wrap .u64 (IntKind.wrap .i64 (n45 + n46))) 1)) < (l.n : Int)) ∧ ∃ n51 : Int, h8.at b13 (o13 + ((IntKind.wrap .i64 (shrI .u64 (IntKind.wrap .u64 (IntKind.wrap .i64 (n45 + n46))) 1))).toNat * 6) = some (.int .u64 n51) ∧ ∃ n52 : Int, h8.at b13 ((o13 + ((IntKind.wrap .i64 (shrI .u64 (IntKind.wrap .u64 (IntKind.wrap .i64 (n45 + n46))) 1))).toNat * 6) + 1) = some (.int .i64 n52) ∧ ∃ n53 : Int, h8.at b13 ((o13 + ((IntKind.wrap .i64 (shrI .u64 (IntKind.wrap .u64 (IntKind.wrap .i64 (n45 + n46))) 1))).toNat * 6) + 2) = some (.int .i64 n53) ∧ ∃ n54 : Int, h8.at b13 ((o13 + ((IntKind.wrap .i64 (shrI .u64 (IntKind.wrap .u64 (IntKind.wrap .i64 (n45 + n46))) 1))).toNat * 6) + 3) = some (.int .i64 n54) ∧ ∃ s18 : ByteArray, h8.at b13 ((o13 + ((IntKind.wrap .i64 (shrI .u64 (IntKind.wrap .u64 (IntKind.wrap .i64 (n45 + n46))) 1))).toNat * 6) + 4) = some (.string s18) ∧ ∃ s19 : ByteArray, h8.at b13 ((o13 + ((IntKind.wrap .i64 (shrI .u64 (IntKind.wrap .u64 (IntKind.wrap .i64 (n45 + n46))) 1))).toNat * 6) + 5) = some (.string s19) ∧ T71 n47 n48 n49 n50 s16 s17 n51 n52 n53 n54 s18 s19 h8 fun r2 h9 => ∃ n55 : Int, r2 = .int .i64 n55 ∧ par (n55 < 0) (I4 n45 (IntKind.wrap .i64 (shrI .u64 (IntKind.wrap .u64 (IntKind.wrap .i64 (n45 + n46))) 1)) h9 ∧ m4 n45 (IntKind.wrap .i64 (shrI .u64 (IntKind.wrap .u64 (IntKind.wrap .i64 (n45 + n46))) 1)) h9 < m4 n45 n46 h8) (I4 (IntKind.wrap .i64 ((IntKind.wrap .i64 (shrI .u64 (IntKind.wrap .u64 (IntKind.wrap .i64 (n45 + n46))) 1)) + 1)) n46 h9 ∧ m4 (IntKind.wrap .i64 ((IntKind.wrap .i64 (shrI .u64 (IntKind.wrap .u64 (IntKind.wrap .i64 (n45 + n46))) 1)) + 1)) n46 h9 < m4 n45 n46 h8)) (∃ J1 : Hp → Prop, (∀ h10 : Hp, J1 h10 → ∃ J2 : Hp → Prop, (∀ h11 : Hp, J2 h11 → par ((IntKind.wrap .i64 (shrI .u64 (IntKind.wrap .u64 (IntKind.wrap .i64 (n + n2))) 1)) < (IntKind.wrap .i64 ((IntKind.wrap .i64 ((IntKind.wrap .i64 (shrI .u64 (IntKind.wrap .u64 (IntKind.wrap .i64 (n + n2))) 1)) + n1)) - n45))) (par ((IntKind.wrap .i64 ((IntKind.wrap .i64 ((IntKind.wrap .i64 (shrI .u64 (IntKind.wrap .u64 (IntKind.wrap .i64 (n + n2))) 1)) + n1)) - n45)) < n2) (T89 l (IntKind.wrap .i64 (shrI .u64 (IntKind.wrap .u64 (IntKind.wrap .i64 (n + n2))) 1)) (IntKind.wrap .i64 ((IntKind.wrap .i64 ((IntKind.wrap .i64 (shrI .u64 (IntKind.wrap .u64 (IntKind.wrap .i64 (n + n2))) 1)) + n1)) - n45)) n2 h11 fun r3 h12 => Q (.tuple ⟨[]⟩) h12) (Q (.tuple ⟨[]⟩) h11)) (Q (.tuple ⟨[]⟩) h11)) ∧ (par (n < n45) (par (n45 < (IntKind.wrap .i64 (shrI .u64 (IntKind.wrap .u64 (IntKind.wrap .i64 (n + n2))) 1))) (T89 l n n45 (IntKind.wrap .i64 (shrI .u64 (IntKind.wrap .u64 (IntKind.wrap .i64 (n + n2))) 1)) h10 fun r4 h13 => J2 h13) (J2 h10)) (J2 h10))) ∧ (par (n45 < n1) (par (n1 < (IntKind.wrap .i64 ((IntKind.wrap .i64 ((IntKind.wrap .i64 (shrI .u64 (IntKind.wrap .u64 (IntKind.wrap .i64 (n + n2))) 1)) + n1)) - n45))) (T103 l n45 n1 (IntKind.wrap .i64 ((IntKind.wrap .i64 ((IntKind.wrap .i64 (shrI .u64 (IntKind.wrap .u64 (IntKind.wrap .i64 (n + n2))) 1)) + n1)) - n45)) h8 fun r5 h14 => J1 h14) (J1 h8)) (J1 h8))))) ∧ (par ((IntKind.wrap .i64 (shrI .u64 (IntKind.wrap .u64 (IntKind.wrap .i64 (n + n2))) 1)) < n1) (J (IntKind.wrap .i64 ((IntKind.wrap .i64 ((IntKind.wrap .i64 (shrI .u64 (IntKind.wrap .u64 (IntKind.wrap .i64 (n + n2))) 1)) + n1)) - n2)) (IntKind.wrap .i64 (shrI .u64 (IntKind.wrap .u64 (IntKind.wrap .i64 (n + n2))) 1)) h) (J n n1 h)))) := by kernel_rfl
theorem F89.den (V : Value → List Value → PT) (nf : Nat) (l : Sl) (n n1 n2 : Int) : denF Try.prog [] [(71, F71.V), (89, F89.W (F89.TN nf)), (103, F103.V)] V [(63, .join [(20, .int .i64), (21, .int .i64)] []), (172, .loop [(10, .int .i64), (11, .int .i64)] []), (428, .loop [(14, .int .i64), (15, .int .i64)] []), (698, .loop [(13, .int .i64)] []), (1020, .loop [(20, .int .i64), (21, .int .i64)] []), (1023, .join [] []), (1722, .loop [(17, .int .i64)] []), (2047, .join [] []), (5514, .order [0, 1, 2, 3, 4, 5, 6, 7, 8, 9, 10]), (11172, .order [0, 1, 2, 3, 4, 5, 6, 7, 8, 9, 10, 11, 12, 13, 14, 15, 16, 17]), (13706, .order [0, 1, 2, 3, 4, 5, 6, 7, 8, 9, 10, 11]), (27556, .order [0, 1, 2, 3, 4, 5, 6, 7, 8, 9, 10, 11, 12, 13, 14, 15, 16, 17]), (32650, .order [0, 1, 2, 3, 4, 5, 6, 7, 8, 9, 10, 11, 12, 13])] Try.f89 [.v (.slice l.a l.n l.c), .v (.int .i64 n), .v (.int .i64 n1), .v (.int .i64 n2), .v (.func (.func 71) ⟨[]⟩ ⟨[]⟩)] = F89.TN (nf + 1) l n n1 n2 := F89.gen V F71.T (F89.TN nf) F103.T l n n1 n2
theorem F89.okN : ∀ n, FOk Try.prog 89 (F89.W (F89.TN n))
  | 0 => by
    refine ⟨⟨_, Try.func89, rfl, rfl⟩, fun args => ?_⟩
    unfold F89.W
    split
    · exact fun h Q hq => hq.elim
    · exact fun h Q hq => hq.elim
  | nf + 1 => by
    refine ⟨⟨_, Try.func89, rfl, rfl⟩, fun args => ?_⟩
    have hG : GOk Try.prog [(71, F71.V), (89, F89.W (F89.TN nf)), (103, F103.V)] := GOk.cons F71.ok (GOk.cons (F89.okN nf) (GOk.cons F103.ok (GOk.nil)))
    have hV : VOk Try.prog noV := noV_ok
    unfold F89.W
    split
    · exact denF_okV hG hV Try.func89 (fun h Q hq => (F89.den _ nf _ _ _ _) ▸ hq)
    · exact fun h Q hq => hq.elim
theorem F89.ok : FOk Try.prog 89 F89.V := by
  refine ⟨(F89.okN 0).1, fun args h Q hq => ?_⟩
  unfold F89.V F89.W at hq
  split at hq
  · obtain ⟨nf, hn⟩ := hq
    exact (F89.okN nf).2 _ h Q hn
  · exact hq.elim
@[reducible] def F80.G (T88 : Sl → Int → Int → PT) (T89 : Sl → Int → Int → Int → PT) (l : Sl) (n : Int) : PT := fun h Q =>
  ∃ (I : Int → Int → Hp → Prop) (m : Int → Int → Hp → Nat), I 0 20 h ∧ (∀ n1 n2 : Int, ∀ h1 : Hp, I n1 n2 h1 → par (n2 ≤ n) (T88 l n1 n2 h1 fun r h2 => I n2 (IntKind.wrap .i64 (n2 + 20)) h2 ∧ m n2 (IntKind.wrap .i64 (n2 + 20)) h2 < m n1 n2 h1) (T88 l n1 n h1 fun r1 h3 => ∃ (I1 : Int → Hp → Prop) (m1 : Int → Hp → Nat), I1 20 h3 ∧ (∀ n3 : Int, ∀ h4 : Hp, I1 n3 h4 → par (n3 < n) (∃ (I2 : Int → Int → Hp → Prop) (m2 : Int → Int → Hp → Nat), I2 0 (IntKind.wrap .i64 (2 * n3)) h4 ∧ (∀ n4 n5 : Int, ∀ h5 : Hp, I2 n4 n5 h5 → par (n5 ≤ n) (T89 l n4 (IntKind.wrap .i64 (n4 + n3)) n5 h5 fun r2 h6 => I2 n5 (IntKind.wrap .i64 (n5 + (IntKind.wrap .i64 (2 * n3)))) h6 ∧ m2 n5 (IntKind.wrap .i64 (n5 + (IntKind.wrap .i64 (2 * n3)))) h6 < m2 n4 n5 h5) (par ((IntKind.wrap .i64 (n4 + n3)) < n) (T89 l n4 (IntKind.wrap .i64 (n4 + n3)) n h5 fun r3 h7 => I1 (IntKind.wrap .i64 (n3 * 2)) h7 ∧ m1 (IntKind.wrap .i64 (n3 * 2)) h7 < m1 n3 h4) (I1 (IntKind.wrap .i64 (n3 * 2)) h5 ∧ m1 (IntKind.wrap .i64 (n3 * 2)) h5 < m1 n3 h4)))) (Q (.tuple ⟨[]⟩) h4))))
def F80.T := F80.G F88.T F89.T
theorem F80.gen (V T88 T89 l n) : denF Try.prog [] [(88, F88.W T88), (89, F89.W T89)] V [(28, .loop [(7, .int .i64), (8, .int .i64)] []), (62, .loop [(6, .int .i64)] []), (3988, .loop [(7, .int .i64), (8, .int .i64)] [])] Try.f80 [.v (.slice l.a l.n l.c), .v (.int .i64 n), .v (.func (.func 71) ⟨[]⟩ ⟨[]⟩)] = F80.G T88 T89 l n := by kernel_rfl
def F80.W (T80 : Sl → Int → PT) (args : List Value) : PT := match args with
  | [.slice l_a l_n l_c, .int .i64 n, .func (.func 71) ⟨[]⟩ ⟨[]⟩] => T80 ⟨l_a, l_n, l_c⟩ n
  | _ => fun _ _ => False
def F80.V : List Value → PT := F80.W F80.T
theorem F80.ok : FOk Try.prog 80 F80.V := by
  refine ⟨⟨_, Try.func80, rfl, rfl⟩, fun args => ?_⟩
  unfold F80.V F80.W
  split
  · exact denF_okE (GOk.cons F88.ok (GOk.cons F89.ok (GOk.nil))) noV_ok Try.func80 (F80.gen noV F88.T F89.T ⟨_, _, _⟩ _)
  · exact fun _ _ h => h.elim
@[reducible] def F70.G (T80 : Sl → Int → PT) (l : Sl) : PT := fun h Q =>
  T80 l (l.n : Int) h fun r h1 => Q (.tuple ⟨[]⟩) h1
def F70.T := F70.G F80.T
theorem F70.gen (V T80 l) : denF Try.prog [] [(80, F80.W T80)] V [] Try.f70 [.v (.slice l.a l.n l.c), .v (.func (.func 71) ⟨[]⟩ ⟨[]⟩)] = F70.G T80 l := by kernel_rfl
def F70.W (T70 : Sl → PT) (args : List Value) : PT := match args with
  | [.slice l_a l_n l_c, .func (.func 71) ⟨[]⟩ ⟨[]⟩] => T70 ⟨l_a, l_n, l_c⟩
  | _ => fun _ _ => False
def F70.V : List Value → PT := F70.W F70.T
theorem F70.ok : FOk Try.prog 70 F70.V := by
  refine ⟨⟨_, Try.func70, rfl, rfl⟩, fun args => ?_⟩
  unfold F70.V F70.W
  split
  · exact denF_okE (GOk.cons F80.ok (GOk.nil)) noV_ok Try.func70 (F70.gen noV F80.T ⟨_, _, _⟩)
  · exact fun _ _ h => h.elim
end Go.Eng.Ytbjnlacacapjiaa
end
section
set_option maxRecDepth 100000
open Go.Proofs
namespace Go.Eng.Ytbjnlacacapjiaa
def F10.T (n : Int) : PT := fun h Q =>
  ((0 : Int) ≤ (iMin (iMax n 1) 5) ∧ (iMin (iMax n 1) 5) ≤ (iMin (iMax n 1) 5) ∧ 24 * (iMin (iMax n 1) 5) ≤ 281474976710656) ∧ ((0 : Int) ≤ (iMin (iMax n 1) 5) ∧ (iMin (iMax n 1) 5) ≤ (iMin (iMax n 1) 5) ∧ 16 * (iMin (iMax n 1) 5) ≤ 281474976710656) ∧ ((0 : Int) ≤ (iMin (iMax n 1) 5) ∧ (iMin (iMax n 1) 5) ≤ (iMin (iMax n 1) 5) ∧ 24 * (iMin (iMax n 1) 5) ≤ 281474976710656) ∧ ∀ b, h b = none → ((0 : Int) ≤ (iMin (iMax n 1) 5) ∧ (iMin (iMax n 1) 5) ≤ (iMin (iMax n 1) 5) ∧ 16 * (iMin (iMax n 1) 5) ≤ 281474976710656) ∧ ∀ b1, (h.new b (.cells (Builtin.zeroCells (List.toArray [.slice none 0 0]) ((iMin (iMax n 1) 5) : Int).toNat) 66 (0, 0))) b1 = none → ((0 : Int) ≤ (iMin (iMax n 1) 5) ∧ (iMin (iMax n 1) 5) ≤ (iMin (iMax n 1) 5) ∧ 16 * (iMin (iMax n 1) 5) ≤ 281474976710656) ∧ ∀ b2, ((h.new b (.cells (Builtin.zeroCells (List.toArray [.slice none 0 0]) ((iMin (iMax n 1) 5) : Int).toNat) 66 (0, 0))).new b1 (.cells ⟨[.slice (some ⟨b, 0, none⟩) ((iMin (iMax n 1) 5) : Int).toNat ((iMin (iMax n 1) 5) : Int).toNat]⟩ 85 (0, 0))) b2 = none → ((0 : Int) ≤ (iMin (iMax n 1) 5) ∧ (iMin (iMax n 1) 5) ≤ (iMin (iMax n 1) 5) ∧ 16 * (iMin (iMax n 1) 5) ≤ 281474976710656) ∧ ((0 : Int) ≤ (iMin (iMax n 1) 5) ∧ (iMin (iMax n 1) 5) ≤ (iMin (iMax n 1) 5) ∧ 16 * (iMin (iMax n 1) 5) ≤ 281474976710656) ∧ ∀ b3, (((h.new b (.cells (Builtin.zeroCells (List.toArray [.slice none 0 0]) ((iMin (iMax n 1) 5) : Int).toNat) 66 (0, 0))).new b1 (.cells ⟨[.slice (some ⟨b, 0, none⟩) ((iMin (iMax n 1) 5) : Int).toNat ((iMin (iMax n 1) 5) : Int).toNat]⟩ 85 (0, 0))).new b2 (.map #[] 0)) b3 = none → ∀ b4, ((((h.new b (.cells (Builtin.zeroCells (List.toArray [.slice none 0 0]) ((iMin (iMax n 1) 5) : Int).toNat) 66 (0, 0))).new b1 (.cells ⟨[.slice (some ⟨b, 0, none⟩) ((iMin (iMax n 1) 5) : Int).toNat ((iMin (iMax n 1) 5) : Int).toNat]⟩ 85 (0, 0))).new b2 (.map #[] 0)).new b3 (.cells (Builtin.zeroCells (List.toArray [.string (ByteArray.mk #[])]) ((iMin (iMax n 1) 5) : Int).toNat) 9 (0, 0))) b4 = none → ∀ b5, (((((h.new b (.cells (Builtin.zeroCells (List.toArray [.slice none 0 0]) ((iMin (iMax n 1) 5) : Int).toNat) 66 (0, 0))).new b1 (.cells ⟨[.slice (some ⟨b, 0, none⟩) ((iMin (iMax n 1) 5) : Int).toNat ((iMin (iMax n 1) 5) : Int).toNat]⟩ 85 (0, 0))).new b2 (.map #[] 0)).new b3 (.cells (Builtin.zeroCells (List.toArray [.string (ByteArray.mk #[])]) ((iMin (iMax n 1) 5) : Int).toNat) 9 (0, 0))).new b4 (.map #[] 0)) b5 = none → Q (.pointer (some ⟨b5, 0, none⟩)) ((((((h.new b (.cells (Builtin.zeroCells (List.toArray [.slice none 0 0]) ((iMin (iMax n 1) 5) : Int).toNat) 66 (0, 0))).new b1 (.cells ⟨[.slice (some ⟨b, 0, none⟩) ((iMin (iMax n 1) 5) : Int).toNat ((iMin (iMax n 1) 5) : Int).toNat]⟩ 85 (0, 0))).new b2 (.map #[] 0)).new b3 (.cells (Builtin.zeroCells (List.toArray [.string (ByteArray.mk #[])]) ((iMin (iMax n 1) 5) : Int).toNat) 9 (0, 0))).new b4 (.map #[] 0)).new b5 (.cells ⟨[.pointer (some ⟨b1, 0, none⟩), .map (some b2), .slice (some ⟨b3, 0, none⟩) ((iMin (iMax n 1) 5) : Int).toNat ((iMin (iMax n 1) 5) : Int).toNat, .map (some b4)]⟩ 89 (0, 0)))
theorem F10.den (V n) : denF Try.prog [] [] V [(14, .orderL [0, 5, 1, 2, 3, 4, 6, 7, 8, 9, 10] [1, 4, 6, 7])] Try.f10 [.v (.int .i64 n)] = F10.T n := by kernel_rfl
def F10.W (T10 : Int → PT) (args : List Value) : PT := match args with
  | [.int .i64 n] => T10 n
  | _ => fun _ _ => False
def F10.V : List Value → PT := F10.W F10.T
theorem F10.ok : FOk Try.prog 10 F10.V := by
  refine ⟨⟨_, Try.func10, rfl, rfl⟩, fun args => ?_⟩
  unfold F10.V F10.W
  split
  · exact denF_okE (GOk.nil) noV_ok Try.func10 (F10.den noV _)
  · exact fun _ _ h => h.elim
def F40.T (p : Option Addr) : PT := fun h Q =>
  ∃ b o, (p : Option Addr) = some ⟨b, o, none⟩ ∧ ∃ l : Sl, h.at b o = some (.slice l.a l.n l.c) ∧ ((0 : Int) ≤ (l.n : Int) ∧ (l.n : Int) ≤ (l.n : Int) ∧ 24 * (l.n : Int) ≤ 281474976710656) ∧ ∀ b1, h b1 = none → ∃ b2 o1, (p : Option Addr) = some ⟨b2, o1, none⟩ ∧ ∃ l1 : Sl, (h.new b1 (.cells (Builtin.zeroCells (List.toArray [.slice none 0 0]) ((l.n : Int) : Int).toNat) 66 (0, 0))).at b2 o1 = some (.slice l1.a l1.n l1.c) ∧ ∃ (I : Int → Hp → Prop) (m : Int → Hp → Nat), I 0 (h.new b1 (.cells (Builtin.zeroCells (List.toArray [.slice none 0 0]) ((l.n : Int) : Int).toNat) 66 (0, 0))) ∧ (∀ n : Int, ∀ h1 : Hp, I n h1 → par (n < (l1.n : Int)) (∃ b3 o2, (l1.a : Option Addr) = some ⟨b3, o2, none⟩ ∧ ((0 : Int) ≤ n ∧ n < (l1.n : Int)) ∧ ∃ l2 : Sl, h1.at b3 (o2 + n.toNat) = some (.slice l2.a l2.n l2.c) ∧ ((0 : Int) ≤ (l2.n : Int) ∧ (l2.n : Int) ≤ (l2.n : Int) ∧ 64 * (l2.n : Int) ≤ 281474976710656) ∧ ∀ b4, h1 b4 = none → ∃ b5 o3, ((some ⟨b1, 0, none⟩) : Option Addr) = some ⟨b5, o3, none⟩ ∧ ((0 : Int) ≤ n ∧ n < (((l.n : Int) : Int).toNat : Int)) ∧ (h1.new b4 (.cells (Builtin.zeroCells (List.toArray [.int .u64 0, .int .i64 0, .int .i64 0, .int .i64 0, .string (ByteArray.mk #[]), .string (ByteArray.mk #[])]) ((l2.n : Int) : Int).toNat) 47 (0, 0))).canW b5 (o3 + n.toNat) 1 ∧ ∃ b6 o4, ((some ⟨b1, 0, none⟩) : Option Addr) = some ⟨b6, o4, none⟩ ∧ ((0 : Int) ≤ n ∧ n < (((l.n : Int) : Int).toNat : Int)) ∧ ∃ l3 : Sl, ((h1.new b4 (.cells (Builtin.zeroCells (List.toArray [.int .u64 0, .int .i64 0, .int .i64 0, .int .i64 0, .string (ByteArray.mk #[]), .string (ByteArray.mk #[])]) ((l2.n : Int) : Int).toNat) 47 (0, 0))).wr b5 (o3 + n.toNat) [.slice (some ⟨b4, 0, none⟩) ((l2.n : Int) : Int).toNat ((l2.n : Int) : Int).toNat]).at b6 (o4 + n.toNat) = some (.slice l3.a l3.n l3.c) ∧ ∃ vs, ((h1.new b4 (.cells (Builtin.zeroCells (List.toArray [.int .u64 0, .int .i64 0, .int .i64 0, .int .i64 0, .string (ByteArray.mk #[]), .string (ByteArray.mk #[])]) ((l2.n : Int) : Int).toNat) 47 (0, 0))).wr b5 (o3 + n.toNat) [.slice (some ⟨b4, 0, none⟩) ((l2.n : Int) : Int).toNat ((l2.n : Int) : Int).toNat]).row l2.a ((Nat.min l2.n l3.n) * 6) vs ∧ (∀ v ∈ vs, Value.oneCell' v = true) ∧ ((h1.new b4 (.cells (Builtin.zeroCells (List.toArray [.int .u64 0, .int .i64 0, .int .i64 0, .int .i64 0, .string (ByteArray.mk #[]), .string (ByteArray.mk #[])]) ((l2.n : Int) : Int).toNat) 47 (0, 0))).wr b5 (o3 + n.toNat) [.slice (some ⟨b4, 0, none⟩) ((l2.n : Int) : Int).toNat ((l2.n : Int) : Int).toNat]).canWA l3.a vs.length ∧ I (IntKind.wrap .i64 (n + 1)) (((h1.new b4 (.cells (Builtin.zeroCells (List.toArray [.int .u64 0, .int .i64 0, .int .i64 0, .int .i64 0, .string (ByteArray.mk #[]), .string (ByteArray.mk #[])]) ((l2.n : Int) : Int).toNat) 47 (0, 0))).wr b5 (o3 + n.toNat) [.slice (some ⟨b4, 0, none⟩) ((l2.n : Int) : Int).toNat ((l2.n : Int) : Int).toNat]).wrA l3.a vs) ∧ m (IntKind.wrap .i64 (n + 1)) (((h1.new b4 (.cells (Builtin.zeroCells (List.toArray [.int .u64 0, .int .i64 0, .int .i64 0, .int .i64 0, .string (ByteArray.mk #[]), .string (ByteArray.mk #[])]) ((l2.n : Int) : Int).toNat) 47 (0, 0))).wr b5 (o3 + n.toNat) [.slice (some ⟨b4, 0, none⟩) ((l2.n : Int) : Int).toNat ((l2.n : Int) : Int).toNat]).wrA l3.a vs) < m n h1) (∀ b7, h1 b7 = none → Q (.pointer (some ⟨b7, 0, none⟩)) (h1.new b7 (.cells ⟨[.slice (some ⟨b1, 0, none⟩) ((l.n : Int) : Int).toNat ((l.n : Int) : Int).toNat]⟩ 85 (0, 0)))))
theorem F40.den (V p) : denF Try.prog [] [] V [(58, .loop [(17, .int .i64)] [])] Try.f40 [.v (.pointer p)] = F40.T p := by kernel_rfl
def F40.W (T40 : Option Addr → PT) (args : List Value) : PT := match args with
  | [.pointer p] => T40 p
  | _ => fun _ _ => False
def F40.V : List Value → PT := F40.W F40.T
theorem F40.ok : FOk Try.prog 40 F40.V := by
  refine ⟨⟨_, Try.func40, rfl, rfl⟩, fun args => ?_⟩
  unfold F40.V F40.W
  split
  · exact denF_okE (GOk.nil) noV_ok Try.func40 (F40.den noV _)
  · exact fun _ _ h => h.elim
def F60.T (p : Option Addr) (n : Int) : PT := fun h Q =>
  par ((0 : Int) ≤ n) (∃ b o, (p : Option Addr) = some ⟨b, o, none⟩ ∧ ∃ l : Sl, h.at b o = some (.slice l.a l.n l.c) ∧ par (n < (l.n : Int)) (Q (.bool true) h) (Q (.bool false) h)) (Q (.bool false) h)
theorem F60.den (V p n) : denF Try.prog [] [] V [] Try.f60 [.v (.pointer p), .v (.int .i64 n)] = F60.T p n := by kernel_rfl
def F60.W (T60 : Option Addr → Int → PT) (args : List Value) : PT := match args with
  | [.pointer p, .int .i64 n] => T60 p n
  | _ => fun _ _ => False
def F60.V : List Value → PT := F60.W F60.T
theorem F60.ok : FOk Try.prog 60 F60.V := by
  refine ⟨⟨_, Try.func60, rfl, rfl⟩, fun args => ?_⟩
  unfold F60.V F60.W
  split
  · exact denF_okE (GOk.nil) noV_ok Try.func60 (F60.den noV _ _)
  · exact fun _ _ h => h.elim
def F67.T (n n1 n2 n3 : Int) (s s1 : ByteArray) (b o : Nat) : PT := fun h Q =>
  ∃ n4 : Int, h.at b (o + 1) = some (.int .u64 n4) ∧ par (n = n4) (Q (.bool true) h) (Q (.bool false) h)
theorem F67.den (V n n1 n2 n3 s s1 b o) : denF Try.prog [2] [] V [] Try.f67 [.v (.agg ⟨[.int .u64 n, .int .i64 n1, .int .i64 n2, .int .i64 n3, .string s, .string s1]⟩), .p b o] = F67.T n n1 n2 n3 s s1 b o := by kernel_rfl
def F67.W (T67 : Int → Int → Int → Int → ByteArray → ByteArray → Nat → Nat → PT) (args : List Value) : PT := match args with
  | [.agg ⟨[.int .u64 n, .int .i64 n1, .int .i64 n2, .int .i64 n3, .string s, .string s1]⟩, .pointer (some ⟨b, o, none⟩)] => T67 n n1 n2 n3 s s1 b o
  | _ => fun _ _ => False
def F67.V : List Value → PT := F67.W F67.T
theorem F67.ok : FOk Try.prog 67 F67.V := by
  refine ⟨⟨_, Try.func67, rfl, rfl⟩, fun args => ?_⟩
  unfold F67.V F67.W
  split
  · exact denF_okEA (xs := [.v _, .p _ _]) (GOk.nil) noV_ok Try.func67 (inStep_cons rfl (inStep_cons rfl (inStep_nil _))) (by intro x hx; simp only [List.mem_cons, List.not_mem_nil, or_false] at hx; rcases hx with rfl | rfl <;> rfl) (F67.den noV _ _ _ _ _ _ _ _)
  · exact fun _ _ h => h.elim
@[reducible] def F66.G (T67 : Int → Int → Int → Int → ByteArray → ByteArray → Nat → Nat → PT) (l : Sl) (b o : Nat) : PT := fun h Q =>
  ∃ (I : Int → Hp → Prop) (m : Int → Hp → Nat), I 0 h ∧ (∀ n : Int, ∀ h1 : Hp, I n h1 → par (n < (l.n : Int)) (∃ b1 o1, (l.a : Option Addr) = some ⟨b1, o1, none⟩ ∧ ((0 : Int) ≤ n ∧ n < (l.n : Int)) ∧ ∃ n1 : Int, h1.at b1 (o1 + n.toNat * 6) = some (.int .u64 n1) ∧ ∃ n2 : Int, h1.at b1 ((o1 + n.toNat * 6) + 1) = some (.int .i64 n2) ∧ ∃ n3 : Int, h1.at b1 ((o1 + n.toNat * 6) + 2) = some (.int .i64 n3) ∧ ∃ n4 : Int, h1.at b1 ((o1 + n.toNat * 6) + 3) = some (.int .i64 n4) ∧ ∃ s : ByteArray, h1.at b1 ((o1 + n.toNat * 6) + 4) = some (.string s) ∧ ∃ s1 : ByteArray, h1.at b1 ((o1 + n.toNat * 6) + 5) = some (.string s1) ∧ T67 n1 n2 n3 n4 s s1 b o h1 fun r h2 => ∃ b2 : Bool, r = .bool b2 ∧ parB b2 (Q (.int .i64 n) h2) (I (IntKind.wrap .i64 (n + 1)) h2 ∧ m (IntKind.wrap .i64 (n + 1)) h2 < m n h1)) (Q (.int .i64 (-1)) h1))
def F66.T := F66.G F67.T
theorem F66.gen (V T67 l b o) : denF Try.prog [] [(67, F67.W T67)] V [(26, .loop [(8, .int .i64)] [])] Try.f66 [.v (.slice l.a l.n l.c), .v (.func (.func 67) ⟨[]⟩ ⟨[.pointer (some ⟨b, o, none⟩)]⟩)] = F66.G T67 l b o := by kernel_rfl
def F66.W (T66 : Sl → Nat → Nat → PT) (args : List Value) : PT := match args with
  | [.slice l_a l_n l_c, .func (.func 67) ⟨[]⟩ ⟨[.pointer (some ⟨b, o, none⟩)]⟩] => T66 ⟨l_a, l_n, l_c⟩ b o
  | _ => fun _ _ => False
def F66.V : List Value → PT := F66.W F66.T
theorem F66.ok : FOk Try.prog 66 F66.V := by
  refine ⟨⟨_, Try.func66, rfl, rfl⟩, fun args => ?_⟩
  unfold F66.V F66.W
  split
  · exact denF_okE (GOk.cons F67.ok (GOk.nil)) noV_ok Try.func66 (F66.gen noV F67.T ⟨_, _, _⟩ _ _)
  · exact fun _ _ h => h.elim
def F68.T (l : Sl) (n n1 : Int) : PT := fun h Q =>
  Sl.okCut l n n1 (l.n : Int) ∧ par (n = n1) (Q (.slice l.a l.n l.c) h) (Sl.okCut l 0 n (l.c : Int) ∧ Sl.okCut l n1 (l.n : Int) (l.c : Int) ∧ ∃ vs, h.row ((Sl.cut l 6 n1 (l.n : Int) (l.c : Int)).a) (((Sl.cut l 6 n1 (l.n : Int) (l.c : Int)).n) * 6) vs ∧ (∀ v ∈ vs, Value.oneCell' v = true) ∧ appendD (Sl.cut l 6 0 n (l.c : Int)) 47 6 64 [.int .u64 0, .int .i64 0, .int .i64 0, .int .i64 0, .string (ByteArray.mk #[]), .string (ByteArray.mk #[])] ((Sl.cut l 6 n1 (l.n : Int) (l.c : Int)).n) vs h fun l1 h1 => Sl.okCut l1 (l1.n : Int) (l.n : Int) (l1.c : Int) ∧ h1.canWA ((Sl.cut l1 6 (l1.n : Int) (l.n : Int) (l1.c : Int)).a) (((Sl.cut l1 6 (l1.n : Int) (l.n : Int) (l1.c : Int)).n) * 6) ∧ Q (.slice l1.a l1.n l1.c) (h1.wrA ((Sl.cut l1 6 (l1.n : Int) (l.n : Int) (l1.c : Int)).a) (zerosV [.int .u64 0, .int .i64 0, .int .i64 0, .int .i64 0, .string (ByteArray.mk #[]), .string (ByteArray.mk #[])] ((Sl.cut l1 6 (l1.n : Int) (l.n : Int) (l1.c : Int)).n))))
theorem F68.den (V l n n1) : denF Try.prog [] [] V [(62, .order [0, 1, 2, 3, 4, 5, 6, 7])] Try.f68 [.v (.slice l.a l.n l.c), .v (.int .i64 n), .v (.int .i64 n1)] = F68.T l n n1 := by kernel_rfl
def F68.W (T68 : Sl → Int → Int → PT) (args : List Value) : PT := match args with
  | [.slice l_a l_n l_c, .int .i64 n, .int .i64 n1] => T68 ⟨l_a, l_n, l_c⟩ n n1
  | _ => fun _ _ => False
def F68.V : List Value → PT := F68.W F68.T
theorem F68.ok : FOk Try.prog 68 F68.V := by
  refine ⟨⟨_, Try.func68, rfl, rfl⟩, fun args => ?_⟩
  unfold F68.V F68.W
  split
  · exact denF_okE (GOk.nil) noV_ok Try.func68 (F68.den noV ⟨_, _, _⟩ _ _)
  · exact fun _ _ h => h.elim
@[reducible] def F41.G (T60 : Option Addr → Int → PT) (T66 : Sl → Nat → Nat → PT) (T68 : Sl → Int → Int → PT) (p : Option Addr) (l : Sl) : PT := fun h Q =>
  ∃ (I : Int → Hp → Prop) (m : Int → Hp → Nat), I 0 h ∧ (∀ n : Int, ∀ h1 : Hp, I n h1 → par (n < (l.n : Int)) (∃ b o, (l.a : Option Addr) = some ⟨b, o, none⟩ ∧ ((0 : Int) ≤ n ∧ n < (l.n : Int)) ∧ ∃ n1 : Int, h1.at b (o + n.toNat * 2) = some (.int .i64 n1) ∧ ∃ n2 : Int, h1.at b ((o + n.toNat * 2) + 1) = some (.int .u64 n2) ∧ ∀ b1, h1 b1 = none → (h1.new b1 (.cells ⟨[.int .i64 0, .int .u64 0]⟩ 82 (0, 0))).canW b1 0 2 ∧ ∃ n3 : Int, ((h1.new b1 (.cells ⟨[.int .i64 0, .int .u64 0]⟩ 82 (0, 0))).wr b1 0 [.int .i64 n1, .int .u64 n2]).at b1 0 = some (.int .i64 n3) ∧ T60 p n3 ((h1.new b1 (.cells ⟨[.int .i64 0, .int .u64 0]⟩ 82 (0, 0))).wr b1 0 [.int .i64 n1, .int .u64 n2]) fun r h2 => ∃ b2 : Bool, r = .bool b2 ∧ parB b2 (∃ b3 o1, (p : Option Addr) = some ⟨b3, o1, none⟩ ∧ ∃ l1 : Sl, h2.at b3 o1 = some (.slice l1.a l1.n l1.c) ∧ ∃ n4 : Int, h2.at b1 0 = some (.int .i64 n4) ∧ ∃ b4 o2, (l1.a : Option Addr) = some ⟨b4, o2, none⟩ ∧ ((0 : Int) ≤ n4 ∧ n4 < (l1.n : Int)) ∧ ∃ l2 : Sl, h2.at b4 (o2 + n4.toNat) = some (.slice l2.a l2.n l2.c) ∧ h2.at b3 o1 = some (.slice l1.a l1.n l1.c) ∧ h2.at b1 0 = some (.int .i64 n4) ∧ h2.at b4 (o2 + n4.toNat) = some (.slice l2.a l2.n l2.c) ∧ T66 l2 b1 0 h2 fun r1 h3 => ∃ n5 : Int, r1 = .int .i64 n5 ∧ par (n5 < 0) (Q (.int .i64 130) h3) (∃ b5 o3, (p : Option Addr) = some ⟨b5, o3, none⟩ ∧ ∃ l3 : Sl, h3.at b5 o3 = some (.slice l3.a l3.n l3.c) ∧ ∃ n6 : Int, h3.at b1 0 = some (.int .i64 n6) ∧ ∃ b6 o4, (p : Option Addr) = some ⟨b6, o4, none⟩ ∧ ∃ l4 : Sl, h3.at b6 o4 = some (.slice l4.a l4.n l4.c) ∧ ∃ n7 : Int, h3.at b1 0 = some (.int .i64 n7) ∧ ∃ b7 o5, (l4.a : Option Addr) = some ⟨b7, o5, none⟩ ∧ ((0 : Int) ≤ n7 ∧ n7 < (l4.n : Int)) ∧ ∃ l5 : Sl, h3.at b7 (o5 + n7.toNat) = some (.slice l5.a l5.n l5.c) ∧ T68 l5 n5 (IntKind.wrap .i64 (n5 + 1)) h3 fun r2 h4 => ∃ l6 : Sl, r2 = .slice l6.a l6.n l6.c ∧ h4.at b5 o3 = some (.slice l3.a l3.n l3.c) ∧ h4.at b1 0 = some (.int .i64 n6) ∧ ∃ b8 o6, (l3.a : Option Addr) = some ⟨b8, o6, none⟩ ∧ ((0 : Int) ≤ n6 ∧ n6 < (l3.n : Int)) ∧ h4.canW b8 (o6 + n6.toNat) 1 ∧ I (IntKind.wrap .i64 (n + 1)) (h4.wr b8 (o6 + n6.toNat) [.slice l6.a l6.n l6.c]) ∧ m (IntKind.wrap .i64 (n + 1)) (h4.wr b8 (o6 + n6.toNat) [.slice l6.a l6.n l6.c]) < m n h1)) (Q (.int .i64 133) h2)) (Q (.int .i64 0) h1))
def F41.T := F41.G F60.T F66.T F68.T
theorem F41.gen (V T60 T66 T68 p l) : denF Try.prog [] [(60, F60.W T60), (66, F66.W T66), (68, F68.W T68)] V [(26, .loop [(10, .int .i64)] []), (6758, .order [0, 1, 2, 3, 4, 5, 6, 7, 8, 9, 10]), (13519, .order [0, 1, 2, 3, 4, 5, 6, 7, 8, 9, 10, 11, 12, 13, 14, 15, 16, 17, 18, 19])] Try.f41 [.v (.pointer p), .v (.slice l.a l.n l.c)] = F41.G T60 T66 T68 p l := by kernel_rfl
def F41.W (T41 : Option Addr → Sl → PT) (args : List Value) : PT := match args with
  | [.pointer p, .slice l_a l_n l_c] => T41 p ⟨l_a, l_n, l_c⟩
  | _ => fun _ _ => False
def F41.V : List Value → PT := F41.W F41.T
theorem F41.ok : FOk Try.prog 41 F41.V := by
  refine ⟨⟨_, Try.func41, rfl, rfl⟩, fun args => ?_⟩
  unfold F41.V F41.W
  split
  · exact denF_okE (GOk.cons F60.ok (GOk.cons F66.ok (GOk.cons F68.ok (GOk.nil)))) noV_ok Try.func41 (F41.gen noV F60.T F66.T F68.T _ ⟨_, _, _⟩)
  · exact fun _ _ h => h.elim
def F69.T (p : Option Addr) (m : Option Nat) : PT := fun h Q =>
  ∃ b o, (p : Option Addr) = some ⟨b, o, none⟩ ∧ ∃ l : Sl, h.at b o = some (.slice l.a l.n l.c) ∧ ∃ (I : Int → Hp → Prop) (m1 : Int → Hp → Nat), I 0 h ∧ (∀ n : Int, ∀ h1 : Hp, I n h1 → par (n < (l.n : Int)) (∃ b1 o1, (l.a : Option Addr) = some ⟨b1, o1, none⟩ ∧ ((0 : Int) ≤ n ∧ n < (l.n : Int)) ∧ ∃ l1 : Sl, h1.at b1 (o1 + n.toNat) = some (.slice l1.a l1.n l1.c) ∧ ∃ (I1 : Int → Hp → Prop) (m2 : Int → Hp → Nat), I1 0 h1 ∧ (∀ n1 : Int, ∀ h2 : Hp, I1 n1 h2 → par (n1 < (l1.n : Int)) (∃ b2 o2, (l1.a : Option Addr) = some ⟨b2, o2, none⟩ ∧ ((0 : Int) ≤ n1 ∧ n1 < (l1.n : Int)) ∧ ∃ n2 : Int, h2.at b2 (o2 + n1.toNat * 6) = some (.int .u64 n2) ∧ ∃ n3 : Int, h2.at b2 ((o2 + n1.toNat * 6) + 1) = some (.int .i64 n3) ∧ ∃ n4 : Int, h2.at b2 ((o2 + n1.toNat * 6) + 2) = some (.int .i64 n4) ∧ ∃ n5 : Int, h2.at b2 ((o2 + n1.toNat * 6) + 3) = some (.int .i64 n5) ∧ ∃ s : ByteArray, h2.at b2 ((o2 + n1.toNat * 6) + 4) = some (.string s) ∧ ∃ s1 : ByteArray, h2.at b2 ((o2 + n1.toNat * 6) + 5) = some (.string s1) ∧ ∃ es c, h2.mp m es c ∧ keysFit (.int .u64 n2) es ∧ ∃ n6 : Int, (mget es (.int .u64 n2) (.int .i64 0)) = .int .i64 n6 ∧ ∃ b3 es1 c1, (m : Option Nat) = some b3 ∧ h2 b3 = some (.map es1 c1) ∧ keysFit (.int .u64 n2) es1 ∧ I1 (IntKind.wrap .i64 (n1 + 1)) (h2.new b3 (mPut es1 c1 (.int .u64 n2) (.int .i64 (IntKind.wrap .i64 (n6 + 1))))) ∧ m2 (IntKind.wrap .i64 (n1 + 1)) (h2.new b3 (mPut es1 c1 (.int .u64 n2) (.int .i64 (IntKind.wrap .i64 (n6 + 1))))) < m2 n1 h2) (I (IntKind.wrap .i64 (n + 1)) h2 ∧ m1 (IntKind.wrap .i64 (n + 1)) h2 < m1 n h1))) (Q (.tuple ⟨[]⟩) h1))
theorem F69.den (V p m) : denF Try.prog [7] [] V [(6, .loop [(13, .int .i64)] []), (1638, .loop [(19, .int .i64)] [])] Try.f69 [.v (.pointer p), .v (.map m)] = F69.T p m := by kernel_rfl
def F69.W (T69 : Option Addr → Option Nat → PT) (args : List Value) : PT := match args with
  | [.pointer p, .map m] => T69 p m
  | _ => fun _ _ => False
def F69.V : List Value → PT := F69.W F69.T
theorem F69.ok : FOk Try.prog 69 F69.V := by
  refine ⟨⟨_, Try.func69, rfl, rfl⟩, fun args => ?_⟩
  unfold F69.V F69.W
  split
  · exact denF_okE (GOk.nil) noV_ok Try.func69 (F69.den noV _ _)
  · exact fun _ _ h => h.elim
end Go.Eng.Ytbjnlacacapjiaa
end
section
set_option maxRecDepth 100000
open Go.Proofs
namespace Go.Eng.Ytbjnlacacapjiaa
@[reducible] def F42.G (T60 : Option Addr → Int → PT) (T69 : Option Addr → Option Nat → PT) (T70 : Sl → PT) (p : Option Addr) (l : Sl) : PT := fun h Q =>
  ∀ b, h b = none → T69 p (some b) (h.new b (.map #[] 0)) fun r h1 => ∃ (I : Int → Hp → Prop) (m : Int → Hp → Nat), I 0 h1 ∧ (∀ n : Int, ∀ h2 : Hp, I n h2 → par (n < (l.n : Int)) (∃ b1 o, (l.a : Option Addr) = some ⟨b1, o, none⟩ ∧ ((0 : Int) ≤ n ∧ n < (l.n : Int)) ∧ ∃ n1 : Int, h2.at b1 (o + n.toNat * 7) = some (.int .i64 n1) ∧ ∃ n2 : Int, h2.at b1 ((o + n.toNat * 7) + 1) = some (.int .u64 n2) ∧ ∃ n3 : Int, h2.at b1 ((o + n.toNat * 7) + 2) = some (.int .i64 n3) ∧ ∃ n4 : Int, h2.at b1 ((o + n.toNat * 7) + 3) = some (.int .i64 n4) ∧ ∃ n5 : Int, h2.at b1 ((o + n.toNat * 7) + 4) = some (.int .i64 n5) ∧ ∃ s : ByteArray, h2.at b1 ((o + n.toNat * 7) + 5) = some (.string s) ∧ ∃ s1 : ByteArray, h2.at b1 ((o + n.toNat * 7) + 6) = some (.string s1) ∧ T60 p n1 h2 fun r1 h3 => ∃ b2 : Bool, r1 = .bool b2 ∧ parB b2 (∃ es c, h3.mp (some b) es c ∧ keysFit (.int .u64 n2) es ∧ ∃ n6 : Int, (mget es (.int .u64 n2) (.int .i64 0)) = .int .i64 n6 ∧ par ((0 : Int) < n6) (Q (.int .i64 131) h3) (par (sLt s1 s) (Q (.int .i64 132) h3) (∃ es1 c1, h3.mp (some b) es1 c1 ∧ keysFit (.int .u64 n2) es1 ∧ ∃ n7 : Int, (mget es1 (.int .u64 n2) (.int .i64 0)) = .int .i64 n7 ∧ ∃ b3 es2 c2, ((some b) : Option Nat) = some b3 ∧ h3 b3 = some (.map es2 c2) ∧ keysFit (.int .u64 n2) es2 ∧ ∃ b4 o1, (p : Option Addr) = some ⟨b4, o1, none⟩ ∧ ∃ l1 : Sl, (h3.new b3 (mPut es2 c2 (.int .u64 n2) (.int .i64 (IntKind.wrap .i64 (n7 + 1))))).at b4 o1 = some (.slice l1.a l1.n l1.c) ∧ ∃ b5 o2, (p : Option Addr) = some ⟨b5, o2, none⟩ ∧ ∃ l2 : Sl, (h3.new b3 (mPut es2 c2 (.int .u64 n2) (.int .i64 (IntKind.wrap .i64 (n7 + 1))))).at b5 o2 = some (.slice l2.a l2.n l2.c) ∧ ∃ b6 o3, (l2.a : Option Addr) = some ⟨b6, o3, none⟩ ∧ ((0 : Int) ≤ n1 ∧ n1 < (l2.n : Int)) ∧ ∃ l3 : Sl, (h3.new b3 (mPut es2 c2 (.int .u64 n2) (.int .i64 (IntKind.wrap .i64 (n7 + 1))))).at b6 (o3 + n1.toNat) = some (.slice l3.a l3.n l3.c) ∧ (h3.new b3 (mPut es2 c2 (.int .u64 n2) (.int .i64 (IntKind.wrap .i64 (n7 + 1))))).at b4 o1 = some (.slice l1.a l1.n l1.c) ∧ (h3.new b3 (mPut es2 c2 (.int .u64 n2) (.int .i64 (IntKind.wrap .i64 (n7 + 1))))).at b5 o2 = some (.slice l2.a l2.n l2.c) ∧ (h3.new b3 (mPut es2 c2 (.int .u64 n2) (.int .i64 (IntKind.wrap .i64 (n7 + 1))))).at b6 (o3 + n1.toNat) = some (.slice l3.a l3.n l3.c) ∧ appendD l3 47 6 64 [.int .u64 0, .int .i64 0, .int .i64 0, .int .i64 0, .string (ByteArray.mk #[]), .string (ByteArray.mk #[])] 1 [.int .u64 n2, .int .i64 n3, .int .i64 n4, .int .i64 n5, .string s, .string s1] (h3.new b3 (mPut es2 c2 (.int .u64 n2) (.int .i64 (IntKind.wrap .i64 (n7 + 1))))) fun l4 h4 => h4.at b4 o1 = some (.slice l1.a l1.n l1.c) ∧ ∃ b7 o4, (l1.a : Option Addr) = some ⟨b7, o4, none⟩ ∧ ((0 : Int) ≤ n1 ∧ n1 < (l1.n : Int)) ∧ h4.canW b7 (o4 + n1.toNat) 1 ∧ I (IntKind.wrap .i64 (n + 1)) (h4.wr b7 (o4 + n1.toNat) [.slice l4.a l4.n l4.c]) ∧ m (IntKind.wrap .i64 (n + 1)) (h4.wr b7 (o4 + n1.toNat) [.slice l4.a l4.n l4.c]) < m n h2))) (Q (.int .i64 133) h3)) (∃ b8 o5, (p : Option Addr) = some ⟨b8, o5, none⟩ ∧ ∃ l5 : Sl, h2.at b8 o5 = some (.slice l5.a l5.n l5.c) ∧ Sl.okCut l5 1 (l5.n : Int) (l5.c : Int) ∧ ∃ (I1 : Int → Hp → Prop) (m1 : Int → Hp → Nat), I1 0 h2 ∧ (∀ n8 : Int, ∀ h5 : Hp, I1 n8 h5 → par (n8 < ((Sl.cut l5 1 1 (l5.n : Int) (l5.c : Int)).n : Int)) (∃ b9 o6, ((Sl.cut l5 1 1 (l5.n : Int) (l5.c : Int)).a : Option Addr) = some ⟨b9, o6, none⟩ ∧ ((0 : Int) ≤ n8 ∧ n8 < ((Sl.cut l5 1 1 (l5.n : Int) (l5.c : Int)).n : Int)) ∧ ∃ l6 : Sl, h5.at b9 (o6 + n8.toNat) = some (.slice l6.a l6.n l6.c) ∧ T70 l6 h5 fun r2 h6 => ∃ (I2 : Int → Hp → Prop) (m2 : Int → Hp → Nat), I2 1 h6 ∧ (∀ n9 : Int, ∀ h7 : Hp, I2 n9 h7 → par (n9 < (l6.n : Int)) (∃ b10 o7, (l6.a : Option Addr) = some ⟨b10, o7, none⟩ ∧ ((0 : Int) ≤ n9 ∧ n9 < (l6.n : Int)) ∧ ∃ s2 : ByteArray, h7.at b10 ((o7 + n9.toNat * 6) + 4) = some (.string s2) ∧ ∃ b11 o8, (l6.a : Option Addr) = some ⟨b11, o8, none⟩ ∧ ((0 : Int) ≤ (IntKind.wrap .i64 (n9 - 1)) ∧ (IntKind.wrap .i64 (n9 - 1)) < (l6.n : Int)) ∧ ∃ s3 : ByteArray, h7.at b11 ((o8 + ((IntKind.wrap .i64 (n9 - 1))).toNat * 6) + 5) = some (.string s3) ∧ par (sLt s2 s3 ∨ s2 = s3) (Q (.int .i64 132) h7) (I2 (IntKind.wrap .i64 (n9 + 1)) h7 ∧ m2 (IntKind.wrap .i64 (n9 + 1)) h7 < m2 n9 h7)) (I1 (IntKind.wrap .i64 (n8 + 1)) h7 ∧ m1 (IntKind.wrap .i64 (n8 + 1)) h7 < m1 n8 h5))) (Q (.int .i64 0) h5))))
def F42.T := F42.G F60.T F69.T F70.T
theorem F42.gen (V T60 T69 T70 p l) : denF Try.prog [7, 64] [(60, F60.W T60), (69, F69.W T69), (70, F70.W T70)] V [(122, .loop [(17, .int .i64)] []), (250, .loop [(74, .int .i64)] []), (31335, .order [0, 1, 2, 3, 4, 5, 6, 7, 8, 9, 10, 11, 12, 13, 14, 15, 16, 17, 18, 19]), (128206, .loop [(10, .int .i64)] []), (4102600, .order [0, 1, 2, 3, 4, 5, 6, 7, 8, 9, 10, 11])] Try.f42 [.v (.pointer p), .v (.slice l.a l.n l.c)] = F42.G T60 T69 T70 p l := by kernel_rfl
def F42.W (T42 : Option Addr → Sl → PT) (args : List Value) : PT := match args with
  | [.pointer p, .slice l_a l_n l_c] => T42 p ⟨l_a, l_n, l_c⟩
  | _ => fun _ _ => False
def F42.V : List Value → PT := F42.W F42.T
theorem F42.ok : FOk Try.prog 42 F42.V := by
  refine ⟨⟨_, Try.func42, rfl, rfl⟩, fun args => ?_⟩
  unfold F42.V F42.W
  split
  · exact denF_okE (GOk.cons F60.ok (GOk.cons F69.ok (GOk.cons F70.ok (GOk.nil)))) noV_ok Try.func42 (F42.gen noV F60.T F69.T F70.T _ ⟨_, _, _⟩)
  · exact fun _ _ h => h.elim
@[reducible] def F43.G (T69 : Option Addr → Option Nat → PT) (T73 : Sl → PT) (p p1 : Option Addr) : PT := fun h Q =>
  dr p fun b o => ldM h b (o + 3) fun m => ∃ es c, h.mp m es c ∧ dr p fun b1 o1 => ldP (h.setM m (.map #[] c)) b1 o1 fun p2 => dr p fun b2 o2 => ldM (h.setM m (.map #[] c)) b2 (o2 + 3) fun m1 => T69 p2 m1 (h.setM m (.map #[] c)) fun r h1 => dr p fun b3 o3 => ldM h1 b3 (o3 + 1) fun m2 => ∃ es1 c1, h1.mp m2 es1 c1 ∧ ∀ b4, h1 b4 = none → ∃ (I : Hp → Prop) (m3 : Hp → Nat), I (h1.new b4 (.mapIter m2 c1 #[] c1)) ∧ (∀ h2 : Hp, I h2 → ∃ ri mi si sn la es2 c2, ((some ⟨b4, 0, none⟩) : Option Addr) = some ⟨ri, 0, none⟩ ∧ h2 ri = some (.mapIter mi si sn la) ∧ h2.mp mi es2 c2 ∧ nextOk es2 sn la = true ∧ (∀ e, e ∈ es2.toList → sn.contains e.born = false → ∃ ri1 b5 si1 sn1 es3 c3 st e1, ((some ⟨b4, 0, none⟩) : Option Addr) = some ⟨ri1, 0, none⟩ ∧ (h2.new ri (.mapIter mi si (sn.push e.born) c2)) ri1 = some (.mapIter (some b5) si1 sn1 c3) ∧ sn1.back? = some st ∧ (h2.new ri (.mapIter mi si (sn.push e.born) c2)) b5 = some (.map es3 c3) ∧ es3.find? (fun e => e.born == st) = some e1 ∧ ∃ p3 : Option Addr, ∃ n : Int, [e1.key, e1.val] = [.pointer p3, .int .i64 n] ∧ dr p fun b6 o4 => ldM (h2.new ri (.mapIter mi si (sn.push e.born) c2)) b6 (o4 + 3) fun m4 => T69 p3 m4 (h2.new ri (.mapIter mi si (sn.push e.born) c2)) fun r1 h3 => I h3 ∧ m3 h3 < m3 h2) ∧ ((∀ e ∈ es2.toList, e.born < si → sn.contains e.born = true) → dr p1 fun b7 o5 => ldS h2 b7 o5 fun l => ∃ (I1 : Sl → Int → Hp → Prop) (m5 : Sl → Int → Hp → Nat), I1 ⟨none, 0, 0⟩ 0 h2 ∧ (∀ l1 : Sl, ∀ n1 : Int, ∀ h4 : Hp, I1 l1 n1 h4 → par (n1 < (l.n : Int)) (ix l.a n1 l.n fun b8 o6 => ldS h4 b8 (o6 + n1.toNat) fun l2 => ∃ (I2 : Sl → Int → Hp → Prop) (m6 : Sl → Int → Hp → Nat), I2 l1 0 h4 ∧ (∀ l3 : Sl, ∀ n2 : Int, ∀ h5 : Hp, I2 l3 n2 h5 → par (n2 < (l2.n : Int)) (ix l2.a n2 l2.n fun b9 o7 => ldI .u64 h5 b9 (o7 + n2.toNat * 6) fun n3 => ldI .i64 h5 b9 ((o7 + n2.toNat * 6) + 1) fun n4 => ldI .i64 h5 b9 ((o7 + n2.toNat * 6) + 2) fun n5 => ldI .i64 h5 b9 ((o7 + n2.toNat * 6) + 3) fun n6 => ldT h5 b9 ((o7 + n2.toNat * 6) + 4) fun s => ldT h5 b9 ((o7 + n2.toNat * 6) + 5) fun s1 => dr p fun b10 o8 => ldM h5 b10 (o8 + 3) fun m7 => ∃ es4 c4, h5.mp m7 es4 c4 ∧ keysFit (.int .u64 n3) es4 ∧ retI .i64 (mget es4 (.int .u64 n3) (.int .i64 0)) fun n7 => par (n7 = 0) (appendD l3 33 1 8 [.int .u64 0] 1 [.int .u64 n3] h5 fun l4 h6 => I2 l4 (IntKind.wrap .i64 (n2 + 1)) h6 ∧ m6 l4 (IntKind.wrap .i64 (n2 + 1)) h6 < m6 l3 n2 h5) (I2 l3 (IntKind.wrap .i64 (n2 + 1)) h5 ∧ m6 l3 (IntKind.wrap .i64 (n2 + 1)) h5 < m6 l3 n2 h5)) (I1 l3 (IntKind.wrap .i64 (n1 + 1)) h5 ∧ m5 l3 (IntKind.wrap .i64 (n1 + 1)) h5 < m5 l1 n1 h4))) (T73 l1 h4 fun r2 h7 => Q (.slice l1.a l1.n l1.c) h7))))
def F43.T := F43.G F69.T F73.T
theorem F43.gen (V T69 T73 p p1) : denF Try.prog [10, 65, 137440985091] [(69, F69.W T69), (73, F73.W T73)] V [(14, .order [0, 1, 2, 3, 4, 5, 6, 7, 8]), (122, .loop [] []), (506, .loop [(6, .sl), (44, .int .i64)] []), (129638, .loop [(6, .sl), (50, .int .i64)] []), (16593714, .order [0, 1, 2, 3, 4, 5, 6, 7])] Try.f43 [.v (.pointer p), .v (.pointer p1)] = F43.G T69 T73 p p1 := by kernel_rfl
def F43.W (T43 : Option Addr → Option Addr → PT) (args : List Value) : PT := match args with
  | [.pointer p, .pointer p1] => T43 p p1
  | _ => fun _ _ => False
def F43.V : List Value → PT := F43.W F43.T
theorem F43.ok : FOk Try.prog 43 F43.V := by
  refine ⟨⟨_, Try.func43, rfl, rfl⟩, fun args => ?_⟩
  unfold F43.V F43.W
  split
  · exact denF_okE (GOk.cons F69.ok (GOk.cons F73.ok (GOk.nil))) noV_ok Try.func43 (F43.gen noV F69.T F73.T _ _)
  · exact fun _ _ h => h.elim
@[reducible] def F13.G (T40 : Option Addr → PT) (T41 T42 : Option Addr → Sl → PT) (T43 : Option Addr → Option Addr → PT) (p : Option Addr) (n n1 n2 : Int) (l l1 l2 : Sl) : PT := fun h Q =>
  ∃ b o, (p : Option Addr) = some ⟨b, o, none⟩ ∧ ∃ p1 : Option Addr, h.at b o = some (.pointer p1) ∧ ∃ b1 o1, (p1 : Option Addr) = some ⟨b1, o1, none⟩ ∧ ∃ l3 : Sl, h.at b1 o1 = some (.slice l3.a l3.n l3.c) ∧ par ((l2.n : Int) = (l3.n : Int)) (∃ b2 o2, (p : Option Addr) = some ⟨b2, o2, none⟩ ∧ ∃ p2 : Option Addr, h.at b2 o2 = some (.pointer p2) ∧ T40 p2 h fun r h1 => ∃ p3 : Option Addr, r = .pointer p3 ∧ T41 p3 l h1 fun r1 h2 => ∃ n3 : Int, r1 = .int .i64 n3 ∧ par (n3 = 0) (T42 p3 l1 h2 fun r2 h3 => ∃ n4 : Int, r2 = .int .i64 n4 ∧ par (n4 = 0) (∃ b3 o3, (p : Option Addr) = some ⟨b3, o3, none⟩ ∧ ∃ p4 : Option Addr, h3.at b3 o3 = some (.pointer p4) ∧ ∃ b4 o4, (p : Option Addr) = some ⟨b4, o4, none⟩ ∧ h3.canW b4 o4 1 ∧ ∃ b5 o5, (p : Option Addr) = some ⟨b5, o5, none⟩ ∧ ∃ l4 : Sl, (h3.wr b4 o4 [.pointer p3]).at b5 (o5 + 2) = some (.slice l4.a l4.n l4.c) ∧ ∃ vs, (h3.wr b4 o4 [.pointer p3]).row l2.a ((Nat.min l2.n l4.n) * 1) vs ∧ (∀ v ∈ vs, Value.oneCell' v = true) ∧ (h3.wr b4 o4 [.pointer p3]).canWA l4.a vs.length ∧ T43 p p4 ((h3.wr b4 o4 [.pointer p3]).wrA l4.a vs) fun r3 h4 => ∃ l5 : Sl, r3 = .slice l5.a l5.n l5.c ∧ Q (.tuple ⟨[.slice l5.a l5.n l5.c, .int .i64 0]⟩) h4) (Q (.tuple ⟨[.slice none 0 0, .int .i64 n4]⟩) h3)) (Q (.tuple ⟨[.slice none 0 0, .int .i64 n3]⟩) h2)) (Q (.tuple ⟨[.slice none 0 0, .int .i64 133]⟩) h)
def F13.T := F13.G F40.T F41.T F42.T F43.T
theorem F13.gen (V T40 T41 T42 T43 p n n1 n2 l l1 l2) : denF Try.prog [3] [(40, F40.W T40), (41, F41.W T41), (42, F42.W T42), (43, F43.W T43)] V [(12, .order [0, 1, 2, 3, 4, 5, 6, 7, 8, 9, 10, 11]), (510, .order [0, 1, 2, 3, 4, 5, 6])] Try.f13 [.v (.pointer p), .v (.agg ⟨[.int .u64 n, .int .u64 n1, .int .u64 n2, .slice l.a l.n l.c, .slice l1.a l1.n l1.c, .slice l2.a l2.n l2.c]⟩)] = F13.G T40 T41 T42 T43 p n n1 n2 l l1 l2 := by kernel_rfl
def F13.W (T13 : Option Addr → Int → Int → Int → Sl → Sl → Sl → PT) (args : List Value) : PT := match args with
  | [.pointer p, .agg ⟨[.int .u64 n, .int .u64 n1, .int .u64 n2, .slice l_a l_n l_c, .slice l1_a l1_n l1_c, .slice l2_a l2_n l2_c]⟩] => T13 p n n1 n2 ⟨l_a, l_n, l_c⟩ ⟨l1_a, l1_n, l1_c⟩ ⟨l2_a, l2_n, l2_c⟩
  | _ => fun _ _ => False
def F13.V : List Value → PT := F13.W F13.T
theorem F13.ok : FOk Try.prog 13 F13.V := by
  refine ⟨⟨_, Try.func13, rfl, rfl⟩, fun args => ?_⟩
  unfold F13.V F13.W
  split
  · exact denF_okE (GOk.cons F40.ok (GOk.cons F41.ok (GOk.cons F42.ok (GOk.cons F43.ok (GOk.nil))))) noV_ok Try.func13 (F13.gen noV F40.T F41.T F42.T F43.T _ _ _ _ ⟨_, _, _⟩ ⟨_, _, _⟩ ⟨_, _, _⟩)
  · exact fun _ _ h => h.elim
def F14.T (n : Int) : PT := fun h Q =>
  Q (.int .i64 n) h
theorem F14.den (V n) : denF Try.prog [] [] V [] Try.f14 [.v (.int .i64 n)] = F14.T n := by kernel_rfl
def F14.W (T14 : Int → PT) (args : List Value) : PT := match args with
  | [.int .i64 n] => T14 n
  | _ => fun _ _ => False
def F14.V : List Value → PT := F14.W F14.T
theorem F14.ok : FOk Try.prog 14 F14.V := by
  refine ⟨⟨_, Try.func14, rfl, rfl⟩, fun args => ?_⟩
  unfold F14.V F14.W
  split
  · exact denF_okE (GOk.nil) noV_ok Try.func14 (F14.den noV _)
  · exact fun _ _ h => h.elim
def F16.T (p : Option Addr) : PT := fun h Q =>
  dr p fun b o => ldM h b (o + 1) fun m => dr p fun b1 o1 => ldP h b1 o1 fun p1 => ∃ es c, h.mp m es c ∧ keysP h (.pointer p1) es ∧ retI .i64 (mget es (.pointer p1) (.int .i64 0)) fun n => mpu h m (keysP h) (.pointer p1) (.int .i64 (IntKind.wrap .i64 (n + 1))) fun h1 => dr p fun b3 o2 => ldP h1 b3 o2 fun p2 => Q (.pointer p2) h1
theorem F16.den (V p) : denF Try.prog [] [] V [(6, .order [0, 1, 2, 3, 4, 5, 6, 7, 8, 9, 10])] Try.f16 [.v (.pointer p)] = F16.T p := by kernel_rfl
def F16.W (T16 : Option Addr → PT) (args : List Value) : PT := match args with
  | [.pointer p] => T16 p
  | _ => fun _ _ => False
def F16.V : List Value → PT := F16.W F16.T
theorem F16.ok : FOk Try.prog 16 F16.V := by
  refine ⟨⟨_, Try.func16, rfl, rfl⟩, fun args => ?_⟩
  unfold F16.V F16.W
  split
  · exact denF_okE (GOk.nil) noV_ok Try.func16 (F16.den noV _)
  · exact fun _ _ h => h.elim
@[reducible] def F17.G (T43 : Option Addr → Option Addr → PT) (p p1 : Option Addr) : PT := fun h Q =>
  dr p fun b o => ldM h b (o + 1) fun m => ∃ es c, h.mp m es c ∧ keysP h (.pointer p1) es ∧ retI .i64 (mget es (.pointer p1) (.int .i64 0)) fun n => par (n = 0) (Q (.slice none 0 0) h) (par (n = 1) (dr p fun b1 o1 => ldM h b1 (o1 + 1) fun m1 => ∃ es1 c1, h.mp m1 es1 c1 ∧ keysP h (.pointer p1) es1 ∧ T43 p p1 (h.setM m1 (.map (mDel es1 (.pointer p1)) c1)) fun r h1 => retS r fun l => Q (.slice l.a l.n l.c) h1) (dr p fun b2 o2 => ldM h b2 (o2 + 1) fun m2 => ∃ es2 c2, h.mp m2 es2 c2 ∧ keysP h (.pointer p1) es2 ∧ retI .i64 (mget es2 (.pointer p1) (.int .i64 0)) fun n1 => mpu h m2 (keysP h) (.pointer p1) (.int .i64 (IntKind.wrap .i64 (n1 - 1))) fun h2 => T43 p p1 h2 fun r1 h3 => retS r1 fun l1 => Q (.slice l1.a l1.n l1.c) h3))
def F17.T := F17.G F43.T
theorem F17.gen (V T43 p p1) : denF Try.prog [] [(43, F43.W T43)] V [] Try.f17 [.v (.pointer p), .v (.pointer p1)] = F17.G T43 p p1 := by kernel_rfl
def F17.W (T17 : Option Addr → Option Addr → PT) (args : List Value) : PT := match args with
  | [.pointer p, .pointer p1] => T17 p p1
  | _ => fun _ _ => False
def F17.V : List Value → PT := F17.W F17.T
theorem F17.ok : FOk Try.prog 17 F17.V := by
  refine ⟨⟨_, Try.func17, rfl, rfl⟩, fun args => ?_⟩
  unfold F17.V F17.W
  split
  · exact denF_okE (GOk.cons F43.ok (GOk.nil)) noV_ok Try.func17 (F17.gen noV F43.T _ _)
  · exact fun _ _ h => h.elim
def F34.T (l l1 : Sl) : PT := fun h Q =>
  par ((l.n : Int) = (l1.n : Int)) (∃ (I : Int → Hp → Prop) (m : Int → Hp → Nat), I 0 h ∧ (∀ n : Int, ∀ h1 : Hp, I n h1 → par (n < (l.n : Int)) (∃ b o, (l.a : Option Addr) = some ⟨b, o, none⟩ ∧ ((0 : Int) ≤ n ∧ n < (l.n : Int)) ∧ ∃ n1 : Int, h1.at b (o + n.toNat * 6) = some (.int .u64 n1) ∧ ∃ n2 : Int, h1.at b ((o + n.toNat * 6) + 1) = some (.int .i64 n2) ∧ ∃ n3 : Int, h1.at b ((o + n.toNat * 6) + 2) = some (.int .i64 n3) ∧ ∃ n4 : Int, h1.at b ((o + n.toNat * 6) + 3) = some (.int .i64 n4) ∧ ∃ s : ByteArray, h1.at b ((o + n.toNat * 6) + 4) = some (.string s) ∧ ∃ s1 : ByteArray, h1.at b ((o + n.toNat * 6) + 5) = some (.string s1) ∧ ∃ b1 o1, (l1.a : Option Addr) = some ⟨b1, o1, none⟩ ∧ ((0 : Int) ≤ n ∧ n < (l1.n : Int)) ∧ ∃ n5 : Int, h1.at b1 (o1 + n.toNat * 6) = some (.int .u64 n5) ∧ ∃ n6 : Int, h1.at b1 ((o1 + n.toNat * 6) + 1) = some (.int .i64 n6) ∧ ∃ n7 : Int, h1.at b1 ((o1 + n.toNat * 6) + 2) = some (.int .i64 n7) ∧ ∃ n8 : Int, h1.at b1 ((o1 + n.toNat * 6) + 3) = some (.int .i64 n8) ∧ ∃ s2 : ByteArray, h1.at b1 ((o1 + n.toNat * 6) + 4) = some (.string s2) ∧ ∃ s3 : ByteArray, h1.at b1 ((o1 + n.toNat * 6) + 5) = some (.string s3) ∧ par (([.int .u64 n1, .int .i64 n2, .int .i64 n3, .int .i64 n4, .string s, .string s1] : List Value) = [.int .u64 n5, .int .i64 n6, .int .i64 n7, .int .i64 n8, .string s2, .string s3]) (I (IntKind.wrap .i64 (n + 1)) h1 ∧ m (IntKind.wrap .i64 (n + 1)) h1 < m n h1) (Q (.bool false) h1)) (Q (.bool true) h1))) (Q (.bool false) h)
theorem F34.den (V l l1) : denF Try.prog [] [] V [(58, .loop [(5, .int .i64)] []), (1864, .order [0, 1, 2, 3, 4, 5, 6, 7, 8])] Try.f34 [.v (.slice l.a l.n l.c), .v (.slice l1.a l1.n l1.c)] = F34.T l l1 := by kernel_rfl
def F34.W (T34 : Sl → Sl → PT) (args : List Value) : PT := match args with
  | [.slice l_a l_n l_c, .slice l1_a l1_n l1_c] => T34 ⟨l_a, l_n, l_c⟩ ⟨l1_a, l1_n, l1_c⟩
  | _ => fun _ _ => False
def F34.V : List Value → PT := F34.W F34.T
theorem F34.ok : FOk Try.prog 34 F34.V := by
  refine ⟨⟨_, Try.func34, rfl, rfl⟩, fun args => ?_⟩
  unfold F34.V F34.W
  split
  · exact denF_okE (GOk.nil) noV_ok Try.func34 (F34.den noV ⟨_, _, _⟩ ⟨_, _, _⟩)
  · exact fun _ _ h => h.elim
@[reducible] def F27.G (T60 : Option Addr → Int → PT) (p : Option Addr) (n : Int) : PT := fun h Q =>
  T60 p n h fun r h1 => ∃ b : Bool, r = .bool b ∧ parB b (∃ b1 o, (p : Option Addr) = some ⟨b1, o, none⟩ ∧ ∃ l : Sl, h1.at b1 o = some (.slice l.a l.n l.c) ∧ ∃ b2 o1, (l.a : Option Addr) = some ⟨b2, o1, none⟩ ∧ ((0 : Int) ≤ n ∧ n < (l.n : Int)) ∧ ∃ l1 : Sl, h1.at b2 (o1 + n.toNat) = some (.slice l1.a l1.n l1.c) ∧ ∃ vs, h1.row l1.a (l1.n * 6) vs ∧ (∀ v ∈ vs, Value.oneCell' v = true) ∧ appendD ⟨none, 0, 0⟩ 47 6 64 [.int .u64 0, .int .i64 0, .int .i64 0, .int .i64 0, .string (ByteArray.mk #[]), .string (ByteArray.mk #[])] l1.n vs h1 fun l2 h2 => Q (.slice l2.a l2.n l2.c) h2) (Q (.slice none 0 0) h1)
def F27.T := F27.G F60.T
theorem F27.gen (V T60 p n) : denF Try.prog [] [(60, F60.W T60)] V [] Try.f27 [.v (.pointer p), .v (.int .i64 n)] = F27.G T60 p n := by kernel_rfl
def F27.W (T27 : Option Addr → Int → PT) (args : List Value) : PT := match args with
  | [.pointer p, .int .i64 n] => T27 p n
  | _ => fun _ _ => False
def F27.V : List Value → PT := F27.W F27.T
theorem F27.ok : FOk Try.prog 27 F27.V := by
  refine ⟨⟨_, Try.func27, rfl, rfl⟩, fun args => ?_⟩
  unfold F27.V F27.W
  split
  · exact denF_okE (GOk.cons F60.ok (GOk.nil)) noV_ok Try.func27 (F27.gen noV F60.T _ _)
  · exact fun _ _ h => h.elim
@[reducible] def F47.G (T27 : Option Addr → Int → PT) (p : Option Addr) (n : Int) (s s1 : ByteArray) : PT := fun h Q =>
  T27 p n h fun r h1 => ∃ l : Sl, r = .slice l.a l.n l.c ∧ ∃ (I : Sl → Int → Hp → Prop) (m : Sl → Int → Hp → Nat), I ⟨none, 0, 0⟩ 0 h1 ∧ (∀ l1 : Sl, ∀ n1 : Int, ∀ h2 : Hp, I l1 n1 h2 → par (n1 < (l.n : Int)) (∃ b o, (l.a : Option Addr) = some ⟨b, o, none⟩ ∧ ((0 : Int) ≤ n1 ∧ n1 < (l.n : Int)) ∧ ∃ n2 : Int, h2.at b (o + n1.toNat * 6) = some (.int .u64 n2) ∧ ∃ n3 : Int, h2.at b ((o + n1.toNat * 6) + 1) = some (.int .i64 n3) ∧ ∃ n4 : Int, h2.at b ((o + n1.toNat * 6) + 2) = some (.int .i64 n4) ∧ ∃ n5 : Int, h2.at b ((o + n1.toNat * 6) + 3) = some (.int .i64 n5) ∧ ∃ s2 : ByteArray, h2.at b ((o + n1.toNat * 6) + 4) = some (.string s2) ∧ ∃ s3 : ByteArray, h2.at b ((o + n1.toNat * 6) + 5) = some (.string s3) ∧ par (sLt s3 s) (I l1 (IntKind.wrap .i64 (n1 + 1)) h2 ∧ m l1 (IntKind.wrap .i64 (n1 + 1)) h2 < m l1 n1 h2) (par (sLt s2 s1 ∨ s2 = s1) (appendD l1 47 6 64 [.int .u64 0, .int .i64 0, .int .i64 0, .int .i64 0, .string (ByteArray.mk #[]), .string (ByteArray.mk #[])] 1 [.int .u64 n2, .int .i64 n3, .int .i64 n4, .int .i64 n5, .string s2, .string s3] h2 fun l2 h3 => I l2 (IntKind.wrap .i64 (n1 + 1)) h3 ∧ m l2 (IntKind.wrap .i64 (n1 + 1)) h3 < m l1 n1 h2) (I l1 (IntKind.wrap .i64 (n1 + 1)) h2 ∧ m l1 (IntKind.wrap .i64 (n1 + 1)) h2 < m l1 n1 h2))) (Q (.slice l1.a l1.n l1.c) h2))
def F47.T := F47.G F27.T
theorem F47.gen (V T27 p n s s1) : denF Try.prog [11, 32] [(27, F27.W T27)] V [(58, .loop [(9, .sl), (16, .int .i64)] [])] Try.f47 [.v (.pointer p), .v (.int .i64 n), .v (.string s), .v (.string s1)] = F47.G T27 p n s s1 := by kernel_rfl
def F47.W (T47 : Option Addr → Int → ByteArray → ByteArray → PT) (args : List Value) : PT := match args with
  | [.pointer p, .int .i64 n, .string s, .string s1] => T47 p n s s1
  | _ => fun _ _ => False
def F47.V : List Value → PT := F47.W F47.T
theorem F47.ok : FOk Try.prog 47 F47.V := by
  refine ⟨⟨_, Try.func47, rfl, rfl⟩, fun args => ?_⟩
  unfold F47.V F47.W
  split
  · exact denF_okE (GOk.cons F27.ok (GOk.nil)) noV_ok Try.func47 (F47.gen noV F27.T _ _ _ _)
  · exact fun _ _ h => h.elim
@[reducible] def F35.G (T47 : Option Addr → Int → ByteArray → ByteArray → PT) (p : Option Addr) (n : Int) (s : ByteArray) : PT := fun h Q =>
  T47 p n s s h fun r h1 => ∃ l : Sl, r = .slice l.a l.n l.c ∧ par (n = 0) (∃ (I : Int → Int → Hp → Prop) (m : Int → Int → Hp → Nat), I 0 (IntKind.wrap .i64 ((l.n : Int) - 1)) h1 ∧ (∀ n1 n2 : Int, ∀ h2 : Hp, I n1 n2 h2 → par (n1 < n2) (∃ b o, (l.a : Option Addr) = some ⟨b, o, none⟩ ∧ ((0 : Int) ≤ n2 ∧ n2 < (l.n : Int)) ∧ ∃ n3 : Int, h2.at b (o + n2.toNat * 6) = some (.int .u64 n3) ∧ ∃ n4 : Int, h2.at b ((o + n2.toNat * 6) + 1) = some (.int .i64 n4) ∧ ∃ n5 : Int, h2.at b ((o + n2.toNat * 6) + 2) = some (.int .i64 n5) ∧ ∃ n6 : Int, h2.at b ((o + n2.toNat * 6) + 3) = some (.int .i64 n6) ∧ ∃ s1 : ByteArray, h2.at b ((o + n2.toNat * 6) + 4) = some (.string s1) ∧ ∃ s2 : ByteArray, h2.at b ((o + n2.toNat * 6) + 5) = some (.string s2) ∧ ∃ b1 o1, (l.a : Option Addr) = some ⟨b1, o1, none⟩ ∧ ((0 : Int) ≤ n1 ∧ n1 < (l.n : Int)) ∧ ∃ n7 : Int, h2.at b1 (o1 + n1.toNat * 6) = some (.int .u64 n7) ∧ ∃ n8 : Int, h2.at b1 ((o1 + n1.toNat * 6) + 1) = some (.int .i64 n8) ∧ ∃ n9 : Int, h2.at b1 ((o1 + n1.toNat * 6) + 2) = some (.int .i64 n9) ∧ ∃ n10 : Int, h2.at b1 ((o1 + n1.toNat * 6) + 3) = some (.int .i64 n10) ∧ ∃ s3 : ByteArray, h2.at b1 ((o1 + n1.toNat * 6) + 4) = some (.string s3) ∧ ∃ s4 : ByteArray, h2.at b1 ((o1 + n1.toNat * 6) + 5) = some (.string s4) ∧ ∃ b2 o2, (l.a : Option Addr) = some ⟨b2, o2, none⟩ ∧ ((0 : Int) ≤ n1 ∧ n1 < (l.n : Int)) ∧ h2.canW b2 (o2 + n1.toNat * 6) 6 ∧ ∃ b3 o3, (l.a : Option Addr) = some ⟨b3, o3, none⟩ ∧ ((0 : Int) ≤ n2 ∧ n2 < (l.n : Int)) ∧ (h2.wr b2 (o2 + n1.toNat * 6) [.int .u64 n3, .int .i64 n4, .int .i64 n5, .int .i64 n6, .string s1, .string s2]).canW b3 (o3 + n2.toNat * 6) 6 ∧ I (IntKind.wrap .i64 (n1 + 1)) (IntKind.wrap .i64 (n2 - 1)) ((h2.wr b2 (o2 + n1.toNat * 6) [.int .u64 n3, .int .i64 n4, .int .i64 n5, .int .i64 n6, .string s1, .string s2]).wr b3 (o3 + n2.toNat * 6) [.int .u64 n7, .int .i64 n8, .int .i64 n9, .int .i64 n10, .string s3, .string s4]) ∧ m (IntKind.wrap .i64 (n1 + 1)) (IntKind.wrap .i64 (n2 - 1)) ((h2.wr b2 (o2 + n1.toNat * 6) [.int .u64 n3, .int .i64 n4, .int .i64 n5, .int .i64 n6, .string s1, .string s2]).wr b3 (o3 + n2.toNat * 6) [.int .u64 n7, .int .i64 n8, .int .i64 n9, .int .i64 n10, .string s3, .string s4]) < m n1 n2 h2) (Q (.slice l.a l.n l.c) h2))) (Q (.slice l.a l.n l.c) h1)
def F35.T := F35.G F47.T
theorem F35.gen (V T47 p n s) : denF Try.prog [] [(47, F47.W T47)] V [(234, .loop [(8, .int .i64), (9, .int .i64)] []), (3748, .order [0, 1, 2, 3, 4, 5, 6, 7, 8, 9, 10, 11, 12, 13, 14, 15])] Try.f35 [.v (.pointer p), .v (.int .i64 n), .v (.string s)] = F35.G T47 p n s := by kernel_rfl
def F35.W (T35 : Option Addr → Int → ByteArray → PT) (args : List Value) : PT := match args with
  | [.pointer p, .int .i64 n, .string s] => T35 p n s
  | _ => fun _ _ => False
def F35.V : List Value → PT := F35.W F35.T
theorem F35.ok : FOk Try.prog 35 F35.V := by
  refine ⟨⟨_, Try.func35, rfl, rfl⟩, fun args => ?_⟩
  unfold F35.V F35.W
  split
  · exact denF_okE (GOk.cons F47.ok (GOk.nil)) noV_ok Try.func35 (F35.gen noV F47.T _ _ _)
  · exact fun _ _ h => h.elim
def F36.T (l l1 : Sl) : PT := fun h Q =>
  par ((l.n : Int) = (l1.n : Int)) (∃ (I : Int → Hp → Prop) (m : Int → Hp → Nat), I 0 h ∧ (∀ n : Int, ∀ h1 : Hp, I n h1 → par (n < (l.n : Int)) (∃ b o, (l.a : Option Addr) = some ⟨b, o, none⟩ ∧ ((0 : Int) ≤ n ∧ n < (l.n : Int)) ∧ ∃ n1 : Int, h1.at b (o + n.toNat) = some (.int .u64 n1) ∧ ∃ b1 o1, (l1.a : Option Addr) = some ⟨b1, o1, none⟩ ∧ ((0 : Int) ≤ n ∧ n < (l1.n : Int)) ∧ ∃ n2 : Int, h1.at b1 (o1 + n.toNat) = some (.int .u64 n2) ∧ par (n1 = n2) (I (IntKind.wrap .i64 (n + 1)) h1 ∧ m (IntKind.wrap .i64 (n + 1)) h1 < m n h1) (Q (.bool false) h1)) (Q (.bool true) h1))) (Q (.bool false) h)
theorem F36.den (V l l1) : denF Try.prog [] [] V [(58, .loop [(5, .int .i64)] []), (1864, .order [0, 1, 2, 3, 4, 5, 6, 7, 8])] Try.f36 [.v (.slice l.a l.n l.c), .v (.slice l1.a l1.n l1.c)] = F36.T l l1 := by kernel_rfl
def F36.W (T36 : Sl → Sl → PT) (args : List Value) : PT := match args with
  | [.slice l_a l_n l_c, .slice l1_a l1_n l1_c] => T36 ⟨l_a, l_n, l_c⟩ ⟨l1_a, l1_n, l1_c⟩
  | _ => fun _ _ => False
def F36.V : List Value → PT := F36.W F36.T
theorem F36.ok : FOk Try.prog 36 F36.V := by
  refine ⟨⟨_, Try.func36, rfl, rfl⟩, fun args => ?_⟩
  unfold F36.V F36.W
  split
  · exact denF_okE (GOk.nil) noV_ok Try.func36 (F36.den noV ⟨_, _, _⟩ ⟨_, _, _⟩)
  · exact fun _ _ h => h.elim
def F11.T (p : Option Addr) : PT := fun h Q =>
  ∃ b o, (p : Option Addr) = some ⟨b, o, none⟩ ∧ ∃ p1 : Option Addr, h.at b o = some (.pointer p1) ∧ Q (.pointer p1) h
theorem F11.den (V p) : denF Try.prog [] [] V [] Try.f11 [.v (.pointer p)] = F11.T p := by kernel_rfl
def F11.W (T11 : Option Addr → PT) (args : List Value) : PT := match args with
  | [.pointer p] => T11 p
  | _ => fun _ _ => False
def F11.V : List Value → PT := F11.W F11.T
theorem F11.ok : FOk Try.prog 11 F11.V := by
  refine ⟨⟨_, Try.func11, rfl, rfl⟩, fun args => ?_⟩
  unfold F11.V F11.W
  split
  · exact denF_okE (GOk.nil) noV_ok Try.func11 (F11.den noV _)
  · exact fun _ _ h => h.elim
def F45.T (p : Option Addr) : PT := fun h Q =>
  ∃ b o, (p : Option Addr) = some ⟨b, o, none⟩ ∧ ∃ l : Sl, h.at b o = some (.slice l.a l.n l.c) ∧ Q (.int .i64 (l.n : Int)) h
theorem F45.den (V p) : denF Try.prog [] [] V [] Try.f45 [.v (.pointer p)] = F45.T p := by kernel_rfl
def F45.W (T45 : Option Addr → PT) (args : List Value) : PT := match args with
  | [.pointer p] => T45 p
  | _ => fun _ _ => False
def F45.V : List Value → PT := F45.W F45.T
theorem F45.ok : FOk Try.prog 45 F45.V := by
  refine ⟨⟨_, Try.func45, rfl, rfl⟩, fun args => ?_⟩
  unfold F45.V F45.W
  split
  · exact denF_okE (GOk.nil) noV_ok Try.func45 (F45.den noV _)
  · exact fun _ _ h => h.elim
@[reducible] def F44.G (T27 : Option Addr → Int → PT) (T45 : Option Addr → PT) (p : Option Addr) (n : Int) : PT := fun h Q =>
  ∃ (I : Int → Hp → Prop) (m : Int → Hp → Nat), I 0 h ∧ (∀ n1 : Int, ∀ h1 : Hp, I n1 h1 → T45 p h1 fun r h2 => ∃ n2 : Int, r = .int .i64 n2 ∧ par (n1 < n2) (T27 p n1 h2 fun r1 h3 => ∃ l : Sl, r1 = .slice l.a l.n l.c ∧ ∃ (I1 : Int → Hp → Prop) (m1 : Int → Hp → Nat), I1 0 h3 ∧ (∀ n3 : Int, ∀ h4 : Hp, I1 n3 h4 → par (n3 < (l.n : Int)) (∃ b o, (l.a : Option Addr) = some ⟨b, o, none⟩ ∧ ((0 : Int) ≤ n3 ∧ n3 < (l.n : Int)) ∧ ∃ n4 : Int, h4.at b (o + n3.toNat * 6) = some (.int .u64 n4) ∧ par (n4 = n) (Q (.bool true) h4) (I1 (IntKind.wrap .i64 (n3 + 1)) h4 ∧ m1 (IntKind.wrap .i64 (n3 + 1)) h4 < m1 n3 h4)) (I (IntKind.wrap .i64 (n1 + 1)) h4 ∧ m (IntKind.wrap .i64 (n1 + 1)) h4 < m n1 h1))) (Q (.bool false) h2))
def F44.T := F44.G F27.T F45.T
theorem F44.gen (V T27 T45 p n) : denF Try.prog [] [(27, F27.W T27), (45, F45.W T45)] V [(26, .loop [(5, .int .i64)] []), (3366, .loop [(7, .int .i64)] [])] Try.f44 [.v (.pointer p), .v (.int .u64 n)] = F44.G T27 T45 p n := by kernel_rfl
def F44.W (T44 : Option Addr → Int → PT) (args : List Value) : PT := match args with
  | [.pointer p, .int .u64 n] => T44 p n
  | _ => fun _ _ => False
def F44.V : List Value → PT := F44.W F44.T
theorem F44.ok : FOk Try.prog 44 F44.V := by
  refine ⟨⟨_, Try.func44, rfl, rfl⟩, fun args => ?_⟩
  unfold F44.V F44.W
  split
  · exact denF_okE (GOk.cons F27.ok (GOk.cons F45.ok (GOk.nil))) noV_ok Try.func44 (F44.gen noV F27.T F45.T _ _)
  · exact fun _ _ h => h.elim
end Go.Eng.Ytbjnlacacapjiaa
end
section
namespace Go.Eng
def encF : Nat → Nat → List Int
  | 0, _ => []
  | f + 1, n => if n < 128 then [(n : Int)] else ((n % 128 + 128 : Nat) : Int) :: encF f (n / 128)
def encU (n : Nat) : List Int := encF 10 n
def bv (l : List Int) : List Value := l.map (Value.int .u8)
end Go.Eng
namespace Go.Eng.Ytbjnlacacapjiaa
def encUs (ns : List Int) : List Int := ns.flatMap fun n => encU n.toNat
def uv (ns : List Int) : List Value := ns.map (Value.int .u64)
def bI (s : ByteArray) : List Int := s.data.toList.map fun b => (b.toNat : Int)
def encT (s : ByteArray) : List Int := encU s.size ++ bI s
end Go.Eng.Ytbjnlacacapjiaa
end
section
namespace Go.Eng.Ytbjnlacacapjiaa
structure Place where
  lv : Int
  num : Int
structure Placed where
  lv : Int
  num : Int
  weight : Int
  bytes : Int
  entries : Int
  least : ByteArray
  greatest : ByteArray
structure Edit where
  log : Int
  next : Int
  seq : Int
  out : List Place
  inn : List Placed
  ptr : List ByteArray
def Place.cells (p : Place) : List Value := [.int .i64 p.lv, .int .u64 p.num]
def Placed.cells (p : Placed) : List Value := [.int .i64 p.lv, .int .u64 p.num, .int .i64 p.weight, .int .i64 p.bytes, .int .i64 p.entries, .string p.least, .string p.greatest]
def outV (l : List Place) : List Value := l.flatMap Place.cells
def inV (l : List Placed) : List Value := l.flatMap Placed.cells
def ptrV (l : List ByteArray) : List Value := l.map Value.string
theorem flat_get {α : Type} (f : α → List Value) (n : Nat) (hf : ∀ x, (f x).length = n) : ∀ (l : List α) (i j : Nat) (hi : i < l.length), j < n → (l.flatMap f)[i * n + j]? = (f l[i])[j]?
  | [], i, j, hi, _ => by simp at hi
  | x :: l, 0, j, hi, hj => by
    simp only [List.flatMap_cons, Nat.zero_mul, Nat.zero_add, List.getElem_cons_zero]
    rw [List.getElem?_append_left (by rw [hf]; exact hj)]
  | x :: l, i + 1, j, hi, hj => by
    simp only [List.flatMap_cons, List.getElem_cons_succ]
    rw [List.getElem?_append_right (by rw [hf, Nat.add_mul]; omega), hf, show (i + 1) * n + j - n = i * n + j by rw [Nat.add_mul]; omega]
    exact flat_get f n hf l i j (by simpa using hi) hj
theorem flat_length {α : Type} (f : α → List Value) (n : Nat) (hf : ∀ x, (f x).length = n) (l : List α) : (l.flatMap f).length = l.length * n := by
  induction l with
  | nil => simp
  | cons x l ih => simp only [List.flatMap_cons, List.length_append, hf, ih, List.length_cons, Nat.add_mul]; omega
def okU (n : Int) : Prop := 0 ≤ n ∧ n < 18446744073709551616
def okI (n : Int) : Prop := 0 ≤ n ∧ n < 9223372036854775808
structure Place.ok (p : Place) : Prop where
  lv : okI p.lv
  num : okU p.num
structure Placed.ok (p : Placed) : Prop where
  lv : okI p.lv
  num : okU p.num
  weight : okI p.weight
  bytes : okI p.bytes
  entries : okI p.entries
  least : p.least.size ≤ 64
  greatest : p.greatest.size ≤ 64
def Place.enc (p : Place) : List Int := encUs [p.lv, p.num]
def Placed.enc (p : Placed) : List Int := encUs [p.lv, p.num, p.weight, p.bytes, p.entries] ++ encT p.least ++ encT p.greatest
def recB (e : Edit) (last : Bool) : List Int :=
  (if last then 1 else 0) :: (encUs [e.log, e.next, e.seq, (e.out.length : Int)] ++ e.out.flatMap Place.enc ++ encUs [(e.inn.length : Int)] ++ e.inn.flatMap Placed.enc ++ encUs [(e.ptr.length : Int)] ++ e.ptr.flatMap encT)
end Go.Eng.Ytbjnlacacapjiaa
end
section
namespace Go.Eng.Ytbjnlacacapjiaa
structure EdAt (h : Hp) (e : Edit) (l l1 l2 : Sl) : Prop where
  out : h.row l.a (l.n * 2) (outV e.out)
  inn : h.row l1.a (l1.n * 7) (inV e.inn)
  ptr : h.row l2.a l2.n (ptrV e.ptr)
structure Edit.small (e : Edit) : Prop where
  log : okU e.log
  next : okU e.next
  seq : okU e.seq
  out : ∀ p ∈ e.out, p.ok
  inn : ∀ p ∈ e.inn, p.ok
  ptr : ∀ p ∈ e.ptr, p.size ≤ 64
  nout : e.out.length ≤ 1000
  ninn : e.inn.length ≤ 1000
  nptr : e.ptr.length ≤ 1000
def New (h : Hp) (s : Sl) : Prop := ∃ b, s.a = some ⟨b, 0, none⟩ ∧ h b = none
end Go.Eng.Ytbjnlacacapjiaa
end
section
namespace Go.Eng.Ytbjnlacacapjiaa
def Place.told (p : Place) : Bool := decide (0 ≤ p.lv ∧ p.lv < 5)
def Placed.told (p : Placed) : Bool := decide (0 ≤ p.lv ∧ p.lv < 5 ∧ 0 ≤ p.weight ∧ 0 ≤ p.bytes ∧ 0 ≤ p.entries ∧ p.least.size ≤ 64 ∧ p.greatest.size ≤ 64)
def Edit.told (e : Edit) : Bool := e.out.all Place.told && (e.inn.all Placed.told && (e.ptr.all (fun s => decide (s.size ≤ 64)) && decide (e.ptr.length ≤ 5)))
theorem next_i {k n : Nat} (hk : k < n) (hn : n < 9223372036854775807) : IntKind.wrap .i64 ((k : Int) + 1) = ((k + 1 : Nat) : Int) := by rw [wrap_i64 (by omega) (by omega)]; omega
end Go.Eng.Ytbjnlacacapjiaa
end
section
namespace Go.Eng.Ytbjnlacacapjiaa
theorem row_drop {h : Hp} {A : Option Addr} {n k : Nat} {vs : List Value} (hr : h.row A n vs) (hk : k ≤ n) : h.row (A.map (·.add k)) (n - k) (vs.drop k) := by
  refine ⟨by rw [List.length_drop, hr.1], ?_⟩
  rcases hr.2 with h0 | ⟨b, o, hA, hat⟩
  · exact .inl (by omega)
  · refine .inr ⟨b, o + k, by rw [hA]; simp [addr_add], fun j hj => ?_⟩
    rw [Nat.add_assoc, hat (k + j) (by omega), List.getElem?_drop]
theorem row_congr {h : Hp} {A B : Option Addr} {n : Nat} {vs : List Value} (hr : h.row A n vs) (e : n = 0 ∨ A = B) : h.row B n vs := by
  rcases e with h0 | rfl
  · exact ⟨hr.1, .inl h0⟩
  · exact hr
theorem cut_back {h : Hp} {s : Sl} {sz k : Nat} {vs : List Value} (hr : h.row s.a (s.n * sz) vs) (hk : k ≤ s.n) (hc : s.n ≤ s.c) : h.row (Sl.cut s sz (k : Int) (s.n : Int) (s.c : Int)).a ((Sl.cut s sz (k : Int) (s.n : Int) (s.c : Int)).n * sz) (vs.drop (k * sz)) := by
  have h1 := row_drop hr (Nat.mul_le_mul_right sz hk)
  have hn : (Sl.cut s sz (k : Int) (s.n : Int) (s.c : Int)).n = s.n - k := by simp [Sl.cut]
  rw [hn, Nat.sub_mul]
  refine row_congr h1 ?_
  unfold Sl.cut
  simp only [Int.toNat_natCast]
  by_cases hck : s.c = k
  · left; have : s.n = k := by omega
    rw [this]; simp
  · right; rw [if_neg hck]
def front (e : Edit) : Edit := { e with out := e.out.take 256, inn := e.inn.take (256 - min e.out.length 256) }
def behind (e : Edit) : Edit := { e with out := e.out.drop 256, inn := e.inn.drop (256 - min e.out.length 256) }
def putF : Nat → Edit → List (List Int)
  | 0, _ => []
  | f + 1, e => if (behind e).out.length + (behind e).inn.length = 0 then [recB (front e) true] else recB { front e with ptr := [] } false :: putF f (behind e)
def putS (e : Edit) : List (List Int) := if e.told then putF (e.out.length + e.inn.length + 1) e else []
def RowsAt (h : Hp) (ss : List Sl) (bs : List (List Int)) : Prop := ss.length = bs.length ∧ ∀ (i : Nat) (hi : i < ss.length) (hj : i < bs.length), Buf h ss[i] 1 5 (bv bs[i])
def slV (ss : List Sl) : List Value := ss.map fun s => .slice s.a s.n s.c
theorem slV_length (ss : List Sl) : (slV ss).length = ss.length := List.length_map _
theorem EdAt.keep {h h' : Hp} {e : Edit} {l l1 l2 : Sl} (k : Keep h h') (E : EdAt h e l l1 l2) : EdAt h' e l l1 l2 := ⟨k.row E.out, k.row E.inn, k.row E.ptr⟩
end Go.Eng.Ytbjnlacacapjiaa
end
section
namespace Go.Eng.Ytbjnlacacapjiaa
structure Edit.valid (e : Edit) : Prop where
  log : okU e.log
  next : okU e.next
  seq : okU e.seq
  out : ∀ p ∈ e.out, p.lv < 9223372036854775808 ∧ okU p.num
  inn : ∀ p ∈ e.inn, p.lv < 9223372036854775808 ∧ okU p.num ∧ p.weight < 9223372036854775808 ∧ p.bytes < 9223372036854775808 ∧ p.entries < 9223372036854775808
structure Told (e : Edit) : Prop where
  out : ∀ p ∈ e.out, p.ok
  inn : ∀ p ∈ e.inn, p.ok
  ptr : ∀ p ∈ e.ptr, p.size ≤ 64
  n : e.ptr.length ≤ 5
end Go.Eng.Ytbjnlacacapjiaa
end
section
namespace Go.Eng.Ytbjnlacacapjiaa
def nx (i : Nat) (n c : Int) : Int := bitsI .or .u64 n (shlI .u64 (IntKind.wrap .u64 (bitsI .and .u8 c 127)) (7 * (i : Int)))
def uR : Nat → Int → List Int → Int × Nat × Int
  | _, _, [] => (0, 0, 20)
  | i, n, c :: l =>
    if (c = 0 ∧ 0 < i) ∨ (i = 9 ∧ c ≠ 1) then (0, 0, 21)
    else if c < 128 then (nx i n c, i + 1, 0) else uR (i + 1) (nx i n c) l
structure RS where
  b : List Int
  bad : Bool
def RS.skip (s : RS) (k : Nat) (e : Int) : RS := if e = 0 then ⟨s.b.drop k, s.bad⟩ else ⟨[], true⟩
def rU (s : RS) : Int × RS := ((uR 0 0 s.b).1, s.skip (uR 0 0 s.b).2.1 (uR 0 0 s.b).2.2)
def rW (m : Int) (s : RS) : Int × RS := if m < (rU s).1 then (0, ⟨(rU s).2.b, true⟩) else rU s
def toB (l : List Int) : ByteArray := ⟨(l.map fun n => UInt8.ofNat n.toNat).toArray⟩
def tR (l : List Int) : ByteArray × Nat × Int :=
  if (uR 0 0 l).2.2 = 0 then
    (if 64 < (uR 0 0 l).1 then (⟨#[]⟩, 0, 22)
    else if ((l.length - (uR 0 0 l).2.1 : Nat) : Int) < (uR 0 0 l).1 then (⟨#[]⟩, 0, 20)
    else (toB ((l.drop (uR 0 0 l).2.1).take (uR 0 0 l).1.toNat), (uR 0 0 l).2.1 + (uR 0 0 l).1.toNat, 0))
  else (⟨#[]⟩, 0, (uR 0 0 l).2.2)
def rT (s : RS) : ByteArray × RS := ((tR s.b).1, s.skip (tR s.b).2.1 (tR s.b).2.2)
def rb (b : Nat) : Sl := ⟨some ⟨b, 0, none⟩, 1, 1⟩
structure RdAt (h0 h : Hp) (b : Nat) (s : RS) : Prop where
  cell : ∃ l : Sl, h b = some (.cells ⟨[.slice l.a l.n l.c, .bool s.bad]⟩ 125 (0, 0)) ∧ h0.row l.a l.n (bv s.b) ∧ l.n ≤ l.c
  new : h0 b = none
  keep : Keep h0 h
  ok : ∀ c ∈ s.b, 0 ≤ c ∧ c < 256
  small : s.b.length ≤ 1000000000000
theorem wr_at {h : Hp} {b o t : Nat} {c : Array Value} {f : Nat × Nat} {vs : List Value} (hb : h b = some (.cells c t f)) : (h.wr b o vs) b = some (.cells (setL c.toList o vs).toArray t f) := by
  unfold Hp.wr; rw [if_pos rfl, hb]
end Go.Eng.Ytbjnlacacapjiaa
end
section
namespace Go.Eng.Ytbjnlacacapjiaa
def maxI : Int := 9223372036854775807
def outR : Nat → List Place → RS → Option (List Place × RS)
  | 0, acc, s => some (acc, s)
  | f + 1, acc, s => if (rU (rW 4 s).2).2.bad = true then none else outR f (acc ++ [⟨(rW 4 s).1, (rU (rW 4 s).2).1⟩]) (rU (rW 4 s).2).2
def plS (s : RS) : Placed × RS :=
  let a := rW 4 s
  let b := rU a.2
  let c := rW 9223372036854775807 b.2
  let d := rW 9223372036854775807 c.2
  let e := rW 9223372036854775807 d.2
  let x := rT e.2
  let y := rT x.2
  (⟨a.1, b.1, c.1, d.1, e.1, x.1, y.1⟩, y.2)
def inR : Nat → List Placed → RS → Option (List Placed × RS)
  | 0, acc, s => some (acc, s)
  | f + 1, acc, s => if (plS s).2.bad = true then none else inR f (acc ++ [(plS s).1]) (plS s).2
def ptR : Nat → List ByteArray → RS → Option (List ByteArray × RS)
  | 0, acc, s => some (acc, s)
  | f + 1, acc, s => if (rT s).2.bad = true then none else ptR f (acc ++ [(rT s).1]) (rT s).2
def rdP (c a b d : Int) (o : List Place) (i : List Placed) (s : RS) : Option (Edit × Bool) :=
  match ptR (rU s).1.toNat [] (rU s).2 with
  | none => none
  | some x => if x.2.bad = true then none else if x.2.b.length = 0 then some (⟨a, b, d, o, i, x.1⟩, decide (c = 1)) else none
def rdI (c a b d : Int) (o : List Place) (s : RS) : Option (Edit × Bool) :=
  match inR (rU s).1.toNat [] (rU s).2 with
  | none => none
  | some x => rdP c a b d o x.1 x.2
def rdO (c a b d : Int) (s : RS) : Option (Edit × Bool) :=
  match outR (rU s).1.toNat [] (rU s).2 with
  | none => none
  | some x => rdI c a b d x.1 x.2
def rd : List Int → Option (Edit × Bool)
  | [] => none
  | c :: l => if 1 < c then none else rdO c (rU ⟨l, false⟩).1 (rU (rU ⟨l, false⟩).2).1 (rU (rU (rU ⟨l, false⟩).2).2).1 (rU (rU (rU ⟨l, false⟩).2).2).2
def Place.val (p : Place) : Prop := p.lv < 9223372036854775808 ∧ okU p.num
def Placed.val (p : Placed) : Prop := p.lv < 9223372036854775808 ∧ okU p.num ∧ p.weight < 9223372036854775808 ∧ p.bytes < 9223372036854775808 ∧ p.entries < 9223372036854775808
structure St (h0 h : Hp) (b : Nat) (s : RS) (l1 l2 l3 : Sl) (o : List Place) (i : List Placed) (p : List ByteArray) (N : Nat) : Prop where
  rd : RdAt h0 h b s
  out : Buf h l1 2 82 (outV o)
  inn : Buf h l2 7 87 (inV i)
  ptr : Buf h l3 1 9 (ptrV p)
  n1 : l1.a = none ∨ New h0 l1
  n2 : l2.a = none ∨ New h0 l2
  n3 : l3.a = none ∨ New h0 l3
  room : o.length + i.length + p.length + s.b.length ≤ N
  vo : ∀ x ∈ o, x.val
  vi : ∀ x ∈ i, x.val
@[reducible] def noneV : Value := .tuple ⟨[.agg ⟨[.int .u64 0, .int .u64 0, .int .u64 0, .slice none 0 0, .slice none 0 0, .slice none 0 0]⟩, .bool false, .bool false]⟩
structure EdB (h0 h : Hp) (e : Edit) (l1 l2 l3 : Sl) : Prop where
  out : Buf h l1 2 82 (outV e.out)
  inn : Buf h l2 7 87 (inV e.inn)
  ptr : Buf h l3 1 9 (ptrV e.ptr)
  n1 : l1.a = none ∨ New h0 l1
  n2 : l2.a = none ∨ New h0 l2
  n3 : l3.a = none ∨ New h0 l3
end Go.Eng.Ytbjnlacacapjiaa
end
