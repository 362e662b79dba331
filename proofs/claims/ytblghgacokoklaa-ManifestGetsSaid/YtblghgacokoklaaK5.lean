/-
  TEXTS OF MINE, JOINED: M8 S25 S15 S16 M2 S17 S18 S26 S27 S28 M9 S29 S30 S31 R0.
-/
import Derived.Test.YtblghgacokoklaaK4
import Derived.Test.YtblghgacokoklaaK1
import Derived.Test.YtblghgacokoklaaProg
import Derived.Test.YtblghgacokoklaaK3
import Derived.ChangeSlices
import Derived.Below
section
set_option maxRecDepth 100000
set_option linter.unusedVariables false
open Go.Proofs
namespace Go.Eng.Ytblghgacokoklaa
def F10.T (l : Sl) : PT := fun h Q =>
  ∃ (I : Sl → Bool → Int → Int → Int → Int → Sl → Sl → Sl → Hp → Prop) (m : Sl → Bool → Int → Int → Int → Int → Sl → Sl → Sl → Hp → Nat), I ⟨none, 0, 0⟩ true 0 0 0 0 ⟨none, 0, 0⟩ ⟨none, 0, 0⟩ ⟨none, 0, 0⟩ h ∧ (∀ l1 : Sl, (∀ n : Int, ∀ n1 : Int, ∀ n2 : Int, ∀ n3 : Int, ∀ l2 : Sl, ∀ l3 : Sl, ∀ l4 : Sl, ∀ h1 : Hp, I l1 true n n1 n2 n3 l2 l3 l4 h1 → par (n < (l.n : Int)) (∃ b1 o, (l.a : Option Addr) = some ⟨b1, o, none⟩ ∧ ((0 : Int) ≤ n ∧ n < (l.n : Int)) ∧ ∃ l5 : Sl, h1.at b1 (o + n.toNat) = some (.slice l5.a l5.n l5.c) ∧ F30.T l5 h1 fun r h2 => ∃ b2 : Bool, parB b2 (∃ n4 : Int, ∃ n5 : Int, ∃ n6 : Int, ∃ l6 : Sl, ∃ l7 : Sl, ∃ l8 : Sl, ∃ b3 : Bool, parB b3 (r = .tuple ⟨[.bool true, .agg ⟨[.int .u64 n4, .int .u64 n5, .int .u64 n6, .slice l6.a l6.n l6.c, .slice l7.a l7.n l7.c, .slice l8.a l8.n l8.c]⟩, .bool true]⟩ ∧ par ((256 : Int) < (IntKind.wrap .i64 ((l6.n : Int) + (l7.n : Int)))) (Q (.tuple ⟨[.slice none 0 0, .int .i64 140]⟩) h2) (∃ J : Hp → Prop, (∀ h3 : Hp, J h3 → ∃ vs, h3.row l6.a (l6.n * 2) vs ∧ (∀ v ∈ vs, Value.oneCell' v = true) ∧ appendD ⟨none, 0, 0⟩ 89 2 16 [.int .i64 0, .int .u64 0] l6.n vs h3 fun l9 h4 => ∃ vs1, h4.row l7.a (l7.n * 7) vs1 ∧ (∀ v ∈ vs1, Value.oneCell' v = true) ∧ appendD ⟨none, 0, 0⟩ 87 7 72 [.int .i64 0, .int .u64 0, .int .i64 0, .int .i64 0, .int .i64 0, .string (ByteArray.mk #[]), .string (ByteArray.mk #[])] l7.n vs1 h4 fun l10 h5 => appendD l1 60 6 96 [.int .u64 0, .int .u64 0, .int .u64 0, .slice none 0 0, .slice none 0 0, .slice none 0 0] 1 [.int .u64 n4, .int .u64 n5, .int .u64 n6, .slice l9.a l9.n l9.c, .slice l10.a l10.n l10.c, .slice l8.a l8.n l8.c] h5 fun l11 h6 => I l11 true (IntKind.wrap .i64 (n + 1)) n4 n5 n6 l9 l10 l8 h6 ∧ m l11 true (IntKind.wrap .i64 (n + 1)) n4 n5 n6 l9 l10 l8 h6 < m l1 true n n1 n2 n3 l2 l3 l4 h1) ∧ (J h2))) (r = .tuple ⟨[.bool true, .agg ⟨[.int .u64 n4, .int .u64 n5, .int .u64 n6, .slice l6.a l6.n l6.c, .slice l7.a l7.n l7.c, .slice l8.a l8.n l8.c]⟩, .bool false]⟩ ∧ Q (.tuple ⟨[.slice none 0 0, .int .i64 140]⟩) h2)) (∃ n7 : Int, ∃ n8 : Int, ∃ n9 : Int, ∃ l12 : Sl, ∃ l13 : Sl, ∃ l14 : Sl, ∃ b4 : Bool, parB b4 (r = .tuple ⟨[.bool false, .agg ⟨[.int .u64 n7, .int .u64 n8, .int .u64 n9, .slice l12.a l12.n l12.c, .slice l13.a l13.n l13.c, .slice l14.a l14.n l14.c]⟩, .bool true]⟩ ∧ par ((256 : Int) < (IntKind.wrap .i64 ((l12.n : Int) + (l13.n : Int)))) (Q (.tuple ⟨[.slice none 0 0, .int .i64 140]⟩) h2) (par ((IntKind.wrap .i64 ((l12.n : Int) + (l13.n : Int))) = 256) (par ((l14.n : Int) = 0) (∃ J1 : Hp → Prop, (∀ h7 : Hp, J1 h7 → ∃ vs2, h7.row l12.a (l12.n * 2) vs2 ∧ (∀ v ∈ vs2, Value.oneCell' v = true) ∧ appendD ⟨none, 0, 0⟩ 89 2 16 [.int .i64 0, .int .u64 0] l12.n vs2 h7 fun l15 h8 => ∃ vs3, h8.row l13.a (l13.n * 7) vs3 ∧ (∀ v ∈ vs3, Value.oneCell' v = true) ∧ appendD ⟨none, 0, 0⟩ 87 7 72 [.int .i64 0, .int .u64 0, .int .i64 0, .int .i64 0, .int .i64 0, .string (ByteArray.mk #[]), .string (ByteArray.mk #[])] l13.n vs3 h8 fun l16 h9 => I l1 false (IntKind.wrap .i64 (n + 1)) n7 n8 n9 l15 l16 l14 h9 ∧ m l1 false (IntKind.wrap .i64 (n + 1)) n7 n8 n9 l15 l16 l14 h9 < m l1 true n n1 n2 n3 l2 l3 l4 h1) ∧ (J1 h2)) (Q (.tuple ⟨[.slice none 0 0, .int .i64 140]⟩) h2)) (Q (.tuple ⟨[.slice none 0 0, .int .i64 140]⟩) h2))) (r = .tuple ⟨[.bool false, .agg ⟨[.int .u64 n7, .int .u64 n8, .int .u64 n9, .slice l12.a l12.n l12.c, .slice l13.a l13.n l13.c, .slice l14.a l14.n l14.c]⟩, .bool false]⟩ ∧ Q (.tuple ⟨[.slice none 0 0, .int .i64 140]⟩) h2))) (Q (.tuple ⟨[.slice l1.a l1.n l1.c, .int .i64 0]⟩) h1)) ∧ (∀ n : Int, ∀ n1 : Int, ∀ n2 : Int, ∀ n3 : Int, ∀ l2 : Sl, ∀ l3 : Sl, ∀ l4 : Sl, ∀ h1 : Hp, I l1 false n n1 n2 n3 l2 l3 l4 h1 → par (n < (l.n : Int)) (∃ b5 o1, (l.a : Option Addr) = some ⟨b5, o1, none⟩ ∧ ((0 : Int) ≤ n ∧ n < (l.n : Int)) ∧ ∃ l17 : Sl, h1.at b5 (o1 + n.toNat) = some (.slice l17.a l17.n l17.c) ∧ F30.T l17 h1 fun r1 h10 => ∃ b6 : Bool, parB b6 (∃ n10 : Int, ∃ n11 : Int, ∃ n12 : Int, ∃ l18 : Sl, ∃ l19 : Sl, ∃ l20 : Sl, ∃ b7 : Bool, parB b7 (r1 = .tuple ⟨[.bool true, .agg ⟨[.int .u64 n10, .int .u64 n11, .int .u64 n12, .slice l18.a l18.n l18.c, .slice l19.a l19.n l19.c, .slice l20.a l20.n l20.c]⟩, .bool true]⟩ ∧ par ((256 : Int) < (IntKind.wrap .i64 ((l18.n : Int) + (l19.n : Int)))) (Q (.tuple ⟨[.slice none 0 0, .int .i64 140]⟩) h10) (∃ J2 : Hp → Prop, (∀ h11 : Hp, J2 h11 → ∃ vs4, h11.row l18.a (l18.n * 2) vs4 ∧ (∀ v ∈ vs4, Value.oneCell' v = true) ∧ appendD l2 89 2 16 [.int .i64 0, .int .u64 0] l18.n vs4 h11 fun l21 h12 => ∃ vs5, h12.row l19.a (l19.n * 7) vs5 ∧ (∀ v ∈ vs5, Value.oneCell' v = true) ∧ appendD l3 87 7 72 [.int .i64 0, .int .u64 0, .int .i64 0, .int .i64 0, .int .i64 0, .string (ByteArray.mk #[]), .string (ByteArray.mk #[])] l19.n vs5 h12 fun l22 h13 => appendD l1 60 6 96 [.int .u64 0, .int .u64 0, .int .u64 0, .slice none 0 0, .slice none 0 0, .slice none 0 0] 1 [.int .u64 n1, .int .u64 n2, .int .u64 n3, .slice l21.a l21.n l21.c, .slice l22.a l22.n l22.c, .slice l20.a l20.n l20.c] h13 fun l23 h14 => I l23 true (IntKind.wrap .i64 (n + 1)) n1 n2 n3 l21 l22 l20 h14 ∧ m l23 true (IntKind.wrap .i64 (n + 1)) n1 n2 n3 l21 l22 l20 h14 < m l1 false n n1 n2 n3 l2 l3 l4 h1) ∧ (par ((IntKind.wrap .i64 ((l18.n : Int) + (l19.n : Int))) = 0) (Q (.tuple ⟨[.slice none 0 0, .int .i64 140]⟩) h10) (par (n10 = n1) (par (n11 = n2) (par (n12 = n3) (par ((0 : Int) < (l3.n : Int)) (par ((0 : Int) < (l18.n : Int)) (Q (.tuple ⟨[.slice none 0 0, .int .i64 140]⟩) h10) (J2 h10)) (J2 h10)) (Q (.tuple ⟨[.slice none 0 0, .int .i64 140]⟩) h10)) (Q (.tuple ⟨[.slice none 0 0, .int .i64 140]⟩) h10)) (Q (.tuple ⟨[.slice none 0 0, .int .i64 140]⟩) h10))))) (r1 = .tuple ⟨[.bool true, .agg ⟨[.int .u64 n10, .int .u64 n11, .int .u64 n12, .slice l18.a l18.n l18.c, .slice l19.a l19.n l19.c, .slice l20.a l20.n l20.c]⟩, .bool false]⟩ ∧ Q (.tuple ⟨[.slice none 0 0, .int .i64 140]⟩) h10)) (∃ n13 : Int, ∃ n14 : Int, ∃ n15 : Int, ∃ l24 : Sl, ∃ l25 : Sl, ∃ l26 : Sl, ∃ b8 : Bool, parB b8 (r1 = .tuple ⟨[.bool false, .agg ⟨[.int .u64 n13, .int .u64 n14, .int .u64 n15, .slice l24.a l24.n l24.c, .slice l25.a l25.n l25.c, .slice l26.a l26.n l26.c]⟩, .bool true]⟩ ∧ par ((256 : Int) < (IntKind.wrap .i64 ((l24.n : Int) + (l25.n : Int)))) (Q (.tuple ⟨[.slice none 0 0, .int .i64 140]⟩) h10) (par ((IntKind.wrap .i64 ((l24.n : Int) + (l25.n : Int))) = 256) (par ((l26.n : Int) = 0) (∃ J3 : Hp → Prop, (∀ h15 : Hp, J3 h15 → ∃ vs6, h15.row l24.a (l24.n * 2) vs6 ∧ (∀ v ∈ vs6, Value.oneCell' v = true) ∧ appendD l2 89 2 16 [.int .i64 0, .int .u64 0] l24.n vs6 h15 fun l27 h16 => ∃ vs7, h16.row l25.a (l25.n * 7) vs7 ∧ (∀ v ∈ vs7, Value.oneCell' v = true) ∧ appendD l3 87 7 72 [.int .i64 0, .int .u64 0, .int .i64 0, .int .i64 0, .int .i64 0, .string (ByteArray.mk #[]), .string (ByteArray.mk #[])] l25.n vs7 h16 fun l28 h17 => I l1 false (IntKind.wrap .i64 (n + 1)) n1 n2 n3 l27 l28 l26 h17 ∧ m l1 false (IntKind.wrap .i64 (n + 1)) n1 n2 n3 l27 l28 l26 h17 < m l1 false n n1 n2 n3 l2 l3 l4 h1) ∧ (par ((IntKind.wrap .i64 ((l24.n : Int) + (l25.n : Int))) = 0) (Q (.tuple ⟨[.slice none 0 0, .int .i64 140]⟩) h10) (par (n13 = n1) (par (n14 = n2) (par (n15 = n3) (par ((0 : Int) < (l3.n : Int)) (par ((0 : Int) < (l24.n : Int)) (Q (.tuple ⟨[.slice none 0 0, .int .i64 140]⟩) h10) (J3 h10)) (J3 h10)) (Q (.tuple ⟨[.slice none 0 0, .int .i64 140]⟩) h10)) (Q (.tuple ⟨[.slice none 0 0, .int .i64 140]⟩) h10)) (Q (.tuple ⟨[.slice none 0 0, .int .i64 140]⟩) h10)))) (Q (.tuple ⟨[.slice none 0 0, .int .i64 140]⟩) h10)) (Q (.tuple ⟨[.slice none 0 0, .int .i64 140]⟩) h10))) (r1 = .tuple ⟨[.bool false, .agg ⟨[.int .u64 n13, .int .u64 n14, .int .u64 n15, .slice l24.a l24.n l24.c, .slice l25.a l25.n l25.c, .slice l26.a l26.n l26.c]⟩, .bool false]⟩ ∧ Q (.tuple ⟨[.slice none 0 0, .int .i64 140]⟩) h10))) (Q (.tuple ⟨[.slice l1.a l1.n l1.c, .int .i64 0]⟩) h1)))
theorem F10.gen (V : Value → List Value → PT) (T30 : Sl → PT) (l : Sl) : denF Try.prog [5, 9, 120] [(30, F30.W T30)] V [(250, .loop [(4, .sl), (6, .bool), (7, .int .i64)] [(5, [.int .u64, .int .u64, .int .u64, .sl, .sl, .sl])]), (32039, .join [] [])] Try.f10 [.v (.slice l.a l.n l.c)] = fun h Q =>
  ∃ (I : Sl → Bool → Int → Int → Int → Int → Sl → Sl → Sl → Hp → Prop) (m : Sl → Bool → Int → Int → Int → Int → Sl → Sl → Sl → Hp → Nat), I ⟨none, 0, 0⟩ true 0 0 0 0 ⟨none, 0, 0⟩ ⟨none, 0, 0⟩ ⟨none, 0, 0⟩ h ∧ (∀ l1 : Sl, (∀ n : Int, ∀ n1 : Int, ∀ n2 : Int, ∀ n3 : Int, ∀ l2 : Sl, ∀ l3 : Sl, ∀ l4 : Sl, ∀ h1 : Hp, I l1 true n n1 n2 n3 l2 l3 l4 h1 → par (n < (l.n : Int)) (∃ b1 o, (l.a : Option Addr) = some ⟨b1, o, none⟩ ∧ ((0 : Int) ≤ n ∧ n < (l.n : Int)) ∧ ∃ l5 : Sl, h1.at b1 (o + n.toNat) = some (.slice l5.a l5.n l5.c) ∧ T30 l5 h1 fun r h2 => ∃ b2 : Bool, parB b2 (∃ n4 : Int, ∃ n5 : Int, ∃ n6 : Int, ∃ l6 : Sl, ∃ l7 : Sl, ∃ l8 : Sl, ∃ b3 : Bool, parB b3 (r = .tuple ⟨[.bool true, .agg ⟨[.int .u64 n4, .int .u64 n5, .int .u64 n6, .slice l6.a l6.n l6.c, .slice l7.a l7.n l7.c, .slice l8.a l8.n l8.c]⟩, .bool true]⟩ ∧ par ((256 : Int) < (IntKind.wrap .i64 ((l6.n : Int) + (l7.n : Int)))) (Q (.tuple ⟨[.slice none 0 0, .int .i64 140]⟩) h2) (∃ J : Hp → Prop, (∀ h3 : Hp, J h3 → ∃ vs, h3.row l6.a (l6.n * 2) vs ∧ (∀ v ∈ vs, Value.oneCell' v = true) ∧ appendD ⟨none, 0, 0⟩ 89 2 16 [.int .i64 0, .int .u64 0] l6.n vs h3 fun l9 h4 => ∃ vs1, h4.row l7.a (l7.n * 7) vs1 ∧ (∀ v ∈ vs1, Value.oneCell' v = true) ∧ appendD ⟨none, 0, 0⟩ 87 7 72 [.int .i64 0, .int .u64 0, .int .i64 0, .int .i64 0, .int .i64 0, .string (ByteArray.mk #[]), .string (ByteArray.mk #[])] l7.n vs1 h4 fun l10 h5 => appendD l1 60 6 96 [.int .u64 0, .int .u64 0, .int .u64 0, .slice none 0 0, .slice none 0 0, .slice none 0 0] 1 [.int .u64 n4, .int .u64 n5, .int .u64 n6, .slice l9.a l9.n l9.c, .slice l10.a l10.n l10.c, .slice l8.a l8.n l8.c] h5 fun l11 h6 => I l11 true (IntKind.wrap .i64 (n + 1)) n4 n5 n6 l9 l10 l8 h6 ∧ m l11 true (IntKind.wrap .i64 (n + 1)) n4 n5 n6 l9 l10 l8 h6 < m l1 true n n1 n2 n3 l2 l3 l4 h1) ∧ (J h2))) (r = .tuple ⟨[.bool true, .agg ⟨[.int .u64 n4, .int .u64 n5, .int .u64 n6, .slice l6.a l6.n l6.c, .slice l7.a l7.n l7.c, .slice l8.a l8.n l8.c]⟩, .bool false]⟩ ∧ Q (.tuple ⟨[.slice none 0 0, .int .i64 140]⟩) h2)) (∃ n7 : Int, ∃ n8 : Int, ∃ n9 : Int, ∃ l12 : Sl, ∃ l13 : Sl, ∃ l14 : Sl, ∃ b4 : Bool, parB b4 (r = .tuple ⟨[.bool false, .agg ⟨[.int .u64 n7, .int .u64 n8, .int .u64 n9, .slice l12.a l12.n l12.c, .slice l13.a l13.n l13.c, .slice l14.a l14.n l14.c]⟩, .bool true]⟩ ∧ par ((256 : Int) < (IntKind.wrap .i64 ((l12.n : Int) + (l13.n : Int)))) (Q (.tuple ⟨[.slice none 0 0, .int .i64 140]⟩) h2) (par ((IntKind.wrap .i64 ((l12.n : Int) + (l13.n : Int))) = 256) (par ((l14.n : Int) = 0) (∃ J1 : Hp → Prop, (∀ h7 : Hp, J1 h7 → ∃ vs2, h7.row l12.a (l12.n * 2) vs2 ∧ (∀ v ∈ vs2, Value.oneCell' v = true) ∧ appendD ⟨none, 0, 0⟩ 89 2 16 [.int .i64 0, .int .u64 0] l12.n vs2 h7 fun l15 h8 => ∃ vs3, h8.row l13.a (l13.n * 7) vs3 ∧ (∀ v ∈ vs3, Value.oneCell' v = true) ∧ appendD ⟨none, 0, 0⟩ 87 7 72 [.int .i64 0, .int .u64 0, .int .i64 0, .int .i64 0, .int .i64 0, .string (ByteArray.mk #[]), .string (ByteArray.mk #[])] l13.n vs3 h8 fun l16 h9 => I l1 false (IntKind.wrap .i64 (n + 1)) n7 n8 n9 l15 l16 l14 h9 ∧ m l1 false (IntKind.wrap .i64 (n + 1)) n7 n8 n9 l15 l16 l14 h9 < m l1 true n n1 n2 n3 l2 l3 l4 h1) ∧ (J1 h2)) (Q (.tuple ⟨[.slice none 0 0, .int .i64 140]⟩) h2)) (Q (.tuple ⟨[.slice none 0 0, .int .i64 140]⟩) h2))) (r = .tuple ⟨[.bool false, .agg ⟨[.int .u64 n7, .int .u64 n8, .int .u64 n9, .slice l12.a l12.n l12.c, .slice l13.a l13.n l13.c, .slice l14.a l14.n l14.c]⟩, .bool false]⟩ ∧ Q (.tuple ⟨[.slice none 0 0, .int .i64 140]⟩) h2))) (Q (.tuple ⟨[.slice l1.a l1.n l1.c, .int .i64 0]⟩) h1)) ∧ (∀ n : Int, ∀ n1 : Int, ∀ n2 : Int, ∀ n3 : Int, ∀ l2 : Sl, ∀ l3 : Sl, ∀ l4 : Sl, ∀ h1 : Hp, I l1 false n n1 n2 n3 l2 l3 l4 h1 → par (n < (l.n : Int)) (∃ b5 o1, (l.a : Option Addr) = some ⟨b5, o1, none⟩ ∧ ((0 : Int) ≤ n ∧ n < (l.n : Int)) ∧ ∃ l17 : Sl, h1.at b5 (o1 + n.toNat) = some (.slice l17.a l17.n l17.c) ∧ T30 l17 h1 fun r1 h10 => ∃ b6 : Bool, parB b6 (∃ n10 : Int, ∃ n11 : Int, ∃ n12 : Int, ∃ l18 : Sl, ∃ l19 : Sl, ∃ l20 : Sl, ∃ b7 : Bool, parB b7 (r1 = .tuple ⟨[.bool true, .agg ⟨[.int .u64 n10, .int .u64 n11, .int .u64 n12, .slice l18.a l18.n l18.c, .slice l19.a l19.n l19.c, .slice l20.a l20.n l20.c]⟩, .bool true]⟩ ∧ par ((256 : Int) < (IntKind.wrap .i64 ((l18.n : Int) + (l19.n : Int)))) (Q (.tuple ⟨[.slice none 0 0, .int .i64 140]⟩) h10) (∃ J2 : Hp → Prop, (∀ h11 : Hp, J2 h11 → ∃ vs4, h11.row l18.a (l18.n * 2) vs4 ∧ (∀ v ∈ vs4, Value.oneCell' v = true) ∧ appendD l2 89 2 16 [.int .i64 0, .int .u64 0] l18.n vs4 h11 fun l21 h12 => ∃ vs5, h12.row l19.a (l19.n * 7) vs5 ∧ (∀ v ∈ vs5, Value.oneCell' v = true) ∧ appendD l3 87 7 72 [.int .i64 0, .int .u64 0, .int .i64 0, .int .i64 0, .int .i64 0, .string (ByteArray.mk #[]), .string (ByteArray.mk #[])] l19.n vs5 h12 fun l22 h13 => appendD l1 60 6 96 [.int .u64 0, .int .u64 0, .int .u64 0, .slice none 0 0, .slice none 0 0, .slice none 0 0] 1 [.int .u64 n1, .int .u64 n2, .int .u64 n3, .slice l21.a l21.n l21.c, .slice l22.a l22.n l22.c, .slice l20.a l20.n l20.c] h13 fun l23 h14 => I l23 true (IntKind.wrap .i64 (n + 1)) n1 n2 n3 l21 l22 l20 h14 ∧ m l23 true (IntKind.wrap .i64 (n + 1)) n1 n2 n3 l21 l22 l20 h14 < m l1 false n n1 n2 n3 l2 l3 l4 h1) ∧ (par ((IntKind.wrap .i64 ((l18.n : Int) + (l19.n : Int))) = 0) (Q (.tuple ⟨[.slice none 0 0, .int .i64 140]⟩) h10) (par (n10 = n1) (par (n11 = n2) (par (n12 = n3) (par ((0 : Int) < (l3.n : Int)) (par ((0 : Int) < (l18.n : Int)) (Q (.tuple ⟨[.slice none 0 0, .int .i64 140]⟩) h10) (J2 h10)) (J2 h10)) (Q (.tuple ⟨[.slice none 0 0, .int .i64 140]⟩) h10)) (Q (.tuple ⟨[.slice none 0 0, .int .i64 140]⟩) h10)) (Q (.tuple ⟨[.slice none 0 0, .int .i64 140]⟩) h10))))) (r1 = .tuple ⟨[.bool true, .agg ⟨[.int .u64 n10, .int .u64 n11, .int .u64 n12, .slice l18.a l18.n l18.c, .slice l19.a l19.n l19.c, .slice l20.a l20.n l20.c]⟩, .bool false]⟩ ∧ Q (.tuple ⟨[.slice none 0 0, .int .i64 140]⟩) h10)) (∃ n13 : Int, ∃ n14 : Int, ∃ n15 : Int, ∃ l24 : Sl, ∃ l25 : Sl, ∃ l26 : Sl, ∃ b8 : Bool, parB b8 (r1 = .tuple ⟨[.bool false, .agg ⟨[.int .u64 n13, .int .u64 n14, .int .u64 n15, .slice l24.a l24.n l24.c, .slice l25.a l25.n l25.c, .slice l26.a l26.n l26.c]⟩, .bool true]⟩ ∧ par ((256 : Int) < (IntKind.wrap .i64 ((l24.n : Int) + (l25.n : Int)))) (Q (.tuple ⟨[.slice none 0 0, .int .i64 140]⟩) h10) (par ((IntKind.wrap .i64 ((l24.n : Int) + (l25.n : Int))) = 256) (par ((l26.n : Int) = 0) (∃ J3 : Hp → Prop, (∀ h15 : Hp, J3 h15 → ∃ vs6, h15.row l24.a (l24.n * 2) vs6 ∧ (∀ v ∈ vs6, Value.oneCell' v = true) ∧ appendD l2 89 2 16 [.int .i64 0, .int .u64 0] l24.n vs6 h15 fun l27 h16 => ∃ vs7, h16.row l25.a (l25.n * 7) vs7 ∧ (∀ v ∈ vs7, Value.oneCell' v = true) ∧ appendD l3 87 7 72 [.int .i64 0, .int .u64 0, .int .i64 0, .int .i64 0, .int .i64 0, .string (ByteArray.mk #[]), .string (ByteArray.mk #[])] l25.n vs7 h16 fun l28 h17 => I l1 false (IntKind.wrap .i64 (n + 1)) n1 n2 n3 l27 l28 l26 h17 ∧ m l1 false (IntKind.wrap .i64 (n + 1)) n1 n2 n3 l27 l28 l26 h17 < m l1 false n n1 n2 n3 l2 l3 l4 h1) ∧ (par ((IntKind.wrap .i64 ((l24.n : Int) + (l25.n : Int))) = 0) (Q (.tuple ⟨[.slice none 0 0, .int .i64 140]⟩) h10) (par (n13 = n1) (par (n14 = n2) (par (n15 = n3) (par ((0 : Int) < (l3.n : Int)) (par ((0 : Int) < (l24.n : Int)) (Q (.tuple ⟨[.slice none 0 0, .int .i64 140]⟩) h10) (J3 h10)) (J3 h10)) (Q (.tuple ⟨[.slice none 0 0, .int .i64 140]⟩) h10)) (Q (.tuple ⟨[.slice none 0 0, .int .i64 140]⟩) h10)) (Q (.tuple ⟨[.slice none 0 0, .int .i64 140]⟩) h10)))) (Q (.tuple ⟨[.slice none 0 0, .int .i64 140]⟩) h10)) (Q (.tuple ⟨[.slice none 0 0, .int .i64 140]⟩) h10))) (r1 = .tuple ⟨[.bool false, .agg ⟨[.int .u64 n13, .int .u64 n14, .int .u64 n15, .slice l24.a l24.n l24.c, .slice l25.a l25.n l25.c, .slice l26.a l26.n l26.c]⟩, .bool false]⟩ ∧ Q (.tuple ⟨[.slice none 0 0, .int .i64 140]⟩) h10))) (Q (.tuple ⟨[.slice l1.a l1.n l1.c, .int .i64 0]⟩) h1))) := by kernel_rfl
theorem F10.den (V : Value → List Value → PT) (l : Sl) : denF Try.prog [5, 9, 120] [(30, F30.V)] V [(250, .loop [(4, .sl), (6, .bool), (7, .int .i64)] [(5, [.int .u64, .int .u64, .int .u64, .sl, .sl, .sl])]), (32039, .join [] [])] Try.f10 [.v (.slice l.a l.n l.c)] = F10.T l := F10.gen V F30.T l
def F10.W (T10 : Sl → PT) (args : List Value) : PT := match args with
  | [.slice l_a l_n l_c] => T10 ⟨l_a, l_n, l_c⟩
  | _ => fun _ _ => False
def F10.V : List Value → PT := F10.W F10.T
theorem F10.ok : FOk Try.prog 10 F10.V := by
  refine ⟨⟨_, Try.func10, rfl, rfl⟩, fun args => ?_⟩
  have hG : GOk Try.prog [(30, F30.V)] := GOk.cons F30.ok (GOk.nil)
  have hV : VOk Try.prog noV := noV_ok
  unfold F10.V F10.W
  split
  · exact denF_okV hG hV Try.func10 (fun h Q hq => (F10.den _ _) ▸ hq)
  · exact fun h Q hq => hq.elim
end Go.Eng.Ytblghgacokoklaa
end
section
/-
  SPECS, 25: the document's Get.
-/
set_option linter.unusedSimpArgs false
set_option linter.unusedVariables false
set_option maxRecDepth 100000
namespace Go.Eng.Ytblghgacokoklaa
theorem encU_pos (n : Nat) : 1 ≤ (encU n).length := by
  unfold encU encF; split <;> simp
theorem flatMap_ge {α : Type} (f : α → List Int) (hf : ∀ x, 1 ≤ (f x).length) : ∀ l : List α, l.length ≤ (l.flatMap f).length
  | [] => Nat.le_refl _
  | x :: l => by
    have := flatMap_ge f hf l
    have := hf x
    simp only [List.flatMap_cons, List.length_append, List.length_cons]
    omega
theorem rec_sizes (e : Edit) (last : Bool) : e.out.length + e.inn.length ≤ (recB e last).length := by
  have h1 := flatMap_ge Place.enc (fun p => by
    have := encU_pos p.lv.toNat
    unfold Place.enc encUs
    simp only [List.flatMap_cons, List.length_append]
    omega) e.out
  have h2 := flatMap_ge Placed.enc (fun p => by
    have := encU_pos p.lv.toNat
    unfold Placed.enc encUs
    simp only [List.flatMap_cons, List.length_append]
    omega) e.inn
  unfold recB
  simp only [List.length_cons, List.length_append]
  omega
theorem fd_sizes {bs : List Int} {e : Edit} {last : Bool} (hk : ∀ c ∈ bs, 0 ≤ c ∧ c < 256) (h : fd bs = some (e, last)) : e.out.length + e.inn.length ≤ bs.length ∧ e.ptr.length ≤ 5 := by
  obtain ⟨h1, h2, _⟩ := fd_some h
  have := (rd_can hk h1).1
  have hs := rec_sizes e last
  rw [← this] at hs
  exact ⟨hs, h2⟩
/-- Both lists grow. -/
theorem grow2 {hs h2 : Hp} {o : List Place} {i : List Placed} {x : Edit} {l1 l2 l3 k1 k2 k3 : Sl} {L : List EdS} {a b c : Int} {Kf : Sl → Sl → Hp → Prop}
    (K1 : Keep hs h2) (o2 : Buf h2 l2 2 89 (outV o)) (i2 : Buf h2 l3 7 87 (inV i)) (n2 : l2.a = none ∨ New hs l2) (n3 : l3.a = none ∨ New hs l3) (E2 : EdB hs h2 x k1 k2 k3) (B1 : Buf h2 l1 6 60 (edV L)) (hsz : o.length + i.length + x.out.length + x.inn.length ≤ 400000000000)
    (next : ∀ h4 q1 q2, Keep hs h4 → Buf h4 l1 6 60 (edV L) → EdB hs h4 ⟨a, b, c, o ++ x.out, i ++ x.inn, x.ptr⟩ q1 q2 k3 → Kf q1 q2 h4) :
    ∃ vs, h2.row k1.a (k1.n * 2) vs ∧ (∀ v ∈ vs, Value.oneCell' v = true) ∧ appendD l2 89 2 16 [.int .i64 0, .int .u64 0] k1.n vs h2 fun l9 h3 => ∃ vs1, h3.row k2.a (k2.n * 7) vs1 ∧ (∀ v ∈ vs1, Value.oneCell' v = true) ∧ appendD l3 87 7 72 [.int .i64 0, .int .u64 0, .int .i64 0, .int .i64 0, .int .i64 0, .string (ByteArray.mk #[]), .string (ByteArray.mk #[])] k2.n vs1 h3 fun l10 h4 => Kf l9 l10 h4 := by
  have o2n := out_n E2.out
  have o1n := out_n o2
  have p1 := in_n i2
  have p2 := in_n E2.inn
  refine ⟨_, E2.out.row, out_one _, ?_⟩
  refine append_buf o2 rfl E2.out.len (by omega) fun l9 h3 B3 hn3 U3 => ?_
  have i3 : Buf h3 k2 7 87 (inV x.inn) := E2.inn.upd U3 (buf_off E2.inn o2 (by decide))
  have q3 : Buf h3 k3 1 9 (ptrV x.ptr) := E2.ptr.upd U3 (buf_off E2.ptr o2 (by decide))
  have ci3 : Buf h3 l3 7 87 (inV i) := i2.upd U3 (buf_off i2 o2 (by decide))
  have b3 : Buf h3 l1 6 60 (edV L) := B1.upd U3 (buf_off B1 o2 (by decide))
  obtain ⟨K3, N3⟩ := keep_grow K1 n2 U3
  refine ⟨_, i3.row, in_one _, ?_⟩
  refine append_buf ci3 rfl i3.len (by omega) fun l10 h4 B4 hn4 U4 => ?_
  have o4 : Buf h4 l9 2 89 (outV o ++ outV x.out) := B3.upd U4 (buf_off B3 ci3 (by decide))
  have q4 : Buf h4 k3 1 9 (ptrV x.ptr) := q3.upd U4 (buf_off q3 ci3 (by decide))
  have b4 : Buf h4 l1 6 60 (edV L) := b3.upd U4 (buf_off b3 ci3 (by decide))
  obtain ⟨K4, N4⟩ := keep_grow K3 n3 U4
  exact next h4 l9 l10 K4 b4 ⟨by rw [outV_append]; exact o4, by rw [inV_append]; exact B4, q4, N3, N4, E2.n3⟩
/-- One edit more. -/
theorem edit_more {h hs h4 : Hp} {l1 q1 q2 q3 : Sl} {J : Edit} {L : List EdS} {Kf : Sl → Hp → Prop} (K0 : Keep h hs) (K4 : Keep hs h4) (N1 : l1.a = none ∨ New h l1) (B4 : Buf h4 l1 6 60 (edV L)) (hL : ∀ x ∈ L, EdOk hs x) (EJ : EdB hs h4 J q1 q2 q3) (VJ : J.valid)
    (hJs : J.out.length + J.inn.length ≤ 400000000000) (hJp : J.ptr.length ≤ 1000000000) (hLn : L.length ≤ 200000000000)
    (next : ∀ l11 h6, Keep h h6 → (l11.a = none ∨ New h l11) → Buf h6 l11 6 60 (edV (L ++ [⟨J, q1, q2, q3⟩])) → (∀ y ∈ L ++ [⟨J, q1, q2, q3⟩], EdOk h6 y) → Kf l11 h6) :
    appendD l1 60 6 96 [.int .u64 0, .int .u64 0, .int .u64 0, .slice none 0 0, .slice none 0 0, .slice none 0 0] 1 [.int .u64 J.log, .int .u64 J.next, .int .u64 J.seq, .slice q1.a q1.n q1.c, .slice q2.a q2.n q2.c, .slice q3.a q3.n q3.c] h4 fun l11 h6 => Kf l11 h6 := by
  have hLl := ed_n B4
  refine append_buf B4 rfl rfl (by omega) fun l11 h6 B6 hn6 U6 => next l11 h6 (keep_grow (K0.trans K4) N1 U6).1 (keep_grow (K0.trans K4) N1 U6).2 ?_ fun y hym => ?_
  · unfold edV at B6 ⊢
    rw [List.flatMap_append]
    simpa [EdS.cells] using B6
  · rcases List.mem_append.1 hym with hym | hym
    · exact ((hL y hym).keep K4).upd U6 B4 (by decide) (by decide) (by decide)
    · rw [List.mem_singleton] at hym
      subst hym
      have EJ' := EJ.upd U6 B4 (by decide) (by decide) (by decide)
      exact ⟨EJ'.out, EJ'.inn, EJ'.ptr, VJ, hJs, hJp⟩
theorem doc_spec {h : Hp} {l : Sl} {ss : List Sl} {recs : List (List Int)} {Q : Value → Hp → Prop} (A : Recs h l ss recs)
    (hN : ∀ h', Keep h h' → gD recs [] zE true = none → Q (.tuple ⟨[.slice none 0 0, .int .i64 140]⟩) h')
    (hS : ∀ h' l1 (L : List EdS), Keep h h' → gD recs [] zE true = some (L.map EdS.e) → Buf h' l1 6 60 (edV L) → (∀ x ∈ L, EdOk h' x) → (l1.a = none ∨ New h l1) → L.length ≤ 200000000000 → Q (.tuple ⟨[.slice l1.a l1.n l1.c, .int .i64 0]⟩) h') : F10.T l h Q := by
  have hss : ss.length = recs.length := A.rows.1
  have hln : l.n = recs.length := by have := A.row.1; rw [slV_length, hss] at this; exact this.symm
  have hrl := tot_len recs
  have htot := A.tot
  unfold F10.T
  refine ⟨fun l1 first n n1 n2 n3 l2 l3 l4 h1 => ∃ (i : Nat) (L : List EdS) (now : Edit) (hs : Hp), n = (i : Int) ∧ i ≤ recs.length ∧ Keep h hs ∧ Keep hs h1 ∧ (l1.a = none ∨ New h l1) ∧ Buf h1 l1 6 60 (edV L) ∧ (∀ x ∈ L, EdOk hs x) ∧ L.length ≤ i ∧ gD (recs.drop i) (L.map EdS.e) now first = gD recs [] zE true ∧
      (first = false → n1 = now.log ∧ n2 = now.next ∧ n3 = now.seq ∧ EdB hs h1 now l2 l3 l4 ∧ now.valid ∧ now.out.length + now.inn.length ≤ tot (recs.take i)),
    fun _ _ n _ _ _ _ _ _ _ => recs.length - n.toNat, ⟨0, [], zE, h, rfl, Nat.zero_le _, Keep.refl h, Keep.refl h, .inl rfl, Buf.nil h 6 60, fun x hx => (by cases hx), Nat.zero_le _, rfl, fun h0 => (by cases h0)⟩, fun l1 => ⟨?_, ?_⟩⟩
  · rintro n n1 n2 n3 l2 l3 l4 h1 ⟨i, L, now, hs, rfl, hi, K0, K1, N1, B1, hL, hLn, hG, _⟩
    refine ⟨fun hlt => ?_, fun hge => ?_⟩
    · have hi1 : i < recs.length := by omega
      have hi2 : i < ss.length := by omega
      obtain ⟨b, o, ha, hat⟩ := row_get ((K0.trans K1).row A.row) (i := i) (by omega)
      have hv : (slV ss)[i]? = some (.slice ss[i].a ss[i].n ss[i].c) := by simp [slV, hi2]
      refine ⟨b, o, ha, ⟨by omega, hlt⟩, ss[i], by rw [Int.toNat_natCast, hat i (by omega), hv], ?_⟩
      have hrow := (K0.trans K1).row (A.rows.2 i hi2 hi1)
      have hri := List.getElem_mem hi1
      have hti := tot_take_succ hi1
      have htl := tot_take recs (i + 1)
      have hw : IntKind.wrap .i64 ((i : Int) + 1) = ((i + 1 : Nat) : Int) := next_i hi1 (by omega)
      rw [List.drop_eq_getElem_cons hi1] at hG
      refine record_spec hrow (A.caps _ (List.getElem_mem hi2)) (A.ok _ hri) (A.each _ hri) (fun h2 K2 hno => ?_) (fun h2 x last k1 k2 k3 hso K2 E2 V2 => ?_)
      · rw [gD_none hno] at hG
        exact ⟨false, fun h0 => (by cases h0), fun _ => ⟨0, 0, 0, ⟨none, 0, 0⟩, ⟨none, 0, 0⟩, ⟨none, 0, 0⟩, false, fun h0 => (by cases h0), fun _ => ⟨rfl, hN h2 ((K0.trans K1).trans K2) hG.symm⟩⟩⟩
      have hx := fd_sizes (A.ok _ hri) hso
      have hk1 := out_n E2.out
      have hk2 := in_n E2.inn
      have hk3 := pt_n E2.ptr
      have hsz : IntKind.wrap .i64 ((k1.n : Int) + (k2.n : Int)) = (x.size : Int) := by
        unfold Edit.size
        rw [wrap_i64 (by omega) (by omega)]; omega
      have hK2 := (K0.trans K1).trans K2
      have bad : ¬ OkP now x last true → Q (.tuple ⟨[.slice none 0 0, .int .i64 140]⟩) h2 := fun hk => by
        rw [gD_bad hso hk] at hG
        exact hN h2 hK2 hG.symm
      refine ⟨last, fun hl => ⟨x.log, x.next, x.seq, k1, k2, k3, true, fun _ => ⟨by rw [hl], ?_⟩, fun h0 => (by cases h0)⟩, fun hl => ⟨x.log, x.next, x.seq, k1, k2, k3, true, fun _ => ⟨by rw [hl], ?_⟩, fun h0 => (by cases h0)⟩⟩
      · subst hl
        rw [hsz, hw]
        refine ⟨fun hbig => bad fun hk => by have := hk.size; omega, fun hok => ⟨fun h3 => h3 = h2, ?_, rfl⟩⟩
        rintro h3 rfl
        have hk : OkP now x true true := ⟨by omega, fun h0 => (by cases h0), fun h0 => (by cases h0)⟩
        rw [gD_last hso hk] at hG
        refine grow2 (hs := h1) (o := []) (i := []) (a := x.log) (b := x.next) (c := x.seq) K2 (Buf.nil _ 2 89) (Buf.nil _ 7 87) (.inl rfl) (.inl rfl) E2 (B1.keep K2) (by simp only [List.length_nil]; omega) fun h4 q1 q2 K4 B4 E4 => ?_
        refine edit_more (J := x) (K0.trans K1) K4 N1 B4 (fun y hy => (hL y hy).keep K1) E4 V2 (by omega) (by omega) (by omega) fun l11 h6 K6 N6 B6 hL6 => ?_
        refine ⟨⟨i + 1, L ++ [⟨x, q1, q2, k3⟩], x, h6, rfl, hi1, K6, Keep.refl h6, N6, B6, hL6, by rw [List.length_append, List.length_singleton]; omega, ?_, fun h0 => (by cases h0)⟩, by dsimp only; omega⟩
        rw [List.map_append]; exact hG
      · subst hl
        rw [hsz, hw]
        refine ⟨fun hbig => bad fun hk => by have := hk.size; omega, fun hok => ⟨fun h256 => ⟨fun hp => ⟨fun h3 => h3 = h2, ?_, rfl⟩, fun hp => bad fun hk => by have := (hk.whole rfl).2; omega⟩, fun h256 => bad fun hk => by have := (hk.whole rfl).1; omega⟩⟩
        rintro h3 rfl
        have hk : OkP now x false true := ⟨by omega, fun _ => ⟨by omega, by omega⟩, fun h0 => (by cases h0)⟩
        rw [gD_more hso hk] at hG
        refine grow2 (hs := h1) (o := []) (i := []) (a := x.log) (b := x.next) (c := x.seq) K2 (Buf.nil _ 2 89) (Buf.nil _ 7 87) (.inl rfl) (.inl rfl) E2 (B1.keep K2) (by simp only [List.length_nil]; omega) fun h4 q1 q2 K4 B4 E4 => ?_
        exact ⟨⟨i + 1, L, x, h1, rfl, hi1, K0.trans K1, K4, N1, B4, fun y hy => (hL y hy).keep K1, by omega, hG, fun _ => ⟨rfl, rfl, rfl, E4, V2, by omega⟩⟩, by dsimp only; omega⟩
    · have hie : i = recs.length := by omega
      subst hie
      rw [List.drop_length, gD] at hG
      exact hS h1 l1 L (K0.trans K1) hG.symm B1 (fun x hx => (hL x hx).keep K1) N1 (by omega)
  · rintro n n1 n2 n3 l2 l3 l4 h1 ⟨i, L, now, hs, rfl, hi, K0, K1, N1, B1, hL, hLn, hG, hnow⟩
    obtain ⟨rfl, rfl, rfl, E, V, hns⟩ := hnow rfl
    refine ⟨fun hlt => ?_, fun hge => ?_⟩
    · have hi1 : i < recs.length := by omega
      have hi2 : i < ss.length := by omega
      obtain ⟨b, o, ha, hat⟩ := row_get ((K0.trans K1).row A.row) (i := i) (by omega)
      have hv : (slV ss)[i]? = some (.slice ss[i].a ss[i].n ss[i].c) := by simp [slV, hi2]
      refine ⟨b, o, ha, ⟨by omega, hlt⟩, ss[i], by rw [Int.toNat_natCast, hat i (by omega), hv], ?_⟩
      have hrow := (K0.trans K1).row (A.rows.2 i hi2 hi1)
      have hri := List.getElem_mem hi1
      have hti := tot_take_succ hi1
      have htl := tot_take recs (i + 1)
      have hw : IntKind.wrap .i64 ((i : Int) + 1) = ((i + 1 : Nat) : Int) := next_i hi1 (by omega)
      rw [List.drop_eq_getElem_cons hi1] at hG
      refine record_spec hrow (A.caps _ (List.getElem_mem hi2)) (A.ok _ hri) (A.each _ hri) (fun h2 K2 hno => ?_) (fun h2 x last k1 k2 k3 hso K2 E2 V2 => ?_)
      · rw [gD_none hno] at hG
        exact ⟨false, fun h0 => (by cases h0), fun _ => ⟨0, 0, 0, ⟨none, 0, 0⟩, ⟨none, 0, 0⟩, ⟨none, 0, 0⟩, false, fun h0 => (by cases h0), fun _ => ⟨rfl, hN h2 ((K0.trans K1).trans K2) hG.symm⟩⟩⟩
      have hx := fd_sizes (A.ok _ hri) hso
      have hk1 := out_n E2.out
      have hk2 := in_n E2.inn
      have hk3 := pt_n E2.ptr
      have hl3 := in_n E.inn
      have hsz : IntKind.wrap .i64 ((k1.n : Int) + (k2.n : Int)) = (x.size : Int) := by
        unfold Edit.size
        rw [wrap_i64 (by omega) (by omega)]; omega
      have hK2 := (K0.trans K1).trans K2
      have bad : ¬ OkP now x last false → Q (.tuple ⟨[.slice none 0 0, .int .i64 140]⟩) h2 := fun hk => by
        rw [gD_bad hso hk] at hG
        exact hN h2 hK2 hG.symm
      have chk : ∀ J : Hp → Prop, (OkP now x last false → J h2) → (x.size ≤ 256) → (last = false → x.size = 256 ∧ x.ptr.length = 0) →
          par ((x.size : Int) = 0) (Q (.tuple ⟨[.slice none 0 0, .int .i64 140]⟩) h2) (par (x.log = now.log) (par (x.next = now.next) (par (x.seq = now.seq) (par ((0 : Int) < (l3.n : Int)) (par ((0 : Int) < (k1.n : Int)) (Q (.tuple ⟨[.slice none 0 0, .int .i64 140]⟩) h2) (J h2)) (J h2)) (Q (.tuple ⟨[.slice none 0 0, .int .i64 140]⟩) h2)) (Q (.tuple ⟨[.slice none 0 0, .int .i64 140]⟩) h2)) (Q (.tuple ⟨[.slice none 0 0, .int .i64 140]⟩) h2)) := fun J hJ h1 h2 =>
        ⟨fun c => bad fun hk => (hk.more rfl).1 (by omega), fun c0 => ⟨fun c1 => ⟨fun c2 => ⟨fun c3 => ⟨fun c4 => ⟨fun c5 => bad fun hk => (hk.more rfl).2.2.2.2 ⟨by omega, by omega⟩, fun c5 => hJ ⟨h1, h2, fun _ => ⟨by omega, c1, c2, c3, fun q => c5 (by omega)⟩⟩⟩,
          fun c4 => hJ ⟨h1, h2, fun _ => ⟨by omega, c1, c2, c3, fun q => c4 (by omega)⟩⟩⟩, fun c => bad fun hk => c (hk.more rfl).2.2.2.1⟩, fun c => bad fun hk => c (hk.more rfl).2.2.1⟩, fun c => bad fun hk => c (hk.more rfl).2.1⟩⟩
      have VJ : (nowP now x false).valid := ⟨V.log, V.next, V.seq, fun p hp => by rcases List.mem_append.1 hp with hp | hp; exact V.out p hp; exact V2.out p hp, fun p hp => by rcases List.mem_append.1 hp with hp | hp; exact V.inn p hp; exact V2.inn p hp⟩
      have hJs : (nowP now x false).out.length + (nowP now x false).inn.length ≤ tot (recs.take (i + 1)) := by
        show (now.out ++ x.out).length + (now.inn ++ x.inn).length ≤ _
        simp only [List.length_append]; omega
      refine ⟨last, fun hl => ⟨x.log, x.next, x.seq, k1, k2, k3, true, fun _ => ⟨by rw [hl], ?_⟩, fun h0 => (by cases h0)⟩, fun hl => ⟨x.log, x.next, x.seq, k1, k2, k3, true, fun _ => ⟨by rw [hl], ?_⟩, fun h0 => (by cases h0)⟩⟩
      · subst hl
        rw [hsz, hw]
        refine ⟨fun hbig => bad fun hk => by have := hk.size; omega, fun hok => ⟨fun h3 => h3 = h2 ∧ OkP now x true false, ?_, chk (fun h3 => h3 = h2 ∧ OkP now x true false) (fun hk => ⟨rfl, hk⟩) (by omega) (fun h0 => (by cases h0))⟩⟩
        rintro h3 ⟨rfl, hk⟩
        rw [gD_last hso hk] at hG
        refine grow2 (hs := hs) (a := now.log) (b := now.next) (c := now.seq) (K1.trans K2) (E.out.keep K2) (E.inn.keep K2) E.n1 E.n2 (E2.mono K1) (B1.keep K2) (by omega) fun h4 q1 q2 K4 B4 E4 => ?_
        refine edit_more (J := nowP now x false) K0 K4 N1 B4 hL E4 VJ (by omega) (by show x.ptr.length ≤ _; omega) (by omega) fun l11 h6 K6 N6 B6 hL6 => ?_
        refine ⟨⟨i + 1, L ++ [⟨nowP now x false, q1, q2, k3⟩], nowP now x false, h6, rfl, hi1, K6, Keep.refl h6, N6, B6, hL6, by rw [List.length_append, List.length_singleton]; omega, ?_, fun h0 => (by cases h0)⟩, by dsimp only; omega⟩
        rw [List.map_append]; exact hG
      · subst hl
        rw [hsz, hw]
        refine ⟨fun hbig => bad fun hk => by have := hk.size; omega, fun hok => ⟨fun h256 => ⟨fun hp => ⟨fun h3 => h3 = h2 ∧ OkP now x false false, ?_, chk (fun h3 => h3 = h2 ∧ OkP now x false false) (fun hk => ⟨rfl, hk⟩) (by omega) (fun _ => ⟨by omega, by omega⟩)⟩, fun hp => bad fun hk => by have := (hk.whole rfl).2; omega⟩, fun h256 => bad fun hk => by have := (hk.whole rfl).1; omega⟩⟩
        rintro h3 ⟨rfl, hk⟩
        rw [gD_more hso hk] at hG
        refine grow2 (hs := hs) (a := now.log) (b := now.next) (c := now.seq) (K1.trans K2) (E.out.keep K2) (E.inn.keep K2) E.n1 E.n2 (E2.mono K1) (B1.keep K2) (by omega) fun h4 q1 q2 K4 B4 E4 => ?_
        exact ⟨⟨i + 1, L, nowP now x false, hs, rfl, hi1, K0, K4, N1, B4, hL, by omega, hG, fun _ => ⟨rfl, rfl, rfl, E4, VJ, hJs⟩⟩, by dsimp only; omega⟩
    · have hie : i = recs.length := by omega
      subst hie
      rw [List.drop_length, gD] at hG
      exact hS h1 l1 L (K0.trans K1) hG.symm B1 (fun x hx => (hL x hx).keep K1) N1 (by omega)
end Go.Eng.Ytblghgacokoklaa
end
section
/-
  SPECS, 15: edits as they are handed in; few; place; copied.
-/
set_option linter.unusedSimpArgs false
set_option linter.unusedVariables false
namespace Go.Eng.Ytblghgacokoklaa
def iI (n : Int) : Prop := -9223372036854775808 ≤ n ∧ n < 9223372036854775808
/-- An edit whose numbers fit their kinds. -/
structure Raw (e : Edit) : Prop where
  log : okU e.log
  next : okU e.next
  seq : okU e.seq
  out : ∀ p ∈ e.out, iI p.lv ∧ okU p.num
  inn : ∀ p ∈ e.inn, iI p.lv ∧ okU p.num ∧ iI p.weight ∧ iI p.bytes ∧ iI p.entries ∧ p.least.size ≤ 9223372036854775807 ∧ p.greatest.size ≤ 9223372036854775807
  ptr : ∀ p ∈ e.ptr, p.size ≤ 9223372036854775807
/-- A list of edits that was handed in. -/
structure Args (h : Hp) (l : Sl) (L : List EdS) : Prop where
  row : h.row l.a (l.n * 6) (edV L)
  at_ : ∀ x ∈ L, EdAt h x.e x.a x.b x.c
  raw : ∀ x ∈ L, Raw x.e
  big : ∀ x ∈ L, x.e.out.length ≤ 9223372036854775807 ∧ x.e.inn.length ≤ 9223372036854775807 ∧ x.e.ptr.length ≤ 9223372036854775807
theorem Args.keep {h h' : Hp} (k : Keep h h') {l : Sl} {L : List EdS} (A : Args h l L) : Args h' l L := ⟨k.row A.row, fun x hx => (A.at_ x hx).keep k, A.raw, A.big⟩
theorem Args.n {h : Hp} {l : Sl} {L : List EdS} (A : Args h l L) : l.n = L.length := by
  have h1 := A.row.1
  unfold edV at h1
  rw [flat_length EdS.cells 6 (fun _ => rfl)] at h1
  omega
def adv (c m : Int) : Int := if 0 ≤ c then c - m else c
theorem add_q {h0 h : Hp} {b : Nat} {c n m : Int} {Q : Value → Hp → Prop} (hb0 : h0 b = none) (K : Keep h0 h) (hb : h b = some (.cells ⟨[.int .i64 c]⟩ 113 (0, 0))) (hn : n = IntKind.wrap .i64 m) (hm0 : 0 ≤ m) (hm1 : m ≤ 9223372036854775808) (hc : c ≤ 1000000)
    (hQ : ∀ r h', Keep h0 h' → h' b = some (.cells ⟨[.int .i64 (adv c m)]⟩ 113 (0, 0)) → Q (.bool r) h') : F66.T (some ⟨b, 0, none⟩) n h Q := by
  have hat2 : h.at b 0 = some (.int .i64 c) := by unfold Hp.at; rw [hb]; rfl
  refine ⟨b, 0, rfl, c, hat2, fun hc0 => ⟨b, 0, rfl, c, hat2, ?_⟩, fun hc0 => ⟨b, 0, rfl, c, hat2, fun h0 => absurd h0 hc0, fun h0 => ?_⟩⟩
  · have w2 : IntKind.wrap .i64 (c - n) = c - m := by
      rw [hn]
      simp [IntKind.wrap, IntKind.signed, IntKind.bits]
      omega
    rw [w2]
    have hw := wr_at (o := 0) (vs := [.int .i64 (c - m)]) hb
    have kw := keep_wr_new hb0 K 0 [.int .i64 (c - m)]
    have ha : adv c m = c - m := by unfold adv; rw [if_pos hc0]
    rw [ha] at hQ
    exact ⟨b, 0, rfl, ⟨_, _, _, hb, Nat.le_of_ble_eq_true rfl, fun j _ _ => by simp⟩, b, 0, rfl, c - m, by unfold Hp.at; rw [hw]; rfl, fun _ => hQ true _ kw hw, fun _ => hQ false _ kw hw⟩
  · have ha : adv c m = c := by unfold adv; rw [if_neg hc0]
    rw [ha] at hQ
    exact hQ false h K hb
theorem text_q {h0 h : Hp} {b : Nat} {c : Int} {s : ByteArray} {Q : Value → Hp → Prop} (hb0 : h0 b = none) (K : Keep h0 h) (hb : h b = some (.cells ⟨[.int .i64 c]⟩ 113 (0, 0))) (hs : s.size ≤ 9223372036854775807) (hc : c ≤ 1000000)
    (hQ : ∀ h', Keep h0 h' → h' b = some (.cells ⟨[.int .i64 (adv c (1 + (s.size : Int)))]⟩ 113 (0, 0)) → Q (.tuple ⟨[]⟩) h') : F95.T (some ⟨b, 0, none⟩) s h Q :=
  add_q hb0 K hb rfl (by omega) (by omega) hc fun r h' K' hb' => ⟨r, rfl, fun _ => hQ h' K' hb', fun _ => hQ h' K' hb'⟩
theorem wrap_id {n : Nat} (h : n ≤ 9223372036854775807) : (n : Int) = IntKind.wrap .i64 (n : Int) := (wrap_i64 (by omega) (by omega)).symm
theorem ptr_q {h0 h : Hp} {l2 : Sl} {ptr : List ByteArray} {b : Nat} {c d : Int} {Q : Value → Hp → Prop} (hr : h0.row l2.a l2.n (ptrV ptr)) (hs : ∀ s ∈ ptr, s.size ≤ 9223372036854775807) (hb0 : h0 b = none) (K : Keep h0 h) (hb : h b = some (.cells ⟨[.int .i64 c]⟩ 113 (0, 0))) (hc : c ≤ 1000000) (hd : 0 ≤ c → c ≤ d)
    (hQ : ∀ h' c', Keep h0 h' → h' b = some (.cells ⟨[.int .i64 c']⟩ 113 (0, 0)) → c' ≤ 1000000 → (0 ≤ c' → c' + (ptr.length : Int) ≤ d) → Q (.tuple ⟨[]⟩) h') :
    ∃ (I : Int → Hp → Prop) (m : Int → Hp → Nat), I 0 h ∧ (∀ n3 : Int, ∀ h3 : Hp, I n3 h3 → par (n3 < (l2.n : Int)) (F28.T (some ⟨b, 0, none⟩) h3 fun r1 h4 => ∃ b1 : Bool, r1 = .bool b1 ∧ parB b1 (∃ b2 o, (l2.a : Option Addr) = some ⟨b2, o, none⟩ ∧ ((0 : Int) ≤ n3 ∧ n3 < (l2.n : Int)) ∧ ∃ s : ByteArray, h4.at b2 (o + n3.toNat) = some (.string s) ∧ F95.T (some ⟨b, 0, none⟩) s h4 fun r2 h5 => I (IntKind.wrap .i64 (n3 + 1)) h5 ∧ m (IntKind.wrap .i64 (n3 + 1)) h5 < m n3 h3) (Q (.tuple ⟨[]⟩) h4)) (Q (.tuple ⟨[]⟩) h3)) := by
  have hln : l2.n = ptr.length := by have := hr.1; unfold ptrV at this; rw [List.length_map] at this; exact this.symm
  refine ⟨fun n h1 => ∃ (i : Nat) (c1 : Int), n = (i : Int) ∧ i ≤ ptr.length ∧ Keep h0 h1 ∧ h1 b = some (.cells ⟨[.int .i64 c1]⟩ 113 (0, 0)) ∧ c1 ≤ 1000000 ∧ (0 ≤ c1 → c1 + (i : Int) ≤ c), fun n _ => ptr.length - n.toNat, ⟨0, c, rfl, Nat.zero_le _, K, hb, hc, fun h => by omega⟩, ?_⟩
  rintro n h1 ⟨i, c1, rfl, hi, K1, hb1, hc1, hsum⟩
  refine ⟨fun hlt => ?_, fun hge => hQ h1 c1 K1 hb1 hc1 fun h0' => by have := hsum h0'; have := hd (by omega); omega⟩
  have ia : i < ptr.length := by omega
  refine ok_q hb1 (fun hp => ⟨true, rfl, fun _ => ?_, fun h0' => (by cases h0')⟩) (fun hp => ⟨false, rfl, fun h0' => (by cases h0'), fun _ => hQ h1 c1 K1 hb1 hc1 fun h0' => absurd h0' hp⟩)
  obtain ⟨b0, o0, ha0, hat⟩ := row_get (K1.row hr) (i := i) (by omega)
  have hsz := hs _ (List.getElem_mem ia)
  have hsm := hsum hp
  have w3 : IntKind.wrap .i64 ((i : Int) + 1) = ((i + 1 : Nat) : Int) := by rw [wrap_i64 (by omega) (by omega)]; omega
  refine ⟨b0, o0, ha0, ⟨by omega, hlt⟩, ptr[i], by rw [Int.toNat_natCast, hat i (by omega)]; simp [ptrV, ia], ?_⟩
  refine text_q hb0 K1 hb1 hsz hc1 fun h' K' hb' => ?_
  rw [w3]
  refine ⟨⟨i + 1, _, rfl, ia, K', hb', ?_, ?_⟩, by dsimp only; omega⟩
  · unfold adv; rw [if_pos hp]; omega
  · unfold adv; rw [if_pos hp]; intro _; omega
theorem inn_q {h0 h : Hp} {l1 : Sl} {inn : List Placed} {b : Nat} {c d : Int} {J : Hp → Prop} (hr : h0.row l1.a (l1.n * 7) (inV inn)) (hs : ∀ p ∈ inn, p.least.size ≤ 9223372036854775807 ∧ p.greatest.size ≤ 9223372036854775807) (hb0 : h0 b = none) (K : Keep h0 h) (hb : h b = some (.cells ⟨[.int .i64 c]⟩ 113 (0, 0))) (hc : c ≤ 1000000) (hd : 0 ≤ c → c ≤ d)
    (hJ : ∀ h' c', Keep h0 h' → h' b = some (.cells ⟨[.int .i64 c']⟩ 113 (0, 0)) → c' ≤ 1000000 → (0 ≤ c' → c' + (inn.length : Int) ≤ d) → J h') :
    ∃ (I1 : Int → Hp → Prop) (m1 : Int → Hp → Nat), I1 0 h ∧ (∀ n4 : Int, ∀ h6 : Hp, I1 n4 h6 → par (n4 < (l1.n : Int)) (F28.T (some ⟨b, 0, none⟩) h6 fun r3 h7 => ∃ b3 : Bool, r3 = .bool b3 ∧ parB b3 (∃ b4 o1, (l1.a : Option Addr) = some ⟨b4, o1, none⟩ ∧ ((0 : Int) ≤ n4 ∧ n4 < (l1.n : Int)) ∧ ∃ s1 : ByteArray, h7.at b4 (((o1 + n4.toNat * 7) + 1) + 4) = some (.string s1) ∧ F95.T (some ⟨b, 0, none⟩) s1 h7 fun r4 h8 => ∃ b5 o2, (l1.a : Option Addr) = some ⟨b5, o2, none⟩ ∧ ((0 : Int) ≤ n4 ∧ n4 < (l1.n : Int)) ∧ ∃ s2 : ByteArray, h8.at b5 (((o2 + n4.toNat * 7) + 1) + 5) = some (.string s2) ∧ F66.T (some ⟨b, 0, none⟩) (s2.size : Int) h8 fun r5 h9 => ∃ b6 : Bool, r5 = .bool b6 ∧ parB b6 (I1 (IntKind.wrap .i64 (n4 + 1)) h9 ∧ m1 (IntKind.wrap .i64 (n4 + 1)) h9 < m1 n4 h6) (I1 (IntKind.wrap .i64 (n4 + 1)) h9 ∧ m1 (IntKind.wrap .i64 (n4 + 1)) h9 < m1 n4 h6)) (J h7)) (J h6)) := by
  have hln : l1.n = inn.length := by
    have h1 := hr.1
    unfold inV at h1
    rw [flat_length Placed.cells 7 (fun _ => rfl)] at h1
    omega
  refine ⟨fun n h1 => ∃ (i : Nat) (c1 : Int), n = (i : Int) ∧ i ≤ inn.length ∧ Keep h0 h1 ∧ h1 b = some (.cells ⟨[.int .i64 c1]⟩ 113 (0, 0)) ∧ c1 ≤ 1000000 ∧ (0 ≤ c1 → c1 + (i : Int) ≤ c), fun n _ => inn.length - n.toNat, ⟨0, c, rfl, Nat.zero_le _, K, hb, hc, fun h => by omega⟩, ?_⟩
  rintro n h1 ⟨i, c1, rfl, hi, K1, hb1, hc1, hsum⟩
  refine ⟨fun hlt => ?_, fun hge => hJ h1 c1 K1 hb1 hc1 fun h0' => by have := hsum h0'; have := hd (by omega); omega⟩
  have ia : i < inn.length := by omega
  refine ok_q hb1 (fun hp => ⟨true, rfl, fun _ => ?_, fun h0' => (by cases h0')⟩) (fun hp => ⟨false, rfl, fun h0' => (by cases h0'), fun _ => hJ h1 c1 K1 hb1 hc1 fun h0' => absurd h0' hp⟩)
  obtain ⟨b0, o0, ha0, hat⟩ := row_get (hr) (i := i * 7) (by omega)
  have cc : ∀ j, j < 7 → h0.at b0 ((o0 + i * 7) + j) = (Placed.cells inn[i])[j]? := fun j hj => by
    rw [Nat.add_assoc, hat _ (by omega)]
    exact flat_get Placed.cells 7 (fun _ => rfl) inn i j ia hj
  have hsz := hs _ (List.getElem_mem ia)
  have hsm := hsum hp
  have w3 : IntKind.wrap .i64 ((i : Int) + 1) = ((i + 1 : Nat) : Int) := by rw [wrap_i64 (by omega) (by omega)]; omega
  refine ⟨b0, o0, ha0, ⟨by omega, hlt⟩, inn[i].least, by rw [Int.toNat_natCast]; exact K1.at (cc 5 (by decide)), ?_⟩
  refine text_q hb0 K1 hb1 hsz.1 hc1 fun h2 K2 hb2 => ?_
  refine ⟨b0, o0, ha0, ⟨by omega, hlt⟩, inn[i].greatest, by rw [Int.toNat_natCast]; exact K2.at (cc 6 (by decide)), ?_⟩
  have ha : adv c1 (1 + (inn[i].least.size : Int)) = c1 - (1 + (inn[i].least.size : Int)) := by unfold adv; rw [if_pos hp]
  rw [ha] at hb2
  refine add_q hb0 K2 hb2 (wrap_id hsz.2) (by omega) (by omega) (by omega) fun r h3 K3 hb3 => ?_
  rw [w3]
  have fin : (∃ (i' : Nat) (c1' : Int), ((i + 1 : Nat) : Int) = (i' : Int) ∧ i' ≤ inn.length ∧ Keep h0 h3 ∧ h3 b = some (.cells ⟨[.int .i64 c1']⟩ 113 (0, 0)) ∧ c1' ≤ 1000000 ∧ (0 ≤ c1' → c1' + (i' : Int) ≤ c)) ∧ inn.length - (((i + 1 : Nat) : Int)).toNat < inn.length - ((i : Int)).toNat := by
    refine ⟨⟨i + 1, _, rfl, ia, K3, hb3, ?_, ?_⟩, by omega⟩
    · unfold adv; split <;> omega
    · unfold adv; split <;> (intro _; omega)
  exact ⟨r, rfl, fun _ => fin, fun _ => fin⟩
theorem edit_q {h0 h : Hp} {x : EdS} {b : Nat} {c : Int} {Q : Value → Hp → Prop} (E : EdAt h0 x.e x.a x.b x.c) (R : Raw x.e) (hbig : x.e.out.length ≤ 9223372036854775807) (hb0 : h0 b = none) (K : Keep h0 h) (hb : h b = some (.cells ⟨[.int .i64 c]⟩ 113 (0, 0))) (hc : c ≤ 1000000)
    (hQ : ∀ h' c', Keep h0 h' → h' b = some (.cells ⟨[.int .i64 c']⟩ 113 (0, 0)) → c' ≤ 1000000 → (0 ≤ c' → c' + (1 + (x.e.out.length : Int) + x.e.inn.length + x.e.ptr.length) ≤ c) → Q (.tuple ⟨[]⟩) h') : F79.T (some ⟨b, 0, none⟩) x.e.log x.e.next x.e.seq x.a x.b x.c h Q := by
  have n1 := E.nout
  have go : ∀ h1 : Hp, Keep h0 h1 → h1 b = some (.cells ⟨[.int .i64 (adv c (1 + (x.e.out.length : Int)))]⟩ 113 (0, 0)) → (∃ J : Hp → Prop, (∀ h2 : Hp, J h2 → ∃ (I : Int → Hp → Prop) (m : Int → Hp → Nat), I 0 h2 ∧ (∀ n3 : Int, ∀ h3 : Hp, I n3 h3 → par (n3 < (x.c.n : Int)) (F28.T (some ⟨b, 0, none⟩) h3 fun r1 h4 => ∃ b1 : Bool, r1 = .bool b1 ∧ parB b1 (∃ b2 o, (x.c.a : Option Addr) = some ⟨b2, o, none⟩ ∧ ((0 : Int) ≤ n3 ∧ n3 < (x.c.n : Int)) ∧ ∃ s : ByteArray, h4.at b2 (o + n3.toNat) = some (.string s) ∧ F95.T (some ⟨b, 0, none⟩) s h4 fun r2 h5 => I (IntKind.wrap .i64 (n3 + 1)) h5 ∧ m (IntKind.wrap .i64 (n3 + 1)) h5 < m n3 h3) (Q (.tuple ⟨[]⟩) h4)) (Q (.tuple ⟨[]⟩) h3))) ∧ (∃ (I1 : Int → Hp → Prop) (m1 : Int → Hp → Nat), I1 0 h1 ∧ (∀ n4 : Int, ∀ h6 : Hp, I1 n4 h6 → par (n4 < (x.b.n : Int)) (F28.T (some ⟨b, 0, none⟩) h6 fun r3 h7 => ∃ b3 : Bool, r3 = .bool b3 ∧ parB b3 (∃ b4 o1, (x.b.a : Option Addr) = some ⟨b4, o1, none⟩ ∧ ((0 : Int) ≤ n4 ∧ n4 < (x.b.n : Int)) ∧ ∃ s1 : ByteArray, h7.at b4 (((o1 + n4.toNat * 7) + 1) + 4) = some (.string s1) ∧ F95.T (some ⟨b, 0, none⟩) s1 h7 fun r4 h8 => ∃ b5 o2, (x.b.a : Option Addr) = some ⟨b5, o2, none⟩ ∧ ((0 : Int) ≤ n4 ∧ n4 < (x.b.n : Int)) ∧ ∃ s2 : ByteArray, h8.at b5 (((o2 + n4.toNat * 7) + 1) + 5) = some (.string s2) ∧ F66.T (some ⟨b, 0, none⟩) (s2.size : Int) h8 fun r5 h9 => ∃ b6 : Bool, r5 = .bool b6 ∧ parB b6 (I1 (IntKind.wrap .i64 (n4 + 1)) h9 ∧ m1 (IntKind.wrap .i64 (n4 + 1)) h9 < m1 n4 h6) (I1 (IntKind.wrap .i64 (n4 + 1)) h9 ∧ m1 (IntKind.wrap .i64 (n4 + 1)) h9 < m1 n4 h6)) (J h7)) (J h6)))) := by
    intro h1 K1 hb1
    have hc1 : adv c (1 + (x.e.out.length : Int)) ≤ 1000000 := by unfold adv; split <;> omega
    have hd1 : 0 ≤ adv c (1 + (x.e.out.length : Int)) → adv c (1 + (x.e.out.length : Int)) + (1 + (x.e.out.length : Int)) ≤ c := by unfold adv; split <;> (intro _; omega)
    refine ⟨fun h2 => ∃ c2, Keep h0 h2 ∧ h2 b = some (.cells ⟨[.int .i64 c2]⟩ 113 (0, 0)) ∧ c2 ≤ 1000000 ∧ (0 ≤ c2 → c2 + (x.e.inn.length : Int) ≤ adv c (1 + (x.e.out.length : Int))), ?_, ?_⟩
    · rintro h2 ⟨c2, K2, hb2, hc2, hs2⟩
      refine ptr_q (d := c2) E.ptr R.ptr hb0 K2 hb2 hc2 (fun _ => Int.le_refl _) fun h3 c3 K3 hb3 hc3 hs3 => hQ h3 c3 K3 hb3 hc3 fun h0' => ?_
      have := hs3 h0'
      have := hs2 (by omega)
      have := hd1 (by omega)
      omega
    · exact inn_q (d := adv c (1 + (x.e.out.length : Int))) E.inn (fun p hp => (R.inn p hp).2.2.2.2.2) hb0 K1 hb1 hc1 (fun _ => Int.le_refl _) fun h3 c3 K3 hb3 hc3 hs3 => ⟨c3, K3, hb3, hc3, hs3⟩
  refine add_q hb0 K hb (m := 1 + (x.e.out.length : Int)) (by rw [n1]) (by omega) (by omega) hc fun r h1 K1 hb1 => ⟨r, rfl, fun _ => go h1 K1 hb1, fun _ => go h1 K1 hb1⟩
/-- How many parts. -/
def parts (L : List EdS) : Nat := (L.map fun x => 1 + x.e.out.length + x.e.inn.length + x.e.ptr.length).sum
theorem parts_succ {L : List EdS} {i : Nat} (h : i < L.length) : parts (L.take (i + 1)) = parts (L.take i) + (1 + L[i].e.out.length + L[i].e.inn.length + L[i].e.ptr.length) := by
  rw [List.take_succ_eq_append_getElem h]
  unfold parts
  rw [List.map_append, List.sum_append]
  simp only [List.map_cons, List.map_nil, List.sum_cons, List.sum_nil, Nat.add_zero]
theorem parts_cons (x : EdS) (L : List EdS) : parts (x :: L) = 1 + x.e.out.length + x.e.inn.length + x.e.ptr.length + parts L := by simp [parts]
theorem parts_len (L : List EdS) : L.length ≤ parts L := by
  induction L with
  | nil => simp
  | cons a l ih => rw [parts_cons, List.length_cons]; omega
theorem parts_mem {L : List EdS} {x : EdS} (h : x ∈ L) : 1 + x.e.out.length + x.e.inn.length + x.e.ptr.length ≤ parts L := by
  induction L with
  | nil => cases h
  | cons a l ih =>
    rw [parts_cons]
    rcases List.mem_cons.1 h with rfl | h
    · omega
    · have := ih h; omega
theorem few_spec {h : Hp} {l : Sl} {L : List EdS} {Q : Value → Hp → Prop} (A : Args h l L) (hT : ∀ h', Keep h h' → parts L ≤ 10000 → Q (.bool true) h') (hF : ∀ h', Keep h h' → Q (.bool false) h') : F16.T l h Q := by
  have hln := A.n
  intro b hb
  refine ⟨some ⟨b, 0, none⟩, rfl, ?_⟩
  have hb1 : (h.new b (.cells ⟨[.int .i64 10000]⟩ 113 (0, 0))) b = some (.cells ⟨[.int .i64 10000]⟩ 113 (0, 0)) := new_self _ _ _
  have fin : ∀ h' c, Keep h h' → h' b = some (.cells ⟨[.int .i64 c]⟩ 113 (0, 0)) → (0 ≤ c → parts L ≤ 10000) → F28.T (some ⟨b, 0, none⟩) h' fun r2 h3 => ∃ b : Bool, r2 = .bool b ∧ parB b (Q (.bool true) h3) (Q (.bool false) h3) := fun h' c K' hc ht =>
    ok_q hc (fun h0 => ⟨true, rfl, fun _ => hT h' K' (ht h0), fun h1 => (by cases h1)⟩) (fun h0 => ⟨false, rfl, fun h1 => (by cases h1), fun _ => hF h' K'⟩)
  refine ⟨fun n h1 => ∃ (i : Nat) (c : Int), n = (i : Int) ∧ i ≤ L.length ∧ Keep h h1 ∧ h1 b = some (.cells ⟨[.int .i64 c]⟩ 113 (0, 0)) ∧ c ≤ 1000000 ∧ (0 ≤ c → c + (parts (L.take i) : Int) ≤ 10000), fun n _ => L.length - n.toNat, ⟨0, 10000, rfl, Nat.zero_le _, Keep.new hb _, hb1, by decide, fun _ => by simp [parts]⟩, ?_⟩
  rintro n h1 ⟨i, c, rfl, hi, K1, hbc, hc, hsum⟩
  refine ⟨fun hlt => ?_, fun hge => ?_⟩
  · have ia : i < L.length := by omega
    refine ok_q hbc (fun hp => ⟨true, rfl, fun _ => ?_, fun h0 => (by cases h0)⟩) (fun hp => ⟨false, rfl, fun h0 => (by cases h0), fun _ => fin h1 c K1 hbc fun h0 => absurd h0 hp⟩)
    obtain ⟨b0, o0, ha0, hat⟩ := row_get (K1.row A.row) (i := i * 6) (by omega)
    have cc : ∀ j, j < 6 → h1.at b0 ((o0 + i * 6) + j) = (EdS.cells L[i])[j]? := fun j hj => by
      rw [Nat.add_assoc, hat _ (by omega)]
      exact flat_get EdS.cells 6 (fun _ => rfl) L i j ia hj
    have hx := List.getElem_mem ia
    have hs := hsum hp
    have hpl := parts_len (L.take i)
    rw [List.length_take, Nat.min_eq_left hi] at hpl
    have hps := parts_succ ia
    have w3 : IntKind.wrap .i64 ((i : Int) + 1) = ((i + 1 : Nat) : Int) := by rw [wrap_i64 (by omega) (by omega)]; omega
    rw [Int.toNat_natCast, w3]
    refine ⟨b0, o0, ha0, ⟨by omega, hlt⟩, _, cc 0 (by decide), _, cc 1 (by decide), _, cc 2 (by decide), _, cc 3 (by decide), _, cc 4 (by decide), _, cc 5 (by decide), ?_⟩
    refine edit_q (x := L[i]) (A.at_ _ hx) (A.raw _ hx) (A.big _ hx).1 hb K1 hbc hc fun h2 c2 K2 hb2 hc2 hs2 => ⟨⟨i + 1, c2, rfl, ia, K2, hb2, hc2, fun h0 => ?_⟩, by dsimp only; omega⟩
    have := hs2 h0
    rw [hps]
    omega
  · have hie : i = L.length := by omega
    subst hie
    rw [List.take_length] at hsum
    exact fin h1 c K1 hbc fun h0 => by have := hsum h0; omega
theorem place_spec {h : Hp} {n m : Int} {Q : Value → Hp → Prop} (hn : iI n) (hm : 0 < m) (hQ : ∀ r, 0 ≤ r → r < m → Q (.int .i64 r) h) : F19.T n m h Q := by
  have key : ∀ a : Int, 0 ≤ a → 0 ≤ Int.tmod a m ∧ Int.tmod a m < m := fun a ha => ⟨Int.tmod_nonneg m ha, Int.tmod_lt_of_pos a hm⟩
  have h1 := hn.1
  have h2 := hn.2
  refine ⟨fun hlt => ⟨by omega, ?_⟩, fun hge => ⟨by omega, ?_⟩⟩
  · have w1 : IntKind.wrap .i64 (n + 1) = n + 1 := wrap_i64 (by omega) (by omega)
    have w2 : IntKind.wrap .i64 (0 - (n + 1)) = 0 - (n + 1) := wrap_i64 (by omega) (by omega)
    rw [w1, w2]
    have := key (0 - (n + 1)) (by omega)
    exact hQ _ this.1 this.2
  · have := key n (by omega)
    exact hQ _ this.1 this.2
end Go.Eng.Ytblghgacokoklaa
end
section
/-
  SPECS, 16: copies; writing into one's own lists.
-/
set_option linter.unusedSimpArgs false
set_option linter.unusedVariables false
namespace Go.Eng.Ytblghgacokoklaa
structure Three (h : Hp) (x : EdS) : Prop where
  a : Buf h x.a 2 89 (outV x.e.out)
  b : Buf h x.b 7 87 (inV x.e.inn)
  c : Buf h x.c 1 9 (ptrV x.e.ptr)
theorem Three.upd {h h' : Hp} {s s' : Sl} {x : EdS} (T : Three h x) (U : Upd h h' s s') (oa : Off x.a s) (ob : Off x.b s) (oc : Off x.c s) : Three h' x := ⟨T.a.upd U oa, T.b.upd U ob, T.c.upd U oc⟩
theorem Three.keep {h h' : Hp} {x : EdS} (T : Three h x) (k : Keep h h') : Three h' x := ⟨T.a.keep k, T.b.keep k, T.c.keep k⟩
def Ap (y z : EdS) : Prop := Off y.a z.a ∧ Off y.b z.b ∧ Off y.c z.c
def PW (L : List EdS) : Prop := L.Pairwise fun y z => Ap y z ∧ Ap z y
/-- A list of edits of one's own. -/
structure Ws (h0 h : Hp) (l1 : Sl) (L : List EdS) : Prop where
  B : Buf h l1 6 60 (edV L)
  T : ∀ y ∈ L, Three h y
  N : ∀ y ∈ L, (y.a.a = none ∨ New h0 y.a) ∧ (y.b.a = none ∨ New h0 y.b) ∧ (y.c.a = none ∨ New h0 y.c)
  N1 : l1.a = none ∨ New h0 l1
  K : Keep h0 h
theorem new_off {h : Hp} {s r : Sl} {sz t : Nat} {vs : List Value} (N : s.a = none ∨ New h s) (B : Buf h r sz t vs) : Off r s ∧ Off s r := by
  have key : ∀ b o o', r.a = some ⟨b, o, none⟩ → s.a = some ⟨b, o', none⟩ → False := by
    intro b o o' e1 e2
    rcases N with h0 | ⟨k, hk, hn⟩
    · rw [h0] at e2; cases e2
    · rw [hk] at e2
      simp only [Option.some.injEq, Addr.mk.injEq] at e2
      rcases B.own with ⟨ha, _⟩ | ⟨b1, c, f, ha, hb, _⟩
      · rw [ha] at e1; cases e1
      · rw [ha] at e1
        simp only [Option.some.injEq, Addr.mk.injEq] at e1
        rw [e1.1, ← e2.1, hn] at hb; cases hb
  exact ⟨fun b o o' e1 e2 => key b o o' e1 e2, fun b o o' e1 e2 => key b o' o e2 e1⟩
theorem PW.other {P R : List EdS} {x : EdS} (h : PW (P ++ x :: R)) {y : EdS} (hy : y ∈ P ∨ y ∈ R) : Ap y x := by
  unfold PW at h
  rw [List.pairwise_append, List.pairwise_cons] at h
  obtain ⟨_, ⟨h2, _⟩, h3⟩ := h
  rcases hy with hy | hy
  · exact (h3 y hy x List.mem_cons_self).1
  · exact (h2 y hy).2
theorem PW.swap {P R : List EdS} {x x' : EdS} (h : PW (P ++ x :: R)) (ha : x'.a.a = x.a.a) (hb : x'.b.a = x.b.a) (hc : x'.c.a = x.c.a) : PW (P ++ x' :: R) := by
  have e1 : ∀ y, Ap y x → Ap y x' := by
    intro y hy
    refine ⟨?_, ?_, ?_⟩
    · have := hy.1; unfold Off at this ⊢; rw [ha]; exact this
    · have := hy.2.1; unfold Off at this ⊢; rw [hb]; exact this
    · have := hy.2.2; unfold Off at this ⊢; rw [hc]; exact this
  have e2 : ∀ y, Ap x y → Ap x' y := by
    intro y hy
    refine ⟨?_, ?_, ?_⟩
    · have := hy.1; unfold Off at this ⊢; rw [ha]; exact this
    · have := hy.2.1; unfold Off at this ⊢; rw [hb]; exact this
    · have := hy.2.2; unfold Off at this ⊢; rw [hc]; exact this
  unfold PW at h ⊢
  rw [List.pairwise_append, List.pairwise_cons] at h ⊢
  obtain ⟨h1, ⟨h2, h4⟩, h3⟩ := h
  refine ⟨h1, ⟨fun y hy => ⟨e2 y (h2 y hy).1, e1 y (h2 y hy).2⟩, h4⟩, fun y hy z hz => ?_⟩
  rcases List.mem_cons.1 hz with rfl | hz
  · have := h3 y hy x List.mem_cons_self
    exact ⟨e1 y this.1, e2 y this.2⟩
  · exact h3 y hy z (List.mem_cons_of_mem _ hz)
theorem mem_mid {P R : List EdS} {x y : EdS} (h : y ∈ P ++ x :: R) : y = x ∨ (y ∈ P ∨ y ∈ R) := by
  rcases List.mem_append.1 h with h | h
  · exact .inr (.inl h)
  · rcases List.mem_cons.1 h with h | h
    · exact .inl h
    · exact .inr (.inr h)
theorem mem_mid' {P R : List EdS} {x y : EdS} (h : y ∈ P ∨ y ∈ R) : y ∈ P ++ x :: R := by
  rcases h with h | h
  · exact List.mem_append_left _ h
  · exact List.mem_append_right _ (List.mem_cons_of_mem _ h)
theorem Ws.x {h0 h : Hp} {l1 : Sl} {P R : List EdS} {x : EdS} (W : Ws h0 h l1 (P ++ x :: R)) : Three h x := W.T x (List.mem_append_right _ List.mem_cons_self)
theorem Ws.nx {h0 h : Hp} {l1 : Sl} {P R : List EdS} {x : EdS} (W : Ws h0 h l1 (P ++ x :: R)) : (x.a.a = none ∨ New h0 x.a) ∧ (x.b.a = none ∨ New h0 x.b) ∧ (x.c.a = none ∨ New h0 x.c) := W.N x (List.mem_append_right _ List.mem_cons_self)
theorem Ws.setA {h0 h h' : Hp} {l1 : Sl} {P R : List EdS} {x : EdS} (W : Ws h0 h l1 (P ++ x :: R)) (hp : PW (P ++ x :: R)) (U : Upd h h' x.a x.a) {o : List Place} (B : Buf h' x.a 2 89 (outV o)) : Ws h0 h' l1 (P ++ ⟨{ x.e with out := o }, x.a, x.b, x.c⟩ :: R) := by
  have X := W.x
  refine ⟨?_, fun y hy => ?_, fun y hy => ?_, W.N1, (keep_grow W.K W.nx.1 U).1⟩
  · have e : edV (P ++ ⟨{ x.e with out := o }, x.a, x.b, x.c⟩ :: R) = edV (P ++ x :: R) := by simp [edV, EdS.cells]
    rw [e]
    exact W.B.upd U (buf_off W.B X.a (by decide))
  · rcases mem_mid hy with rfl | hy
    · exact ⟨B, X.b.upd U (buf_off X.b X.a (by decide)), X.c.upd U (buf_off X.c X.a (by decide))⟩
    · have Y := W.T y (mem_mid' hy)
      exact Y.upd U (hp.other hy).1 (buf_off Y.b X.a (by decide)) (buf_off Y.c X.a (by decide))
  · rcases mem_mid hy with rfl | hy
    · exact W.nx
    · exact W.N y (mem_mid' hy)
theorem Ws.setB {h0 h h' : Hp} {l1 : Sl} {P R : List EdS} {x : EdS} (W : Ws h0 h l1 (P ++ x :: R)) (hp : PW (P ++ x :: R)) (U : Upd h h' x.b x.b) {o : List Placed} (B : Buf h' x.b 7 87 (inV o)) : Ws h0 h' l1 (P ++ ⟨{ x.e with inn := o }, x.a, x.b, x.c⟩ :: R) := by
  have X := W.x
  refine ⟨?_, fun y hy => ?_, fun y hy => ?_, W.N1, (keep_grow W.K W.nx.2.1 U).1⟩
  · have e : edV (P ++ ⟨{ x.e with inn := o }, x.a, x.b, x.c⟩ :: R) = edV (P ++ x :: R) := by simp [edV, EdS.cells]
    rw [e]
    exact W.B.upd U (buf_off W.B X.b (by decide))
  · rcases mem_mid hy with rfl | hy
    · exact ⟨X.a.upd U (buf_off X.a X.b (by decide)), B, X.c.upd U (buf_off X.c X.b (by decide))⟩
    · have Y := W.T y (mem_mid' hy)
      exact Y.upd U (buf_off Y.a X.b (by decide)) (hp.other hy).2.1 (buf_off Y.c X.b (by decide))
  · rcases mem_mid hy with rfl | hy
    · exact W.nx
    · exact W.N y (mem_mid' hy)
theorem Ws.setC {h0 h h' : Hp} {l1 : Sl} {P R : List EdS} {x : EdS} (W : Ws h0 h l1 (P ++ x :: R)) (hp : PW (P ++ x :: R)) (U : Upd h h' x.c x.c) {o : List ByteArray} (B : Buf h' x.c 1 9 (ptrV o)) : Ws h0 h' l1 (P ++ ⟨{ x.e with ptr := o }, x.a, x.b, x.c⟩ :: R) := by
  have X := W.x
  refine ⟨?_, fun y hy => ?_, fun y hy => ?_, W.N1, (keep_grow W.K W.nx.2.2 U).1⟩
  · have e : edV (P ++ ⟨{ x.e with ptr := o }, x.a, x.b, x.c⟩ :: R) = edV (P ++ x :: R) := by simp [edV, EdS.cells]
    rw [e]
    exact W.B.upd U (buf_off W.B X.c (by decide))
  · rcases mem_mid hy with rfl | hy
    · exact ⟨X.a.upd U (buf_off X.a X.c (by decide)), X.b.upd U (buf_off X.b X.c (by decide)), B⟩
    · have Y := W.T y (mem_mid' hy)
      exact Y.upd U (buf_off Y.a X.c (by decide)) (buf_off Y.b X.c (by decide)) (hp.other hy).2.2
  · rcases mem_mid hy with rfl | hy
    · exact W.nx
    · exact W.N y (mem_mid' hy)
/-- Another list of texts is put into the list of edits. -/
theorem Ws.setL {h0 h h' : Hp} {l1 : Sl} {P R : List EdS} {x x' : EdS} (W : Ws h0 h l1 (P ++ x :: R)) (U : Upd h h' l1 l1) (B : Buf h' l1 6 60 (edV (P ++ x' :: R))) (T : Three h x') (N : (x'.a.a = none ∨ New h0 x'.a) ∧ (x'.b.a = none ∨ New h0 x'.b) ∧ (x'.c.a = none ∨ New h0 x'.c)) : Ws h0 h' l1 (P ++ x' :: R) := by
  have key : ∀ y, Three h y → Three h' y := fun y Y => Y.upd U (buf_off Y.a W.B (by decide)) (buf_off Y.b W.B (by decide)) (buf_off Y.c W.B (by decide))
  refine ⟨B, fun y hy => ?_, fun y hy => ?_, W.N1, (keep_grow W.K W.N1 U).1⟩
  · rcases mem_mid hy with rfl | hy
    · exact key _ T
    · exact key _ (W.T y (mem_mid' hy))
  · rcases mem_mid hy with rfl | hy
    · exact N
    · exact W.N y (mem_mid' hy)
/-- WRITING A CELL of a buffer. -/
theorem buf_set {h : Hp} {s : Sl} {sz t k : Nat} {vs : List Value} (B : Buf h s sz t vs) (hk : k < vs.length) : ∃ b, s.a = some ⟨b, 0, none⟩ ∧ h.at b k = vs[k]? ∧ h.canW b k 1 ∧ ∀ v, Upd h (h.wr b k [v]) s s ∧ Buf (h.wr b k [v]) s sz t (vs.set k v) := by
  rcases B.own with ⟨ha, hc⟩ | ⟨b, c, f, ha, hb, hsz, hf, ht⟩
  · have h1 := B.len
    have h2 := B.cap
    have : s.n = 0 := by omega
    rw [this, Nat.zero_mul] at h1
    omega
  · have hlen : vs.length ≤ c.size := by
      rw [B.len]
      exact Nat.le_trans (Nat.mul_le_mul_right _ B.cap) hsz
    have hget : c[k]? = vs[k]? := by
      rw [← ht, List.getElem?_take, if_pos hk, Array.getElem?_toList]
    refine ⟨b, ha, by unfold Hp.at; rw [hb]; exact hget, ⟨c, t, f, hb, by omega, fun j h1 h2 => hf j (by omega)⟩, fun v => ⟨⟨fun j x hj e => ?_, .inl rfl, fun j e => ?_⟩, ⟨by rw [List.length_set]; exact B.len, B.cap, .inr ⟨b, (setL c.toList k [v]).toArray, f, ha, wr_at hb, ?_, ?_, ?_⟩⟩⟩⟩
    · have hjb : j ≠ b := fun q => hj 0 (by rw [q]; exact ha)
      unfold Hp.wr
      rw [if_neg hjb]
      exact e
    · unfold Hp.wr at e
      by_cases hjb : j = b
      · rw [if_pos hjb, hb] at e; cases e
      · rw [if_neg hjb] at e; exact e
    · simp only [List.size_toArray, setL_length, Array.length_toList]; exact hsz
    · intro j hj
      simp only [List.size_toArray, setL_length, Array.length_toList] at hj
      exact hf j hj
    · show ((c.toList.set k v).take (vs.set k v).length) = vs.set k v
      rw [List.length_set, List.take_set, ht]
theorem app_set {α : Type} (A B : List α) (j : Nat) (v : α) : (A ++ B).set (A.length + j) v = A ++ B.set j v := by
  rw [List.set_append_right _ _ (Nat.le_add_right _ _), Nat.add_sub_cancel_left]
theorem app_get {α : Type} (A B : List α) (j : Nat) : (A ++ B)[A.length + j]? = B[j]? := by
  rw [List.getElem?_append_right (Nat.le_add_right _ _), Nat.add_sub_cancel_left]
theorem outV_len (o : List Place) : (outV o).length = o.length * 2 := flat_length Place.cells 2 (fun _ => rfl) o
theorem inV_len (o : List Placed) : (inV o).length = o.length * 7 := flat_length Placed.cells 7 (fun _ => rfl) o
theorem edV_len (o : List EdS) : (edV o).length = o.length * 6 := flat_length EdS.cells 6 (fun _ => rfl) o
/-- COPIES. -/
theorem copied_spec {h : Hp} {l : Sl} {L : List EdS} {Q : Value → Hp → Prop} (A : Args h l L) (hp : parts L ≤ 10000)
    (hQ : ∀ h' l1 L', Ws h h' l1 L' → PW L' → L'.length = L.length → (∀ y ∈ L', Raw y.e ∧ y.e.size ≤ 10000 ∧ y.e.ptr.length ≤ 10000) → Q (.slice l1.a l1.n l1.c) h') : F49.T l h Q := by
  have hln := A.n
  have hpl := parts_len L
  refine ⟨fun l1 n h1 => ∃ (i : Nat) (L' : List EdS), n = (i : Int) ∧ i ≤ L.length ∧ L'.length = i ∧ Ws h h1 l1 L' ∧ PW L' ∧ ∀ y ∈ L', Raw y.e ∧ y.e.size ≤ 10000 ∧ y.e.ptr.length ≤ 10000, fun _ n _ => L.length - n.toNat, ⟨0, [], rfl, Nat.zero_le _, rfl, ⟨Buf.nil h 6 60, fun y hy => (by cases hy), fun y hy => (by cases hy), .inl rfl, Keep.refl h⟩, List.Pairwise.nil, fun y hy => (by cases hy)⟩, ?_⟩
  rintro l1 n h1 ⟨i, L', rfl, hi, hL', W, hpw, hg⟩
  refine ⟨fun hlt => ?_, fun hge => hQ h1 l1 L' W hpw (by omega) hg⟩
  have ia : i < L.length := by omega
  have hx := List.getElem_mem ia
  have hm := parts_mem hx
  have E := (A.at_ _ hx).keep W.K
  obtain ⟨b0, o0, ha0, hat⟩ := row_get (W.K.row A.row) (i := i * 6) (by omega)
  have cc : ∀ j, j < 6 → h1.at b0 ((o0 + i * 6) + j) = (EdS.cells L[i])[j]? := fun j hj => by
    rw [Nat.add_assoc, hat _ (by omega)]
    exact flat_get EdS.cells 6 (fun _ => rfl) L i j ia hj
  have e1 := E.nout
  have e2 := E.ninn
  have e3 := E.nptr
  have w3 : IntKind.wrap .i64 ((i : Int) + 1) = ((i + 1 : Nat) : Int) := by rw [wrap_i64 (by omega) (by omega)]; omega
  rw [Int.toNat_natCast, w3]
  refine ⟨b0, o0, ha0, ⟨by omega, hlt⟩, _, cc 0 (by decide), _, cc 1 (by decide), _, cc 2 (by decide), _, cc 3 (by decide), _, cc 4 (by decide), _, cc 5 (by decide), _, E.out, out_one _, ?_⟩
  refine append_buf (Buf.nil h1 2 89) rfl E.out.1 (by show (0 + _) * 16 ≤ _; omega) fun l5 h2 B5 n5 U5 => ⟨_, (U5.keepNil rfl).row E.inn, in_one _, ?_⟩
  have K5 := U5.keepNil rfl
  refine append_buf (Buf.nil h2 7 87) rfl E.inn.1 (by show (0 + _) * 72 ≤ _; omega) fun l6 h3 B6 n6 U6 => ?_
  have K6 := U6.keepNil rfl
  have hptr := (K5.trans K6).row E.ptr
  refine ⟨_, by rw [Nat.mul_one]; exact hptr, fun v hv => (by obtain ⟨s, _, rfl⟩ := List.mem_map.1 hv; rfl), ?_⟩
  refine append_buf (Buf.nil h3 1 9) rfl (by rw [Nat.mul_one]; exact hptr.1) (by show (0 + _) * 16 ≤ _; omega) fun l7 h4 B7 n7 U7 => ?_
  have K7 := U7.keepNil rfl
  have K14 := (K5.trans K6).trans K7
  have hb1 := ed_n W.B
  refine append_buf (W.B.keep K14) rfl rfl (by omega) fun l8 h5 B8 n8 U8 => ⟨⟨i + 1, L' ++ [⟨L[i].e, l5, l6, l7⟩], rfl, ia, by rw [List.length_append, hL']; rfl, ?_, ?_, ?_⟩, by dsimp only; omega⟩
  · rw [List.nil_append] at B5 B6 B7
    have X : Three h4 ⟨L[i].e, l5, l6, l7⟩ := ⟨B5.keep (K6.trans K7), B6.keep K7, B7⟩
    have key : ∀ y, Three h4 y → Three h5 y := fun y Y => Y.upd U8 (buf_off Y.a (W.B.keep K14) (by decide)) (buf_off Y.b (W.B.keep K14) (by decide)) (buf_off Y.c (W.B.keep K14) (by decide))
    have kg := keep_grow (W.K.trans K14) W.N1 U8
    have nn : ∀ {hh hh' : Hp} {s : Sl}, Keep h hh → Upd hh hh' ⟨none, 0, 0⟩ s → s.a = none ∨ New h s := by
      intro hh hh' s k u
      rcases u.at_ with h0 | ⟨b, hb, hn⟩
      · exact .inl h0
      · exact .inr ⟨b, hb, k.dom b hn⟩
    refine ⟨?_, fun y hy => ?_, fun y hy => ?_, kg.2, kg.1⟩
    · unfold edV at B8 ⊢
      rw [List.flatMap_append]
      simpa [EdS.cells] using B8
    · rcases List.mem_append.1 hy with hy | hy
      · exact key y ((W.T y hy).keep K14)
      · rw [List.mem_singleton] at hy; subst hy; exact key _ X
    · rcases List.mem_append.1 hy with hy | hy
      · exact W.N y hy
      · rw [List.mem_singleton] at hy; subst hy
        exact ⟨nn W.K U5, nn (W.K.trans K5) U6, nn (W.K.trans (K5.trans K6)) U7⟩
  · have nn : ∀ {hh hh' : Hp} {s : Sl}, Keep h1 hh → Upd hh hh' ⟨none, 0, 0⟩ s → s.a = none ∨ New h1 s := by
      intro hh hh' s k u
      rcases u.at_ with h0 | ⟨b, hb, hn⟩
      · exact .inl h0
      · exact .inr ⟨b, hb, k.dom b hn⟩
    unfold PW
    rw [List.pairwise_append]
    refine ⟨hpw, List.pairwise_singleton _ _, fun y hy z hz => ?_⟩
    rw [List.mem_singleton] at hz
    subst hz
    have Y := W.T y hy
    have a1 := new_off (nn (Keep.refl h1) U5) Y.a
    have a2 := new_off (nn K5 U6) Y.b
    have a3 := new_off (nn (K5.trans K6) U7) Y.c
    exact ⟨⟨a1.1, a2.1, a3.1⟩, ⟨a1.2, a2.2, a3.2⟩⟩
  · intro y hy
    rcases List.mem_append.1 hy with hy | hy
    · exact hg y hy
    · rw [List.mem_singleton] at hy; subst hy
      exact ⟨A.raw L[i] hx, by show L[i].e.out.length + L[i].e.inn.length ≤ 10000; omega, by show L[i].e.ptr.length ≤ 10000; omega⟩
end Go.Eng.Ytblghgacokoklaa
end
section
set_option maxRecDepth 100000
set_option linter.unusedVariables false
open Go.Proofs
namespace Go.Eng.Ytblghgacokoklaa
def F17.T (l : Sl) : PT := fun h Q =>
  F49.T l h fun r h1 => ∃ l1 : Sl, r = .slice l1.a l1.n l1.c ∧ ∃ (I : Int → Hp → Prop) (m : Int → Hp → Nat), I 0 h1 ∧ (∀ n : Int, ∀ h2 : Hp, I n h2 → par (n < (l1.n : Int)) (∃ (I1 : Int → Hp → Prop) (m1 : Int → Hp → Nat), I1 0 h2 ∧ (∀ n1 : Int, ∀ h3 : Hp, I1 n1 h3 → ∃ b o, (l1.a : Option Addr) = some ⟨b, o, none⟩ ∧ ((0 : Int) ≤ n ∧ n < (l1.n : Int)) ∧ ∃ l2 : Sl, h3.at b ((o + n.toNat * 6) + 3) = some (.slice l2.a l2.n l2.c) ∧ par (n1 < (l2.n : Int)) (∃ b1 o1, (l1.a : Option Addr) = some ⟨b1, o1, none⟩ ∧ ((0 : Int) ≤ n ∧ n < (l1.n : Int)) ∧ ∃ l3 : Sl, h3.at b1 ((o1 + n.toNat * 6) + 3) = some (.slice l3.a l3.n l3.c) ∧ ∃ b2 o2, (l1.a : Option Addr) = some ⟨b2, o2, none⟩ ∧ ((0 : Int) ≤ n ∧ n < (l1.n : Int)) ∧ ∃ l4 : Sl, h3.at b2 ((o2 + n.toNat * 6) + 3) = some (.slice l4.a l4.n l4.c) ∧ ∃ b3 o3, (l4.a : Option Addr) = some ⟨b3, o3, none⟩ ∧ ((0 : Int) ≤ n1 ∧ n1 < (l4.n : Int)) ∧ ∃ n2 : Int, h3.at b3 (o3 + n1.toNat * 2) = some (.int .i64 n2) ∧ F19.T n2 5 h3 fun r1 h4 => ∃ n3 : Int, r1 = .int .i64 n3 ∧ h4.at b1 ((o1 + n.toNat * 6) + 3) = some (.slice l3.a l3.n l3.c) ∧ ∃ b4 o4, (l3.a : Option Addr) = some ⟨b4, o4, none⟩ ∧ ((0 : Int) ≤ n1 ∧ n1 < (l3.n : Int)) ∧ h4.canW b4 (o4 + n1.toNat * 2) 1 ∧ I1 (IntKind.wrap .i64 (n1 + 1)) (h4.wr b4 (o4 + n1.toNat * 2) [.int .i64 n3]) ∧ m1 (IntKind.wrap .i64 (n1 + 1)) (h4.wr b4 (o4 + n1.toNat * 2) [.int .i64 n3]) < m1 n1 h3) (∃ (I2 : Int → Hp → Prop) (m2 : Int → Hp → Nat), I2 0 h3 ∧ (∀ n4 : Int, ∀ h5 : Hp, I2 n4 h5 → ∃ b5 o5, (l1.a : Option Addr) = some ⟨b5, o5, none⟩ ∧ ((0 : Int) ≤ n ∧ n < (l1.n : Int)) ∧ ∃ l5 : Sl, h5.at b5 ((o5 + n.toNat * 6) + 4) = some (.slice l5.a l5.n l5.c) ∧ par (n4 < (l5.n : Int)) (∃ b6 o6, (l1.a : Option Addr) = some ⟨b6, o6, none⟩ ∧ ((0 : Int) ≤ n ∧ n < (l1.n : Int)) ∧ ∃ l6 : Sl, h5.at b6 ((o6 + n.toNat * 6) + 4) = some (.slice l6.a l6.n l6.c) ∧ ∃ b7 o7, (l6.a : Option Addr) = some ⟨b7, o7, none⟩ ∧ ((0 : Int) ≤ n4 ∧ n4 < (l6.n : Int)) ∧ ∃ n5 : Int, h5.at b7 (o7 + n4.toNat * 7) = some (.int .i64 n5) ∧ F19.T n5 5 h5 fun r2 h6 => ∃ n6 : Int, r2 = .int .i64 n6 ∧ h6.canW b7 (o7 + n4.toNat * 7) 1 ∧ ∃ n7 : Int, (h6.wr b7 (o7 + n4.toNat * 7) [.int .i64 n6]).at b7 (((o7 + n4.toNat * 7) + 1) + 1) = some (.int .i64 n7) ∧ ∃ n8 : Int, (h6.wr b7 (o7 + n4.toNat * 7) [.int .i64 n6]).at b7 (((o7 + n4.toNat * 7) + 1) + 2) = some (.int .i64 n8) ∧ ∃ n9 : Int, (h6.wr b7 (o7 + n4.toNat * 7) [.int .i64 n6]).at b7 (((o7 + n4.toNat * 7) + 1) + 3) = some (.int .i64 n9) ∧ (h6.wr b7 (o7 + n4.toNat * 7) [.int .i64 n6]).canW b7 (((o7 + n4.toNat * 7) + 1) + 1) 1 ∧ ((h6.wr b7 (o7 + n4.toNat * 7) [.int .i64 n6]).wr b7 (((o7 + n4.toNat * 7) + 1) + 1) [.int .i64 (iMax n7 0)]).canW b7 (((o7 + n4.toNat * 7) + 1) + 2) 1 ∧ (((h6.wr b7 (o7 + n4.toNat * 7) [.int .i64 n6]).wr b7 (((o7 + n4.toNat * 7) + 1) + 1) [.int .i64 (iMax n7 0)]).wr b7 (((o7 + n4.toNat * 7) + 1) + 2) [.int .i64 (iMax n8 0)]).canW b7 (((o7 + n4.toNat * 7) + 1) + 3) 1 ∧ ∃ s : ByteArray, ((((h6.wr b7 (o7 + n4.toNat * 7) [.int .i64 n6]).wr b7 (((o7 + n4.toNat * 7) + 1) + 1) [.int .i64 (iMax n7 0)]).wr b7 (((o7 + n4.toNat * 7) + 1) + 2) [.int .i64 (iMax n8 0)]).wr b7 (((o7 + n4.toNat * 7) + 1) + 3) [.int .i64 (iMax n9 0)]).at b7 (((o7 + n4.toNat * 7) + 1) + 4) = some (.string s) ∧ ∃ s1 : ByteArray, ((((h6.wr b7 (o7 + n4.toNat * 7) [.int .i64 n6]).wr b7 (((o7 + n4.toNat * 7) + 1) + 1) [.int .i64 (iMax n7 0)]).wr b7 (((o7 + n4.toNat * 7) + 1) + 2) [.int .i64 (iMax n8 0)]).wr b7 (((o7 + n4.toNat * 7) + 1) + 3) [.int .i64 (iMax n9 0)]).at b7 (((o7 + n4.toNat * 7) + 1) + 4) = some (.string s1) ∧ okSub s 0 (iMin (s1.size : Int) 64) ∧ ((((h6.wr b7 (o7 + n4.toNat * 7) [.int .i64 n6]).wr b7 (((o7 + n4.toNat * 7) + 1) + 1) [.int .i64 (iMax n7 0)]).wr b7 (((o7 + n4.toNat * 7) + 1) + 2) [.int .i64 (iMax n8 0)]).wr b7 (((o7 + n4.toNat * 7) + 1) + 3) [.int .i64 (iMax n9 0)]).canW b7 (((o7 + n4.toNat * 7) + 1) + 4) 1 ∧ ∃ s2 : ByteArray, (((((h6.wr b7 (o7 + n4.toNat * 7) [.int .i64 n6]).wr b7 (((o7 + n4.toNat * 7) + 1) + 1) [.int .i64 (iMax n7 0)]).wr b7 (((o7 + n4.toNat * 7) + 1) + 2) [.int .i64 (iMax n8 0)]).wr b7 (((o7 + n4.toNat * 7) + 1) + 3) [.int .i64 (iMax n9 0)]).wr b7 (((o7 + n4.toNat * 7) + 1) + 4) [.string (s.extract (0 : Int).toNat ((iMin (s1.size : Int) 64) : Int).toNat)]).at b7 (((o7 + n4.toNat * 7) + 1) + 5) = some (.string s2) ∧ ∃ s3 : ByteArray, (((((h6.wr b7 (o7 + n4.toNat * 7) [.int .i64 n6]).wr b7 (((o7 + n4.toNat * 7) + 1) + 1) [.int .i64 (iMax n7 0)]).wr b7 (((o7 + n4.toNat * 7) + 1) + 2) [.int .i64 (iMax n8 0)]).wr b7 (((o7 + n4.toNat * 7) + 1) + 3) [.int .i64 (iMax n9 0)]).wr b7 (((o7 + n4.toNat * 7) + 1) + 4) [.string (s.extract (0 : Int).toNat ((iMin (s1.size : Int) 64) : Int).toNat)]).at b7 (((o7 + n4.toNat * 7) + 1) + 5) = some (.string s3) ∧ okSub s2 0 (iMin (s3.size : Int) 64) ∧ (((((h6.wr b7 (o7 + n4.toNat * 7) [.int .i64 n6]).wr b7 (((o7 + n4.toNat * 7) + 1) + 1) [.int .i64 (iMax n7 0)]).wr b7 (((o7 + n4.toNat * 7) + 1) + 2) [.int .i64 (iMax n8 0)]).wr b7 (((o7 + n4.toNat * 7) + 1) + 3) [.int .i64 (iMax n9 0)]).wr b7 (((o7 + n4.toNat * 7) + 1) + 4) [.string (s.extract (0 : Int).toNat ((iMin (s1.size : Int) 64) : Int).toNat)]).canW b7 (((o7 + n4.toNat * 7) + 1) + 5) 1 ∧ I2 (IntKind.wrap .i64 (n4 + 1)) ((((((h6.wr b7 (o7 + n4.toNat * 7) [.int .i64 n6]).wr b7 (((o7 + n4.toNat * 7) + 1) + 1) [.int .i64 (iMax n7 0)]).wr b7 (((o7 + n4.toNat * 7) + 1) + 2) [.int .i64 (iMax n8 0)]).wr b7 (((o7 + n4.toNat * 7) + 1) + 3) [.int .i64 (iMax n9 0)]).wr b7 (((o7 + n4.toNat * 7) + 1) + 4) [.string (s.extract (0 : Int).toNat ((iMin (s1.size : Int) 64) : Int).toNat)]).wr b7 (((o7 + n4.toNat * 7) + 1) + 5) [.string (s2.extract (0 : Int).toNat ((iMin (s3.size : Int) 64) : Int).toNat)]) ∧ m2 (IntKind.wrap .i64 (n4 + 1)) ((((((h6.wr b7 (o7 + n4.toNat * 7) [.int .i64 n6]).wr b7 (((o7 + n4.toNat * 7) + 1) + 1) [.int .i64 (iMax n7 0)]).wr b7 (((o7 + n4.toNat * 7) + 1) + 2) [.int .i64 (iMax n8 0)]).wr b7 (((o7 + n4.toNat * 7) + 1) + 3) [.int .i64 (iMax n9 0)]).wr b7 (((o7 + n4.toNat * 7) + 1) + 4) [.string (s.extract (0 : Int).toNat ((iMin (s1.size : Int) 64) : Int).toNat)]).wr b7 (((o7 + n4.toNat * 7) + 1) + 5) [.string (s2.extract (0 : Int).toNat ((iMin (s3.size : Int) 64) : Int).toNat)]) < m2 n4 h5) (∃ b8 o8, (l1.a : Option Addr) = some ⟨b8, o8, none⟩ ∧ ((0 : Int) ≤ n ∧ n < (l1.n : Int)) ∧ ∃ l7 : Sl, h5.at b8 ((o8 + n.toNat * 6) + 5) = some (.slice l7.a l7.n l7.c) ∧ ∃ b9 o9, (l1.a : Option Addr) = some ⟨b9, o9, none⟩ ∧ ((0 : Int) ≤ n ∧ n < (l1.n : Int)) ∧ ∃ l8 : Sl, h5.at b9 ((o9 + n.toNat * 6) + 5) = some (.slice l8.a l8.n l8.c) ∧ Sl.okCut l7 0 (iMin (l8.n : Int) 5) (l7.c : Int) ∧ ∃ b10 o10, (l1.a : Option Addr) = some ⟨b10, o10, none⟩ ∧ ((0 : Int) ≤ n ∧ n < (l1.n : Int)) ∧ h5.canW b10 ((o10 + n.toNat * 6) + 5) 1 ∧ ∃ (I3 : Int → Hp → Prop) (m3 : Int → Hp → Nat), I3 0 (h5.wr b10 ((o10 + n.toNat * 6) + 5) [.slice (Sl.cut l7 1 0 (iMin (l8.n : Int) 5) (l7.c : Int)).a (Sl.cut l7 1 0 (iMin (l8.n : Int) 5) (l7.c : Int)).n (Sl.cut l7 1 0 (iMin (l8.n : Int) 5) (l7.c : Int)).c]) ∧ (∀ n10 : Int, ∀ h7 : Hp, I3 n10 h7 → ∃ b11 o11, (l1.a : Option Addr) = some ⟨b11, o11, none⟩ ∧ ((0 : Int) ≤ n ∧ n < (l1.n : Int)) ∧ ∃ l9 : Sl, h7.at b11 ((o11 + n.toNat * 6) + 5) = some (.slice l9.a l9.n l9.c) ∧ par (n10 < (l9.n : Int)) (∃ b12 o12, (l1.a : Option Addr) = some ⟨b12, o12, none⟩ ∧ ((0 : Int) ≤ n ∧ n < (l1.n : Int)) ∧ ∃ l10 : Sl, h7.at b12 ((o12 + n.toNat * 6) + 5) = some (.slice l10.a l10.n l10.c) ∧ ∃ b13 o13, (l1.a : Option Addr) = some ⟨b13, o13, none⟩ ∧ ((0 : Int) ≤ n ∧ n < (l1.n : Int)) ∧ ∃ l11 : Sl, h7.at b13 ((o13 + n.toNat * 6) + 5) = some (.slice l11.a l11.n l11.c) ∧ ∃ b14 o14, (l11.a : Option Addr) = some ⟨b14, o14, none⟩ ∧ ((0 : Int) ≤ n10 ∧ n10 < (l11.n : Int)) ∧ ∃ s4 : ByteArray, h7.at b14 (o14 + n10.toNat) = some (.string s4) ∧ ∃ b15 o15, (l1.a : Option Addr) = some ⟨b15, o15, none⟩ ∧ ((0 : Int) ≤ n ∧ n < (l1.n : Int)) ∧ ∃ l12 : Sl, h7.at b15 ((o15 + n.toNat * 6) + 5) = some (.slice l12.a l12.n l12.c) ∧ ∃ b16 o16, (l12.a : Option Addr) = some ⟨b16, o16, none⟩ ∧ ((0 : Int) ≤ n10 ∧ n10 < (l12.n : Int)) ∧ ∃ s5 : ByteArray, h7.at b16 (o16 + n10.toNat) = some (.string s5) ∧ okSub s4 0 (iMin (s5.size : Int) 64) ∧ ∃ b17 o17, (l10.a : Option Addr) = some ⟨b17, o17, none⟩ ∧ ((0 : Int) ≤ n10 ∧ n10 < (l10.n : Int)) ∧ h7.canW b17 (o17 + n10.toNat) 1 ∧ I3 (IntKind.wrap .i64 (n10 + 1)) (h7.wr b17 (o17 + n10.toNat) [.string (s4.extract (0 : Int).toNat ((iMin (s5.size : Int) 64) : Int).toNat)]) ∧ m3 (IntKind.wrap .i64 (n10 + 1)) (h7.wr b17 (o17 + n10.toNat) [.string (s4.extract (0 : Int).toNat ((iMin (s5.size : Int) 64) : Int).toNat)]) < m3 n10 h7) (I (IntKind.wrap .i64 (n + 1)) h7 ∧ m (IntKind.wrap .i64 (n + 1)) h7 < m n h2))))))) (Q (.slice l1.a l1.n l1.c) h2))
theorem F17.gen (V : Value → List Value → PT) (T19 : Int → Int → PT) (T49 : Sl → PT) (l : Sl) : denF Try.prog [] [(19, F19.W T19), (49, F49.W T49)] V [(58, .loop [(4, .int .i64)] []), (7458, .loop [(5, .int .i64)] []), (7462, .order [0, 1, 2, 3, 4, 5, 6, 7, 8, 9, 10, 11, 12, 13, 14, 15, 16, 17]), (14922, .loop [(6, .int .i64)] []), (29854, .loop [(8, .int .i64)] []), (119332, .order [0, 1, 2, 3, 4, 5, 6, 7, 8, 9, 10, 11, 12, 13, 14, 15, 16, 17, 18]), (477668, .order [0, 1, 2, 3, 4, 5, 6, 7, 8, 9, 10, 11, 12, 13, 14, 15, 16, 17, 18, 19, 20, 21, 22, 23, 24, 25, 26]), (1910054, .order [0, 1, 2, 3, 4, 5, 6, 7, 8, 9, 10, 11, 12, 13, 14, 15, 16, 17, 18, 19, 20, 21, 22, 23, 24, 25, 26, 27, 28, 29, 30, 31, 32]), (3820110, .order [0, 1, 2, 3, 4, 5, 6, 7, 8, 9, 10, 11, 12, 13, 14, 15, 16, 17]), (3820111, .order [0, 1, 2, 3, 4, 5, 6, 7, 8, 9, 10, 11, 12, 13, 14, 15, 16, 17])] Try.f17 [.v (.slice l.a l.n l.c)] = fun h Q =>
  T49 l h fun r h1 => ∃ l1 : Sl, r = .slice l1.a l1.n l1.c ∧ ∃ (I : Int → Hp → Prop) (m : Int → Hp → Nat), I 0 h1 ∧ (∀ n : Int, ∀ h2 : Hp, I n h2 → par (n < (l1.n : Int)) (∃ (I1 : Int → Hp → Prop) (m1 : Int → Hp → Nat), I1 0 h2 ∧ (∀ n1 : Int, ∀ h3 : Hp, I1 n1 h3 → ∃ b o, (l1.a : Option Addr) = some ⟨b, o, none⟩ ∧ ((0 : Int) ≤ n ∧ n < (l1.n : Int)) ∧ ∃ l2 : Sl, h3.at b ((o + n.toNat * 6) + 3) = some (.slice l2.a l2.n l2.c) ∧ par (n1 < (l2.n : Int)) (∃ b1 o1, (l1.a : Option Addr) = some ⟨b1, o1, none⟩ ∧ ((0 : Int) ≤ n ∧ n < (l1.n : Int)) ∧ ∃ l3 : Sl, h3.at b1 ((o1 + n.toNat * 6) + 3) = some (.slice l3.a l3.n l3.c) ∧ ∃ b2 o2, (l1.a : Option Addr) = some ⟨b2, o2, none⟩ ∧ ((0 : Int) ≤ n ∧ n < (l1.n : Int)) ∧ ∃ l4 : Sl, h3.at b2 ((o2 + n.toNat * 6) + 3) = some (.slice l4.a l4.n l4.c) ∧ ∃ b3 o3, (l4.a : Option Addr) = some ⟨b3, o3, none⟩ ∧ ((0 : Int) ≤ n1 ∧ n1 < (l4.n : Int)) ∧ ∃ n2 : Int, h3.at b3 (o3 + n1.toNat * 2) = some (.int .i64 n2) ∧ T19 n2 5 h3 fun r1 h4 => ∃ n3 : Int, r1 = .int .i64 n3 ∧ h4.at b1 ((o1 + n.toNat * 6) + 3) = some (.slice l3.a l3.n l3.c) ∧ ∃ b4 o4, (l3.a : Option Addr) = some ⟨b4, o4, none⟩ ∧ ((0 : Int) ≤ n1 ∧ n1 < (l3.n : Int)) ∧ h4.canW b4 (o4 + n1.toNat * 2) 1 ∧ I1 (IntKind.wrap .i64 (n1 + 1)) (h4.wr b4 (o4 + n1.toNat * 2) [.int .i64 n3]) ∧ m1 (IntKind.wrap .i64 (n1 + 1)) (h4.wr b4 (o4 + n1.toNat * 2) [.int .i64 n3]) < m1 n1 h3) (∃ (I2 : Int → Hp → Prop) (m2 : Int → Hp → Nat), I2 0 h3 ∧ (∀ n4 : Int, ∀ h5 : Hp, I2 n4 h5 → ∃ b5 o5, (l1.a : Option Addr) = some ⟨b5, o5, none⟩ ∧ ((0 : Int) ≤ n ∧ n < (l1.n : Int)) ∧ ∃ l5 : Sl, h5.at b5 ((o5 + n.toNat * 6) + 4) = some (.slice l5.a l5.n l5.c) ∧ par (n4 < (l5.n : Int)) (∃ b6 o6, (l1.a : Option Addr) = some ⟨b6, o6, none⟩ ∧ ((0 : Int) ≤ n ∧ n < (l1.n : Int)) ∧ ∃ l6 : Sl, h5.at b6 ((o6 + n.toNat * 6) + 4) = some (.slice l6.a l6.n l6.c) ∧ ∃ b7 o7, (l6.a : Option Addr) = some ⟨b7, o7, none⟩ ∧ ((0 : Int) ≤ n4 ∧ n4 < (l6.n : Int)) ∧ ∃ n5 : Int, h5.at b7 (o7 + n4.toNat * 7) = some (.int .i64 n5) ∧ T19 n5 5 h5 fun r2 h6 => ∃ n6 : Int, r2 = .int .i64 n6 ∧ h6.canW b7 (o7 + n4.toNat * 7) 1 ∧ ∃ n7 : Int, (h6.wr b7 (o7 + n4.toNat * 7) [.int .i64 n6]).at b7 (((o7 + n4.toNat * 7) + 1) + 1) = some (.int .i64 n7) ∧ ∃ n8 : Int, (h6.wr b7 (o7 + n4.toNat * 7) [.int .i64 n6]).at b7 (((o7 + n4.toNat * 7) + 1) + 2) = some (.int .i64 n8) ∧ ∃ n9 : Int, (h6.wr b7 (o7 + n4.toNat * 7) [.int .i64 n6]).at b7 (((o7 + n4.toNat * 7) + 1) + 3) = some (.int .i64 n9) ∧ (h6.wr b7 (o7 + n4.toNat * 7) [.int .i64 n6]).canW b7 (((o7 + n4.toNat * 7) + 1) + 1) 1 ∧ ((h6.wr b7 (o7 + n4.toNat * 7) [.int .i64 n6]).wr b7 (((o7 + n4.toNat * 7) + 1) + 1) [.int .i64 (iMax n7 0)]).canW b7 (((o7 + n4.toNat * 7) + 1) + 2) 1 ∧ (((h6.wr b7 (o7 + n4.toNat * 7) [.int .i64 n6]).wr b7 (((o7 + n4.toNat * 7) + 1) + 1) [.int .i64 (iMax n7 0)]).wr b7 (((o7 + n4.toNat * 7) + 1) + 2) [.int .i64 (iMax n8 0)]).canW b7 (((o7 + n4.toNat * 7) + 1) + 3) 1 ∧ ∃ s : ByteArray, ((((h6.wr b7 (o7 + n4.toNat * 7) [.int .i64 n6]).wr b7 (((o7 + n4.toNat * 7) + 1) + 1) [.int .i64 (iMax n7 0)]).wr b7 (((o7 + n4.toNat * 7) + 1) + 2) [.int .i64 (iMax n8 0)]).wr b7 (((o7 + n4.toNat * 7) + 1) + 3) [.int .i64 (iMax n9 0)]).at b7 (((o7 + n4.toNat * 7) + 1) + 4) = some (.string s) ∧ ∃ s1 : ByteArray, ((((h6.wr b7 (o7 + n4.toNat * 7) [.int .i64 n6]).wr b7 (((o7 + n4.toNat * 7) + 1) + 1) [.int .i64 (iMax n7 0)]).wr b7 (((o7 + n4.toNat * 7) + 1) + 2) [.int .i64 (iMax n8 0)]).wr b7 (((o7 + n4.toNat * 7) + 1) + 3) [.int .i64 (iMax n9 0)]).at b7 (((o7 + n4.toNat * 7) + 1) + 4) = some (.string s1) ∧ okSub s 0 (iMin (s1.size : Int) 64) ∧ ((((h6.wr b7 (o7 + n4.toNat * 7) [.int .i64 n6]).wr b7 (((o7 + n4.toNat * 7) + 1) + 1) [.int .i64 (iMax n7 0)]).wr b7 (((o7 + n4.toNat * 7) + 1) + 2) [.int .i64 (iMax n8 0)]).wr b7 (((o7 + n4.toNat * 7) + 1) + 3) [.int .i64 (iMax n9 0)]).canW b7 (((o7 + n4.toNat * 7) + 1) + 4) 1 ∧ ∃ s2 : ByteArray, (((((h6.wr b7 (o7 + n4.toNat * 7) [.int .i64 n6]).wr b7 (((o7 + n4.toNat * 7) + 1) + 1) [.int .i64 (iMax n7 0)]).wr b7 (((o7 + n4.toNat * 7) + 1) + 2) [.int .i64 (iMax n8 0)]).wr b7 (((o7 + n4.toNat * 7) + 1) + 3) [.int .i64 (iMax n9 0)]).wr b7 (((o7 + n4.toNat * 7) + 1) + 4) [.string (s.extract (0 : Int).toNat ((iMin (s1.size : Int) 64) : Int).toNat)]).at b7 (((o7 + n4.toNat * 7) + 1) + 5) = some (.string s2) ∧ ∃ s3 : ByteArray, (((((h6.wr b7 (o7 + n4.toNat * 7) [.int .i64 n6]).wr b7 (((o7 + n4.toNat * 7) + 1) + 1) [.int .i64 (iMax n7 0)]).wr b7 (((o7 + n4.toNat * 7) + 1) + 2) [.int .i64 (iMax n8 0)]).wr b7 (((o7 + n4.toNat * 7) + 1) + 3) [.int .i64 (iMax n9 0)]).wr b7 (((o7 + n4.toNat * 7) + 1) + 4) [.string (s.extract (0 : Int).toNat ((iMin (s1.size : Int) 64) : Int).toNat)]).at b7 (((o7 + n4.toNat * 7) + 1) + 5) = some (.string s3) ∧ okSub s2 0 (iMin (s3.size : Int) 64) ∧ (((((h6.wr b7 (o7 + n4.toNat * 7) [.int .i64 n6]).wr b7 (((o7 + n4.toNat * 7) + 1) + 1) [.int .i64 (iMax n7 0)]).wr b7 (((o7 + n4.toNat * 7) + 1) + 2) [.int .i64 (iMax n8 0)]).wr b7 (((o7 + n4.toNat * 7) + 1) + 3) [.int .i64 (iMax n9 0)]).wr b7 (((o7 + n4.toNat * 7) + 1) + 4) [.string (s.extract (0 : Int).toNat ((iMin (s1.size : Int) 64) : Int).toNat)]).canW b7 (((o7 + n4.toNat * 7) + 1) + 5) 1 ∧ I2 (IntKind.wrap .i64 (n4 + 1)) ((((((h6.wr b7 (o7 + n4.toNat * 7) [.int .i64 n6]).wr b7 (((o7 + n4.toNat * 7) + 1) + 1) [.int .i64 (iMax n7 0)]).wr b7 (((o7 + n4.toNat * 7) + 1) + 2) [.int .i64 (iMax n8 0)]).wr b7 (((o7 + n4.toNat * 7) + 1) + 3) [.int .i64 (iMax n9 0)]).wr b7 (((o7 + n4.toNat * 7) + 1) + 4) [.string (s.extract (0 : Int).toNat ((iMin (s1.size : Int) 64) : Int).toNat)]).wr b7 (((o7 + n4.toNat * 7) + 1) + 5) [.string (s2.extract (0 : Int).toNat ((iMin (s3.size : Int) 64) : Int).toNat)]) ∧ m2 (IntKind.wrap .i64 (n4 + 1)) ((((((h6.wr b7 (o7 + n4.toNat * 7) [.int .i64 n6]).wr b7 (((o7 + n4.toNat * 7) + 1) + 1) [.int .i64 (iMax n7 0)]).wr b7 (((o7 + n4.toNat * 7) + 1) + 2) [.int .i64 (iMax n8 0)]).wr b7 (((o7 + n4.toNat * 7) + 1) + 3) [.int .i64 (iMax n9 0)]).wr b7 (((o7 + n4.toNat * 7) + 1) + 4) [.string (s.extract (0 : Int).toNat ((iMin (s1.size : Int) 64) : Int).toNat)]).wr b7 (((o7 + n4.toNat * 7) + 1) + 5) [.string (s2.extract (0 : Int).toNat ((iMin (s3.size : Int) 64) : Int).toNat)]) < m2 n4 h5) (∃ b8 o8, (l1.a : Option Addr) = some ⟨b8, o8, none⟩ ∧ ((0 : Int) ≤ n ∧ n < (l1.n : Int)) ∧ ∃ l7 : Sl, h5.at b8 ((o8 + n.toNat * 6) + 5) = some (.slice l7.a l7.n l7.c) ∧ ∃ b9 o9, (l1.a : Option Addr) = some ⟨b9, o9, none⟩ ∧ ((0 : Int) ≤ n ∧ n < (l1.n : Int)) ∧ ∃ l8 : Sl, h5.at b9 ((o9 + n.toNat * 6) + 5) = some (.slice l8.a l8.n l8.c) ∧ Sl.okCut l7 0 (iMin (l8.n : Int) 5) (l7.c : Int) ∧ ∃ b10 o10, (l1.a : Option Addr) = some ⟨b10, o10, none⟩ ∧ ((0 : Int) ≤ n ∧ n < (l1.n : Int)) ∧ h5.canW b10 ((o10 + n.toNat * 6) + 5) 1 ∧ ∃ (I3 : Int → Hp → Prop) (m3 : Int → Hp → Nat), I3 0 (h5.wr b10 ((o10 + n.toNat * 6) + 5) [.slice (Sl.cut l7 1 0 (iMin (l8.n : Int) 5) (l7.c : Int)).a (Sl.cut l7 1 0 (iMin (l8.n : Int) 5) (l7.c : Int)).n (Sl.cut l7 1 0 (iMin (l8.n : Int) 5) (l7.c : Int)).c]) ∧ (∀ n10 : Int, ∀ h7 : Hp, I3 n10 h7 → ∃ b11 o11, (l1.a : Option Addr) = some ⟨b11, o11, none⟩ ∧ ((0 : Int) ≤ n ∧ n < (l1.n : Int)) ∧ ∃ l9 : Sl, h7.at b11 ((o11 + n.toNat * 6) + 5) = some (.slice l9.a l9.n l9.c) ∧ par (n10 < (l9.n : Int)) (∃ b12 o12, (l1.a : Option Addr) = some ⟨b12, o12, none⟩ ∧ ((0 : Int) ≤ n ∧ n < (l1.n : Int)) ∧ ∃ l10 : Sl, h7.at b12 ((o12 + n.toNat * 6) + 5) = some (.slice l10.a l10.n l10.c) ∧ ∃ b13 o13, (l1.a : Option Addr) = some ⟨b13, o13, none⟩ ∧ ((0 : Int) ≤ n ∧ n < (l1.n : Int)) ∧ ∃ l11 : Sl, h7.at b13 ((o13 + n.toNat * 6) + 5) = some (.slice l11.a l11.n l11.c) ∧ ∃ b14 o14, (l11.a : Option Addr) = some ⟨b14, o14, none⟩ ∧ ((0 : Int) ≤ n10 ∧ n10 < (l11.n : Int)) ∧ ∃ s4 : ByteArray, h7.at b14 (o14 + n10.toNat) = some (.string s4) ∧ ∃ b15 o15, (l1.a : Option Addr) = some ⟨b15, o15, none⟩ ∧ ((0 : Int) ≤ n ∧ n < (l1.n : Int)) ∧ ∃ l12 : Sl, h7.at b15 ((o15 + n.toNat * 6) + 5) = some (.slice l12.a l12.n l12.c) ∧ ∃ b16 o16, (l12.a : Option Addr) = some ⟨b16, o16, none⟩ ∧ ((0 : Int) ≤ n10 ∧ n10 < (l12.n : Int)) ∧ ∃ s5 : ByteArray, h7.at b16 (o16 + n10.toNat) = some (.string s5) ∧ okSub s4 0 (iMin (s5.size : Int) 64) ∧ ∃ b17 o17, (l10.a : Option Addr) = some ⟨b17, o17, none⟩ ∧ ((0 : Int) ≤ n10 ∧ n10 < (l10.n : Int)) ∧ h7.canW b17 (o17 + n10.toNat) 1 ∧ I3 (IntKind.wrap .i64 (n10 + 1)) (h7.wr b17 (o17 + n10.toNat) [.string (s4.extract (0 : Int).toNat ((iMin (s5.size : Int) 64) : Int).toNat)]) ∧ m3 (IntKind.wrap .i64 (n10 + 1)) (h7.wr b17 (o17 + n10.toNat) [.string (s4.extract (0 : Int).toNat ((iMin (s5.size : Int) 64) : Int).toNat)]) < m3 n10 h7) (I (IntKind.wrap .i64 (n + 1)) h7 ∧ m (IntKind.wrap .i64 (n + 1)) h7 < m n h2))))))) (Q (.slice l1.a l1.n l1.c) h2)) := by kernel_rfl
theorem F17.den (V : Value → List Value → PT) (l : Sl) : denF Try.prog [] [(19, F19.V), (49, F49.V)] V [(58, .loop [(4, .int .i64)] []), (7458, .loop [(5, .int .i64)] []), (7462, .order [0, 1, 2, 3, 4, 5, 6, 7, 8, 9, 10, 11, 12, 13, 14, 15, 16, 17]), (14922, .loop [(6, .int .i64)] []), (29854, .loop [(8, .int .i64)] []), (119332, .order [0, 1, 2, 3, 4, 5, 6, 7, 8, 9, 10, 11, 12, 13, 14, 15, 16, 17, 18]), (477668, .order [0, 1, 2, 3, 4, 5, 6, 7, 8, 9, 10, 11, 12, 13, 14, 15, 16, 17, 18, 19, 20, 21, 22, 23, 24, 25, 26]), (1910054, .order [0, 1, 2, 3, 4, 5, 6, 7, 8, 9, 10, 11, 12, 13, 14, 15, 16, 17, 18, 19, 20, 21, 22, 23, 24, 25, 26, 27, 28, 29, 30, 31, 32]), (3820110, .order [0, 1, 2, 3, 4, 5, 6, 7, 8, 9, 10, 11, 12, 13, 14, 15, 16, 17]), (3820111, .order [0, 1, 2, 3, 4, 5, 6, 7, 8, 9, 10, 11, 12, 13, 14, 15, 16, 17])] Try.f17 [.v (.slice l.a l.n l.c)] = F17.T l := F17.gen V F19.T F49.T l
def F17.W (T17 : Sl → PT) (args : List Value) : PT := match args with
  | [.slice l_a l_n l_c] => T17 ⟨l_a, l_n, l_c⟩
  | _ => fun _ _ => False
def F17.V : List Value → PT := F17.W F17.T
theorem F17.ok : FOk Try.prog 17 F17.V := by
  refine ⟨⟨_, Try.func17, rfl, rfl⟩, fun args => ?_⟩
  have hG : GOk Try.prog [(19, F19.V), (49, F49.V)] := GOk.cons F19.ok (GOk.cons F49.ok (GOk.nil))
  have hV : VOk Try.prog noV := noV_ok
  unfold F17.V F17.W
  split
  · exact denF_okV hG hV Try.func17 (fun h Q hq => (F17.den _ _) ▸ hq)
  · exact fun h Q hq => hq.elim
end Go.Eng.Ytblghgacokoklaa
end
section
/-
  SPECS, 17: edits brought to where they may be written.
-/
set_option linter.unusedSimpArgs false
set_option linter.unusedVariables false
namespace Go.Eng.Ytblghgacokoklaa
theorem ed_mid (P R : List EdS) (x : EdS) (j : Nat) (hj : j < 6) : (edV (P ++ x :: R))[P.length * 6 + j]? = (EdS.cells x)[j]? := by
  have e : edV (P ++ x :: R) = edV P ++ (EdS.cells x ++ edV R) := by simp [edV]
  rw [e, ← edV_len, app_get, List.getElem?_append_left (by show j < 6; exact hj)]
theorem Ws.at_ {h0 h : Hp} {l1 : Sl} {P R : List EdS} {x : EdS} (W : Ws h0 h l1 (P ++ x :: R)) : ∃ b o, l1.a = some ⟨b, o, none⟩ ∧ (P.length : Int) < (l1.n : Int) ∧ ∀ j, j < 6 → h.at b ((o + P.length * 6) + j) = (EdS.cells x)[j]? := by
  have hn := ed_n W.B
  rw [List.length_append, List.length_cons] at hn
  obtain ⟨b, o, ha, hat⟩ := row_get W.B.row (i := P.length * 6) (by omega)
  exact ⟨b, o, ha, by omega, fun j hj => by rw [Nat.add_assoc, hat _ (by omega), ed_mid P R x j hj]⟩
theorem buf_set2 {h : Hp} {s : Sl} {sz t j b : Nat} {A B : List Value} (Bf : Buf h s sz t (A ++ B)) (hj : j < B.length) (hb : s.a = some ⟨b, 0, none⟩) : h.at b (A.length + j) = B[j]? ∧ h.canW b (A.length + j) 1 ∧ ∀ v, Upd h (h.wr b (A.length + j) [v]) s s ∧ Buf (h.wr b (A.length + j) [v]) s sz t (A ++ B.set j v) := by
  obtain ⟨b', hb', h1, h2, h3⟩ := buf_set Bf (k := A.length + j) (by rw [List.length_append]; omega)
  rw [hb] at hb'
  simp only [Option.some.injEq, Addr.mk.injEq, and_true] at hb'
  subst hb'
  refine ⟨by rw [h1, app_get], h2, fun v => ?_⟩
  have := h3 v
  rw [app_set] at this
  exact this
theorem buf_b {h : Hp} {s : Sl} {sz t : Nat} {vs : List Value} (B : Buf h s sz t vs) (hk : 0 < vs.length) : ∃ b, s.a = some ⟨b, 0, none⟩ := by
  obtain ⟨b, hb, _⟩ := buf_set B hk
  exact ⟨b, hb⟩
theorem right_out {h0 h : Hp} {l1 : Sl} {P R : List EdS} {x : EdS} {Rx : Hp → Prop} (W : Ws h0 h l1 (P ++ x :: R)) (hp : PW (P ++ x :: R)) (hraw : ∀ p ∈ x.e.out, iI p.lv ∧ okU p.num) (hsz : x.e.out.length ≤ 10000)
    (hR : ∀ h' o, Ws h0 h' l1 (P ++ ⟨{ x.e with out := o }, x.a, x.b, x.c⟩ :: R) → o.length = x.e.out.length → (∀ p ∈ o, PGood p) → Rx h') :
    ∃ (I1 : Int → Hp → Prop) (m1 : Int → Hp → Nat), I1 0 h ∧ (∀ n1 : Int, ∀ h3 : Hp, I1 n1 h3 → ∃ b o, (l1.a : Option Addr) = some ⟨b, o, none⟩ ∧ ((0 : Int) ≤ (P.length : Int) ∧ (P.length : Int) < (l1.n : Int)) ∧ ∃ l2 : Sl, h3.at b ((o + (P.length : Int).toNat * 6) + 3) = some (.slice l2.a l2.n l2.c) ∧ par (n1 < (l2.n : Int)) (∃ b1 o1, (l1.a : Option Addr) = some ⟨b1, o1, none⟩ ∧ ((0 : Int) ≤ (P.length : Int) ∧ (P.length : Int) < (l1.n : Int)) ∧ ∃ l3 : Sl, h3.at b1 ((o1 + (P.length : Int).toNat * 6) + 3) = some (.slice l3.a l3.n l3.c) ∧ ∃ b2 o2, (l1.a : Option Addr) = some ⟨b2, o2, none⟩ ∧ ((0 : Int) ≤ (P.length : Int) ∧ (P.length : Int) < (l1.n : Int)) ∧ ∃ l4 : Sl, h3.at b2 ((o2 + (P.length : Int).toNat * 6) + 3) = some (.slice l4.a l4.n l4.c) ∧ ∃ b3 o3, (l4.a : Option Addr) = some ⟨b3, o3, none⟩ ∧ ((0 : Int) ≤ n1 ∧ n1 < (l4.n : Int)) ∧ ∃ n2 : Int, h3.at b3 (o3 + n1.toNat * 2) = some (.int .i64 n2) ∧ F19.T n2 5 h3 fun r1 h4 => ∃ n3 : Int, r1 = .int .i64 n3 ∧ h4.at b1 ((o1 + (P.length : Int).toNat * 6) + 3) = some (.slice l3.a l3.n l3.c) ∧ ∃ b4 o4, (l3.a : Option Addr) = some ⟨b4, o4, none⟩ ∧ ((0 : Int) ≤ n1 ∧ n1 < (l3.n : Int)) ∧ h4.canW b4 (o4 + n1.toNat * 2) 1 ∧ I1 (IntKind.wrap .i64 (n1 + 1)) (h4.wr b4 (o4 + n1.toNat * 2) [.int .i64 n3]) ∧ m1 (IntKind.wrap .i64 (n1 + 1)) (h4.wr b4 (o4 + n1.toNat * 2) [.int .i64 n3]) < m1 n1 h3) (Rx h3)) := by
  refine ⟨fun n1 h3 => ∃ G S : List Place, n1 = (G.length : Int) ∧ (G ++ S).length = x.e.out.length ∧ (∀ p ∈ G, PGood p) ∧ (∀ p ∈ S, iI p.lv ∧ okU p.num) ∧ Ws h0 h3 l1 (P ++ ⟨{ x.e with out := G ++ S }, x.a, x.b, x.c⟩ :: R), fun n1 _ => x.e.out.length - n1.toNat, ⟨[], x.e.out, rfl, rfl, fun p hp => (by cases hp), hraw, W⟩, ?_⟩
  rintro n1 h3 ⟨G, S, rfl, hlen, hG, hS, W1⟩
  obtain ⟨b, o, ha, hn, hat⟩ := W1.at_
  have hc := hat 3 (by decide)
  have hxa : x.a.n = (G ++ S).length := out_n W1.x.a
  rw [Int.toNat_natCast]
  refine ⟨b, o, ha, ⟨by omega, hn⟩, x.a, hc, fun hlt => ?_, fun hge => ?_⟩
  · rcases S with _ | ⟨p, S⟩
    · simp only [List.append_nil] at hxa; omega
    have hpr := hS p List.mem_cons_self
    have e0 : outV (G ++ p :: S) = outV G ++ (p.cells ++ outV S) := by simp [outV]
    have B0 : Buf h3 x.a 2 89 (outV G ++ (p.cells ++ outV S)) := by rw [← e0]; exact W1.x.a
    obtain ⟨b3, hb3⟩ := buf_b B0 (by rw [List.length_append, List.length_append]; show 0 < _ + (2 + _); omega)
    obtain ⟨s1, s2, s3⟩ := buf_set2 B0 (j := 0) (by rw [List.length_append]; show 0 < 2 + _; omega) hb3
    have hA : G.length * 2 = (outV G).length + 0 := by rw [outV_len]; rfl
    rw [Int.toNat_natCast, hA]
    rw [List.length_append, List.length_cons] at hlen
    refine ⟨b, o, ha, ⟨by omega, hn⟩, x.a, hc, b, o, ha, ⟨by omega, hn⟩, x.a, hc, b3, 0, hb3, ⟨by omega, hlt⟩, p.lv, by rw [Nat.zero_add]; exact s1, ?_⟩
    refine place_spec hpr.1 (by decide) fun r r0 r5 => ⟨r, rfl, hc, b3, 0, hb3, ⟨by omega, hlt⟩, ?_⟩
    have w3 : IntKind.wrap .i64 ((G.length : Int) + 1) = ((G.length + 1 : Nat) : Int) := by rw [wrap_i64 (by omega) (by omega)]; omega
    rw [w3, Nat.zero_add]
    have s4 := s3 (.int .i64 r)
    have e1 : outV G ++ (p.cells ++ outV S).set 0 (.int .i64 r) = outV ((G ++ [⟨r, p.num⟩]) ++ S) := by simp [outV, Place.cells]
    rw [e1] at s4
    refine ⟨s2, ⟨G ++ [⟨r, p.num⟩], S, by rw [List.length_append]; rfl, by simp only [List.length_append, List.length_cons, List.length_nil]; omega, fun q hq => ?_, fun q hq => hS q (List.mem_cons_of_mem _ hq), W1.setA (hp.swap rfl rfl rfl) s4.1 s4.2⟩, by dsimp only; omega⟩
    rcases List.mem_append.1 hq with hq | hq
    · exact hG q hq
    · rw [List.mem_singleton] at hq; subst hq
      exact ⟨r0, by show r ≤ 4; omega, hpr.2⟩
  · have hS0 : S = [] := by
      rw [List.length_append] at hxa
      exact List.eq_nil_of_length_eq_zero (by omega)
    subst hS0
    rw [List.append_nil] at W1 hlen
    exact hR h3 G W1 hlen hG
theorem max0 {n : Int} (h : iI n) : 0 ≤ iMax n 0 ∧ iMax n 0 ≤ 9223372036854775807 := by
  have h1 := h.1
  have h2 := h.2
  unfold iMax
  split <;> omega
theorem cut_str (s : ByteArray) : okSub s 0 (iMin (s.size : Int) 64) ∧ (s.extract (0 : Int).toNat ((iMin (s.size : Int) 64) : Int).toNat).size ≤ 64 := by
  have h1 : iMin (s.size : Int) 64 = ((min s.size 64 : Nat) : Int) := iMin_nat s.size 64
  rw [h1]
  refine ⟨⟨by decide, by omega, by omega⟩, ?_⟩
  rw [ByteArray.size_extract, Int.toNat_natCast]
  simp only [Int.toNat_zero]
  omega
theorem right_inn {h0 h : Hp} {l1 : Sl} {P R : List EdS} {x : EdS} {Rx : Hp → Prop} (W : Ws h0 h l1 (P ++ x :: R)) (hp : PW (P ++ x :: R)) (hraw : ∀ p ∈ x.e.inn, iI p.lv ∧ okU p.num ∧ iI p.weight ∧ iI p.bytes ∧ iI p.entries ∧ p.least.size ≤ 9223372036854775807 ∧ p.greatest.size ≤ 9223372036854775807) (hsz : x.e.inn.length ≤ 10000)
    (hR : ∀ h' o, Ws h0 h' l1 (P ++ ⟨{ x.e with inn := o }, x.a, x.b, x.c⟩ :: R) → o.length = x.e.inn.length → (∀ p ∈ o, DGood p) → Rx h') :
    ∃ (I2 : Int → Hp → Prop) (m2 : Int → Hp → Nat), I2 0 h ∧ (∀ n4 : Int, ∀ h5 : Hp, I2 n4 h5 → ∃ b5 o5, (l1.a : Option Addr) = some ⟨b5, o5, none⟩ ∧ ((0 : Int) ≤ (P.length : Int) ∧ (P.length : Int) < (l1.n : Int)) ∧ ∃ l5 : Sl, h5.at b5 ((o5 + (P.length : Int).toNat * 6) + 4) = some (.slice l5.a l5.n l5.c) ∧ par (n4 < (l5.n : Int)) (∃ b6 o6, (l1.a : Option Addr) = some ⟨b6, o6, none⟩ ∧ ((0 : Int) ≤ (P.length : Int) ∧ (P.length : Int) < (l1.n : Int)) ∧ ∃ l6 : Sl, h5.at b6 ((o6 + (P.length : Int).toNat * 6) + 4) = some (.slice l6.a l6.n l6.c) ∧ ∃ b7 o7, (l6.a : Option Addr) = some ⟨b7, o7, none⟩ ∧ ((0 : Int) ≤ n4 ∧ n4 < (l6.n : Int)) ∧ ∃ n5 : Int, h5.at b7 (o7 + n4.toNat * 7) = some (.int .i64 n5) ∧ F19.T n5 5 h5 fun r2 h6 => ∃ n6 : Int, r2 = .int .i64 n6 ∧ h6.canW b7 (o7 + n4.toNat * 7) 1 ∧ ∃ n7 : Int, (h6.wr b7 (o7 + n4.toNat * 7) [.int .i64 n6]).at b7 (((o7 + n4.toNat * 7) + 1) + 1) = some (.int .i64 n7) ∧ ∃ n8 : Int, (h6.wr b7 (o7 + n4.toNat * 7) [.int .i64 n6]).at b7 (((o7 + n4.toNat * 7) + 1) + 2) = some (.int .i64 n8) ∧ ∃ n9 : Int, (h6.wr b7 (o7 + n4.toNat * 7) [.int .i64 n6]).at b7 (((o7 + n4.toNat * 7) + 1) + 3) = some (.int .i64 n9) ∧ (h6.wr b7 (o7 + n4.toNat * 7) [.int .i64 n6]).canW b7 (((o7 + n4.toNat * 7) + 1) + 1) 1 ∧ ((h6.wr b7 (o7 + n4.toNat * 7) [.int .i64 n6]).wr b7 (((o7 + n4.toNat * 7) + 1) + 1) [.int .i64 (iMax n7 0)]).canW b7 (((o7 + n4.toNat * 7) + 1) + 2) 1 ∧ (((h6.wr b7 (o7 + n4.toNat * 7) [.int .i64 n6]).wr b7 (((o7 + n4.toNat * 7) + 1) + 1) [.int .i64 (iMax n7 0)]).wr b7 (((o7 + n4.toNat * 7) + 1) + 2) [.int .i64 (iMax n8 0)]).canW b7 (((o7 + n4.toNat * 7) + 1) + 3) 1 ∧ ∃ s : ByteArray, ((((h6.wr b7 (o7 + n4.toNat * 7) [.int .i64 n6]).wr b7 (((o7 + n4.toNat * 7) + 1) + 1) [.int .i64 (iMax n7 0)]).wr b7 (((o7 + n4.toNat * 7) + 1) + 2) [.int .i64 (iMax n8 0)]).wr b7 (((o7 + n4.toNat * 7) + 1) + 3) [.int .i64 (iMax n9 0)]).at b7 (((o7 + n4.toNat * 7) + 1) + 4) = some (.string s) ∧ ∃ s1 : ByteArray, ((((h6.wr b7 (o7 + n4.toNat * 7) [.int .i64 n6]).wr b7 (((o7 + n4.toNat * 7) + 1) + 1) [.int .i64 (iMax n7 0)]).wr b7 (((o7 + n4.toNat * 7) + 1) + 2) [.int .i64 (iMax n8 0)]).wr b7 (((o7 + n4.toNat * 7) + 1) + 3) [.int .i64 (iMax n9 0)]).at b7 (((o7 + n4.toNat * 7) + 1) + 4) = some (.string s1) ∧ okSub s 0 (iMin (s1.size : Int) 64) ∧ ((((h6.wr b7 (o7 + n4.toNat * 7) [.int .i64 n6]).wr b7 (((o7 + n4.toNat * 7) + 1) + 1) [.int .i64 (iMax n7 0)]).wr b7 (((o7 + n4.toNat * 7) + 1) + 2) [.int .i64 (iMax n8 0)]).wr b7 (((o7 + n4.toNat * 7) + 1) + 3) [.int .i64 (iMax n9 0)]).canW b7 (((o7 + n4.toNat * 7) + 1) + 4) 1 ∧ ∃ s2 : ByteArray, (((((h6.wr b7 (o7 + n4.toNat * 7) [.int .i64 n6]).wr b7 (((o7 + n4.toNat * 7) + 1) + 1) [.int .i64 (iMax n7 0)]).wr b7 (((o7 + n4.toNat * 7) + 1) + 2) [.int .i64 (iMax n8 0)]).wr b7 (((o7 + n4.toNat * 7) + 1) + 3) [.int .i64 (iMax n9 0)]).wr b7 (((o7 + n4.toNat * 7) + 1) + 4) [.string (s.extract (0 : Int).toNat ((iMin (s1.size : Int) 64) : Int).toNat)]).at b7 (((o7 + n4.toNat * 7) + 1) + 5) = some (.string s2) ∧ ∃ s3 : ByteArray, (((((h6.wr b7 (o7 + n4.toNat * 7) [.int .i64 n6]).wr b7 (((o7 + n4.toNat * 7) + 1) + 1) [.int .i64 (iMax n7 0)]).wr b7 (((o7 + n4.toNat * 7) + 1) + 2) [.int .i64 (iMax n8 0)]).wr b7 (((o7 + n4.toNat * 7) + 1) + 3) [.int .i64 (iMax n9 0)]).wr b7 (((o7 + n4.toNat * 7) + 1) + 4) [.string (s.extract (0 : Int).toNat ((iMin (s1.size : Int) 64) : Int).toNat)]).at b7 (((o7 + n4.toNat * 7) + 1) + 5) = some (.string s3) ∧ okSub s2 0 (iMin (s3.size : Int) 64) ∧ (((((h6.wr b7 (o7 + n4.toNat * 7) [.int .i64 n6]).wr b7 (((o7 + n4.toNat * 7) + 1) + 1) [.int .i64 (iMax n7 0)]).wr b7 (((o7 + n4.toNat * 7) + 1) + 2) [.int .i64 (iMax n8 0)]).wr b7 (((o7 + n4.toNat * 7) + 1) + 3) [.int .i64 (iMax n9 0)]).wr b7 (((o7 + n4.toNat * 7) + 1) + 4) [.string (s.extract (0 : Int).toNat ((iMin (s1.size : Int) 64) : Int).toNat)]).canW b7 (((o7 + n4.toNat * 7) + 1) + 5) 1 ∧ I2 (IntKind.wrap .i64 (n4 + 1)) ((((((h6.wr b7 (o7 + n4.toNat * 7) [.int .i64 n6]).wr b7 (((o7 + n4.toNat * 7) + 1) + 1) [.int .i64 (iMax n7 0)]).wr b7 (((o7 + n4.toNat * 7) + 1) + 2) [.int .i64 (iMax n8 0)]).wr b7 (((o7 + n4.toNat * 7) + 1) + 3) [.int .i64 (iMax n9 0)]).wr b7 (((o7 + n4.toNat * 7) + 1) + 4) [.string (s.extract (0 : Int).toNat ((iMin (s1.size : Int) 64) : Int).toNat)]).wr b7 (((o7 + n4.toNat * 7) + 1) + 5) [.string (s2.extract (0 : Int).toNat ((iMin (s3.size : Int) 64) : Int).toNat)]) ∧ m2 (IntKind.wrap .i64 (n4 + 1)) ((((((h6.wr b7 (o7 + n4.toNat * 7) [.int .i64 n6]).wr b7 (((o7 + n4.toNat * 7) + 1) + 1) [.int .i64 (iMax n7 0)]).wr b7 (((o7 + n4.toNat * 7) + 1) + 2) [.int .i64 (iMax n8 0)]).wr b7 (((o7 + n4.toNat * 7) + 1) + 3) [.int .i64 (iMax n9 0)]).wr b7 (((o7 + n4.toNat * 7) + 1) + 4) [.string (s.extract (0 : Int).toNat ((iMin (s1.size : Int) 64) : Int).toNat)]).wr b7 (((o7 + n4.toNat * 7) + 1) + 5) [.string (s2.extract (0 : Int).toNat ((iMin (s3.size : Int) 64) : Int).toNat)]) < m2 n4 h5) (Rx h5)) := by
  refine ⟨fun n1 h3 => ∃ G S : List Placed, n1 = (G.length : Int) ∧ (G ++ S).length = x.e.inn.length ∧ (∀ p ∈ G, DGood p) ∧ (∀ p ∈ S, iI p.lv ∧ okU p.num ∧ iI p.weight ∧ iI p.bytes ∧ iI p.entries ∧ p.least.size ≤ 9223372036854775807 ∧ p.greatest.size ≤ 9223372036854775807) ∧ Ws h0 h3 l1 (P ++ ⟨{ x.e with inn := G ++ S }, x.a, x.b, x.c⟩ :: R), fun n1 _ => x.e.inn.length - n1.toNat, ⟨[], x.e.inn, rfl, rfl, fun p hp => (by cases hp), hraw, W⟩, ?_⟩
  rintro n1 h3 ⟨G, S, rfl, hlen, hG, hS, W1⟩
  obtain ⟨b, o, ha, hn, hat⟩ := W1.at_
  have hc := hat 4 (by decide)
  have hxa : x.b.n = (G ++ S).length := in_n W1.x.b
  rw [Int.toNat_natCast]
  refine ⟨b, o, ha, ⟨by omega, hn⟩, x.b, hc, fun hlt => ?_, fun hge => ?_⟩
  · rcases S with _ | ⟨p, S⟩
    · simp only [List.append_nil] at hxa; omega
    have hpr := hS p List.mem_cons_self
    rw [List.length_append, List.length_cons] at hlen
    have e0 : inV (G ++ p :: S) = inV G ++ (.int .i64 p.lv :: .int .u64 p.num :: .int .i64 p.weight :: .int .i64 p.bytes :: .int .i64 p.entries :: .string p.least :: .string p.greatest :: inV S) := by simp [inV, Placed.cells]
    have B0 : Buf h3 x.b 7 87 (inV G ++ (.int .i64 p.lv :: .int .u64 p.num :: .int .i64 p.weight :: .int .i64 p.bytes :: .int .i64 p.entries :: .string p.least :: .string p.greatest :: inV S)) := by rw [← e0]; exact W1.x.b
    obtain ⟨b7, hb7⟩ := buf_b B0 (by simp only [List.length_append, List.length_cons]; omega)
    have hA : G.length * 7 = (inV G).length := by rw [inV_len]
    obtain ⟨q0, c0, z0⟩ := buf_set2 B0 (j := 0) (Nat.lt_of_lt_of_le (by decide : 0 < 7) (by simp)) hb7
    rw [Int.toNat_natCast, hA]
    refine ⟨b, o, ha, ⟨by omega, hn⟩, x.b, hc, b7, 0, hb7, ⟨by omega, hlt⟩, p.lv, by rw [Nat.zero_add]; exact q0, ?_⟩
    refine place_spec hpr.1 (by decide) fun r r0 r5 => ⟨r, rfl, ?_⟩
    have w3 : IntKind.wrap .i64 ((G.length : Int) + 1) = ((G.length + 1 : Nat) : Int) := by rw [wrap_i64 (by omega) (by omega)]; omega
    rw [w3, Nat.zero_add]
    have B1 := (z0 (.int .i64 r)).2
    simp only [List.set_cons_zero] at B1
    obtain ⟨q2, c2, z2⟩ := buf_set2 B1 (j := 2) (Nat.lt_of_lt_of_le (by decide : 2 < 7) (by simp)) hb7
    obtain ⟨q3, _, _⟩ := buf_set2 B1 (j := 3) (Nat.lt_of_lt_of_le (by decide : 3 < 7) (by simp)) hb7
    obtain ⟨q4, _, _⟩ := buf_set2 B1 (j := 4) (Nat.lt_of_lt_of_le (by decide : 4 < 7) (by simp)) hb7
    have B2 := (z2 (.int .i64 (iMax p.weight 0))).2
    simp only [List.set_cons_zero, List.set_cons_succ] at B2
    obtain ⟨_, c3, z3⟩ := buf_set2 B2 (j := 3) (Nat.lt_of_lt_of_le (by decide : 3 < 7) (by simp)) hb7
    have B3 := (z3 (.int .i64 (iMax p.bytes 0))).2
    simp only [List.set_cons_zero, List.set_cons_succ] at B3
    obtain ⟨_, c4, z4⟩ := buf_set2 B3 (j := 4) (Nat.lt_of_lt_of_le (by decide : 4 < 7) (by simp)) hb7
    have B4 := (z4 (.int .i64 (iMax p.entries 0))).2
    simp only [List.set_cons_zero, List.set_cons_succ] at B4
    obtain ⟨q5, c5, z5⟩ := buf_set2 B4 (j := 5) (Nat.lt_of_lt_of_le (by decide : 5 < 7) (by simp)) hb7
    have k1 := cut_str p.least
    have k2 := cut_str p.greatest
    have B5 := (z5 (.string (p.least.extract (0 : Int).toNat ((iMin (p.least.size : Int) 64) : Int).toNat))).2
    simp only [List.set_cons_zero, List.set_cons_succ] at B5
    obtain ⟨q6, c6, z6⟩ := buf_set2 B5 (j := 6) (Nat.lt_of_lt_of_le (by decide : 6 < 7) (by simp)) hb7
    have B6 := (z6 (.string (p.greatest.extract (0 : Int).toNat ((iMin (p.greatest.size : Int) 64) : Int).toNat))).2
    simp only [List.set_cons_zero, List.set_cons_succ] at B6
    have U6 := (((((z0 (.int .i64 r)).1.trans (z2 (.int .i64 (iMax p.weight 0))).1).trans (z3 (.int .i64 (iMax p.bytes 0))).1).trans (z4 (.int .i64 (iMax p.entries 0))).1).trans (z5 (.string (p.least.extract (0 : Int).toNat ((iMin (p.least.size : Int) 64) : Int).toNat))).1).trans (z6 (.string (p.greatest.extract (0 : Int).toNat ((iMin (p.greatest.size : Int) 64) : Int).toNat))).1
    have e6 : inV G ++ (.int .i64 r :: .int .u64 p.num :: .int .i64 (iMax p.weight 0) :: .int .i64 (iMax p.bytes 0) :: .int .i64 (iMax p.entries 0) :: .string (p.least.extract (0 : Int).toNat ((iMin (p.least.size : Int) 64) : Int).toNat) :: .string (p.greatest.extract (0 : Int).toNat ((iMin (p.greatest.size : Int) 64) : Int).toNat) :: inV S) = inV ((G ++ [⟨r, p.num, iMax p.weight 0, iMax p.bytes 0, iMax p.entries 0, p.least.extract (0 : Int).toNat ((iMin (p.least.size : Int) 64) : Int).toNat, p.greatest.extract (0 : Int).toNat ((iMin (p.greatest.size : Int) 64) : Int).toNat⟩]) ++ S) := by simp [inV, Placed.cells]
    rw [e6] at B6
    refine ⟨c0, p.weight, q2, p.bytes, q3, p.entries, q4, c2, c3, c4, p.least, q5, p.least, q5, k1.1, c5, p.greatest, q6, p.greatest, q6, k2.1, c6, ⟨G ++ [⟨r, p.num, iMax p.weight 0, iMax p.bytes 0, iMax p.entries 0, p.least.extract (0 : Int).toNat ((iMin (p.least.size : Int) 64) : Int).toNat, p.greatest.extract (0 : Int).toNat ((iMin (p.greatest.size : Int) 64) : Int).toNat⟩], S, by rw [List.length_append]; rfl, by simp only [List.length_append, List.length_cons, List.length_nil]; omega, fun q hq => ?_, fun q hq => hS q (List.mem_cons_of_mem _ hq), W1.setB (hp.swap rfl rfl rfl) U6 B6⟩, by dsimp only; omega⟩
    rcases List.mem_append.1 hq with hq | hq
    · exact hG q hq
    · rw [List.mem_singleton] at hq; subst hq
      obtain ⟨f1, f2, f3, f4, f5, f6, f7⟩ := hpr
      exact ⟨r0, by show r ≤ 4; omega, f2, (max0 f3).1, (max0 f3).2, (max0 f4).1, (max0 f4).2, (max0 f5).1, (max0 f5).2, k1.2, k2.2⟩
  · have hS0 : S = [] := by
      rw [List.length_append] at hxa
      exact List.eq_nil_of_length_eq_zero (by omega)
    subst hS0
    rw [List.append_nil] at W1 hlen
    exact hR h3 G W1 hlen hG
end Go.Eng.Ytblghgacokoklaa
end
section
/-
  SPECS, 18: edits brought to where they may be written, all of them; are lists of edits alike.
-/
set_option linter.unusedSimpArgs false
set_option linter.unusedVariables false
namespace Go.Eng.Ytblghgacokoklaa
theorem right_ptr {h0 h : Hp} {l1 : Sl} {P R : List EdS} {x : EdS} {Rx : Hp → Prop} (W : Ws h0 h l1 (P ++ x :: R)) (hp : PW (P ++ x :: R)) (hsz : x.e.ptr.length ≤ 10000)
    (hR : ∀ h' o, Ws h0 h' l1 (P ++ ⟨{ x.e with ptr := o }, x.a, x.b, x.c⟩ :: R) → o.length = x.e.ptr.length → (∀ p ∈ o, p.size ≤ 64) → Rx h') :
    ∃ (I3 : Int → Hp → Prop) (m3 : Int → Hp → Nat), I3 0 h ∧ (∀ n10 : Int, ∀ h7 : Hp, I3 n10 h7 → ∃ b11 o11, (l1.a : Option Addr) = some ⟨b11, o11, none⟩ ∧ ((0 : Int) ≤ (P.length : Int) ∧ (P.length : Int) < (l1.n : Int)) ∧ ∃ l9 : Sl, h7.at b11 ((o11 + (P.length : Int).toNat * 6) + 5) = some (.slice l9.a l9.n l9.c) ∧ par (n10 < (l9.n : Int)) (∃ b12 o12, (l1.a : Option Addr) = some ⟨b12, o12, none⟩ ∧ ((0 : Int) ≤ (P.length : Int) ∧ (P.length : Int) < (l1.n : Int)) ∧ ∃ l10 : Sl, h7.at b12 ((o12 + (P.length : Int).toNat * 6) + 5) = some (.slice l10.a l10.n l10.c) ∧ ∃ b13 o13, (l1.a : Option Addr) = some ⟨b13, o13, none⟩ ∧ ((0 : Int) ≤ (P.length : Int) ∧ (P.length : Int) < (l1.n : Int)) ∧ ∃ l11 : Sl, h7.at b13 ((o13 + (P.length : Int).toNat * 6) + 5) = some (.slice l11.a l11.n l11.c) ∧ ∃ b14 o14, (l11.a : Option Addr) = some ⟨b14, o14, none⟩ ∧ ((0 : Int) ≤ n10 ∧ n10 < (l11.n : Int)) ∧ ∃ s4 : ByteArray, h7.at b14 (o14 + n10.toNat) = some (.string s4) ∧ ∃ b15 o15, (l1.a : Option Addr) = some ⟨b15, o15, none⟩ ∧ ((0 : Int) ≤ (P.length : Int) ∧ (P.length : Int) < (l1.n : Int)) ∧ ∃ l12 : Sl, h7.at b15 ((o15 + (P.length : Int).toNat * 6) + 5) = some (.slice l12.a l12.n l12.c) ∧ ∃ b16 o16, (l12.a : Option Addr) = some ⟨b16, o16, none⟩ ∧ ((0 : Int) ≤ n10 ∧ n10 < (l12.n : Int)) ∧ ∃ s5 : ByteArray, h7.at b16 (o16 + n10.toNat) = some (.string s5) ∧ okSub s4 0 (iMin (s5.size : Int) 64) ∧ ∃ b17 o17, (l10.a : Option Addr) = some ⟨b17, o17, none⟩ ∧ ((0 : Int) ≤ n10 ∧ n10 < (l10.n : Int)) ∧ h7.canW b17 (o17 + n10.toNat) 1 ∧ I3 (IntKind.wrap .i64 (n10 + 1)) (h7.wr b17 (o17 + n10.toNat) [.string (s4.extract (0 : Int).toNat ((iMin (s5.size : Int) 64) : Int).toNat)]) ∧ m3 (IntKind.wrap .i64 (n10 + 1)) (h7.wr b17 (o17 + n10.toNat) [.string (s4.extract (0 : Int).toNat ((iMin (s5.size : Int) 64) : Int).toNat)]) < m3 n10 h7) (Rx h7)) := by
  refine ⟨fun n1 h3 => ∃ G S : List ByteArray, n1 = (G.length : Int) ∧ (G ++ S).length = x.e.ptr.length ∧ (∀ p ∈ G, p.size ≤ 64) ∧ Ws h0 h3 l1 (P ++ ⟨{ x.e with ptr := G ++ S }, x.a, x.b, x.c⟩ :: R), fun n1 _ => x.e.ptr.length - n1.toNat, ⟨[], x.e.ptr, rfl, rfl, fun p hp => (by cases hp), W⟩, ?_⟩
  rintro n1 h3 ⟨G, S, rfl, hlen, hG, W1⟩
  obtain ⟨b, o, ha, hn, hat⟩ := W1.at_
  have hc := hat 5 (by decide)
  have hxa : x.c.n = (G ++ S).length := pt_n W1.x.c
  rw [Int.toNat_natCast]
  refine ⟨b, o, ha, ⟨by omega, hn⟩, x.c, hc, fun hlt => ?_, fun hge => ?_⟩
  · rcases S with _ | ⟨p, S⟩
    · simp only [List.append_nil] at hxa; omega
    rw [List.length_append, List.length_cons] at hlen
    have e0 : ptrV (G ++ p :: S) = ptrV G ++ (.string p :: ptrV S) := by simp [ptrV]
    have B0 : Buf h3 x.c 1 9 (ptrV G ++ (.string p :: ptrV S)) := by rw [← e0]; exact W1.x.c
    obtain ⟨b7, hb7⟩ := buf_b B0 (by simp only [List.length_append, List.length_cons]; omega)
    have hA : G.length = (ptrV G).length := (List.length_map _).symm
    obtain ⟨q0, c0, z0⟩ := buf_set2 B0 (j := 0) (by simp only [List.length_cons]; omega) hb7
    have k1 := cut_str p
    have z1 := z0 (.string (p.extract (0 : Int).toNat ((iMin (p.size : Int) 64) : Int).toNat))
    simp only [List.set_cons_zero] at z1
    have e6 : ptrV G ++ (.string (p.extract (0 : Int).toNat ((iMin (p.size : Int) 64) : Int).toNat) :: ptrV S) = ptrV ((G ++ [p.extract (0 : Int).toNat ((iMin (p.size : Int) 64) : Int).toNat]) ++ S) := by simp [ptrV]
    rw [e6] at z1
    have w3 : IntKind.wrap .i64 ((G.length : Int) + 1) = ((G.length + 1 : Nat) : Int) := by rw [wrap_i64 (by omega) (by omega)]; omega
    have q1 : h3.at b7 (0 + ((G.length : Int)).toNat) = some (.string p) := by rw [Int.toNat_natCast, Nat.zero_add, hA]; exact q0
    refine ⟨b, o, ha, ⟨by omega, hn⟩, x.c, hc, b, o, ha, ⟨by omega, hn⟩, x.c, hc, b7, 0, hb7, ⟨by omega, hlt⟩, p, q1, b, o, ha, ⟨by omega, hn⟩, x.c, hc, b7, 0, hb7, ⟨by omega, hlt⟩, p, q1, k1.1, b7, 0, hb7, ⟨by omega, hlt⟩, ?_⟩
    rw [w3, Int.toNat_natCast, Nat.zero_add, hA]
    refine ⟨c0, ⟨G ++ [p.extract (0 : Int).toNat ((iMin (p.size : Int) 64) : Int).toNat], S, by rw [List.length_append, hA]; rfl, by simp only [List.length_append, List.length_cons, List.length_nil]; omega, fun q hq => ?_, W1.setC (hp.swap rfl rfl rfl) z1.1 z1.2⟩, by dsimp only; omega⟩
    rcases List.mem_append.1 hq with hq | hq
    · exact hG q hq
    · rw [List.mem_singleton] at hq; subst hq
      exact k1.2
  · have hS0 : S = [] := by
      rw [List.length_append] at hxa
      exact List.eq_nil_of_length_eq_zero (by omega)
    subst hS0
    rw [List.append_nil] at W1 hlen
    exact hR h3 G W1 hlen hG
theorem cut_a (s : Sl) (k m : Int) {sz : Nat} : (Sl.cut s sz 0 k m).a = s.a := by
  unfold Sl.cut
  simp only [Int.toNat_zero, Nat.zero_mul]
  split
  · rfl
  · cases s.a with
    | none => rfl
    | some a => simp [Addr.add]
theorem buf_cut {h : Hp} {s : Sl} {t : Nat} {vs : List Value} (B : Buf h s 1 t vs) {k : Nat} (hk : k ≤ s.n) : Buf h (Sl.cut s 1 0 (k : Int) (s.c : Int)) 1 t (vs.take k) := by
  have hn : (Sl.cut s 1 0 (k : Int) (s.c : Int)).n = k := by simp [Sl.cut]
  have hc : (Sl.cut s 1 0 (k : Int) (s.c : Int)).c = s.c := by simp [Sl.cut]
  have hl := B.len
  have hcap := B.cap
  refine ⟨by rw [hn, List.length_take]; omega, by rw [hn, hc]; omega, ?_⟩
  rw [cut_a, hc]
  rcases B.own with h0 | ⟨b, c, f, ha, hb, hsz, hf, ht⟩
  · exact .inl h0
  · refine .inr ⟨b, c, f, ha, hb, hsz, hf, ?_⟩
    rw [List.length_take, ← ht, List.take_take]
    congr 1
    rw [ht]
/-- EDITS BROUGHT TO WHERE THEY MAY BE WRITTEN. -/
theorem right_spec {h : Hp} {l : Sl} {L : List EdS} {Q : Value → Hp → Prop} (A : Args h l L) (hparts : parts L ≤ 10000)
    (hQ : ∀ h' l1 L', Ws h h' l1 L' → L'.length ≤ 10000 → (∀ y ∈ L', Good y.e ∧ y.e.size ≤ 10000) → Q (.slice l1.a l1.n l1.c) h') : F17.T l h Q := by
  have hpl := parts_len L
  refine copied_spec A hparts fun h1 l1 L0 W0 hp0 hl0 hg0 => ⟨l1, rfl, ?_⟩
  refine ⟨fun n h2 => ∃ P R : List EdS, n = (P.length : Int) ∧ (P ++ R).length = L.length ∧ Ws h h2 l1 (P ++ R) ∧ PW (P ++ R) ∧ (∀ y ∈ P, Good y.e ∧ y.e.size ≤ 10000) ∧ ∀ y ∈ R, Raw y.e ∧ y.e.size ≤ 10000 ∧ y.e.ptr.length ≤ 10000, fun n _ => L.length - n.toNat, ⟨[], L0, rfl, hl0, W0, hp0, fun y hy => (by cases hy), hg0⟩, ?_⟩
  rintro n h2 ⟨P, R, rfl, hlen, W, hp, hP, hR⟩
  have hn1 := ed_n W.B
  refine ⟨fun hlt => ?_, fun hge => ?_⟩
  · rcases R with _ | ⟨x, R⟩
    · simp only [List.append_nil] at hn1; omega
    obtain ⟨xr, xs, xp⟩ := hR x List.mem_cons_self
    have xs1 : x.e.out.length + x.e.inn.length ≤ 10000 := xs
    refine right_out W hp xr.out (by omega) fun h3 o3 W3 hl3 hg3 => ?_
    have hp3 : PW (P ++ (⟨{ x.e with out := o3 }, x.a, x.b, x.c⟩ : EdS) :: R) := hp.swap rfl rfl rfl
    refine right_inn W3 hp3 xr.inn (by show x.e.inn.length ≤ 10000; omega) fun h5 o5 W5 hl5 hg5 => ?_
    have hp5 : PW (P ++ (⟨{ ({ x.e with out := o3 } : Edit) with inn := o5 }, x.a, x.b, x.c⟩ : EdS) :: R) := hp.swap rfl rfl rfl
    obtain ⟨b, o, ha, hn, hat⟩ := W5.at_
    have hc := hat 5 (by decide)
    have X5 := W5.x
    have hxc : x.c.n = x.e.ptr.length := pt_n X5.c
    have hcap : x.c.n ≤ x.c.c := X5.c.cap
    have k5 : iMin (x.c.n : Int) 5 = ((min x.c.n 5 : Nat) : Int) := iMin_nat x.c.n 5
    have hlen5 : (edV (P ++ (⟨{ ({ x.e with out := o3 } : Edit) with inn := o5 }, x.a, x.b, x.c⟩ : EdS) :: R)).length = (P.length + (R.length + 1)) * 6 := by rw [edV_len, List.length_append, List.length_cons]
    obtain ⟨b10, hb10, _, hcan, hset⟩ := buf_set W5.B (k := P.length * 6 + 5) (by rw [hlen5]; omega)
    rw [Int.toNat_natCast]
    refine ⟨b, o, ha, ⟨by omega, hn⟩, x.c, hc, b, o, ha, ⟨by omega, hn⟩, x.c, hc, by rw [k5]; exact ⟨by decide, by omega, by omega, by omega⟩, b10, 0, hb10, ⟨by omega, hn⟩, by rw [Nat.zero_add]; exact hcan, ?_⟩
    rw [k5, Nat.zero_add]
    have hs := hset (.slice (Sl.cut x.c 1 0 ((min x.c.n 5 : Nat) : Int) (x.c.c : Int)).a (Sl.cut x.c 1 0 ((min x.c.n 5 : Nat) : Int) (x.c.c : Int)).n (Sl.cut x.c 1 0 ((min x.c.n 5 : Nat) : Int) (x.c.c : Int)).c)
    let x6 : EdS := ⟨{ ({ ({ x.e with out := o3 } : Edit) with inn := o5 } : Edit) with ptr := x.e.ptr.take (min x.c.n 5) }, x.a, x.b, Sl.cut x.c 1 0 ((min x.c.n 5 : Nat) : Int) (x.c.c : Int)⟩
    have e6 : (edV (P ++ (⟨{ ({ x.e with out := o3 } : Edit) with inn := o5 }, x.a, x.b, x.c⟩ : EdS) :: R)).set (P.length * 6 + 5) (.slice (Sl.cut x.c 1 0 ((min x.c.n 5 : Nat) : Int) (x.c.c : Int)).a (Sl.cut x.c 1 0 ((min x.c.n 5 : Nat) : Int) (x.c.c : Int)).n (Sl.cut x.c 1 0 ((min x.c.n 5 : Nat) : Int) (x.c.c : Int)).c) = edV (P ++ x6 :: R) := by
      have e1 : ∀ y : EdS, edV (P ++ y :: R) = edV P ++ (EdS.cells y ++ edV R) := fun y => by simp [edV]
      rw [e1, e1, ← edV_len, app_set]
      rfl
    rw [e6] at hs
    have T6 : Three h5 x6 := ⟨X5.a, X5.b, by
      have := buf_cut X5.c (k := min x.c.n 5) (by show min x.c.n 5 ≤ x.c.n; omega)
      have e : (ptrV x.e.ptr).take (min x.c.n 5) = ptrV (x.e.ptr.take (min x.c.n 5)) := by unfold ptrV; rw [List.map_take]
      show Buf h5 (Sl.cut x.c 1 0 ((min x.c.n 5 : Nat) : Int) (x.c.c : Int)) 1 9 (ptrV (x.e.ptr.take (min x.c.n 5)))
      rw [← e]
      exact this⟩
    have N5 := W5.nx
    have N6 : (x6.a.a = none ∨ New h x6.a) ∧ (x6.b.a = none ∨ New h x6.b) ∧ (x6.c.a = none ∨ New h x6.c) := by
      refine ⟨N5.1, N5.2.1, ?_⟩
      have := N5.2.2
      unfold New at this ⊢
      rw [show x6.c.a = x.c.a from cut_a _ _ _]
      exact this
    have W6 := W5.setL hs.1 hs.2 T6 N6
    have hp6 : PW (P ++ x6 :: R) := hp.swap rfl rfl (cut_a _ _ _)
    have hl6 : x6.e.ptr.length ≤ 5 := by
      show (x.e.ptr.take (min x.c.n 5)).length ≤ 5
      rw [List.length_take]; omega
    have w3 : IntKind.wrap .i64 ((P.length : Int) + 1) = ((P.length + 1 : Nat) : Int) := by
      rw [List.length_append, List.length_cons] at hlen
      rw [wrap_i64 (by omega) (by omega)]; omega
    have rp := right_ptr (Rx := fun h7 => (∃ P' R' : List EdS, ((P.length + 1 : Nat) : Int) = (P'.length : Int) ∧ (P' ++ R').length = L.length ∧ Ws h h7 l1 (P' ++ R') ∧ PW (P' ++ R') ∧ (∀ y ∈ P', Good y.e ∧ y.e.size ≤ 10000) ∧ ∀ y ∈ R', Raw y.e ∧ y.e.size ≤ 10000 ∧ y.e.ptr.length ≤ 10000) ∧ L.length - ((P.length + 1 : Nat) : Int).toNat < L.length - ((P.length : Int)).toNat) W6 hp6 (by omega) (fun h7 o7 W7 hl7 hg7 => ?_)
    · rw [w3]
      rw [Int.toNat_natCast] at rp
      exact rp
    · rw [List.length_append, List.length_cons] at hlen
      refine ⟨⟨P ++ [⟨{ x6.e with ptr := o7 }, x6.a, x6.b, x6.c⟩], R, by rw [List.length_append]; rfl, by simp only [List.length_append, List.length_cons, List.length_nil]; omega, by rw [List.append_assoc]; exact W7, by rw [List.append_assoc]; exact hp6.swap rfl rfl rfl, fun y hy => ?_, fun y hy => hR y (List.mem_cons_of_mem _ hy)⟩, by omega⟩
      rcases List.mem_append.1 hy with hy | hy
      · exact hP y hy
      · rw [List.mem_singleton] at hy
        subst hy
        exact ⟨⟨xr.log, xr.next, xr.seq, hg3, hg5, hg7, by show o7.length ≤ 5; omega⟩, by show o3.length + o5.length ≤ 10000; have hl5' : o5.length = x.e.inn.length := hl5
                                                                                          omega⟩
  · have hR0 : R = [] := by
      rw [List.length_append] at hn1 hlen
      exact List.eq_nil_of_length_eq_zero (by omega)
    subst hR0
    rw [List.append_nil] at W hlen
    exact hQ h2 l1 P W (by omega) hP
/-- Are two lists of edits alike? -/
theorem edits_eq {h : Hp} {l m : Sl} {L M : List EdS} {Q : Value → Hp → Prop} (hl : h.row l.a (l.n * 6) (edV L)) (hm : h.row m.a (m.n * 6) (edV M)) (hL : ∀ x ∈ L, EdAt h x.e x.a x.b x.c) (hM : ∀ x ∈ M, EdAt h x.e x.a x.b x.c) (hs : ∀ x ∈ M, x.e.out.length ≤ 1000000000000 ∧ x.e.inn.length ≤ 1000000000000 ∧ x.e.ptr.length ≤ 1000000000000) (hn : M.length ≤ 1000000000000)
    (hE : L.map EdS.e = M.map EdS.e) (hT : Q (.bool true) h) : F12.T l m h Q := by
  have n1 : l.n = L.length := by have h1 := hl.1; rw [edV_len] at h1; omega
  have n2 : m.n = M.length := by have h1 := hm.1; rw [edV_len] at h1; omega
  have n3 : L.length = M.length := by have := congrArg List.length hE; rwa [List.length_map, List.length_map] at this
  refine ⟨fun _ => ?_, fun hne => absurd (by omega) hne⟩
  refine ⟨fun n h1 => h1 = h ∧ ∃ i : Nat, n = (i : Int) ∧ i ≤ L.length, fun n _ => L.length - n.toNat, ⟨rfl, 0, rfl, Nat.zero_le _⟩, ?_⟩
  rintro n h1 ⟨rfl, i, rfl, hi⟩
  refine ⟨fun hlt => ?_, fun _ => hT⟩
  have ia : i < L.length := by omega
  have ib : i < M.length := by omega
  have hee : L[i].e = M[i].e := by
    have := congrArg (fun l => l[i]?) hE
    simpa [ia, ib] using this
  obtain ⟨b0, o0, ha0, hat⟩ := row_get hl (i := i * 6) (by omega)
  obtain ⟨b1, o1, hb1, hbt⟩ := row_get hm (i := i * 6) (by omega)
  have cc : ∀ j, j < 6 → h1.at b0 ((o0 + i * 6) + j) = (EdS.cells L[i])[j]? := fun j hj => by
    rw [Nat.add_assoc, hat _ (by omega)]
    exact flat_get EdS.cells 6 (fun _ => rfl) L i j ia hj
  have dd : ∀ j, j < 6 → h1.at b1 ((o1 + i * 6) + j) = (EdS.cells M[i])[j]? := fun j hj => by
    rw [Nat.add_assoc, hbt _ (by omega)]
    exact flat_get EdS.cells 6 (fun _ => rfl) M i j ib hj
  rw [Int.toNat_natCast, next_i ia (by omega)]
  have hx := List.getElem_mem ib
  refine ⟨b0, o0, ha0, ⟨by omega, hlt⟩, _, cc 0 (by decide), _, cc 1 (by decide), _, cc 2 (by decide), _, cc 3 (by decide), _, cc 4 (by decide), _, cc 5 (by decide), b1, o1, hb1, ⟨by omega, by omega⟩, _, dd 0 (by decide), _, dd 1 (by decide), _, dd 2 (by decide), _, dd 3 (by decide), _, dd 4 (by decide), _, dd 5 (by decide), ?_⟩
  exact edit_eq (hL _ (List.getElem_mem ia)) (hM _ hx) (hs _ hx).1 (hs _ hx).2.1 (hs _ hx).2.2 (fun _ => ⟨true, rfl, fun _ => ⟨⟨rfl, i + 1, rfl, ia⟩, by dsimp only; omega⟩, fun h0 => (by cases h0)⟩) (fun hne => absurd hee hne)
end Go.Eng.Ytblghgacokoklaa
end
section
/-
  SPECS, 26: room beside what is handed out.
-/
set_option linter.unusedSimpArgs false
set_option linter.unusedVariables false
set_option maxRecDepth 100000
namespace Go.Eng.Ytblghgacokoklaa
def lotN (n : Nat) : Int := if n % 2 = 0 then -7701 else -7702
def lb (n : Nat) : Int := IntKind.wrap .u8 (lotN n)
def lots (k : Nat) : List Int := (List.range k).map lb
theorem lots_succ (k : Nat) : lots (k + 1) = lots k ++ [lb k] := by unfold lots; rw [List.range_succ, List.map_append]; rfl
theorem lots_len (k : Nat) : (lots k).length = k := by unfold lots; rw [List.length_map, List.length_range]
theorem lot_spec {h : Hp} {n : Nat} {Q : Value → Hp → Prop} (hQ : Q (.int .i64 (lotN n)) h) : F68.T (n : Int) h Q := by
  have e : Int.tmod (n : Int) 2 = ((n % 2 : Nat) : Int) := by rw [Int.tmod_eq_emod_of_nonneg (by omega)]; omega
  refine ⟨by decide, fun h0 => ?_, fun h0 => ?_⟩
  · unfold lotN at hQ; rw [if_pos (by omega)] at hQ; exact hQ
  · unfold lotN at hQ; rw [if_neg (by omega)] at hQ; exact hQ
def roomC (w n c k : Sl) : List Value := [.slice w.a w.n w.c, .slice n.a n.n n.c, .slice none 0 0, .slice none 0 0, .slice none 0 0, .slice none 0 0, .slice none 0 0, .slice none 0 0, .slice none 0 0, .slice none 0 0, .slice none 0 0, .slice none 0 0, .slice none 0 0, .slice none 0 0, .slice none 0 0, .slice none 0 0, .slice none 0 0, .slice none 0 0, .slice none 0 0, .slice none 0 0, .slice c.a c.n c.c, .slice k.a k.n k.c, .slice none 0 0, .slice none 0 0, .slice none 0 0, .slice none 0 0, .slice none 0 0, .slice none 0 0]
def nilS : Sl := ⟨none, 0, 0⟩
def lensV (bs : List (List Int)) : List Value := bs.map fun r => .int .i64 (r.length : Int)
theorem lensV_len (bs : List (List Int)) : (lensV bs).length = bs.length := List.length_map _
theorem slV_app (a b : List Sl) : slV (a ++ b) = slV a ++ slV b := List.map_append
theorem new_grow {h h1 h2 : Hp} {s s' : Sl} (N : New h s) (K : Keep h h1) (U : Upd h1 h2 s s') : New h s' := by
  rcases U.at_ with h0 | ⟨b, hb, hn⟩
  · obtain ⟨b, hb, hn⟩ := N
    exact ⟨b, by rw [h0]; exact hb, hn⟩
  · exact ⟨b, hb, K.dom b hn⟩
theorem off_grow {h h' : Hp} {s s' r : Sl} {sz t : Nat} {vs : List Value} (B : Buf h r sz t vs) (h1 : Off r s) (h2 : Off s r) (U : Upd h h' s s') : Off r s' ∧ Off s' r := by
  rcases U.at_ with h0 | h0
  · unfold Off; rw [h0]; exact ⟨h1, h2⟩
  · exact new_off (.inr h0) B
theorem off_symm {s r : Sl} (h : Off s r) : Off r s := fun b o o' e1 e2 => h b o' o e2 e1
theorem room_buf {h : Hp} {pb : Nat} {w n c k : Sl} (hc : h pb = some (.cells ⟨roomC w n c k⟩ 42 (0, 0))) : Buf h (rb pb) 28 42 (roomC w n c k) :=
  ⟨rfl, Nat.le_refl _, .inr ⟨pb, _, (0, 0), rfl, hc, Nat.le_refl _, fun j _ => by simp, rfl⟩⟩
/-- The room's block, and what it has handed out. -/
structure Rm (h0 h : Hp) (pb : Nat) (w n : Sl) (ws : List Sl) (bs : List (List Int)) : Prop where
  cell : h pb = some (.cells ⟨roomC w n nilS nilS⟩ 42 (0, 0))
  pnew : h0 pb = none
  keep : Keep h0 h
  W : Buf h w 1 25 (slV ws)
  N : Buf h n 1 3 (lensV bs)
  Wn : w.a = none ∨ New h0 w
  Nn : n.a = none ∨ New h0 n
  rows : RowsAt h ws (bs.map fun r => r ++ lots 4)
  rnew : ∀ s ∈ ws, New h0 s
  apart : ws.Pairwise fun s t => Off s t ∧ Off t s
theorem rows_mem {h : Hp} {ss : List Sl} {bs : List (List Int)} (R : RowsAt h ss bs) {s : Sl} (hs : s ∈ ss) : ∃ b, Buf h s 1 5 (bv b) := by
  obtain ⟨i, hi, rfl⟩ := List.getElem_of_mem hs
  exact ⟨_, R.2 i hi (by have := R.1; omega)⟩
theorem Rm.keep' {h0 h h' : Hp} {pb : Nat} {w n : Sl} {ws : List Sl} {bs : List (List Int)} (R : Rm h0 h pb w n ws bs) (k : Keep h h') : Rm h0 h' pb w n ws bs :=
  ⟨k _ _ R.cell, R.pnew, R.keep.trans k, R.W.keep k, R.N.keep k, R.Wn, R.Nn, R.rows.keep k, R.rnew, R.apart⟩
theorem Rm.upd {h0 h h' : Hp} {pb : Nat} {w n x x' : Sl} {ws : List Sl} {bs : List (List Int)} {vs : List Value} (R : Rm h0 h pb w n ws bs) (U : Upd h h' x x') (B : Buf h x 1 25 vs) (N : x.a = none ∨ New h0 x) (o : Off w x) : Rm h0 h' pb w n ws bs :=
  ⟨U.keep pb _ (fun q e => buf_off B (room_buf R.cell) (by decide) pb q 0 e rfl) R.cell, R.pnew, (keep_grow R.keep N U).1, R.W.upd U o, R.N.upd U (buf_off R.N B (by decide)), R.Wn, R.Nn, R.rows.upd U B (by decide), R.rnew, R.apart⟩
theorem lay_spec {h0 h : Hp} {pb : Nat} {w n l : Sl} {ws : List Sl} {bs : List (List Int)} {r : List Int} {Q : Value → Hp → Prop} (R : Rm h0 h pb w n ws bs) (hr : h0.row l.a l.n (bv r)) (hs : r.length ≤ 1000000000) (hw : ws.length ≤ 1000000000)
    (hQ : ∀ h' w' n' s, Rm h0 h' pb w' n' (ws ++ [s]) (bs ++ [r]) → (∀ x vs, Buf h x 1 25 vs → Off x w → Off w x → Buf h' x 1 25 vs ∧ Off x w' ∧ Off w' x) → s.n = r.length + 4 →
      Q (.slice (Sl.cut s 1 0 (l.n : Int) (s.n : Int)).a (Sl.cut s 1 0 (l.n : Int) (s.n : Int)).n (Sl.cut s 1 0 (l.n : Int) (s.n : Int)).c) h') : F67.T (some ⟨pb, 0, none⟩) l 4 h Q := by
  have hln : l.n = r.length := by have := hr.1; rw [bv_length] at this; exact this.symm
  intro b hb
  have hb2 : (h.new b (.cells ⟨[]⟩ 5 (0, 0))) b = some (.cells ⟨[]⟩ 5 (0, 0)) := new_self h b _
  have B0 : Buf (h.new b (.cells ⟨[]⟩ 5 (0, 0))) ⟨some ⟨b, 0, none⟩, 0, 0⟩ 1 5 [] := ⟨rfl, Nat.le_refl _, .inr ⟨b, _, (0, 0), rfl, hb2, Nat.le_refl _, fun j _ => by simp, rfl⟩⟩
  have k0 : Keep h (h.new b (.cells ⟨[]⟩ 5 (0, 0))) := Keep.new hb _
  have N0 : New h ⟨some ⟨b, 0, none⟩, 0, 0⟩ := ⟨b, rfl, hb⟩
  refine ⟨bv r, by rw [Nat.mul_one]; exact (R.keep.trans k0).row hr, bv_one r, ?_⟩
  refine append_buf B0 rfl (by rw [bv_length]; omega) (by show (0 + l.n) * 1 ≤ _; omega) fun s1 h1 B1 hn1 U1 => ?_
  refine ⟨fun l2 n1 h2 => ∃ j : Nat, n1 = (j : Int) ∧ j ≤ 4 ∧ Buf h2 l2 1 5 (bv (r ++ lots j)) ∧ Keep h h2 ∧ New h l2, fun _ n1 _ => 4 - n1.toNat, ⟨0, rfl, by decide, by simpa [lots] using B1, (keep_grow k0 (.inr N0) U1).1, new_grow N0 k0 U1⟩, ?_⟩
  rintro l2 n1 h2 ⟨j, rfl, hj, B2, K2, N2⟩
  have l2n : l2.n = r.length + j := by have := B2.len; rw [bv_length, List.length_append, lots_len] at this; omega
  refine ⟨fun hlt => lot_spec ⟨_, rfl, ?_⟩, fun hge => ?_⟩
  · have w3 : IntKind.wrap .i64 ((j : Int) + 1) = ((j + 1 : Nat) : Int) := next_i (n := 4) (by omega) (by omega)
    refine append_buf B2 rfl rfl (by omega) fun l3 h4 B4 hn4 U4 => ?_
    rw [w3]
    refine ⟨⟨j + 1, rfl, by omega, ?_, (keep_grow K2 (.inr N2) U4).1, new_grow N2 K2 U4⟩, by dsimp only; omega⟩
    rw [lots_succ, ← List.append_assoc, bv_append]
    exact B4
  · have hj4 : j = 4 := by omega
    subst hj4
    have R2 := R.keep' K2
    have hwn : w.n = ws.length := by have := R.W.len; rw [slV_length] at this; omega
    have hnn : n.n = ws.length := by have := R.N.len; rw [lensV_len] at this; have h1 := R.rows.1; rw [List.length_map] at h1; omega
    have c2 := R2.cell
    refine ⟨pb, 0, rfl, w, by unfold Hp.at; rw [c2]; rfl, ?_⟩
    refine append_buf R2.W rfl rfl (by omega) fun l5 h5 B5 hn5 U5 => ?_
    have c5 : h5 pb = some (.cells ⟨roomC w n nilS nilS⟩ 42 (0, 0)) := U5.keep pb _ (fun q e => buf_off R2.W (room_buf c2) (by decide) pb q 0 e rfl) c2
    have P5 := room_buf c5
    have U5' : Upd h5 (h5.wr pb 0 [.slice l5.a l5.n l5.c]) (rb pb) (rb pb) := upd_wr c5
    have c5' : (h5.wr pb 0 [.slice l5.a l5.n l5.c]) pb = some (.cells ⟨roomC l5 n nilS nilS⟩ 42 (0, 0)) := wr_at c5
    have N5 : Buf h5 n 1 3 (lensV bs) := R2.N.upd U5 (buf_off R2.N R2.W (by decide))
    have N5' := N5.upd U5' (buf_off N5 P5 (by decide))
    refine ⟨pb, 0, rfl, ⟨_, _, _, c5, Nat.le_of_ble_eq_true rfl, fun j _ _ => by simp⟩, pb, 0, rfl, n, by unfold Hp.at; rw [c5']; rfl, ?_⟩
    refine append_buf N5' rfl rfl (by omega) fun l7 h6 B6 hn6 U6 => ?_
    have P5' := room_buf c5'
    have c6 : h6 pb = some (.cells ⟨roomC l5 n nilS nilS⟩ 42 (0, 0)) := U6.keep pb _ (fun q e => buf_off N5' P5' (by decide) pb q 0 e rfl) c5'
    have P6 := room_buf c6
    have U6' : Upd h6 (h6.wr pb (0 + 1) [.slice l7.a l7.n l7.c]) (rb pb) (rb pb) := upd_wr c6
    have c6' : (h6.wr pb (0 + 1) [.slice l7.a l7.n l7.c]) pb = some (.cells ⟨roomC l5 l7 nilS nilS⟩ 42 (0, 0)) := wr_at c6
    refine ⟨pb, 0, rfl, ⟨_, _, _, c6, Nat.le_of_ble_eq_true rfl, fun j _ _ => by simp⟩, ⟨by decide, by omega, by omega, by have := B2.cap; omega⟩, ?_⟩
    have W5' := B5.upd U5' (buf_off B5 P5 (by decide))
    have W6 := W5'.upd U6 (buf_off W5' N5' (by decide))
    have W6' := W6.upd U6' (buf_off W6 P6 (by decide))
    have L5 := B2.upd U5 (buf_off B2 R2.W (by decide))
    have L5' := L5.upd U5' (buf_off L5 P5 (by decide))
    have L6 := L5'.upd U6 (buf_off L5' N5' (by decide))
    have L6' := L6.upd U6' (buf_off L6 P6 (by decide))
    obtain ⟨K5, Wn5⟩ := keep_grow R2.keep R.Wn U5
    have K5' := (keep_grow K5 (.inr (rb_new R.pnew)) U5').1
    obtain ⟨K6, Nn6⟩ := keep_grow K5' R.Nn U6
    have K6' := (keep_grow K6 (.inr (rb_new R.pnew)) U6').1
    refine hQ _ l5 l7 l2 ⟨c6', R.pnew, K6', by rw [slV_app]; exact W6', ?_, Wn5, Nn6, ?_, fun s hs => ?_, ?_⟩ (fun x vs X o1 o2 => ?_) l2n
    · have := B6.upd U6' (buf_off B6 P6 (by decide))
      rw [hln] at this
      unfold lensV at this ⊢
      rw [List.map_append]
      exact this
    · rw [List.map_append]
      exact RowsAt.snoc ((((R2.rows.upd U5 R2.W (by decide)).upd U5' P5 (by decide)).upd U6 N5' (by decide)).upd U6' P6 (by decide)) L6'
    · rcases List.mem_append.1 hs with hs | hs
      · exact R.rnew s hs
      · rw [List.mem_singleton] at hs
        subst hs
        obtain ⟨b, hb, hn⟩ := N2
        exact ⟨b, hb, R.keep.dom b hn⟩
    · rw [List.pairwise_append]
      refine ⟨R.apart, by simp, fun s hs t ht => ?_⟩
      rw [List.mem_singleton] at ht
      subst ht
      obtain ⟨q, Bs⟩ := rows_mem R.rows hs
      exact new_off (.inr N2) Bs
    · have X2 := X.keep K2
      have X5 := X2.upd U5 o1
      have X5' := X5.upd U5' (buf_off X5 P5 (by decide))
      have X6 := X5'.upd U6 (buf_off X5' N5' (by decide))
      exact ⟨X6.upd U6' (buf_off X6 P6 (by decide)), off_grow X2 o1 o2 U5⟩
end Go.Eng.Ytblghgacokoklaa
end
section
/-
  SPECS, 27: a list of records with room, handed out.
-/
set_option linter.unusedSimpArgs false
set_option linter.unusedVariables false
set_option maxRecDepth 100000
namespace Go.Eng.Ytblghgacokoklaa
def cutR (s : Sl) (r : List Int) : Sl := Sl.cut s 1 0 (r.length : Int) (s.n : Int)
/-- All that has been handed out, and what the room knows of it. -/
structure Spare (h0 h : Hp) (pb : Nat) (w n c k lc : Sl) (ws xs : List Sl) (recs : List (List Int)) : Prop where
  cell : h pb = some (.cells ⟨roomC w n c k⟩ 42 (0, 0))
  keep : Keep h0 h
  W : Buf h w 1 25 (slV ws)
  N : Buf h n 1 3 (lensV recs)
  C : Buf h c 1 23 [.slice lc.a lc.n lc.c]
  K : Buf h k 1 3 [.int .i64 (recs.length : Int)]
  L : Buf h lc 1 25 (slV (List.zipWith cutR ws recs ++ xs))
  rows : RowsAt h ws (recs.map fun r => r ++ lots 4)
  rnew : ∀ s ∈ ws, New h0 s
  apart : ws.Pairwise fun s t => Off s t ∧ Off t s
  xl : xs.length = 40
  lot : ∀ (j : Nat) (hj : j < xs.length), Buf h xs[j] 1 5 (bv [lb j])
theorem Spare.keep' {h0 h h' : Hp} {pb : Nat} {w n c k lc : Sl} {ws xs : List Sl} {recs : List (List Int)} (S : Spare h0 h pb w n c k lc ws xs recs) (q : Keep h h') : Spare h0 h' pb w n c k lc ws xs recs :=
  ⟨q _ _ S.cell, S.keep.trans q, S.W.keep q, S.N.keep q, S.C.keep q, S.K.keep q, S.L.keep q, S.rows.keep q, S.rnew, S.apart, S.xl, fun j hj => (S.lot j hj).keep q⟩
theorem zip_succ {ws : List Sl} {recs : List (List Int)} {i : Nat} (hi : i < recs.length) (hw : ws.length = i) (s : Sl) : List.zipWith cutR (ws ++ [s]) (recs.take (i + 1)) = List.zipWith cutR ws (recs.take i) ++ [cutR s recs[i]] := by
  rw [List.take_succ_eq_append_getElem hi, List.zipWith_append (by rw [List.length_take]; omega)]
  rfl
theorem chunks_spec {h0 : Hp} {pb : Nat} {l : Sl} {ss : List Sl} {recs : List (List Int)} {Q : Value → Hp → Prop} (hp : h0 pb = none) (hrow : h0.row l.a l.n (slV ss)) (R : Rows h0 ss recs) (hs : ∀ r ∈ recs, r.length ≤ 1000000000) (hn : recs.length ≤ 1000000000)
    (hQ : ∀ h' w n c k lc ws xs, Spare h0 h' pb w n c k lc ws xs recs → (lc.a = none ∨ New h0 lc) → Q (.slice (Sl.cut lc 1 0 (recs.length : Int) (lc.n : Int)).a (Sl.cut lc 1 0 (recs.length : Int) (lc.n : Int)).n (Sl.cut lc 1 0 (recs.length : Int) (lc.n : Int)).c) h') :
    F9.T (some ⟨pb, 0, none⟩) l (h0.new pb (.cells ⟨roomC nilS nilS nilS nilS⟩ 42 (0, 0))) Q := by
  have hss : ss.length = recs.length := R.1
  have hln : l.n = recs.length := by have := hrow.1; rw [slV_length, hss] at this; exact this.symm
  have k0 : Keep h0 (h0.new pb (.cells ⟨roomC nilS nilS nilS nilS⟩ 42 (0, 0))) := Keep.new hp _
  have R0 : Rm h0 (h0.new pb (.cells ⟨roomC nilS nilS nilS nilS⟩ 42 (0, 0))) pb nilS nilS [] [] := ⟨new_self _ _ _, hp, k0, Buf.nil _ 1 25, Buf.nil _ 1 3, .inl rfl, .inl rfl, RowsAt.nil _, fun s hs => (by cases hs), List.Pairwise.nil⟩
  intro b hb
  have hb2 := new_self (h0.new pb (.cells ⟨roomC nilS nilS nilS nilS⟩ 42 (0, 0))) b (.cells ⟨[]⟩ 25 (0, 0))
  have B0 : Buf ((h0.new pb (.cells ⟨roomC nilS nilS nilS nilS⟩ 42 (0, 0))).new b (.cells ⟨[]⟩ 25 (0, 0))) ⟨some ⟨b, 0, none⟩, 0, 0⟩ 1 25 [] := ⟨rfl, Nat.le_refl _, .inr ⟨b, _, (0, 0), rfl, hb2, Nat.le_refl _, fun j _ => by simp, rfl⟩⟩
  refine ⟨fun l1 n1 h1 => ∃ (i : Nat) (w n : Sl) (ws : List Sl), n1 = (i : Int) ∧ i ≤ recs.length ∧ ws.length = i ∧ Rm h0 h1 pb w n ws (recs.take i) ∧ Buf h1 l1 1 25 (slV (List.zipWith cutR ws (recs.take i))) ∧ New h0 l1 ∧ Off l1 w ∧ Off w l1, fun _ n1 _ => recs.length - n1.toNat,
    ⟨0, nilS, nilS, [], rfl, Nat.zero_le _, rfl, R0.keep' (Keep.new hb _), B0, ⟨b, rfl, k0.dom b hb⟩, fun b o o' e1 e2 => (by cases e2), fun b o o' e1 => (by cases e1)⟩, ?_⟩
  rintro l1 n1 h1 ⟨i, w, n, ws, rfl, hi, hwl, R1, B1, N1, o1, o2⟩
  have hl1 : l1.n = i := by have := B1.len; rw [slV_length, List.length_zipWith, List.length_take] at this; omega
  refine ⟨fun hlt => ?_, fun hge => ?_⟩
  · have hi1 : i < recs.length := by omega
    have hi2 : i < ss.length := by omega
    obtain ⟨b1, o, ha, hat⟩ := row_get (R1.keep.row hrow) (i := i) (by omega)
    have hv : (slV ss)[i]? = some (.slice ss[i].a ss[i].n ss[i].c) := by simp [slV, hi2]
    refine ⟨b1, o, ha, ⟨by omega, hlt⟩, ss[i], by rw [Int.toNat_natCast, hat i (by omega), hv], ?_⟩
    have hrow' := R.2 i hi2 hi1
    have hsn : ss[i].n = recs[i].length := by have := hrow'.1; rw [bv_length] at this; exact this.symm
    refine lay_spec R1 hrow' (hs _ (List.getElem_mem hi1)) (by omega) fun h2 w' n' s R2 F hsl => ⟨_, rfl, ?_⟩
    obtain ⟨B2, q1, q2⟩ := F l1 _ B1 o1 o2
    rw [next_i hi1 (by omega), hsn]
    refine append_buf B2 rfl rfl (by omega) fun l4 h3 B3 hn3 U3 => ?_
    have q := off_grow R2.W q2 q1 U3
    refine ⟨⟨i + 1, w', n', ws ++ [s], rfl, hi1, by rw [List.length_append, List.length_singleton]; omega, ?_, ?_, new_grow N1 R2.keep U3, q.2, q.1⟩, by dsimp only; omega⟩
    · rw [List.take_succ_eq_append_getElem hi1]
      exact R2.upd U3 B2 (.inr N1) q2
    · rw [zip_succ hi1 hwl, slV_app]
      exact B3
  · have hie : i = recs.length := by omega
    subst hie
    rw [List.take_length] at R1 B1
    refine ⟨fun l5 n2 h4 => ∃ (j : Nat) (xs : List Sl), n2 = (j : Int) ∧ j ≤ 40 ∧ xs.length = j ∧ Rm h0 h4 pb w n ws recs ∧ Buf h4 l5 1 25 (slV (List.zipWith cutR ws recs ++ xs)) ∧ New h0 l5 ∧ Off l5 w ∧ Off w l5 ∧ ∀ (q : Nat) (hq : q < xs.length), Buf h4 xs[q] 1 5 (bv [lb q]), fun _ n2 _ => 40 - n2.toNat,
      ⟨0, [], rfl, by decide, rfl, R1, by rw [List.append_nil]; exact B1, N1, o1, o2, fun q hq => absurd hq (Nat.not_lt_zero q)⟩, ?_⟩
    rintro l5 n2 h4 ⟨j, xs, rfl, hj, hxl, R4, B4, N4, p1, p2, hx⟩
    have hl5 : l5.n = recs.length + j := by have := B4.len; rw [slV_length, List.length_append, List.length_zipWith] at this; omega
    refine ⟨fun hlt => lot_spec ⟨_, rfl, fun b2 hb2 => ?_⟩, fun hge => ?_⟩
    · have k5 : Keep h4 (h4.new b2 (.cells ⟨[.int .u8 (IntKind.wrap .u8 (lotN j))]⟩ 5 (0, 0))) := Keep.new hb2 _
      have X : Buf (h4.new b2 (.cells ⟨[.int .u8 (IntKind.wrap .u8 (lotN j))]⟩ 5 (0, 0))) ⟨some ⟨b2, 0, none⟩, 1, 1⟩ 1 5 (bv [lb j]) := ⟨rfl, Nat.le_refl _, .inr ⟨b2, _, (0, 0), rfl, new_self _ _ _, Nat.le_refl _, fun j _ => by simp, rfl⟩⟩
      have R5 := R4.keep' k5
      have B5 := B4.keep k5
      rw [next_i (n := 40) (by omega) (by omega)]
      refine append_buf B5 rfl rfl (by omega) fun l6 h6 B6 hn6 U6 => ?_
      have q := off_grow R5.W p2 p1 U6
      refine ⟨⟨j + 1, xs ++ [⟨some ⟨b2, 0, none⟩, 1, 1⟩], rfl, by omega, by rw [List.length_append, List.length_singleton]; omega, R5.upd U6 B5 (.inr N4) p2, ?_, new_grow N4 R5.keep U6, q.2, q.1, fun q hq => ?_⟩, by dsimp only; omega⟩
      · rw [← List.append_assoc, slV_app]
        exact B6
      · rw [List.length_append, List.length_singleton] at hq
        by_cases hqj : q < xs.length
        · rw [List.getElem_append_left hqj]
          have := (hx q hqj).keep k5
          exact this.upd U6 (buf_off this B5 (by decide))
        · have hqe : q = j := by omega
          subst hqe
          rw [List.getElem_append_right (by omega)]
          simp only [hxl, Nat.sub_self, List.getElem_cons_zero]
          exact X.upd U6 (buf_off X B5 (by decide))
    · have hj4 : j = 40 := by omega
      subst hj4
      have c4 := R4.cell
      rw [hln]
      refine ⟨pb, 0, rfl, nilS, by unfold Hp.at; rw [c4]; rfl, ?_⟩
      refine append_buf (Buf.nil h4 1 23) rfl rfl (by show (0 + 1) * 24 ≤ _; decide) fun l8 h7 B7 hn7 U7 => ?_
      have k7 := U7.keepNil rfl
      have c7 := k7 _ _ c4
      have P7 := room_buf c7
      have U7' : Upd h7 (h7.wr pb (0 + 20) [.slice l8.a l8.n l8.c]) (rb pb) (rb pb) := upd_wr c7
      have c7' : (h7.wr pb (0 + 20) [.slice l8.a l8.n l8.c]) pb = some (.cells ⟨roomC w n l8 nilS⟩ 42 (0, 0)) := wr_at c7
      refine ⟨pb, 0, rfl, ⟨_, _, _, c7, Nat.le_of_ble_eq_true rfl, fun j _ _ => by simp⟩, pb, 0, rfl, nilS, by unfold Hp.at; rw [c7']; rfl, ?_⟩
      refine append_buf (Buf.nil _ 1 3) rfl rfl (by show (0 + 1) * 8 ≤ _; decide) fun l10 h8 B8 hn8 U8 => ?_
      have k8 := U8.keepNil rfl
      have c8 := k8 _ _ c7'
      have P8 := room_buf c8
      have U8' : Upd h8 (h8.wr pb (0 + 21) [.slice l10.a l10.n l10.c]) (rb pb) (rb pb) := upd_wr c8
      have c8' : (h8.wr pb (0 + 21) [.slice l10.a l10.n l10.c]) pb = some (.cells ⟨roomC w n l8 l10⟩ 42 (0, 0)) := wr_at c8
      have cap5 := B4.cap
      refine ⟨pb, 0, rfl, ⟨_, _, _, c8, Nat.le_of_ble_eq_true rfl, fun j _ _ => by simp⟩, ⟨by decide, by omega, by omega, by omega⟩, ?_⟩
      have mv : ∀ {s : Sl} {sz t : Nat} {vs : List Value}, Buf h4 s sz t vs → t ≠ 42 → Buf (h8.wr pb (0 + 21) [.slice l10.a l10.n l10.c]) s sz t vs := fun {s sz t vs} B ht => by
        have B1 := B.keep k7
        have B2 := (B1.upd U7' (buf_off B1 P7 ht)).keep k8
        exact B2.upd U8' (buf_off B2 P8 ht)
      have B7' := (B7.upd U7' (buf_off B7 P7 (by decide))).keep k8
      have Kf : Keep h0 (h8.wr pb (0 + 21) [.slice l10.a l10.n l10.c]) := (keep_grow (((keep_grow (R4.keep.trans k7) (.inr (rb_new hp)) U7').1).trans k8) (.inr (rb_new hp)) U8').1
      refine ⟨_, rfl, ?_⟩
      exact hQ _ w n l8 l10 l5 ws xs ⟨c8', Kf, mv R4.W (by decide), mv R4.N (by decide), B7'.upd U8' (buf_off B7' P8 (by decide)), B8.upd U8' (buf_off B8 P8 (by decide)), mv B4 (by decide),
        ⟨R4.rows.1, fun i hi hj => mv (R4.rows.2 i hi hj) (by decide)⟩, R4.rnew, R4.apart, hxl, fun q hq => mv (hx q hq) (by decide)⟩ (.inr N4)
end Go.Eng.Ytblghgacokoklaa
end
section
/-
  SPECS, 28: the room is as it was.
-/
set_option linter.unusedSimpArgs false
set_option linter.unusedVariables false
set_option maxRecDepth 100000
namespace Go.Eng.Ytblghgacokoklaa
theorem hold34 {h : Hp} {pb : Nat} {w n c k : Sl} {Q : Value → Hp → Prop} (hc : h pb = some (.cells ⟨roomC w n c k⟩ 42 (0, 0))) (hQ : Q (.bool true) h) : F34.T (some ⟨pb, 0, none⟩) h Q := by
  refine ⟨fun n h1 => n = 0 ∧ h1 = h, fun _ _ => 0, ⟨rfl, rfl⟩, ?_⟩
  rintro n h1 ⟨rfl, rfl⟩
  exact ⟨pb, 0, rfl, nilS, by unfold Hp.at; rw [hc]; rfl, fun h0 => absurd h0 (by decide), fun _ => hQ⟩
theorem hold35 {h : Hp} {pb : Nat} {w n c k : Sl} {Q : Value → Hp → Prop} (hc : h pb = some (.cells ⟨roomC w n c k⟩ 42 (0, 0))) (hQ : Q (.bool true) h) : F35.T (some ⟨pb, 0, none⟩) h Q := by
  refine ⟨fun n h1 => n = 0 ∧ h1 = h, fun _ _ => 0, ⟨rfl, rfl⟩, ?_⟩
  rintro n h1 ⟨rfl, rfl⟩
  exact ⟨pb, 0, rfl, nilS, by unfold Hp.at; rw [hc]; rfl, fun h0 => absurd h0 (by decide), fun _ => hQ⟩
theorem hold36 {h : Hp} {pb : Nat} {w n c k : Sl} {Q : Value → Hp → Prop} (hc : h pb = some (.cells ⟨roomC w n c k⟩ 42 (0, 0))) (hQ : Q (.bool true) h) : F36.T (some ⟨pb, 0, none⟩) h Q := by
  refine ⟨fun n h1 => n = 0 ∧ h1 = h, fun _ _ => 0, ⟨rfl, rfl⟩, ?_⟩
  rintro n h1 ⟨rfl, rfl⟩
  exact ⟨pb, 0, rfl, nilS, by unfold Hp.at; rw [hc]; rfl, fun h0 => absurd h0 (by decide), fun _ => hQ⟩
theorem hold37 {h : Hp} {pb : Nat} {w n c k : Sl} {Q : Value → Hp → Prop} (hc : h pb = some (.cells ⟨roomC w n c k⟩ 42 (0, 0))) (hQ : Q (.bool true) h) : F37.T (some ⟨pb, 0, none⟩) h Q := by
  refine ⟨fun n h1 => n = 0 ∧ h1 = h, fun _ _ => 0, ⟨rfl, rfl⟩, ?_⟩
  rintro n h1 ⟨rfl, rfl⟩
  exact ⟨pb, 0, rfl, nilS, by unfold Hp.at; rw [hc]; rfl, fun h0 => absurd h0 (by decide), fun _ => hQ⟩
theorem hold38 {h : Hp} {pb : Nat} {w n c k : Sl} {Q : Value → Hp → Prop} (hc : h pb = some (.cells ⟨roomC w n c k⟩ 42 (0, 0))) (hQ : Q (.bool true) h) : F38.T (some ⟨pb, 0, none⟩) h Q := by
  refine ⟨fun n h1 => n = 0 ∧ h1 = h, fun _ _ => 0, ⟨rfl, rfl⟩, ?_⟩
  rintro n h1 ⟨rfl, rfl⟩
  exact ⟨pb, 0, rfl, nilS, by unfold Hp.at; rw [hc]; rfl, fun h0 => absurd h0 (by decide), fun _ => hQ⟩
theorem hold39 {h : Hp} {pb : Nat} {w n c k : Sl} {Q : Value → Hp → Prop} (hc : h pb = some (.cells ⟨roomC w n c k⟩ 42 (0, 0))) (hQ : Q (.bool true) h) : F39.T (some ⟨pb, 0, none⟩) h Q := by
  refine ⟨fun n h1 => n = 0 ∧ h1 = h, fun _ _ => 0, ⟨rfl, rfl⟩, ?_⟩
  rintro n h1 ⟨rfl, rfl⟩
  exact ⟨pb, 0, rfl, nilS, by unfold Hp.at; rw [hc]; rfl, fun h0 => absurd h0 (by decide), fun _ => hQ⟩
theorem hold40 {h : Hp} {pb : Nat} {w n c k : Sl} {Q : Value → Hp → Prop} (hc : h pb = some (.cells ⟨roomC w n c k⟩ 42 (0, 0))) (hQ : Q (.bool true) h) : F40.T (some ⟨pb, 0, none⟩) h Q := by
  refine ⟨fun n h1 => n = 0 ∧ h1 = h, fun _ _ => 0, ⟨rfl, rfl⟩, ?_⟩
  rintro n h1 ⟨rfl, rfl⟩
  exact ⟨pb, 0, rfl, nilS, by unfold Hp.at; rw [hc]; rfl, fun h0 => absurd h0 (by decide), fun _ => hQ⟩
theorem hold41 {h : Hp} {pb : Nat} {w n c k : Sl} {Q : Value → Hp → Prop} (hc : h pb = some (.cells ⟨roomC w n c k⟩ 42 (0, 0))) (hQ : Q (.bool true) h) : F41.T (some ⟨pb, 0, none⟩) h Q := by
  refine ⟨fun n h1 => n = 0 ∧ h1 = h, fun _ _ => 0, ⟨rfl, rfl⟩, ?_⟩
  rintro n h1 ⟨rfl, rfl⟩
  exact ⟨pb, 0, rfl, nilS, by unfold Hp.at; rw [hc]; rfl, fun h0 => absurd h0 (by decide), fun _ => hQ⟩
theorem hold42 {h : Hp} {pb : Nat} {w n c k : Sl} {Q : Value → Hp → Prop} (hc : h pb = some (.cells ⟨roomC w n c k⟩ 42 (0, 0))) (hQ : Q (.bool true) h) : F42.T (some ⟨pb, 0, none⟩) h Q := by
  refine ⟨fun n h1 => n = 0 ∧ h1 = h, fun _ _ => 0, ⟨rfl, rfl⟩, ?_⟩
  rintro n h1 ⟨rfl, rfl⟩
  exact ⟨pb, 0, rfl, nilS, by unfold Hp.at; rw [hc]; rfl, fun h0 => absurd h0 (by decide), fun _ => hQ⟩
theorem hold44 {h : Hp} {pb : Nat} {w n c k : Sl} {Q : Value → Hp → Prop} (hc : h pb = some (.cells ⟨roomC w n c k⟩ 42 (0, 0))) (hQ : Q (.bool true) h) : F44.T (some ⟨pb, 0, none⟩) h Q := by
  refine ⟨fun n h1 => n = 0 ∧ h1 = h, fun _ _ => 0, ⟨rfl, rfl⟩, ?_⟩
  rintro n h1 ⟨rfl, rfl⟩
  exact ⟨pb, 0, rfl, nilS, by unfold Hp.at; rw [hc]; rfl, fun h0 => absurd h0 (by decide), fun _ => hQ⟩
theorem hold45 {h : Hp} {pb : Nat} {w n c k : Sl} {Q : Value → Hp → Prop} (hc : h pb = some (.cells ⟨roomC w n c k⟩ 42 (0, 0))) (hQ : Q (.bool true) h) : F45.T (some ⟨pb, 0, none⟩) h Q := by
  refine ⟨fun n h1 => n = 0 ∧ h1 = h, fun _ _ => 0, ⟨rfl, rfl⟩, ?_⟩
  rintro n h1 ⟨rfl, rfl⟩
  exact ⟨pb, 0, rfl, nilS, by unfold Hp.at; rw [hc]; rfl, fun h0 => absurd h0 (by decide), fun _ => hQ⟩
theorem hold46 {h : Hp} {pb : Nat} {w n c k : Sl} {Q : Value → Hp → Prop} (hc : h pb = some (.cells ⟨roomC w n c k⟩ 42 (0, 0))) (hQ : Q (.bool true) h) : F46.T (some ⟨pb, 0, none⟩) h Q := by
  refine ⟨fun n h1 => n = 0 ∧ h1 = h, fun _ _ => 0, ⟨rfl, rfl⟩, ?_⟩
  rintro n h1 ⟨rfl, rfl⟩
  exact ⟨pb, 0, rfl, nilS, by unfold Hp.at; rw [hc]; rfl, fun h0 => absurd h0 (by decide), fun _ => hQ⟩
theorem hold33 {h0 h : Hp} {pb : Nat} {w n c k lc : Sl} {ws xs : List Sl} {recs : List (List Int)} {Q : Value → Hp → Prop} (S : Spare h0 h pb w n c k lc ws xs recs) (hs : ∀ r ∈ recs, r.length ≤ 1000000000) (hn : recs.length ≤ 1000000000) (hQ : Q (.bool true) h) : F33.T (some ⟨pb, 0, none⟩) h Q := by
  have hwl : ws.length = recs.length := by have := S.rows.1; rw [List.length_map] at this; exact this
  have hwn : w.n = recs.length := by have := S.W.len; rw [slV_length] at this; omega
  have hnn : n.n = recs.length := by have := S.N.len; rw [lensV_len] at this; omega
  have hc := S.cell
  have rW := S.W.row
  have rN := S.N.row
  rw [Nat.mul_one] at rW rN
  refine ⟨fun n h1 => ∃ i : Nat, n = (i : Int) ∧ i ≤ recs.length ∧ h1 = h, fun n _ => recs.length - n.toNat, ⟨0, rfl, Nat.zero_le _, rfl⟩, ?_⟩
  rintro n2 h1 ⟨i, rfl, hi, rfl⟩
  refine ⟨pb, 0, rfl, w, by unfold Hp.at; rw [hc]; rfl, fun hlt => ?_, fun _ => hQ⟩
  have hi1 : i < recs.length := by omega
  have hi2 : i < ws.length := by omega
  obtain ⟨b2, o2, ha2, hat2⟩ := row_get rN (i := i) (by omega)
  obtain ⟨b4, o4, ha4, hat4⟩ := row_get rW (i := i) (by omega)
  have c2 : h1.at b2 (o2 + ((i : Int)).toNat) = some (.int .i64 (recs[i].length : Int)) := by rw [Int.toNat_natCast, hat2 i (by omega)]; simp [lensV, hi1]
  have c4 : h1.at b4 (o4 + ((i : Int)).toNat) = some (.slice ws[i].a ws[i].n ws[i].c) := by rw [Int.toNat_natCast, hat4 i (by omega)]; simp [slV, hi2]
  have B := S.rows.2 i hi2 (by rw [List.length_map]; exact hi1)
  rw [List.getElem_map] at B
  have hrl := hs _ (List.getElem_mem hi1)
  have hBn : ws[i].n = recs[i].length + 4 := by have := B.len; rw [bv_length, List.length_append, lots_len] at this; omega
  have rB := B.row
  rw [Nat.mul_one] at rB
  refine ⟨pb, 0, rfl, n, by unfold Hp.at; rw [hc]; rfl, b2, o2, ha2, ⟨by omega, by omega⟩, _, c2, ?_⟩
  refine ⟨fun n2 h2 => ∃ j : Nat, n2 = ((recs[i].length + j : Nat) : Int) ∧ j ≤ 4 ∧ h2 = h1, fun n2 _ => recs[i].length + 4 - n2.toNat, ⟨0, rfl, by decide, rfl⟩, ?_⟩
  rintro n3 h2 ⟨j, rfl, hj, rfl⟩
  refine ⟨pb, 0, rfl, w, by unfold Hp.at; rw [hc]; rfl, b4, o4, ha4, ⟨by omega, by omega⟩, _, c4, fun hlt2 => ?_, fun hge2 => ?_⟩
  · have hj4 : j < 4 := by omega
    obtain ⟨b7, o7, ha7, hat7⟩ := row_get rB (i := recs[i].length + j) (by omega)
    have c7 : h2.at b7 (o7 + (((recs[i].length + j : Nat) : Int)).toNat) = some (.int .u8 (lb j)) := by
      rw [Int.toNat_natCast, hat7 _ (by omega)]
      have hjl : j < (lots 4).length := by rw [lots_len]; exact hj4
      unfold bv
      rw [List.getElem?_map, List.getElem?_append_right (by omega), Nat.add_sub_cancel_left]
      simp [lots, hj4]
    have w1 : IntKind.wrap .i64 (((recs[i].length + j : Nat) : Int) - (recs[i].length : Int)) = (j : Int) := by rw [wrap_i64 (by omega) (by omega)]; omega
    have w2 : IntKind.wrap .i64 (((recs[i].length + j : Nat) : Int) + 1) = ((recs[i].length + (j + 1) : Nat) : Int) := by rw [wrap_i64 (by omega) (by omega)]; omega
    refine ⟨pb, 0, rfl, w, by unfold Hp.at; rw [hc]; rfl, b4, o4, ha4, ⟨by omega, by omega⟩, _, c4, b7, o7, ha7, ⟨by omega, hlt2⟩, _, c7, ?_⟩
    rw [w1, w2]
    exact lot_spec ⟨_, rfl, fun _ => ⟨⟨j + 1, rfl, by omega, rfl⟩, by dsimp only; omega⟩, fun h0 => absurd rfl h0⟩
  · rw [next_i hi1 (by omega)]
    exact ⟨⟨i + 1, rfl, hi1, rfl⟩, by dsimp only; omega⟩
theorem hold43 {h0 h : Hp} {pb : Nat} {w n c k lc : Sl} {ws xs : List Sl} {recs : List (List Int)} {Q : Value → Hp → Prop} (S : Spare h0 h pb w n c k lc ws xs recs) (hn : recs.length ≤ 1000000000) (hQ : Q (.bool true) h) : F43.T (some ⟨pb, 0, none⟩) h Q := by
  have hwl : ws.length = recs.length := by have := S.rows.1; rw [List.length_map] at this; exact this
  have hzl : (List.zipWith cutR ws recs).length = recs.length := by rw [List.length_zipWith]; omega
  have hcn : c.n = 1 := by have := S.C.len; rw [List.length_singleton] at this; omega
  have hkn : k.n = 1 := by have := S.K.len; rw [List.length_singleton] at this; omega
  have hxl := S.xl
  have hln : lc.n = recs.length + 40 := by have := S.L.len; rw [slV_length, List.length_append] at this; omega
  have hc := S.cell
  have rC := S.C.row
  have rK := S.K.row
  have rL := S.L.row
  rw [Nat.mul_one] at rC rK rL
  refine ⟨fun n h1 => ∃ i : Nat, n = (i : Int) ∧ i ≤ 1 ∧ h1 = h, fun n _ => 1 - n.toNat, ⟨0, rfl, by decide, rfl⟩, ?_⟩
  rintro n2 h1 ⟨i, rfl, hi, rfl⟩
  refine ⟨pb, 0, rfl, c, by unfold Hp.at; rw [hc]; rfl, fun hlt => ?_, fun _ => hQ⟩
  have hi0 : i = 0 := by omega
  subst hi0
  obtain ⟨b2, o2, ha2, hat2⟩ := row_get rK (i := 0) (by omega)
  obtain ⟨b4, o4, ha4, hat4⟩ := row_get rC (i := 0) (by omega)
  have c2 : h1.at b2 (o2 + (((0 : Nat) : Int)).toNat) = some (.int .i64 (recs.length : Int)) := by rw [Int.toNat_natCast, hat2 0 (by omega)]; rfl
  have c4 : h1.at b4 (o4 + (((0 : Nat) : Int)).toNat) = some (.slice lc.a lc.n lc.c) := by rw [Int.toNat_natCast, hat4 0 (by omega)]; rfl
  refine ⟨pb, 0, rfl, k, by unfold Hp.at; rw [hc]; rfl, b2, o2, ha2, ⟨by omega, by omega⟩, _, c2, ?_⟩
  refine ⟨fun n2 h2 => ∃ j : Nat, n2 = ((recs.length + j : Nat) : Int) ∧ j ≤ 40 ∧ h2 = h1, fun n2 _ => recs.length + 40 - n2.toNat, ⟨0, rfl, by decide, rfl⟩, ?_⟩
  rintro n3 h2 ⟨j, rfl, hj, rfl⟩
  refine ⟨pb, 0, rfl, c, by unfold Hp.at; rw [hc]; rfl, b4, o4, ha4, ⟨by omega, by omega⟩, _, c4, fun hlt2 => ?_, fun hge2 => ?_⟩
  · have hj4 : j < 40 := by omega
    have hjx : j < xs.length := by omega
    obtain ⟨b7, o7, ha7, hat7⟩ := row_get rL (i := recs.length + j) (by omega)
    have c7 : h2.at b7 (o7 + (((recs.length + j : Nat) : Int)).toNat) = some (.slice xs[j].a xs[j].n xs[j].c) := by
      rw [Int.toNat_natCast, hat7 _ (by omega)]
      unfold slV
      rw [List.getElem?_map, List.getElem?_append_right (by omega), hzl, Nat.add_sub_cancel_left]
      simp [hjx]
    have X := S.lot j hjx
    have hxn : xs[j].n = 1 := by have := X.len; rw [bv_length, List.length_singleton] at this; omega
    have rX := X.row
    rw [Nat.mul_one] at rX
    obtain ⟨b8, o8, ha8, hat8⟩ := row_get rX (i := 0) (by omega)
    have c8 : h2.at b8 (o8 + (0 : Int).toNat) = some (.int .u8 (lb j)) := by
      have := hat8 0 (by omega)
      exact this
    have w1 : IntKind.wrap .i64 (((recs.length + j : Nat) : Int) - (recs.length : Int)) = (j : Int) := by rw [wrap_i64 (by omega) (by omega)]; omega
    have w2 : IntKind.wrap .i64 (((recs.length + j : Nat) : Int) + 1) = ((recs.length + (j + 1) : Nat) : Int) := by rw [wrap_i64 (by omega) (by omega)]; omega
    refine ⟨pb, 0, rfl, c, by unfold Hp.at; rw [hc]; rfl, b4, o4, ha4, ⟨by omega, by omega⟩, _, c4, b7, o7, ha7, ⟨by omega, hlt2⟩, _, c7, fun _ => ⟨b8, o8, ha8, ⟨by decide, by omega⟩, _, c8, ?_⟩, fun h0 => absurd (by omega) h0⟩
    rw [w1, w2]
    exact lot_spec ⟨_, rfl, c8, fun _ => ⟨⟨j + 1, rfl, by omega, rfl⟩, by dsimp only; omega⟩, fun h0 => absurd rfl h0⟩
  · exact ⟨⟨1, by decide, Nat.le_refl _, rfl⟩, by dsimp only; rw [show IntKind.wrap .i64 (((0 : Nat) : Int) + 1) = 1 by decide]; decide⟩
theorem hold_spec {h0 h : Hp} {pb : Nat} {w n c k lc : Sl} {ws xs : List Sl} {recs : List (List Int)} {Q : Value → Hp → Prop} (S : Spare h0 h pb w n c k lc ws xs recs) (hs : ∀ r ∈ recs, r.length ≤ 1000000000) (hn : recs.length ≤ 1000000000) (hQ : Q (.bool true) h) : F14.T (some ⟨pb, 0, none⟩) h Q := by
  have nx : ∀ {A B : Prop}, A → ∃ b : Bool, (Value.bool true) = .bool b ∧ parB b A B := fun {A B} a => ⟨true, rfl, fun _ => a, fun h0 => (by cases h0)⟩
  exact hold33 S hs hn (nx (hold34 S.cell (nx (hold35 S.cell (nx (hold36 S.cell (nx (hold37 S.cell (nx (hold38 S.cell (nx (hold39 S.cell (nx (hold40 S.cell (nx (hold41 S.cell (nx (hold42 S.cell (nx (hold43 S hn (nx (hold44 S.cell (nx (hold45 S.cell (nx (hold46 S.cell (nx (hQ))))))))))))))))))))))))))))
end Go.Eng.Ytblghgacokoklaa
end
section
set_option maxRecDepth 100000
set_option linter.unusedVariables false
open Go.Proofs
namespace Go.Eng.Ytblghgacokoklaa
def F4.T (l : Sl) : PT := fun h Q =>
  F8.T l h fun r h1 => ∃ b : Bool, r = .bool b ∧ parB b (∃ (I : Sl → Int → Hp → Prop) (m : Sl → Int → Hp → Nat), I ⟨none, 0, 0⟩ 0 h1 ∧ (∀ l1 : Sl, ∀ n : Int, ∀ h2 : Hp, I l1 n h2 → par (n < (l.n : Int)) (∃ b1 o, (l.a : Option Addr) = some ⟨b1, o, none⟩ ∧ ((0 : Int) ≤ n ∧ n < (l.n : Int)) ∧ ∃ l2 : Sl, h2.at b1 (o + n.toNat) = some (.slice l2.a l2.n l2.c) ∧ ∃ vs, h2.row l2.a (l2.n * 1) vs ∧ (∀ v ∈ vs, Value.oneCell' v = true) ∧ appendD ⟨none, 0, 0⟩ 5 1 1 [.int .u8 0] l2.n vs h2 fun l3 h3 => appendD l1 25 1 24 [.slice none 0 0] 1 [.slice l3.a l3.n l3.c] h3 fun l4 h4 => I l4 (IntKind.wrap .i64 (n + 1)) h4 ∧ m l4 (IntKind.wrap .i64 (n + 1)) h4 < m l1 n h2) (∀ b2, h2 b2 = none → F9.T (some ⟨b2, 0, none⟩) l (h2.new b2 (.cells ⟨[.slice none 0 0, .slice none 0 0, .slice none 0 0, .slice none 0 0, .slice none 0 0, .slice none 0 0, .slice none 0 0, .slice none 0 0, .slice none 0 0, .slice none 0 0, .slice none 0 0, .slice none 0 0, .slice none 0 0, .slice none 0 0, .slice none 0 0, .slice none 0 0, .slice none 0 0, .slice none 0 0, .slice none 0 0, .slice none 0 0, .slice none 0 0, .slice none 0 0, .slice none 0 0, .slice none 0 0, .slice none 0 0, .slice none 0 0, .slice none 0 0, .slice none 0 0]⟩ 42 (0, 0))) fun r1 h5 => ∃ l5 : Sl, r1 = .slice l5.a l5.n l5.c ∧ F10.T l1 h5 fun r2 h6 => ∃ l6 : Sl, ∃ n1 : Int, r2 = .tuple ⟨[.slice l6.a l6.n l6.c, .int .i64 n1]⟩ ∧ ∃ (I1 : Int → Hp → Prop) (m1 : Int → Hp → Nat), I1 0 h6 ∧ (∀ n2 : Int, ∀ h7 : Hp, I1 n2 h7 → par (n2 < 2) (F11.T l5 h7 fun r3 h8 => ∃ l7 : Sl, ∃ n3 : Int, r3 = .tuple ⟨[.slice l7.a l7.n l7.c, .int .i64 n3]⟩ ∧ par (n3 = n1) (F12.T l7 l6 h8 fun r4 h9 => ∃ b3 : Bool, r4 = .bool b3 ∧ parB b3 (I1 (IntKind.wrap .i64 (n2 + 1)) h9 ∧ m1 (IntKind.wrap .i64 (n2 + 1)) h9 < m1 n2 h7) (Q (.bool false) h9)) (Q (.bool false) h8)) (F13.T l5 l1 h7 fun r5 h10 => ∃ b4 : Bool, r5 = .bool b4 ∧ parB b4 (F14.T (some ⟨b2, 0, none⟩) h10 fun r6 h11 => ∃ b5 : Bool, r6 = .bool b5 ∧ parB b5 (∃ (I2 : Int → Hp → Prop) (m2 : Int → Hp → Nat), I2 0 h11 ∧ (∀ n4 : Int, ∀ h12 : Hp, I2 n4 h12 → par (n4 < (l5.n : Int)) (∃ b6 o1, (l5.a : Option Addr) = some ⟨b6, o1, none⟩ ∧ ((0 : Int) ≤ n4 ∧ n4 < (l5.n : Int)) ∧ ∃ l8 : Sl, h12.at b6 (o1 + n4.toNat) = some (.slice l8.a l8.n l8.c) ∧ par ((1 : Int) < (l8.n : Int)) (∃ b7 o2, (l5.a : Option Addr) = some ⟨b7, o2, none⟩ ∧ ((0 : Int) ≤ n4 ∧ n4 < (l5.n : Int)) ∧ ∃ l9 : Sl, h12.at b7 (o2 + n4.toNat) = some (.slice l9.a l9.n l9.c) ∧ ∃ b8 o3, (l5.a : Option Addr) = some ⟨b8, o3, none⟩ ∧ ((0 : Int) ≤ n4 ∧ n4 < (l5.n : Int)) ∧ ∃ l10 : Sl, h12.at b8 (o3 + n4.toNat) = some (.slice l10.a l10.n l10.c) ∧ ∃ b9 o4, (l10.a : Option Addr) = some ⟨b9, o4, none⟩ ∧ ((0 : Int) ≤ 1 ∧ 1 < (l10.n : Int)) ∧ ∃ n5 : Int, h12.at b9 (o4 + (1 : Int).toNat) = some (.int .u8 n5) ∧ ∃ b10 o5, (l9.a : Option Addr) = some ⟨b10, o5, none⟩ ∧ ((0 : Int) ≤ 1 ∧ 1 < (l9.n : Int)) ∧ h12.canW b10 (o5 + (1 : Int).toNat) 1 ∧ I2 (IntKind.wrap .i64 (n4 + 1)) (h12.wr b10 (o5 + (1 : Int).toNat) [.int .u8 (bitsI .xor .u8 n5 2)]) ∧ m2 (IntKind.wrap .i64 (n4 + 1)) (h12.wr b10 (o5 + (1 : Int).toNat) [.int .u8 (bitsI .xor .u8 n5 2)]) < m2 n4 h12) (I2 (IntKind.wrap .i64 (n4 + 1)) h12 ∧ m2 (IntKind.wrap .i64 (n4 + 1)) h12 < m2 n4 h12)) (∃ (I3 : Sl → Int → Hp → Prop) (m3 : Sl → Int → Hp → Nat), I3 ⟨none, 0, 0⟩ 0 h12 ∧ (∀ l11 : Sl, ∀ n6 : Int, ∀ h13 : Hp, I3 l11 n6 h13 → par (n6 < (l5.n : Int)) (∃ b11 o6, (l5.a : Option Addr) = some ⟨b11, o6, none⟩ ∧ ((0 : Int) ≤ n6 ∧ n6 < (l5.n : Int)) ∧ ∃ l12 : Sl, h13.at b11 (o6 + n6.toNat) = some (.slice l12.a l12.n l12.c) ∧ ∃ vs1, h13.row l12.a (l12.n * 1) vs1 ∧ (∀ v ∈ vs1, Value.oneCell' v = true) ∧ appendD ⟨none, 0, 0⟩ 5 1 1 [.int .u8 0] l12.n vs1 h13 fun l13 h14 => appendD l11 25 1 24 [.slice none 0 0] 1 [.slice l13.a l13.n l13.c] h14 fun l14 h15 => I3 l14 (IntKind.wrap .i64 (n6 + 1)) h15 ∧ m3 l14 (IntKind.wrap .i64 (n6 + 1)) h15 < m3 l11 n6 h13) (F11.T l5 h13 fun r7 h16 => ∃ l15 : Sl, ∃ n7 : Int, r7 = .tuple ⟨[.slice l15.a l15.n l15.c, .int .i64 n7]⟩ ∧ F10.T l11 h16 fun r8 h17 => ∃ l16 : Sl, ∃ n8 : Int, r8 = .tuple ⟨[.slice l16.a l16.n l16.c, .int .i64 n8]⟩ ∧ par (n7 = n8) (F12.T l15 l16 h17 fun r9 h18 => ∃ b12 : Bool, r9 = .bool b12 ∧ parB b12 (Q (.bool true) h18) (Q (.bool false) h18)) (Q (.bool false) h17)))))) (Q (.bool false) h11)) (Q (.bool false) h10)))))) (Q (.bool true) h1)
theorem F4.gen (V : Value → List Value → PT) (T8 : Sl → PT) (T9 : Option Addr → Sl → PT) (T10 : Sl → PT) (T11 : Sl → PT) (T12 : Sl → Sl → PT) (T13 : Sl → Sl → PT) (T14 : Option Addr → PT) (l : Sl) : denF Try.prog [32, 107] [(8, F8.W T8), (9, F9.W T9), (10, F10.W T10), (11, F11.W T11), (12, F12.W T12), (13, F13.W T13), (14, F14.W T14)] V [(122, .loop [(3, .sl), (4, .int .i64)] []), (2042, .loop [(9, .int .i64)] []), (8186, .loop [(12, .int .i64)] []), (32762, .loop [(13, .sl), (14, .int .i64)] []), (523922, .order [0, 1, 2, 3, 4, 5, 6, 7, 8, 9, 10, 11, 12])] Try.f4 [.v (.slice l.a l.n l.c)] = fun h Q =>
  T8 l h fun r h1 => ∃ b : Bool, r = .bool b ∧ parB b (∃ (I : Sl → Int → Hp → Prop) (m : Sl → Int → Hp → Nat), I ⟨none, 0, 0⟩ 0 h1 ∧ (∀ l1 : Sl, ∀ n : Int, ∀ h2 : Hp, I l1 n h2 → par (n < (l.n : Int)) (∃ b1 o, (l.a : Option Addr) = some ⟨b1, o, none⟩ ∧ ((0 : Int) ≤ n ∧ n < (l.n : Int)) ∧ ∃ l2 : Sl, h2.at b1 (o + n.toNat) = some (.slice l2.a l2.n l2.c) ∧ ∃ vs, h2.row l2.a (l2.n * 1) vs ∧ (∀ v ∈ vs, Value.oneCell' v = true) ∧ appendD ⟨none, 0, 0⟩ 5 1 1 [.int .u8 0] l2.n vs h2 fun l3 h3 => appendD l1 25 1 24 [.slice none 0 0] 1 [.slice l3.a l3.n l3.c] h3 fun l4 h4 => I l4 (IntKind.wrap .i64 (n + 1)) h4 ∧ m l4 (IntKind.wrap .i64 (n + 1)) h4 < m l1 n h2) (∀ b2, h2 b2 = none → T9 (some ⟨b2, 0, none⟩) l (h2.new b2 (.cells ⟨[.slice none 0 0, .slice none 0 0, .slice none 0 0, .slice none 0 0, .slice none 0 0, .slice none 0 0, .slice none 0 0, .slice none 0 0, .slice none 0 0, .slice none 0 0, .slice none 0 0, .slice none 0 0, .slice none 0 0, .slice none 0 0, .slice none 0 0, .slice none 0 0, .slice none 0 0, .slice none 0 0, .slice none 0 0, .slice none 0 0, .slice none 0 0, .slice none 0 0, .slice none 0 0, .slice none 0 0, .slice none 0 0, .slice none 0 0, .slice none 0 0, .slice none 0 0]⟩ 42 (0, 0))) fun r1 h5 => ∃ l5 : Sl, r1 = .slice l5.a l5.n l5.c ∧ T10 l1 h5 fun r2 h6 => ∃ l6 : Sl, ∃ n1 : Int, r2 = .tuple ⟨[.slice l6.a l6.n l6.c, .int .i64 n1]⟩ ∧ ∃ (I1 : Int → Hp → Prop) (m1 : Int → Hp → Nat), I1 0 h6 ∧ (∀ n2 : Int, ∀ h7 : Hp, I1 n2 h7 → par (n2 < 2) (T11 l5 h7 fun r3 h8 => ∃ l7 : Sl, ∃ n3 : Int, r3 = .tuple ⟨[.slice l7.a l7.n l7.c, .int .i64 n3]⟩ ∧ par (n3 = n1) (T12 l7 l6 h8 fun r4 h9 => ∃ b3 : Bool, r4 = .bool b3 ∧ parB b3 (I1 (IntKind.wrap .i64 (n2 + 1)) h9 ∧ m1 (IntKind.wrap .i64 (n2 + 1)) h9 < m1 n2 h7) (Q (.bool false) h9)) (Q (.bool false) h8)) (T13 l5 l1 h7 fun r5 h10 => ∃ b4 : Bool, r5 = .bool b4 ∧ parB b4 (T14 (some ⟨b2, 0, none⟩) h10 fun r6 h11 => ∃ b5 : Bool, r6 = .bool b5 ∧ parB b5 (∃ (I2 : Int → Hp → Prop) (m2 : Int → Hp → Nat), I2 0 h11 ∧ (∀ n4 : Int, ∀ h12 : Hp, I2 n4 h12 → par (n4 < (l5.n : Int)) (∃ b6 o1, (l5.a : Option Addr) = some ⟨b6, o1, none⟩ ∧ ((0 : Int) ≤ n4 ∧ n4 < (l5.n : Int)) ∧ ∃ l8 : Sl, h12.at b6 (o1 + n4.toNat) = some (.slice l8.a l8.n l8.c) ∧ par ((1 : Int) < (l8.n : Int)) (∃ b7 o2, (l5.a : Option Addr) = some ⟨b7, o2, none⟩ ∧ ((0 : Int) ≤ n4 ∧ n4 < (l5.n : Int)) ∧ ∃ l9 : Sl, h12.at b7 (o2 + n4.toNat) = some (.slice l9.a l9.n l9.c) ∧ ∃ b8 o3, (l5.a : Option Addr) = some ⟨b8, o3, none⟩ ∧ ((0 : Int) ≤ n4 ∧ n4 < (l5.n : Int)) ∧ ∃ l10 : Sl, h12.at b8 (o3 + n4.toNat) = some (.slice l10.a l10.n l10.c) ∧ ∃ b9 o4, (l10.a : Option Addr) = some ⟨b9, o4, none⟩ ∧ ((0 : Int) ≤ 1 ∧ 1 < (l10.n : Int)) ∧ ∃ n5 : Int, h12.at b9 (o4 + (1 : Int).toNat) = some (.int .u8 n5) ∧ ∃ b10 o5, (l9.a : Option Addr) = some ⟨b10, o5, none⟩ ∧ ((0 : Int) ≤ 1 ∧ 1 < (l9.n : Int)) ∧ h12.canW b10 (o5 + (1 : Int).toNat) 1 ∧ I2 (IntKind.wrap .i64 (n4 + 1)) (h12.wr b10 (o5 + (1 : Int).toNat) [.int .u8 (bitsI .xor .u8 n5 2)]) ∧ m2 (IntKind.wrap .i64 (n4 + 1)) (h12.wr b10 (o5 + (1 : Int).toNat) [.int .u8 (bitsI .xor .u8 n5 2)]) < m2 n4 h12) (I2 (IntKind.wrap .i64 (n4 + 1)) h12 ∧ m2 (IntKind.wrap .i64 (n4 + 1)) h12 < m2 n4 h12)) (∃ (I3 : Sl → Int → Hp → Prop) (m3 : Sl → Int → Hp → Nat), I3 ⟨none, 0, 0⟩ 0 h12 ∧ (∀ l11 : Sl, ∀ n6 : Int, ∀ h13 : Hp, I3 l11 n6 h13 → par (n6 < (l5.n : Int)) (∃ b11 o6, (l5.a : Option Addr) = some ⟨b11, o6, none⟩ ∧ ((0 : Int) ≤ n6 ∧ n6 < (l5.n : Int)) ∧ ∃ l12 : Sl, h13.at b11 (o6 + n6.toNat) = some (.slice l12.a l12.n l12.c) ∧ ∃ vs1, h13.row l12.a (l12.n * 1) vs1 ∧ (∀ v ∈ vs1, Value.oneCell' v = true) ∧ appendD ⟨none, 0, 0⟩ 5 1 1 [.int .u8 0] l12.n vs1 h13 fun l13 h14 => appendD l11 25 1 24 [.slice none 0 0] 1 [.slice l13.a l13.n l13.c] h14 fun l14 h15 => I3 l14 (IntKind.wrap .i64 (n6 + 1)) h15 ∧ m3 l14 (IntKind.wrap .i64 (n6 + 1)) h15 < m3 l11 n6 h13) (T11 l5 h13 fun r7 h16 => ∃ l15 : Sl, ∃ n7 : Int, r7 = .tuple ⟨[.slice l15.a l15.n l15.c, .int .i64 n7]⟩ ∧ T10 l11 h16 fun r8 h17 => ∃ l16 : Sl, ∃ n8 : Int, r8 = .tuple ⟨[.slice l16.a l16.n l16.c, .int .i64 n8]⟩ ∧ par (n7 = n8) (T12 l15 l16 h17 fun r9 h18 => ∃ b12 : Bool, r9 = .bool b12 ∧ parB b12 (Q (.bool true) h18) (Q (.bool false) h18)) (Q (.bool false) h17)))))) (Q (.bool false) h11)) (Q (.bool false) h10)))))) (Q (.bool true) h1) := by kernel_rfl
theorem F4.den (V : Value → List Value → PT) (l : Sl) : denF Try.prog [32, 107] [(8, F8.V), (9, F9.V), (10, F10.V), (11, F11.V), (12, F12.V), (13, F13.V), (14, F14.V)] V [(122, .loop [(3, .sl), (4, .int .i64)] []), (2042, .loop [(9, .int .i64)] []), (8186, .loop [(12, .int .i64)] []), (32762, .loop [(13, .sl), (14, .int .i64)] []), (523922, .order [0, 1, 2, 3, 4, 5, 6, 7, 8, 9, 10, 11, 12])] Try.f4 [.v (.slice l.a l.n l.c)] = F4.T l := F4.gen V F8.T F9.T F10.T F11.T F12.T F13.T F14.T l
def F4.W (T4 : Sl → PT) (args : List Value) : PT := match args with
  | [.slice l_a l_n l_c] => T4 ⟨l_a, l_n, l_c⟩
  | _ => fun _ _ => False
def F4.V : List Value → PT := F4.W F4.T
theorem F4.ok : FOk Try.prog 4 F4.V := by
  refine ⟨⟨_, Try.func4, rfl, rfl⟩, fun args => ?_⟩
  have hG : GOk Try.prog [(8, F8.V), (9, F9.V), (10, F10.V), (11, F11.V), (12, F12.V), (13, F13.V), (14, F14.V)] := GOk.cons F8.ok (GOk.cons F9.ok (GOk.cons F10.ok (GOk.cons F11.ok (GOk.cons F12.ok (GOk.cons F13.ok (GOk.cons F14.ok (GOk.nil)))))))
  have hV : VOk Try.prog noV := noV_ok
  unfold F4.V F4.W
  split
  · exact denF_okV hG hV Try.func4 (fun h Q hq => (F4.den _ _) ▸ hq)
  · exact fun h Q hq => hq.elim
end Go.Eng.Ytblghgacokoklaa
end
section
/-
  SPECS, 29: ManifestGets: the pieces.
-/
set_option linter.unusedSimpArgs false
set_option linter.unusedVariables false
set_option maxRecDepth 100000
namespace Go.Eng.Ytblghgacokoklaa
theorem copy_loop {h : Hp} {l : Sl} {ss : List Sl} {recs : List (List Int)} {Rx : Sl → Hp → Prop} (hrow : h.row l.a l.n (slV ss)) (R : Rows h ss recs) (hs : ∀ r ∈ recs, r.length ≤ 1000000000) (hn : recs.length ≤ 1000000000)
    (hR : ∀ l1 h2 ts, Buf h2 l1 1 25 (slV ts) → RowsAt h2 ts recs → Keep h h2 → (l1.a = none ∨ New h l1) → Rx l1 h2) :
    ∃ (I : Sl → Int → Hp → Prop) (m : Sl → Int → Hp → Nat), I ⟨none, 0, 0⟩ 0 h ∧ (∀ l1 : Sl, ∀ n : Int, ∀ h2 : Hp, I l1 n h2 → par (n < (l.n : Int)) (∃ b1 o, (l.a : Option Addr) = some ⟨b1, o, none⟩ ∧ ((0 : Int) ≤ n ∧ n < (l.n : Int)) ∧ ∃ l2 : Sl, h2.at b1 (o + n.toNat) = some (.slice l2.a l2.n l2.c) ∧ ∃ vs, h2.row l2.a (l2.n * 1) vs ∧ (∀ v ∈ vs, Value.oneCell' v = true) ∧ appendD ⟨none, 0, 0⟩ 5 1 1 [.int .u8 0] l2.n vs h2 fun l3 h3 => appendD l1 25 1 24 [.slice none 0 0] 1 [.slice l3.a l3.n l3.c] h3 fun l4 h4 => I l4 (IntKind.wrap .i64 (n + 1)) h4 ∧ m l4 (IntKind.wrap .i64 (n + 1)) h4 < m l1 n h2) (Rx l1 h2)) := by
  have hss : ss.length = recs.length := R.1
  have hln : l.n = recs.length := by have := hrow.1; rw [slV_length, hss] at this; exact this.symm
  refine ⟨fun l1 n h2 => ∃ (i : Nat) (ts : List Sl), n = (i : Int) ∧ i ≤ recs.length ∧ Buf h2 l1 1 25 (slV ts) ∧ RowsAt h2 ts (recs.take i) ∧ Keep h h2 ∧ (l1.a = none ∨ New h l1), fun _ n _ => recs.length - n.toNat, ⟨0, [], rfl, Nat.zero_le _, Buf.nil h 1 25, RowsAt.nil h, Keep.refl h, .inl rfl⟩, ?_⟩
  rintro l1 n h2 ⟨i, ts, rfl, hi, B1, T, K, N⟩
  refine ⟨fun hlt => ?_, fun hge => ?_⟩
  · have hi1 : i < recs.length := by omega
    have hi2 : i < ss.length := by omega
    obtain ⟨b1, o, ha, hat⟩ := row_get (K.row hrow) (i := i) (by omega)
    have hv : (slV ss)[i]? = some (.slice ss[i].a ss[i].n ss[i].c) := by simp [slV, hi2]
    have hr := K.row (R.2 i hi2 hi1)
    have hsn : ss[i].n = recs[i].length := by have := hr.1; rw [bv_length] at this; exact this.symm
    have hrl := hs _ (List.getElem_mem hi1)
    have hl1 : l1.n = i := by have := B1.len; rw [slV_length, T.1, List.length_take] at this; omega
    refine ⟨b1, o, ha, ⟨by omega, hlt⟩, ss[i], by rw [Int.toNat_natCast, hat i (by omega), hv], bv recs[i], by rw [Nat.mul_one]; exact hr, bv_one _, ?_⟩
    refine append_buf (Buf.nil h2 1 5) rfl (by rw [bv_length]; omega) (by show (0 + ss[i].n) * 1 ≤ _; omega) fun l3 h3 B3 hn3 U3 => ?_
    have K3 := U3.keepNil rfl
    refine append_buf (B1.keep K3) rfl rfl (by omega) fun l4 h4 B4 hn4 U4 => ?_
    obtain ⟨K4, N4⟩ := keep_grow (K.trans K3) N U4
    rw [next_i hi1 (by omega)]
    refine ⟨⟨i + 1, ts ++ [l3], rfl, hi1, by rw [slV_app]; exact B4, ?_, K4, N4⟩, by dsimp only; omega⟩
    rw [List.take_succ_eq_append_getElem hi1]
    refine RowsAt.snoc ((T.keep K3).upd U4 (B1.keep K3) (by decide)) ?_
    exact B3.upd U4 (buf_off B3 (B1.keep K3) (by decide))
  · have hie : i = recs.length := by omega
    subst hie
    rw [List.take_length] at T
    exact hR l1 h2 ts B1 T K N
theorem same_chunks {h : Hp} {l l1 : Sl} {ss ts : List Sl} {recs : List (List Int)} {Q : Value → Hp → Prop} (hr : h.row l.a l.n (slV ss)) (R : Rows h ss recs) (hr1 : h.row l1.a l1.n (slV ts)) (R1 : Rows h ts recs) (hs : ∀ r ∈ recs, r.length ≤ 1000000000) (hn : recs.length ≤ 1000000000) (hQ : Q (.bool true) h) : F13.T l l1 h Q := by
  have e1 : ss.length = recs.length := R.1
  have e2 : ts.length = recs.length := R1.1
  have hln : l.n = recs.length := by have := hr.1; rw [slV_length, e1] at this; exact this.symm
  have hln1 : l1.n = recs.length := by have := hr1.1; rw [slV_length, e2] at this; exact this.symm
  refine ⟨fun _ => ?_, fun h0 => absurd (by omega) h0⟩
  refine ⟨fun n h1 => ∃ i : Nat, n = (i : Int) ∧ i ≤ recs.length ∧ h1 = h, fun n _ => recs.length - n.toNat, ⟨0, rfl, Nat.zero_le _, rfl⟩, ?_⟩
  rintro n h1 ⟨i, rfl, hi, rfl⟩
  refine ⟨fun hlt => ?_, fun _ => hQ⟩
  have hi1 : i < recs.length := by omega
  have hi2 : i < ss.length := by omega
  have hi3 : i < ts.length := by omega
  obtain ⟨b, o, ha, hat⟩ := row_get hr (i := i) (by omega)
  obtain ⟨b1, o1, ha1, hat1⟩ := row_get hr1 (i := i) (by omega)
  have hrl := hs _ (List.getElem_mem hi1)
  refine ⟨b, o, ha, ⟨by omega, hlt⟩, ss[i], by rw [Int.toNat_natCast, hat i (by omega)]; simp [slV, hi2], b1, o1, ha1, ⟨by omega, by omega⟩, ts[i], by rw [Int.toNat_natCast, hat1 i (by omega)]; simp [slV, hi3], ?_⟩
  refine sameBytes_eq (R.2 i hi2 hi1) (R1.2 i hi3 hi1) (by omega) (fun _ => ⟨true, rfl, fun _ => ?_, fun h0 => (by cases h0)⟩) (fun h0 => absurd rfl h0)
  rw [next_i hi1 (by omega)]
  exact ⟨⟨i + 1, rfl, hi1, rfl⟩, by dsimp only; omega⟩
/-- What a reading answers. -/
def Res (h : Hp) (l : Sl) (n : Int) : Option (List Edit) → Prop
  | none => l = nilS ∧ n = 140
  | some es => n = 0 ∧ ∃ L : List EdS, es = L.map EdS.e ∧ Buf h l 6 60 (edV L) ∧ (∀ x ∈ L, EdOk h x) ∧ L.length ≤ 200000000000
theorem Res.keep {h h' : Hp} (k : Keep h h') {l : Sl} {n : Int} : ∀ {g : Option (List Edit)}, Res h l n g → Res h' l n g
  | none, r => r
  | some es, ⟨h0, L, he, B, hL, hn⟩ => ⟨h0, L, he, B.keep k, fun x hx => (hL x hx).keep k, hn⟩
theorem get_res {h : Hp} {l : Sl} {ss : List Sl} {recs : List (List Int)} {Q : Value → Hp → Prop} (A : Recs h l ss recs)
    (hQ : ∀ h' l1 n, Keep h h' → Res h' l1 n (getR recs [] zE []) → Q (.tuple ⟨[.slice l1.a l1.n l1.c, .int .i64 n]⟩) h') : F11.T l h Q :=
  get_spec A (fun h' K hno => hQ h' nilS 140 K (by rw [hno]; exact ⟨rfl, rfl⟩)) (fun h' l1 L K hso B hL N hn => hQ h' l1 0 K (by rw [hso]; exact ⟨rfl, L, rfl, B, hL, hn⟩))
theorem doc_res {h : Hp} {l : Sl} {ss : List Sl} {recs : List (List Int)} {Q : Value → Hp → Prop} (A : Recs h l ss recs)
    (hQ : ∀ h' l1 n, Keep h h' → Res h' l1 n (getR recs [] zE []) → Q (.tuple ⟨[.slice l1.a l1.n l1.c, .int .i64 n]⟩) h') : F10.T l h Q := by
  rw [← gD_eq A.ok] at hQ
  exact doc_spec A (fun h' K hno => hQ h' nilS 140 K (by rw [hno]; exact ⟨rfl, rfl⟩)) (fun h' l1 L K hso B hL N hn => hQ h' l1 0 K (by rw [hso]; exact ⟨rfl, L, rfl, B, hL, hn⟩))
theorem eq_res {h : Hp} {l l1 : Sl} {n n1 : Int} {g : Option (List Edit)} {Q : Value → Hp → Prop} (A : Res h l n g) (B : Res h l1 n1 g) (hQ : Q (.bool true) h) : n = n1 ∧ F12.T l l1 h Q := by
  cases g with
  | none =>
    obtain ⟨rfl, rfl⟩ := A
    obtain ⟨rfl, rfl⟩ := B
    exact ⟨rfl, edits_eq (L := []) (M := []) (Buf.nil h 6 60).row (Buf.nil h 6 60).row (fun x hx => (by cases hx)) (fun x hx => (by cases hx)) (fun x hx => (by cases hx)) (Nat.zero_le _) rfl hQ⟩
  | some es =>
    obtain ⟨rfl, L, hL, B1, h1, _⟩ := A
    obtain ⟨rfl, M, hM, B2, h2, hn⟩ := B
    exact ⟨rfl, edits_eq B1.row B2.row (fun x hx => (h1 x hx).at) (fun x hx => (h2 x hx).at) (fun x hx => by have := (h2 x hx).size; have := (h2 x hx).nptr; omega) (by omega) (by rw [← hL, hM]) hQ⟩
/-- A record with one bit turned. -/
def flip2 (r : List Int) : List Int := if h : 1 < r.length then r.set 1 (bitsI .xor .u8 r[1] 2) else r
theorem flip2_len (r : List Int) : (flip2 r).length = r.length := by unfold flip2; split <;> simp
theorem flip2_ok {r : List Int} (h : ∀ c ∈ r, 0 ≤ c ∧ c < 256) : ∀ c ∈ flip2 r, 0 ≤ c ∧ c < 256 := by
  unfold flip2
  split
  · intro c hc
    rcases List.mem_or_eq_of_mem_set hc with hc | rfl
    · exact h c hc
    · unfold bitsI
      simp only [IntKind.wrap_u8]
      omega
  · exact h
theorem tot_map (f : List Int → List Int) (hf : ∀ r, (f r).length = r.length) (l : List (List Int)) : tot (l.map f) = tot l := by
  unfold tot
  rw [List.map_map]
  congr 1
  exact List.map_congr_left fun r _ => by simp [hf]
theorem spare_recs {h : Hp} {lc : Sl} {ws xs : List Sl} {recs rs : List (List Int)} (L : Buf h lc 1 25 (slV (List.zipWith cutR ws recs ++ xs))) (R : RowsAt h ws (rs.map fun r => r ++ lots 4)) (hl : rs.length = recs.length) (he : ∀ (i : Nat) (h1 : i < rs.length) (h2 : i < recs.length), rs[i].length = recs[i].length)
    (ok : ∀ r ∈ rs, ∀ c ∈ r, 0 ≤ c ∧ c < 256) (each : ∀ r ∈ rs, r.length ≤ 1000000000) (ht : tot rs ≤ 200000000000) : Recs h (Sl.cut lc 1 0 (recs.length : Int) (lc.n : Int)) (List.zipWith cutR ws recs) rs := by
  have hwl : ws.length = recs.length := by have := R.1; rw [List.length_map] at this; omega
  have hzl : (List.zipWith cutR ws recs).length = recs.length := by rw [List.length_zipWith]; omega
  have hln : lc.n = recs.length + xs.length := by have := L.len; rw [slV_length, List.length_append] at this; omega
  have hcn : (Sl.cut lc 1 0 (recs.length : Int) (lc.n : Int)).n = recs.length := by simp [Sl.cut]
  have hws : ∀ (i : Nat) (hi : i < ws.length), ∃ hr : i < recs.length, ws[i].n = recs[i].length + 4 := fun i hi => by
    refine ⟨by omega, ?_⟩
    have := (R.2 i hi (by rw [List.length_map]; omega)).len
    rw [List.getElem_map, bv_length, List.length_append, lots_len, he i (by omega) (by omega)] at this
    omega
  refine ⟨?_, ?_, ⟨by rw [hzl, hl], fun i hi hj => ?_⟩, fun s hs => ?_, ok, each, ht⟩
  · have r := L.row
    rw [Nat.mul_one] at r
    have := row_take r (k := recs.length) (by omega)
    rw [cut_a, hcn]
    have e : (slV (List.zipWith cutR ws recs ++ xs)).take recs.length = slV (List.zipWith cutR ws recs) := by
      rw [slV_app, List.take_left' (by rw [slV_length, hzl])]
    rw [← e]
    exact this
  · rw [hcn]; show recs.length ≤ _; simp [Sl.cut]; omega
  · have hi1 : i < ws.length := by omega
    have hi2 : i < recs.length := by omega
    rw [List.getElem_zipWith]
    have B := (R.2 i hi1 (by rw [List.length_map]; omega)).row
    rw [Nat.mul_one, List.getElem_map] at B
    obtain ⟨_, hn⟩ := hws i hi1
    have hl := he i hj hi2
    have := row_take B (k := rs[i].length) (by omega)
    unfold cutR
    rw [cut_a]
    have en : (Sl.cut ws[i] 1 0 (recs[i].length : Int) (ws[i].n : Int)).n = rs[i].length := by simp [Sl.cut]; omega
    rw [en]
    have e : (bv (rs[i] ++ lots 4)).take rs[i].length = bv rs[i] := by rw [bv_append, List.take_left' (by rw [bv_length])]
    rw [← e]
    exact this
  · obtain ⟨i, hi, rfl⟩ := List.getElem_of_mem hs
    rw [List.getElem_zipWith]
    obtain ⟨_, hn⟩ := hws i (by omega)
    unfold cutR
    simp [Sl.cut]
    omega
end Go.Eng.Ytblghgacokoklaa
end
section
/-
  SPECS, 30: ManifestGets.
-/
set_option linter.unusedSimpArgs false
set_option linter.unusedVariables false
set_option maxRecDepth 100000
namespace Go.Eng.Ytblghgacokoklaa
/-- The first i records are turned. -/
def upto (i : Nat) (recs : List (List Int)) : List (List Int) := (recs.take i).map flip2 ++ recs.drop i
theorem upto_len (i : Nat) (recs : List (List Int)) : (upto i recs).length = recs.length := by
  unfold upto
  rw [List.length_append, List.length_map, List.length_take, List.length_drop]; omega
theorem upto_get? {i : Nat} {recs : List (List Int)} (hi : i ≤ recs.length) (j : Nat) : (upto i recs)[j]? = if j < i then (recs[j]?).map flip2 else recs[j]? := by
  unfold upto
  by_cases h : j < i
  · rw [if_pos h, List.getElem?_append_left (by rw [List.length_map, List.length_take]; omega), List.getElem?_map, List.getElem?_take, if_pos h]
  · rw [if_neg h, List.getElem?_append_right (by rw [List.length_map, List.length_take]; omega), List.getElem?_drop, List.length_map, List.length_take]
    congr 1
    omega
theorem upto_get {i : Nat} {recs : List (List Int)} (hi : i ≤ recs.length) (j : Nat) (hj : j < (upto i recs).length) (hj' : j < recs.length) : (upto i recs)[j] = if j < i then flip2 recs[j] else recs[j] := by
  have h := upto_get? hi j
  rw [List.getElem?_eq_getElem hj, List.getElem?_eq_getElem hj'] at h
  by_cases hji : j < i
  · rw [if_pos hji] at h ⊢; exact Option.some.inj h
  · rw [if_neg hji] at h ⊢; exact Option.some.inj h
theorem upto_succ {i : Nat} {recs : List (List Int)} (hi : i < recs.length) (j : Nat) (hj : j < (upto (i + 1) recs).length) (hj' : j < recs.length) (hj2 : j < (upto i recs).length) : (upto (i + 1) recs)[j] = if j = i then flip2 recs[j] else (upto i recs)[j] := by
  rw [upto_get (Nat.le_of_lt hi) j hj2 hj', upto_get hi j hj hj']
  by_cases h1 : j = i
  · rw [if_pos h1, if_pos (by omega)]
  · rw [if_neg h1]
    by_cases h2 : j < i
    · rw [if_pos h2, if_pos (by omega)]
    · rw [if_neg h2, if_neg (by omega)]
theorem flip_loop {h0 h : Hp} {pb : Nat} {w n c k lc l5 : Sl} {ws xs : List Sl} {recs : List (List Int)} {Rx : Hp → Prop} (S : Spare h0 h pb w n c k lc ws xs recs) (hl5 : l5 = Sl.cut lc 1 0 (recs.length : Int) (lc.n : Int)) (hs : ∀ r ∈ recs, r.length ≤ 1000000000) (hn : recs.length ≤ 1000000000)
    (hR : ∀ h', Keep h0 h' → Buf h' lc 1 25 (slV (List.zipWith cutR ws recs ++ xs)) → RowsAt h' ws ((recs.map flip2).map fun r => r ++ lots 4) → Rx h') :
    ∃ (I2 : Int → Hp → Prop) (m2 : Int → Hp → Nat), I2 0 h ∧ (∀ n4 : Int, ∀ h12 : Hp, I2 n4 h12 → par (n4 < (l5.n : Int)) (∃ b6 o1, (l5.a : Option Addr) = some ⟨b6, o1, none⟩ ∧ ((0 : Int) ≤ n4 ∧ n4 < (l5.n : Int)) ∧ ∃ l8 : Sl, h12.at b6 (o1 + n4.toNat) = some (.slice l8.a l8.n l8.c) ∧ par ((1 : Int) < (l8.n : Int)) (∃ b7 o2, (l5.a : Option Addr) = some ⟨b7, o2, none⟩ ∧ ((0 : Int) ≤ n4 ∧ n4 < (l5.n : Int)) ∧ ∃ l9 : Sl, h12.at b7 (o2 + n4.toNat) = some (.slice l9.a l9.n l9.c) ∧ ∃ b8 o3, (l5.a : Option Addr) = some ⟨b8, o3, none⟩ ∧ ((0 : Int) ≤ n4 ∧ n4 < (l5.n : Int)) ∧ ∃ l10 : Sl, h12.at b8 (o3 + n4.toNat) = some (.slice l10.a l10.n l10.c) ∧ ∃ b9 o4, (l10.a : Option Addr) = some ⟨b9, o4, none⟩ ∧ ((0 : Int) ≤ 1 ∧ 1 < (l10.n : Int)) ∧ ∃ n5 : Int, h12.at b9 (o4 + (1 : Int).toNat) = some (.int .u8 n5) ∧ ∃ b10 o5, (l9.a : Option Addr) = some ⟨b10, o5, none⟩ ∧ ((0 : Int) ≤ 1 ∧ 1 < (l9.n : Int)) ∧ h12.canW b10 (o5 + (1 : Int).toNat) 1 ∧ I2 (IntKind.wrap .i64 (n4 + 1)) (h12.wr b10 (o5 + (1 : Int).toNat) [.int .u8 (bitsI .xor .u8 n5 2)]) ∧ m2 (IntKind.wrap .i64 (n4 + 1)) (h12.wr b10 (o5 + (1 : Int).toNat) [.int .u8 (bitsI .xor .u8 n5 2)]) < m2 n4 h12) (I2 (IntKind.wrap .i64 (n4 + 1)) h12 ∧ m2 (IntKind.wrap .i64 (n4 + 1)) h12 < m2 n4 h12)) (Rx h12)) := by
  have hwl : ws.length = recs.length := by have := S.rows.1; rw [List.length_map] at this; exact this
  have hzl : (List.zipWith cutR ws recs).length = recs.length := by rw [List.length_zipWith]; omega
  have hxl := S.xl
  have hln : lc.n = recs.length + 40 := by have := S.L.len; rw [slV_length, List.length_append] at this; omega
  have hcn : l5.n = recs.length := by rw [hl5]; simp [Sl.cut]
  have hca : l5.a = lc.a := by rw [hl5, cut_a]
  refine ⟨fun n h' => ∃ i : Nat, n = (i : Int) ∧ i ≤ recs.length ∧ Keep h0 h' ∧ Buf h' lc 1 25 (slV (List.zipWith cutR ws recs ++ xs)) ∧ RowsAt h' ws ((upto i recs).map fun r => r ++ lots 4), fun n _ => recs.length - n.toNat,
    ⟨0, rfl, Nat.zero_le _, S.keep, S.L, S.rows⟩, ?_⟩
  rintro n4 h' ⟨i, rfl, hi, K, L, R⟩
  refine ⟨fun hlt => ?_, fun hge => ?_⟩
  · have hi1 : i < recs.length := by omega
    have hi2 : i < ws.length := by omega
    have rL := L.row
    rw [Nat.mul_one] at rL
    obtain ⟨b6, o1, ha, hat⟩ := row_get rL (i := i) (by omega)
    have ha5 : l5.a = some ⟨b6, o1, none⟩ := by rw [hca]; exact ha
    have c6 : h'.at b6 (o1 + ((i : Int)).toNat) = some (.slice (cutR ws[i] recs[i]).a (cutR ws[i] recs[i]).n (cutR ws[i] recs[i]).c) := by
      rw [Int.toNat_natCast, hat i (by omega)]
      unfold slV
      rw [List.getElem?_map, List.getElem?_append_left (by omega), List.getElem?_eq_getElem (by omega), List.getElem_zipWith]
      rfl
    have hrn : (cutR ws[i] recs[i]).n = recs[i].length := by unfold cutR; simp [Sl.cut]
    have hra : (cutR ws[i] recs[i]).a = ws[i].a := by unfold cutR; rw [cut_a]
    have ul := upto_len i recs
    have hiu : i < (upto i recs).length := by omega
    have hge : (upto i recs)[i] = recs[i] := by rw [upto_get hi i hiu hi1, if_neg (Nat.lt_irrefl i)]
    have B := R.2 i hi2 (by rw [List.length_map]; omega)
    rw [List.getElem_map, hge] at B
    rw [next_i hi1 (by omega)]
    refine ⟨b6, o1, ha5, ⟨by omega, hlt⟩, _, c6, fun hlong => ?_, fun hshort => ?_⟩
    · have hl1 : 1 < recs[i].length := by omega
      obtain ⟨b, hb, h1, h2, h3⟩ := buf_set B (k := 1) (by rw [bv_length, List.length_append]; omega)
      have c1 : h'.at b (0 + (1 : Int).toNat) = some (.int .u8 recs[i][1]) := by
        show h'.at b 1 = _
        rw [h1]
        unfold bv
        rw [List.getElem?_map, List.getElem?_append_left hl1, List.getElem?_eq_getElem hl1]
        rfl
      obtain ⟨U, B'⟩ := h3 (.int .u8 (bitsI .xor .u8 recs[i][1] 2))
      refine ⟨b6, o1, ha5, ⟨by omega, hlt⟩, _, c6, b6, o1, ha5, ⟨by omega, hlt⟩, _, c6, b, 0, by rw [hra]; exact hb, ⟨by decide, hlong⟩, _, c1, b, 0, by rw [hra]; exact hb, ⟨by decide, hlong⟩, h2, ?_⟩
      refine ⟨⟨i + 1, rfl, hi1, (keep_grow K (.inr (S.rnew _ (List.getElem_mem hi2))) U).1, L.upd U (buf_off L B (by decide)), ?_⟩, by dsimp only; omega⟩
      refine ⟨by rw [List.length_map, upto_len]; omega, fun j hj hj2 => ?_⟩
      rw [List.length_map, upto_len] at hj2
      have hju : j < (upto i recs).length := by omega
      rw [List.getElem_map, upto_succ hi1 j (by rw [upto_len]; exact hj2) hj2 hju]
      by_cases hji : j = i
      · subst hji
        rw [if_pos rfl]
        have e : flip2 recs[j] ++ lots 4 = (recs[j] ++ lots 4).set 1 (bitsI .xor .u8 recs[j][1] 2) := by
          unfold flip2
          rw [dif_pos hl1, List.set_append_left _ _ hl1]
        rw [e]
        unfold bv at B' ⊢
        rw [List.map_set]
        exact B'
      · rw [if_neg hji]
        have Bj := R.2 j hj (by rw [List.length_map]; omega)
        rw [List.getElem_map] at Bj
        have ap := List.pairwise_iff_getElem.1 S.apart
        refine Bj.upd U ?_
        rcases Nat.lt_or_gt_of_ne hji with h | h
        · exact (ap j i hj hi2 h).1
        · exact (ap i j hi2 hj h).2
    · refine ⟨⟨i + 1, rfl, hi1, K, L, ?_⟩, by dsimp only; omega⟩
      have hfl : flip2 recs[i] = recs[i] := by unfold flip2; rw [dif_neg (by omega)]
      refine ⟨by rw [List.length_map, upto_len]; omega, fun j hj hj2 => ?_⟩
      rw [List.length_map, upto_len] at hj2
      have hju : j < (upto i recs).length := by omega
      rw [List.getElem_map, upto_succ hi1 j (by rw [upto_len]; exact hj2) hj2 hju]
      have Bj := R.2 j hj (by rw [List.length_map]; omega)
      rw [List.getElem_map] at Bj
      by_cases hji : j = i
      · subst hji
        rw [if_pos rfl, hfl]
        exact B
      · rw [if_neg hji]; exact Bj
  · have hie : i = recs.length := by omega
    subst hie
    refine hR h' K L ?_
    have e : upto recs.length recs = recs.map flip2 := by unfold upto; rw [List.take_length, List.drop_length, List.append_nil]
    rw [← e]
    exact R
end Go.Eng.Ytblghgacokoklaa
end
section
/-
  SPECS, 31: ManifestGets answers true.
-/
set_option linter.unusedSimpArgs false
set_option linter.unusedVariables false
set_option maxRecDepth 100000
namespace Go.Eng.Ytblghgacokoklaa
theorem gets_spec {h : Hp} {l : Sl} {ss : List Sl} {recs : List (List Int)} {Q : Value → Hp → Prop} (hrow : h.row l.a l.n (slV ss)) (hcap : l.n ≤ l.c) (R : Rows h ss recs) (hcaps : ∀ s ∈ ss, s.n ≤ s.c) (hok : ∀ r ∈ recs, ∀ c ∈ r, 0 ≤ c ∧ c < 256) (hsm : ∀ s ∈ ss, s.n ≤ 9223372036854775807)
    (hQ : ∀ h', Keep h h' → Q (.bool true) h') : F4.T l h Q := by
  refine fewer_spec hrow hsm (fun h1 K1 ht => ⟨true, rfl, fun _ => ?_, fun h0 => (by cases h0)⟩) (fun h1 K1 => ⟨false, rfl, fun h0 => (by cases h0), fun _ => hQ h1 K1⟩)
  have htot : tot recs = totS ss := by
    unfold tot totS
    have e : recs.map (fun r => r.length + 1) = ss.map (fun s => s.n + 1) := by
      apply List.ext_getElem (by simp [R.1])
      intro i hi hj
      simp only [List.length_map] at hi hj
      simp only [List.getElem_map]
      have := (R.2 i hj hi).1
      rw [bv_length] at this
      rw [this]
    rw [e]
  have hrl := tot_len recs
  have hn : recs.length ≤ 1000000000 := by omega
  have each : ∀ r ∈ recs, r.length ≤ 1000000000 := fun r hr => by have := tot_mem hr; omega
  have recs_at : ∀ {hh : Hp} {x : Sl} {ts : List Sl} {rs : List (List Int)}, Buf hh x 1 25 (slV ts) → RowsAt hh ts rs → (∀ r ∈ rs, ∀ c ∈ r, 0 ≤ c ∧ c < 256) → (∀ r ∈ rs, r.length ≤ 1000000000) → tot rs ≤ 200000000000 → Recs hh x ts rs := fun {hh x ts rs} B T o e t => by
    have r := B.row
    rw [Nat.mul_one] at r
    refine ⟨r, B.cap, T.rows, fun s hs => ?_, o, e, t⟩
    obtain ⟨b, hb⟩ := rows_mem T hs
    exact hb.cap
  refine copy_loop (K1.row hrow) (R.keep K1) each hn fun l1 h2 ts B1 T1 K2 N1 => ?_
  have K12 := K1.trans K2
  intro b2 hb2
  refine chunks_spec hb2 (K12.row hrow) (R.keep K12) each hn fun h5 w n c k lc ws xs S Nlc => ⟨_, rfl, ?_⟩
  have K5 := S.keep
  have A1 := recs_at (B1.keep K5) (T1.keep K5) hok each (by omega)
  refine doc_res A1 fun h6 l6 n1 K6 R6 => ⟨l6, n1, rfl, ?_⟩
  have sp : ∀ {hh : Hp}, Keep h5 hh → Recs hh (Sl.cut lc 1 0 (recs.length : Int) (lc.n : Int)) (List.zipWith cutR ws recs) recs := fun {hh} q => spare_recs (S.L.keep q) (S.rows.keep q) rfl (fun _ _ _ => rfl) hok each (by omega)
  refine ⟨fun n2 h7 => ∃ j : Nat, n2 = (j : Int) ∧ j ≤ 2 ∧ Keep h6 h7, fun n2 _ => 2 - n2.toNat, ⟨0, rfl, by decide, Keep.refl h6⟩, ?_⟩
  rintro n2 h7 ⟨j, rfl, hj, K7⟩
  refine ⟨fun hlt => ?_, fun hge => ?_⟩
  · refine get_res (sp (K6.trans K7)) fun h8 l7 n3 K8 R8 => ⟨l7, n3, rfl, ?_⟩
    have q := fun (X : Value → Hp → Prop) hX => eq_res (Q := X) R8 (R6.keep (K7.trans K8)) hX
    refine ⟨fun _ => (q _ ⟨true, rfl, fun _ => ?_, fun h0 => (by cases h0)⟩).2, fun hne => absurd (q (fun _ _ => True) trivial).1 hne⟩
    rw [next_i (n := 2) (by omega) (by omega)]
    exact ⟨⟨j + 1, rfl, by omega, K7.trans K8⟩, by dsimp only; omega⟩
  have K57 := K6.trans K7
  have A7 := sp K57
  have A17 := recs_at (B1.keep (K5.trans K57)) (T1.keep (K5.trans K57)) hok each (by omega)
  refine same_chunks A7.row A7.rows A17.row A17.rows each hn ⟨true, rfl, fun _ => ?_, fun h0 => (by cases h0)⟩
  refine hold_spec (S.keep' K57) each hn ⟨true, rfl, fun _ => ?_, fun h0 => (by cases h0)⟩
  refine flip_loop (S.keep' K57) rfl each hn fun h12 K12' L12 R12 => ?_
  have fl : (recs.map flip2).length = recs.length := List.length_map _
  have fok : ∀ r ∈ recs.map flip2, ∀ c ∈ r, 0 ≤ c ∧ c < 256 := fun r hr => by
    obtain ⟨q, hq, rfl⟩ := List.mem_map.1 hr
    exact flip2_ok (hok q hq)
  have feach : ∀ r ∈ recs.map flip2, r.length ≤ 1000000000 := fun r hr => by
    obtain ⟨q, hq, rfl⟩ := List.mem_map.1 hr
    rw [flip2_len]
    exact each q hq
  have ftot : tot (recs.map flip2) ≤ 200000000000 := by rw [tot_map flip2 flip2_len]; omega
  have sp2 : ∀ {hh : Hp}, Keep h12 hh → Recs hh (Sl.cut lc 1 0 (recs.length : Int) (lc.n : Int)) (List.zipWith cutR ws recs) (recs.map flip2) := fun {hh} q =>
    spare_recs (L12.keep q) (R12.keep q) fl (fun i h1 h2 => by rw [List.getElem_map, flip2_len]) fok feach ftot
  have A12 := sp2 (Keep.refl h12)
  refine copy_loop A12.row A12.rows feach (by omega) fun l11 h13 ts13 B13 T13 K13 N13 => ?_
  refine get_res (sp2 K13) fun h16 l15 n7 K16 R16 => ⟨l15, n7, rfl, ?_⟩
  refine doc_res (recs_at (B13.keep K16) (T13.keep K16) fok feach ftot) fun h17 l16 n8 K17 R17 => ⟨l16, n8, rfl, ?_⟩
  have q := fun (X : Value → Hp → Prop) hX => eq_res (Q := X) (R16.keep K17) R17 hX
  have Kall : Keep h h17 := (((K12.trans K12').trans K13).trans K16).trans K17
  exact ⟨fun _ => (q _ ⟨true, rfl, fun _ => hQ h17 Kall, fun h0 => (by cases h0)⟩).2, fun hne => absurd (q (fun _ _ => True) trivial).1 hne⟩
end Go.Eng.Ytblghgacokoklaa
end
section
/-
  ROWS, 0: a world's whole heap; an argument that is a list of lists of bytes.
-/
set_option linter.unusedSimpArgs false
set_option linter.unusedVariables false
namespace Go.Eng.Ytblghgacokoklaa
open Go.ChangeShapes Go.WideShapes Go.RowKit
/-- All that a world's memory holds. -/
def wh (W : World) : Hp := fun b => W.heap[b]?
theorem own_wh (W : World) : Own (fun _ => none) (wh W) W := ⟨fun _ _ h => h, fun _ _ h => (by cases h), fun _ => .inr rfl⟩
theorem below_of {W W' : World} {h' : Hp} (hw : Wr W W') (ho : Own (fun _ => none) h' W') (K : Keep (wh W) h') : Below W.heap.size W W' := by
  refine ⟨hw.os, hw.tape, hw.output, hw.size, fun k hk => ?_⟩
  have h1 : wh W k = some W.heap[k] := by unfold wh; exact Array.getElem?_eq_getElem hk
  have h2 := ho.hh k _ (K k _ h1)
  rw [h2, Array.getElem?_eq_getElem hk]
theorem cell_at {W : World} {b o : Nat} {v : Value} (h : W.cell? ⟨b, o, none⟩ = some v) : (wh W).at b o = some v := by
  unfold World.cell? at h
  unfold Hp.at wh
  cases hb : W.heap[b]? with
  | none => rw [hb] at h; cases h
  | some x =>
    rw [hb] at h
    cases x with
    | cells c t f => simpa using h
    | _ => cases h
theorem spot_none {W : World} {a : Addr} {v : Value} (h : W.cell? (a.add 0) = some v) : a = ⟨a.block, a.off, none⟩ := by
  obtain ⟨b, o, p⟩ := a
  cases p with
  | none => rfl
  | some p =>
    exfalso
    unfold World.cell? at h
    simp only [Addr.add, if_pos] at h
    cases hb : W.heap[b]? with
    | none => rw [hb] at h; cases h
    | some x =>
      rw [hb] at h
      cases x with
      | cells c t f => simp at h
      | _ => cases h
/-- Cells from an address on are a row. -/
theorem row_of_cells {W : World} {a : Addr} {n : Nat} {vs : List Value} (hl : vs.length = n) (h : ∀ i, (hi : i < n) → W.cell? (a.add i) = vs[i]?) : (wh W).row (some a) n vs := by
  refine ⟨hl, ?_⟩
  by_cases h0 : n = 0
  · exact .inl h0
  right
  have hz := h 0 (by omega)
  rw [List.getElem?_eq_getElem (by omega)] at hz
  have ha := spot_none hz
  refine ⟨a.block, a.off, by rw [← ha], fun j hj => ?_⟩
  have hj' := h j hj
  rw [List.getElem?_eq_getElem (by omega)] at hj' ⊢
  rw [ha, addr_add] at hj'
  exact cell_at hj'
theorem wf_u8 {n : Int} (h : (Lit.int .u8 n).wf = true) : 0 ≤ n ∧ n < 256 := by
  simp [Lit.wf, IntKind.min, IntKind.max, IntKind.signed, IntKind.bits] at h
  omega
section
variable {H : Type} {enc : TypeId × Value → H} {P : Program} {W : World} {base : Nat} {held : Bool}
theorem open_bytes {t e : TypeId} {fuel : Nat} {s : Sl} {x : DataW H × List MemPlace} (ht : P.underlying t = some (.slice e)) (he : P.underlying e = some (.int .u8)) (hc : P.cellsOf e = 1)
    (h : DataW.trod enc P W base (fun _ => true) held fuel t [.slice s.a s.n s.c] = some x) : ∃ r : List Int, (wh W).row s.a s.n (bv r) ∧ s.n ≤ s.c ∧ s.c ≤ maxLen ∧ ∀ c ∈ r, 0 ≤ c ∧ c < 256 := by
  rcases open_ints ht he hc h with ⟨hcs, _⟩ | ⟨a, n, c, zs, hcs, _, hl, hm, hz, _, hcell, hwf⟩
  · simp only [List.cons.injEq, Value.slice.injEq, and_true] at hcs
    obtain ⟨h1, h2, h3⟩ := hcs
    exact ⟨[], by rw [h1, h2]; exact ⟨rfl, .inl rfl⟩, by omega, by omega, fun c hc => (by cases hc)⟩
  · simp only [List.cons.injEq, Value.slice.injEq, and_true] at hcs
    obtain ⟨h1, h2, h3⟩ := hcs
    simp only [if_true] at hz
    refine ⟨zs.take n, ?_, by omega, by omega, fun c hc => wf_u8 (hwf c (List.mem_of_mem_take hc))⟩
    rw [h1, h2]
    refine row_of_cells (by rw [bv_length, List.length_take]; omega) fun i hi => ?_
    rw [hcell i (by omega)]
    have : i < zs.length := by omega
    simp [bv, hi, this, List.getD]
theorem open_rows {t e f : TypeId} {a : Option Addr} {len cap : Nat} {d : DataW H} {ps : List MemPlace} (ht : P.underlying t = some (.slice e)) (he : P.underlying e = some (.slice f)) (hf : P.underlying f = some (.int .u8)) (hce : P.cellsOf e = 1) (hcf : P.cellsOf f = 1)
    (h : DataW.Trod enc P W base (fun _ => true) held t (.slice a len cap) d ps) :
    len ≤ cap ∧ ∃ (ss : List Sl) (recs : List (List Int)), (wh W).row a len (slV ss) ∧ Rows (wh W) ss recs ∧ (∀ s ∈ ss, s.n ≤ s.c) ∧ (∀ s ∈ ss, s.n ≤ 9223372036854775807) ∧ ∀ r ∈ recs, ∀ c ∈ r, 0 ≤ c ∧ c < 256 := by
  obtain ⟨fuel, hf0⟩ := h
  rcases DataW.trod_slice ht hf0 with ⟨hcs, _⟩ | ⟨x, l, c, elems, rest, n, _, hcs, _, hb, hl, hm, hlen, hel, _, _⟩
  · simp [Value.cells] at hcs
    obtain ⟨rfl, rfl, rfl⟩ := hcs
    exact ⟨Nat.le_refl _, [], [], ⟨rfl, .inl rfl⟩, ⟨rfl, fun i hi => absurd hi (Nat.not_lt_zero i)⟩, fun s hs => (by cases hs), fun s hs => (by cases hs), fun s hs => (by cases hs)⟩
  · simp [Value.cells] at hcs
    obtain ⟨rfl, rfl, rfl⟩ := hcs
    have each : ∀ i : Fin len, ∃ sr : Sl × List Int, W.cell? (x.add i.1) = some (.slice sr.1.a sr.1.n sr.1.c) ∧ (wh W).row sr.1.a sr.1.n (bv sr.2) ∧ sr.1.n ≤ sr.1.c ∧ sr.1.c ≤ maxLen ∧ ∀ c ∈ sr.2, 0 ≤ c ∧ c < 256 := by
      rintro ⟨i, hi⟩
      have h1 := hel i hi
      rw [hce, Nat.mul_one, List.getElem?_eq_getElem (by omega), Option.bind_eq_some_iff] at h1
      obtain ⟨cs', hcs', hy⟩ := h1
      rcases DataW.trod_slice he hy with ⟨rfl, _⟩ | ⟨a', n', c', _, _, _, _, rfl, _, _, _, _, _, _, _, _⟩
      · obtain ⟨r, h2, h3, h4, h5⟩ := open_bytes (s := ⟨none, 0, 0⟩) he hf hcf hy
        exact ⟨(⟨none, 0, 0⟩, r), cell_of_cells?_one hcs', h2, h3, h4, h5⟩
      · obtain ⟨r, h2, h3, h4, h5⟩ := open_bytes (s := ⟨some a', n', c'⟩) he hf hcf hy
        exact ⟨(⟨some a', n', c'⟩, r), cell_of_cells?_one hcs', h2, h3, h4, h5⟩
    obtain ⟨g, hg⟩ := Classical.axiomOfChoice each
    refine ⟨hl, List.ofFn fun i => (g i).1, List.ofFn fun i => (g i).2, ?_, ⟨by simp, fun i hi hj => ?_⟩, fun s hs => ?_, fun s hs => ?_, fun r hr c hc => ?_⟩
    · refine row_of_cells (by rw [slV_length]; simp) fun i hi => ?_
      have := (hg ⟨i, hi⟩).1
      rw [this]
      simp [slV, hi]
    · have hi' : i < len := by simpa using hi
      have := (hg ⟨i, hi'⟩).2.1
      simpa using this
    · obtain ⟨i, rfl⟩ := (List.mem_ofFn ..).1 hs
      exact (hg i).2.2.1
    · obtain ⟨i, rfl⟩ := (List.mem_ofFn ..).1 hs
      have h1 := (hg i).2.2.1
      have h2 := (hg i).2.2.2.1
      have h3 : maxLen = 9223372036854775807 := by decide
      omega
    · obtain ⟨i, rfl⟩ := (List.mem_ofFn ..).1 hr
      exact (hg i).2.2.2.2 c hc
end
end Go.Eng.Ytblghgacokoklaa
end
