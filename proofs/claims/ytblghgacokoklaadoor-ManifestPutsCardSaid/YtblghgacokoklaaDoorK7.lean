/-
  TEXTS OF MINE, JOINED: N3 D10 D11 D12 D13 D14 D15 D16 D17 D18.
-/
import Derived.Test.YtblghgacokoklaaDoorK4
import Derived.Test.YtblghgacokoklaaDoorK2
import Derived.Test.YtblghgacokoklaaDoorProg
import Derived.Test.YtblghgacokoklaaDoorK5
import Derived.Test.YtblghgacokoklaaDoorK6
section
set_option maxRecDepth 100000
set_option linter.unusedVariables false
open Go.Proofs
namespace Go.Eng.YtblghgacokoklaaDoor
def F65.Tt (n : Int) (n1 : Int) (n2 : Int) (l : Sl) (l1 : Sl) (l2 : Sl) (l3 : Sl) (l4 : Sl) (l5 : Sl) : PT := fun h Q =>
  F82.T n h fun r h1 => ∃ l6 : Sl, r = .slice l6.a l6.n l6.c ∧ F82.T n1 h1 fun r1 h2 => ∃ l7 : Sl, r1 = .slice l7.a l7.n l7.c ∧ F82.T n2 h2 fun r2 h3 => ∃ l8 : Sl, r2 = .slice l8.a l8.n l8.c ∧ F98.T (l3.n : Int) h3 fun r3 h4 => ∃ l9 : Sl, r3 = .slice l9.a l9.n l9.c ∧ ∀ b, h4 b = none → ∀ b1, (h4.new b (.cells ⟨[.int .u8 1]⟩ 5 (0, 0))) b1 = none → F97.T ⟨(some ⟨b1, 0, none⟩), 5, 5⟩ ((h4.new b (.cells ⟨[.int .u8 1]⟩ 5 (0, 0))).new b1 (.cells ⟨[.slice (some ⟨b, 0, none⟩) 1 1, .slice l6.a l6.n l6.c, .slice l7.a l7.n l7.c, .slice l8.a l8.n l8.c, .slice l9.a l9.n l9.c]⟩ 23 (0, 0))) fun r4 h5 => ∃ l10 : Sl, r4 = .slice l10.a l10.n l10.c ∧ ∃ (I : Sl → Int → Hp → Prop) (m : Sl → Int → Hp → Nat), I l10 0 h5 ∧ (∀ l11 : Sl, ∀ n3 : Int, ∀ h6 : Hp, I l11 n3 h6 → par (n3 < (l3.n : Int)) (∃ b2 o, (l3.a : Option Addr) = some ⟨b2, o, none⟩ ∧ ((0 : Int) ≤ n3 ∧ n3 < (l3.n : Int)) ∧ ∃ n4 : Int, h6.at b2 (o + n3.toNat * 2) = some (.int .i64 n4) ∧ ∃ b3 o1, (l3.a : Option Addr) = some ⟨b3, o1, none⟩ ∧ ((0 : Int) ≤ n3 ∧ n3 < (l3.n : Int)) ∧ ∃ n5 : Int, h6.at b3 ((o1 + n3.toNat * 2) + 1) = some (.int .u64 n5) ∧ F98.T n4 h6 fun r5 h7 => ∃ l12 : Sl, r5 = .slice l12.a l12.n l12.c ∧ h7.at b3 ((o1 + n3.toNat * 2) + 1) = some (.int .u64 n5) ∧ F82.T n5 h7 fun r6 h8 => ∃ l13 : Sl, r6 = .slice l13.a l13.n l13.c ∧ ∀ b4, h8 b4 = none → F97.T ⟨(some ⟨b4, 0, none⟩), 3, 3⟩ (h8.new b4 (.cells ⟨[.slice l11.a l11.n l11.c, .slice l12.a l12.n l12.c, .slice l13.a l13.n l13.c]⟩ 23 (0, 0))) fun r7 h9 => ∃ l14 : Sl, r7 = .slice l14.a l14.n l14.c ∧ I l14 (IntKind.wrap .i64 (n3 + 1)) h9 ∧ m l14 (IntKind.wrap .i64 (n3 + 1)) h9 < m l11 n3 h6) (F98.T (l4.n : Int) h6 fun r8 h10 => ∃ l15 : Sl, r8 = .slice l15.a l15.n l15.c ∧ ∀ b5, h10 b5 = none → F97.T ⟨(some ⟨b5, 0, none⟩), 2, 2⟩ (h10.new b5 (.cells ⟨[.slice l11.a l11.n l11.c, .slice l15.a l15.n l15.c]⟩ 23 (0, 0))) fun r9 h11 => ∃ l16 : Sl, r9 = .slice l16.a l16.n l16.c ∧ ∃ (I1 : Sl → Int → Hp → Prop) (m1 : Sl → Int → Hp → Nat), I1 l16 0 h11 ∧ (∀ l17 : Sl, ∀ n6 : Int, ∀ h12 : Hp, I1 l17 n6 h12 → par (n6 < (l4.n : Int)) (∃ b6 o2, (l4.a : Option Addr) = some ⟨b6, o2, none⟩ ∧ ((0 : Int) ≤ n6 ∧ n6 < (l4.n : Int)) ∧ ∃ n7 : Int, h12.at b6 ((o2 + n6.toNat * 7) + 1) = some (.int .u64 n7) ∧ ∃ n8 : Int, h12.at b6 (((o2 + n6.toNat * 7) + 1) + 1) = some (.int .i64 n8) ∧ ∃ n9 : Int, h12.at b6 (((o2 + n6.toNat * 7) + 1) + 2) = some (.int .i64 n9) ∧ ∃ n10 : Int, h12.at b6 (((o2 + n6.toNat * 7) + 1) + 3) = some (.int .i64 n10) ∧ ∃ s : ByteArray, h12.at b6 (((o2 + n6.toNat * 7) + 1) + 4) = some (.string s) ∧ ∃ s1 : ByteArray, h12.at b6 (((o2 + n6.toNat * 7) + 1) + 5) = some (.string s1) ∧ ∃ b7 o3, (l4.a : Option Addr) = some ⟨b7, o3, none⟩ ∧ ((0 : Int) ≤ n6 ∧ n6 < (l4.n : Int)) ∧ ∃ n11 : Int, h12.at b7 (o3 + n6.toNat * 7) = some (.int .i64 n11) ∧ F98.T n11 h12 fun r10 h13 => ∃ l18 : Sl, r10 = .slice l18.a l18.n l18.c ∧ F82.T n7 h13 fun r11 h14 => ∃ l19 : Sl, r11 = .slice l19.a l19.n l19.c ∧ F98.T n8 h14 fun r12 h15 => ∃ l20 : Sl, r12 = .slice l20.a l20.n l20.c ∧ F98.T n9 h15 fun r13 h16 => ∃ l21 : Sl, r13 = .slice l21.a l21.n l21.c ∧ F98.T n10 h16 fun r14 h17 => ∃ l22 : Sl, r14 = .slice l22.a l22.n l22.c ∧ F99.T s h17 fun r15 h18 => ∃ l23 : Sl, r15 = .slice l23.a l23.n l23.c ∧ F99.T s1 h18 fun r16 h19 => ∃ l24 : Sl, r16 = .slice l24.a l24.n l24.c ∧ ∀ b8, h19 b8 = none → F97.T ⟨(some ⟨b8, 0, none⟩), 8, 8⟩ (h19.new b8 (.cells ⟨[.slice l17.a l17.n l17.c, .slice l18.a l18.n l18.c, .slice l19.a l19.n l19.c, .slice l20.a l20.n l20.c, .slice l21.a l21.n l21.c, .slice l22.a l22.n l22.c, .slice l23.a l23.n l23.c, .slice l24.a l24.n l24.c]⟩ 23 (0, 0))) fun r17 h20 => ∃ l25 : Sl, r17 = .slice l25.a l25.n l25.c ∧ I1 l25 (IntKind.wrap .i64 (n6 + 1)) h20 ∧ m1 l25 (IntKind.wrap .i64 (n6 + 1)) h20 < m1 l17 n6 h12) (F98.T (l5.n : Int) h12 fun r18 h21 => ∃ l26 : Sl, r18 = .slice l26.a l26.n l26.c ∧ ∀ b9, h21 b9 = none → F97.T ⟨(some ⟨b9, 0, none⟩), 2, 2⟩ (h21.new b9 (.cells ⟨[.slice l17.a l17.n l17.c, .slice l26.a l26.n l26.c]⟩ 23 (0, 0))) fun r19 h22 => ∃ l27 : Sl, r19 = .slice l27.a l27.n l27.c ∧ ∃ (I2 : Sl → Int → Hp → Prop) (m2 : Sl → Int → Hp → Nat), I2 l27 0 h22 ∧ (∀ l28 : Sl, ∀ n12 : Int, ∀ h23 : Hp, I2 l28 n12 h23 → par (n12 < (l5.n : Int)) (∃ b10 o4, (l5.a : Option Addr) = some ⟨b10, o4, none⟩ ∧ ((0 : Int) ≤ n12 ∧ n12 < (l5.n : Int)) ∧ ∃ s2 : ByteArray, h23.at b10 (o4 + n12.toNat) = some (.string s2) ∧ F99.T s2 h23 fun r20 h24 => ∃ l29 : Sl, r20 = .slice l29.a l29.n l29.c ∧ ∀ b11, h24 b11 = none → F97.T ⟨(some ⟨b11, 0, none⟩), 2, 2⟩ (h24.new b11 (.cells ⟨[.slice l28.a l28.n l28.c, .slice l29.a l29.n l29.c]⟩ 23 (0, 0))) fun r21 h25 => ∃ l30 : Sl, r21 = .slice l30.a l30.n l30.c ∧ I2 l30 (IntKind.wrap .i64 (n12 + 1)) h25 ∧ m2 l30 (IntKind.wrap .i64 (n12 + 1)) h25 < m2 l28 n12 h23) (Q (.slice l28.a l28.n l28.c) h23))))))
theorem F65.gent (V : Value → List Value → PT) (T82 : Int → PT) (T97 : Sl → PT) (T98 : Int → PT) (T99 : ByteArray → PT) (n : Int) (n1 : Int) (n2 : Int) (l : Sl) (l1 : Sl) (l2 : Sl) (l3 : Sl) (l4 : Sl) (l5 : Sl) : denF Tryd.prog [6, 15] [(82, F82.W T82), (97, F97.W T97), (98, F98.W T98), (99, F99.W T99)] V [(30, .orderL [0, 2, 3, 5, 6, 8, 9, 11, 12, 4, 7, 10, 13, 1, 14, 15, 16] [1]), (250, .loop [(12, .sl), (13, .int .i64)] []), (1018, .loop [(12, .sl), (14, .int .i64)] []), (4004, .order [0, 1, 2, 3, 4, 5, 7, 8, 9, 10, 11, 6, 12, 13, 14, 15]), (4090, .loop [(12, .sl), (16, .int .i64)] []), (32585, .order [0, 1, 2, 3, 4, 5, 7, 8, 10, 11, 13, 14, 16, 17, 19, 20, 22, 23, 6, 9, 12, 15, 18, 21, 24, 25, 26, 27])] Tryd.f65 [.v (.bool true), .v (.agg ⟨[.int .u64 n, .int .u64 n1, .int .u64 n2, .slice l.a l.n l.c, .slice l1.a l1.n l1.c, .slice l2.a l2.n l2.c]⟩), .v (.slice l3.a l3.n l3.c), .v (.slice l4.a l4.n l4.c), .v (.slice l5.a l5.n l5.c)] = fun h Q =>
  T82 n h fun r h1 => ∃ l6 : Sl, r = .slice l6.a l6.n l6.c ∧ T82 n1 h1 fun r1 h2 => ∃ l7 : Sl, r1 = .slice l7.a l7.n l7.c ∧ T82 n2 h2 fun r2 h3 => ∃ l8 : Sl, r2 = .slice l8.a l8.n l8.c ∧ T98 (l3.n : Int) h3 fun r3 h4 => ∃ l9 : Sl, r3 = .slice l9.a l9.n l9.c ∧ ∀ b, h4 b = none → ∀ b1, (h4.new b (.cells ⟨[.int .u8 1]⟩ 5 (0, 0))) b1 = none → T97 ⟨(some ⟨b1, 0, none⟩), 5, 5⟩ ((h4.new b (.cells ⟨[.int .u8 1]⟩ 5 (0, 0))).new b1 (.cells ⟨[.slice (some ⟨b, 0, none⟩) 1 1, .slice l6.a l6.n l6.c, .slice l7.a l7.n l7.c, .slice l8.a l8.n l8.c, .slice l9.a l9.n l9.c]⟩ 23 (0, 0))) fun r4 h5 => ∃ l10 : Sl, r4 = .slice l10.a l10.n l10.c ∧ ∃ (I : Sl → Int → Hp → Prop) (m : Sl → Int → Hp → Nat), I l10 0 h5 ∧ (∀ l11 : Sl, ∀ n3 : Int, ∀ h6 : Hp, I l11 n3 h6 → par (n3 < (l3.n : Int)) (∃ b2 o, (l3.a : Option Addr) = some ⟨b2, o, none⟩ ∧ ((0 : Int) ≤ n3 ∧ n3 < (l3.n : Int)) ∧ ∃ n4 : Int, h6.at b2 (o + n3.toNat * 2) = some (.int .i64 n4) ∧ ∃ b3 o1, (l3.a : Option Addr) = some ⟨b3, o1, none⟩ ∧ ((0 : Int) ≤ n3 ∧ n3 < (l3.n : Int)) ∧ ∃ n5 : Int, h6.at b3 ((o1 + n3.toNat * 2) + 1) = some (.int .u64 n5) ∧ T98 n4 h6 fun r5 h7 => ∃ l12 : Sl, r5 = .slice l12.a l12.n l12.c ∧ h7.at b3 ((o1 + n3.toNat * 2) + 1) = some (.int .u64 n5) ∧ T82 n5 h7 fun r6 h8 => ∃ l13 : Sl, r6 = .slice l13.a l13.n l13.c ∧ ∀ b4, h8 b4 = none → T97 ⟨(some ⟨b4, 0, none⟩), 3, 3⟩ (h8.new b4 (.cells ⟨[.slice l11.a l11.n l11.c, .slice l12.a l12.n l12.c, .slice l13.a l13.n l13.c]⟩ 23 (0, 0))) fun r7 h9 => ∃ l14 : Sl, r7 = .slice l14.a l14.n l14.c ∧ I l14 (IntKind.wrap .i64 (n3 + 1)) h9 ∧ m l14 (IntKind.wrap .i64 (n3 + 1)) h9 < m l11 n3 h6) (T98 (l4.n : Int) h6 fun r8 h10 => ∃ l15 : Sl, r8 = .slice l15.a l15.n l15.c ∧ ∀ b5, h10 b5 = none → T97 ⟨(some ⟨b5, 0, none⟩), 2, 2⟩ (h10.new b5 (.cells ⟨[.slice l11.a l11.n l11.c, .slice l15.a l15.n l15.c]⟩ 23 (0, 0))) fun r9 h11 => ∃ l16 : Sl, r9 = .slice l16.a l16.n l16.c ∧ ∃ (I1 : Sl → Int → Hp → Prop) (m1 : Sl → Int → Hp → Nat), I1 l16 0 h11 ∧ (∀ l17 : Sl, ∀ n6 : Int, ∀ h12 : Hp, I1 l17 n6 h12 → par (n6 < (l4.n : Int)) (∃ b6 o2, (l4.a : Option Addr) = some ⟨b6, o2, none⟩ ∧ ((0 : Int) ≤ n6 ∧ n6 < (l4.n : Int)) ∧ ∃ n7 : Int, h12.at b6 ((o2 + n6.toNat * 7) + 1) = some (.int .u64 n7) ∧ ∃ n8 : Int, h12.at b6 (((o2 + n6.toNat * 7) + 1) + 1) = some (.int .i64 n8) ∧ ∃ n9 : Int, h12.at b6 (((o2 + n6.toNat * 7) + 1) + 2) = some (.int .i64 n9) ∧ ∃ n10 : Int, h12.at b6 (((o2 + n6.toNat * 7) + 1) + 3) = some (.int .i64 n10) ∧ ∃ s : ByteArray, h12.at b6 (((o2 + n6.toNat * 7) + 1) + 4) = some (.string s) ∧ ∃ s1 : ByteArray, h12.at b6 (((o2 + n6.toNat * 7) + 1) + 5) = some (.string s1) ∧ ∃ b7 o3, (l4.a : Option Addr) = some ⟨b7, o3, none⟩ ∧ ((0 : Int) ≤ n6 ∧ n6 < (l4.n : Int)) ∧ ∃ n11 : Int, h12.at b7 (o3 + n6.toNat * 7) = some (.int .i64 n11) ∧ T98 n11 h12 fun r10 h13 => ∃ l18 : Sl, r10 = .slice l18.a l18.n l18.c ∧ T82 n7 h13 fun r11 h14 => ∃ l19 : Sl, r11 = .slice l19.a l19.n l19.c ∧ T98 n8 h14 fun r12 h15 => ∃ l20 : Sl, r12 = .slice l20.a l20.n l20.c ∧ T98 n9 h15 fun r13 h16 => ∃ l21 : Sl, r13 = .slice l21.a l21.n l21.c ∧ T98 n10 h16 fun r14 h17 => ∃ l22 : Sl, r14 = .slice l22.a l22.n l22.c ∧ T99 s h17 fun r15 h18 => ∃ l23 : Sl, r15 = .slice l23.a l23.n l23.c ∧ T99 s1 h18 fun r16 h19 => ∃ l24 : Sl, r16 = .slice l24.a l24.n l24.c ∧ ∀ b8, h19 b8 = none → T97 ⟨(some ⟨b8, 0, none⟩), 8, 8⟩ (h19.new b8 (.cells ⟨[.slice l17.a l17.n l17.c, .slice l18.a l18.n l18.c, .slice l19.a l19.n l19.c, .slice l20.a l20.n l20.c, .slice l21.a l21.n l21.c, .slice l22.a l22.n l22.c, .slice l23.a l23.n l23.c, .slice l24.a l24.n l24.c]⟩ 23 (0, 0))) fun r17 h20 => ∃ l25 : Sl, r17 = .slice l25.a l25.n l25.c ∧ I1 l25 (IntKind.wrap .i64 (n6 + 1)) h20 ∧ m1 l25 (IntKind.wrap .i64 (n6 + 1)) h20 < m1 l17 n6 h12) (T98 (l5.n : Int) h12 fun r18 h21 => ∃ l26 : Sl, r18 = .slice l26.a l26.n l26.c ∧ ∀ b9, h21 b9 = none → T97 ⟨(some ⟨b9, 0, none⟩), 2, 2⟩ (h21.new b9 (.cells ⟨[.slice l17.a l17.n l17.c, .slice l26.a l26.n l26.c]⟩ 23 (0, 0))) fun r19 h22 => ∃ l27 : Sl, r19 = .slice l27.a l27.n l27.c ∧ ∃ (I2 : Sl → Int → Hp → Prop) (m2 : Sl → Int → Hp → Nat), I2 l27 0 h22 ∧ (∀ l28 : Sl, ∀ n12 : Int, ∀ h23 : Hp, I2 l28 n12 h23 → par (n12 < (l5.n : Int)) (∃ b10 o4, (l5.a : Option Addr) = some ⟨b10, o4, none⟩ ∧ ((0 : Int) ≤ n12 ∧ n12 < (l5.n : Int)) ∧ ∃ s2 : ByteArray, h23.at b10 (o4 + n12.toNat) = some (.string s2) ∧ T99 s2 h23 fun r20 h24 => ∃ l29 : Sl, r20 = .slice l29.a l29.n l29.c ∧ ∀ b11, h24 b11 = none → T97 ⟨(some ⟨b11, 0, none⟩), 2, 2⟩ (h24.new b11 (.cells ⟨[.slice l28.a l28.n l28.c, .slice l29.a l29.n l29.c]⟩ 23 (0, 0))) fun r21 h25 => ∃ l30 : Sl, r21 = .slice l30.a l30.n l30.c ∧ I2 l30 (IntKind.wrap .i64 (n12 + 1)) h25 ∧ m2 l30 (IntKind.wrap .i64 (n12 + 1)) h25 < m2 l28 n12 h23) (Q (.slice l28.a l28.n l28.c) h23)))))) := by kernel_rfl
theorem F65.dent (V : Value → List Value → PT) (n : Int) (n1 : Int) (n2 : Int) (l : Sl) (l1 : Sl) (l2 : Sl) (l3 : Sl) (l4 : Sl) (l5 : Sl) : denF Tryd.prog [6, 15] [(82, F82.V), (97, F97.V), (98, F98.V), (99, F99.V)] V [(30, .orderL [0, 2, 3, 5, 6, 8, 9, 11, 12, 4, 7, 10, 13, 1, 14, 15, 16] [1]), (250, .loop [(12, .sl), (13, .int .i64)] []), (1018, .loop [(12, .sl), (14, .int .i64)] []), (4004, .order [0, 1, 2, 3, 4, 5, 7, 8, 9, 10, 11, 6, 12, 13, 14, 15]), (4090, .loop [(12, .sl), (16, .int .i64)] []), (32585, .order [0, 1, 2, 3, 4, 5, 7, 8, 10, 11, 13, 14, 16, 17, 19, 20, 22, 23, 6, 9, 12, 15, 18, 21, 24, 25, 26, 27])] Tryd.f65 [.v (.bool true), .v (.agg ⟨[.int .u64 n, .int .u64 n1, .int .u64 n2, .slice l.a l.n l.c, .slice l1.a l1.n l1.c, .slice l2.a l2.n l2.c]⟩), .v (.slice l3.a l3.n l3.c), .v (.slice l4.a l4.n l4.c), .v (.slice l5.a l5.n l5.c)] = F65.Tt n n1 n2 l l1 l2 l3 l4 l5 := F65.gent V F82.T F97.T F98.T F99.T n n1 n2 l l1 l2 l3 l4 l5
def F65.Tf (n : Int) (n1 : Int) (n2 : Int) (l : Sl) (l1 : Sl) (l2 : Sl) (l3 : Sl) (l4 : Sl) (l5 : Sl) : PT := fun h Q =>
  F82.T n h fun r h1 => ∃ l6 : Sl, r = .slice l6.a l6.n l6.c ∧ F82.T n1 h1 fun r1 h2 => ∃ l7 : Sl, r1 = .slice l7.a l7.n l7.c ∧ F82.T n2 h2 fun r2 h3 => ∃ l8 : Sl, r2 = .slice l8.a l8.n l8.c ∧ F98.T (l3.n : Int) h3 fun r3 h4 => ∃ l9 : Sl, r3 = .slice l9.a l9.n l9.c ∧ ∀ b, h4 b = none → ∀ b1, (h4.new b (.cells ⟨[.int .u8 0]⟩ 5 (0, 0))) b1 = none → F97.T ⟨(some ⟨b1, 0, none⟩), 5, 5⟩ ((h4.new b (.cells ⟨[.int .u8 0]⟩ 5 (0, 0))).new b1 (.cells ⟨[.slice (some ⟨b, 0, none⟩) 1 1, .slice l6.a l6.n l6.c, .slice l7.a l7.n l7.c, .slice l8.a l8.n l8.c, .slice l9.a l9.n l9.c]⟩ 23 (0, 0))) fun r4 h5 => ∃ l10 : Sl, r4 = .slice l10.a l10.n l10.c ∧ ∃ (I : Sl → Int → Hp → Prop) (m : Sl → Int → Hp → Nat), I l10 0 h5 ∧ (∀ l11 : Sl, ∀ n3 : Int, ∀ h6 : Hp, I l11 n3 h6 → par (n3 < (l3.n : Int)) (∃ b2 o, (l3.a : Option Addr) = some ⟨b2, o, none⟩ ∧ ((0 : Int) ≤ n3 ∧ n3 < (l3.n : Int)) ∧ ∃ n4 : Int, h6.at b2 (o + n3.toNat * 2) = some (.int .i64 n4) ∧ ∃ b3 o1, (l3.a : Option Addr) = some ⟨b3, o1, none⟩ ∧ ((0 : Int) ≤ n3 ∧ n3 < (l3.n : Int)) ∧ ∃ n5 : Int, h6.at b3 ((o1 + n3.toNat * 2) + 1) = some (.int .u64 n5) ∧ F98.T n4 h6 fun r5 h7 => ∃ l12 : Sl, r5 = .slice l12.a l12.n l12.c ∧ h7.at b3 ((o1 + n3.toNat * 2) + 1) = some (.int .u64 n5) ∧ F82.T n5 h7 fun r6 h8 => ∃ l13 : Sl, r6 = .slice l13.a l13.n l13.c ∧ ∀ b4, h8 b4 = none → F97.T ⟨(some ⟨b4, 0, none⟩), 3, 3⟩ (h8.new b4 (.cells ⟨[.slice l11.a l11.n l11.c, .slice l12.a l12.n l12.c, .slice l13.a l13.n l13.c]⟩ 23 (0, 0))) fun r7 h9 => ∃ l14 : Sl, r7 = .slice l14.a l14.n l14.c ∧ I l14 (IntKind.wrap .i64 (n3 + 1)) h9 ∧ m l14 (IntKind.wrap .i64 (n3 + 1)) h9 < m l11 n3 h6) (F98.T (l4.n : Int) h6 fun r8 h10 => ∃ l15 : Sl, r8 = .slice l15.a l15.n l15.c ∧ ∀ b5, h10 b5 = none → F97.T ⟨(some ⟨b5, 0, none⟩), 2, 2⟩ (h10.new b5 (.cells ⟨[.slice l11.a l11.n l11.c, .slice l15.a l15.n l15.c]⟩ 23 (0, 0))) fun r9 h11 => ∃ l16 : Sl, r9 = .slice l16.a l16.n l16.c ∧ ∃ (I1 : Sl → Int → Hp → Prop) (m1 : Sl → Int → Hp → Nat), I1 l16 0 h11 ∧ (∀ l17 : Sl, ∀ n6 : Int, ∀ h12 : Hp, I1 l17 n6 h12 → par (n6 < (l4.n : Int)) (∃ b6 o2, (l4.a : Option Addr) = some ⟨b6, o2, none⟩ ∧ ((0 : Int) ≤ n6 ∧ n6 < (l4.n : Int)) ∧ ∃ n7 : Int, h12.at b6 ((o2 + n6.toNat * 7) + 1) = some (.int .u64 n7) ∧ ∃ n8 : Int, h12.at b6 (((o2 + n6.toNat * 7) + 1) + 1) = some (.int .i64 n8) ∧ ∃ n9 : Int, h12.at b6 (((o2 + n6.toNat * 7) + 1) + 2) = some (.int .i64 n9) ∧ ∃ n10 : Int, h12.at b6 (((o2 + n6.toNat * 7) + 1) + 3) = some (.int .i64 n10) ∧ ∃ s : ByteArray, h12.at b6 (((o2 + n6.toNat * 7) + 1) + 4) = some (.string s) ∧ ∃ s1 : ByteArray, h12.at b6 (((o2 + n6.toNat * 7) + 1) + 5) = some (.string s1) ∧ ∃ b7 o3, (l4.a : Option Addr) = some ⟨b7, o3, none⟩ ∧ ((0 : Int) ≤ n6 ∧ n6 < (l4.n : Int)) ∧ ∃ n11 : Int, h12.at b7 (o3 + n6.toNat * 7) = some (.int .i64 n11) ∧ F98.T n11 h12 fun r10 h13 => ∃ l18 : Sl, r10 = .slice l18.a l18.n l18.c ∧ F82.T n7 h13 fun r11 h14 => ∃ l19 : Sl, r11 = .slice l19.a l19.n l19.c ∧ F98.T n8 h14 fun r12 h15 => ∃ l20 : Sl, r12 = .slice l20.a l20.n l20.c ∧ F98.T n9 h15 fun r13 h16 => ∃ l21 : Sl, r13 = .slice l21.a l21.n l21.c ∧ F98.T n10 h16 fun r14 h17 => ∃ l22 : Sl, r14 = .slice l22.a l22.n l22.c ∧ F99.T s h17 fun r15 h18 => ∃ l23 : Sl, r15 = .slice l23.a l23.n l23.c ∧ F99.T s1 h18 fun r16 h19 => ∃ l24 : Sl, r16 = .slice l24.a l24.n l24.c ∧ ∀ b8, h19 b8 = none → F97.T ⟨(some ⟨b8, 0, none⟩), 8, 8⟩ (h19.new b8 (.cells ⟨[.slice l17.a l17.n l17.c, .slice l18.a l18.n l18.c, .slice l19.a l19.n l19.c, .slice l20.a l20.n l20.c, .slice l21.a l21.n l21.c, .slice l22.a l22.n l22.c, .slice l23.a l23.n l23.c, .slice l24.a l24.n l24.c]⟩ 23 (0, 0))) fun r17 h20 => ∃ l25 : Sl, r17 = .slice l25.a l25.n l25.c ∧ I1 l25 (IntKind.wrap .i64 (n6 + 1)) h20 ∧ m1 l25 (IntKind.wrap .i64 (n6 + 1)) h20 < m1 l17 n6 h12) (F98.T (l5.n : Int) h12 fun r18 h21 => ∃ l26 : Sl, r18 = .slice l26.a l26.n l26.c ∧ ∀ b9, h21 b9 = none → F97.T ⟨(some ⟨b9, 0, none⟩), 2, 2⟩ (h21.new b9 (.cells ⟨[.slice l17.a l17.n l17.c, .slice l26.a l26.n l26.c]⟩ 23 (0, 0))) fun r19 h22 => ∃ l27 : Sl, r19 = .slice l27.a l27.n l27.c ∧ ∃ (I2 : Sl → Int → Hp → Prop) (m2 : Sl → Int → Hp → Nat), I2 l27 0 h22 ∧ (∀ l28 : Sl, ∀ n12 : Int, ∀ h23 : Hp, I2 l28 n12 h23 → par (n12 < (l5.n : Int)) (∃ b10 o4, (l5.a : Option Addr) = some ⟨b10, o4, none⟩ ∧ ((0 : Int) ≤ n12 ∧ n12 < (l5.n : Int)) ∧ ∃ s2 : ByteArray, h23.at b10 (o4 + n12.toNat) = some (.string s2) ∧ F99.T s2 h23 fun r20 h24 => ∃ l29 : Sl, r20 = .slice l29.a l29.n l29.c ∧ ∀ b11, h24 b11 = none → F97.T ⟨(some ⟨b11, 0, none⟩), 2, 2⟩ (h24.new b11 (.cells ⟨[.slice l28.a l28.n l28.c, .slice l29.a l29.n l29.c]⟩ 23 (0, 0))) fun r21 h25 => ∃ l30 : Sl, r21 = .slice l30.a l30.n l30.c ∧ I2 l30 (IntKind.wrap .i64 (n12 + 1)) h25 ∧ m2 l30 (IntKind.wrap .i64 (n12 + 1)) h25 < m2 l28 n12 h23) (Q (.slice l28.a l28.n l28.c) h23))))))
theorem F65.genf (V : Value → List Value → PT) (T82 : Int → PT) (T97 : Sl → PT) (T98 : Int → PT) (T99 : ByteArray → PT) (n : Int) (n1 : Int) (n2 : Int) (l : Sl) (l1 : Sl) (l2 : Sl) (l3 : Sl) (l4 : Sl) (l5 : Sl) : denF Tryd.prog [6, 15] [(82, F82.W T82), (97, F97.W T97), (98, F98.W T98), (99, F99.W T99)] V [(30, .orderL [0, 2, 3, 5, 6, 8, 9, 11, 12, 4, 7, 10, 13, 1, 14, 15, 16] [1]), (250, .loop [(12, .sl), (13, .int .i64)] []), (1018, .loop [(12, .sl), (14, .int .i64)] []), (4004, .order [0, 1, 2, 3, 4, 5, 7, 8, 9, 10, 11, 6, 12, 13, 14, 15]), (4090, .loop [(12, .sl), (16, .int .i64)] []), (32585, .order [0, 1, 2, 3, 4, 5, 7, 8, 10, 11, 13, 14, 16, 17, 19, 20, 22, 23, 6, 9, 12, 15, 18, 21, 24, 25, 26, 27])] Tryd.f65 [.v (.bool false), .v (.agg ⟨[.int .u64 n, .int .u64 n1, .int .u64 n2, .slice l.a l.n l.c, .slice l1.a l1.n l1.c, .slice l2.a l2.n l2.c]⟩), .v (.slice l3.a l3.n l3.c), .v (.slice l4.a l4.n l4.c), .v (.slice l5.a l5.n l5.c)] = fun h Q =>
  T82 n h fun r h1 => ∃ l6 : Sl, r = .slice l6.a l6.n l6.c ∧ T82 n1 h1 fun r1 h2 => ∃ l7 : Sl, r1 = .slice l7.a l7.n l7.c ∧ T82 n2 h2 fun r2 h3 => ∃ l8 : Sl, r2 = .slice l8.a l8.n l8.c ∧ T98 (l3.n : Int) h3 fun r3 h4 => ∃ l9 : Sl, r3 = .slice l9.a l9.n l9.c ∧ ∀ b, h4 b = none → ∀ b1, (h4.new b (.cells ⟨[.int .u8 0]⟩ 5 (0, 0))) b1 = none → T97 ⟨(some ⟨b1, 0, none⟩), 5, 5⟩ ((h4.new b (.cells ⟨[.int .u8 0]⟩ 5 (0, 0))).new b1 (.cells ⟨[.slice (some ⟨b, 0, none⟩) 1 1, .slice l6.a l6.n l6.c, .slice l7.a l7.n l7.c, .slice l8.a l8.n l8.c, .slice l9.a l9.n l9.c]⟩ 23 (0, 0))) fun r4 h5 => ∃ l10 : Sl, r4 = .slice l10.a l10.n l10.c ∧ ∃ (I : Sl → Int → Hp → Prop) (m : Sl → Int → Hp → Nat), I l10 0 h5 ∧ (∀ l11 : Sl, ∀ n3 : Int, ∀ h6 : Hp, I l11 n3 h6 → par (n3 < (l3.n : Int)) (∃ b2 o, (l3.a : Option Addr) = some ⟨b2, o, none⟩ ∧ ((0 : Int) ≤ n3 ∧ n3 < (l3.n : Int)) ∧ ∃ n4 : Int, h6.at b2 (o + n3.toNat * 2) = some (.int .i64 n4) ∧ ∃ b3 o1, (l3.a : Option Addr) = some ⟨b3, o1, none⟩ ∧ ((0 : Int) ≤ n3 ∧ n3 < (l3.n : Int)) ∧ ∃ n5 : Int, h6.at b3 ((o1 + n3.toNat * 2) + 1) = some (.int .u64 n5) ∧ T98 n4 h6 fun r5 h7 => ∃ l12 : Sl, r5 = .slice l12.a l12.n l12.c ∧ h7.at b3 ((o1 + n3.toNat * 2) + 1) = some (.int .u64 n5) ∧ T82 n5 h7 fun r6 h8 => ∃ l13 : Sl, r6 = .slice l13.a l13.n l13.c ∧ ∀ b4, h8 b4 = none → T97 ⟨(some ⟨b4, 0, none⟩), 3, 3⟩ (h8.new b4 (.cells ⟨[.slice l11.a l11.n l11.c, .slice l12.a l12.n l12.c, .slice l13.a l13.n l13.c]⟩ 23 (0, 0))) fun r7 h9 => ∃ l14 : Sl, r7 = .slice l14.a l14.n l14.c ∧ I l14 (IntKind.wrap .i64 (n3 + 1)) h9 ∧ m l14 (IntKind.wrap .i64 (n3 + 1)) h9 < m l11 n3 h6) (T98 (l4.n : Int) h6 fun r8 h10 => ∃ l15 : Sl, r8 = .slice l15.a l15.n l15.c ∧ ∀ b5, h10 b5 = none → T97 ⟨(some ⟨b5, 0, none⟩), 2, 2⟩ (h10.new b5 (.cells ⟨[.slice l11.a l11.n l11.c, .slice l15.a l15.n l15.c]⟩ 23 (0, 0))) fun r9 h11 => ∃ l16 : Sl, r9 = .slice l16.a l16.n l16.c ∧ ∃ (I1 : Sl → Int → Hp → Prop) (m1 : Sl → Int → Hp → Nat), I1 l16 0 h11 ∧ (∀ l17 : Sl, ∀ n6 : Int, ∀ h12 : Hp, I1 l17 n6 h12 → par (n6 < (l4.n : Int)) (∃ b6 o2, (l4.a : Option Addr) = some ⟨b6, o2, none⟩ ∧ ((0 : Int) ≤ n6 ∧ n6 < (l4.n : Int)) ∧ ∃ n7 : Int, h12.at b6 ((o2 + n6.toNat * 7) + 1) = some (.int .u64 n7) ∧ ∃ n8 : Int, h12.at b6 (((o2 + n6.toNat * 7) + 1) + 1) = some (.int .i64 n8) ∧ ∃ n9 : Int, h12.at b6 (((o2 + n6.toNat * 7) + 1) + 2) = some (.int .i64 n9) ∧ ∃ n10 : Int, h12.at b6 (((o2 + n6.toNat * 7) + 1) + 3) = some (.int .i64 n10) ∧ ∃ s : ByteArray, h12.at b6 (((o2 + n6.toNat * 7) + 1) + 4) = some (.string s) ∧ ∃ s1 : ByteArray, h12.at b6 (((o2 + n6.toNat * 7) + 1) + 5) = some (.string s1) ∧ ∃ b7 o3, (l4.a : Option Addr) = some ⟨b7, o3, none⟩ ∧ ((0 : Int) ≤ n6 ∧ n6 < (l4.n : Int)) ∧ ∃ n11 : Int, h12.at b7 (o3 + n6.toNat * 7) = some (.int .i64 n11) ∧ T98 n11 h12 fun r10 h13 => ∃ l18 : Sl, r10 = .slice l18.a l18.n l18.c ∧ T82 n7 h13 fun r11 h14 => ∃ l19 : Sl, r11 = .slice l19.a l19.n l19.c ∧ T98 n8 h14 fun r12 h15 => ∃ l20 : Sl, r12 = .slice l20.a l20.n l20.c ∧ T98 n9 h15 fun r13 h16 => ∃ l21 : Sl, r13 = .slice l21.a l21.n l21.c ∧ T98 n10 h16 fun r14 h17 => ∃ l22 : Sl, r14 = .slice l22.a l22.n l22.c ∧ T99 s h17 fun r15 h18 => ∃ l23 : Sl, r15 = .slice l23.a l23.n l23.c ∧ T99 s1 h18 fun r16 h19 => ∃ l24 : Sl, r16 = .slice l24.a l24.n l24.c ∧ ∀ b8, h19 b8 = none → T97 ⟨(some ⟨b8, 0, none⟩), 8, 8⟩ (h19.new b8 (.cells ⟨[.slice l17.a l17.n l17.c, .slice l18.a l18.n l18.c, .slice l19.a l19.n l19.c, .slice l20.a l20.n l20.c, .slice l21.a l21.n l21.c, .slice l22.a l22.n l22.c, .slice l23.a l23.n l23.c, .slice l24.a l24.n l24.c]⟩ 23 (0, 0))) fun r17 h20 => ∃ l25 : Sl, r17 = .slice l25.a l25.n l25.c ∧ I1 l25 (IntKind.wrap .i64 (n6 + 1)) h20 ∧ m1 l25 (IntKind.wrap .i64 (n6 + 1)) h20 < m1 l17 n6 h12) (T98 (l5.n : Int) h12 fun r18 h21 => ∃ l26 : Sl, r18 = .slice l26.a l26.n l26.c ∧ ∀ b9, h21 b9 = none → T97 ⟨(some ⟨b9, 0, none⟩), 2, 2⟩ (h21.new b9 (.cells ⟨[.slice l17.a l17.n l17.c, .slice l26.a l26.n l26.c]⟩ 23 (0, 0))) fun r19 h22 => ∃ l27 : Sl, r19 = .slice l27.a l27.n l27.c ∧ ∃ (I2 : Sl → Int → Hp → Prop) (m2 : Sl → Int → Hp → Nat), I2 l27 0 h22 ∧ (∀ l28 : Sl, ∀ n12 : Int, ∀ h23 : Hp, I2 l28 n12 h23 → par (n12 < (l5.n : Int)) (∃ b10 o4, (l5.a : Option Addr) = some ⟨b10, o4, none⟩ ∧ ((0 : Int) ≤ n12 ∧ n12 < (l5.n : Int)) ∧ ∃ s2 : ByteArray, h23.at b10 (o4 + n12.toNat) = some (.string s2) ∧ T99 s2 h23 fun r20 h24 => ∃ l29 : Sl, r20 = .slice l29.a l29.n l29.c ∧ ∀ b11, h24 b11 = none → T97 ⟨(some ⟨b11, 0, none⟩), 2, 2⟩ (h24.new b11 (.cells ⟨[.slice l28.a l28.n l28.c, .slice l29.a l29.n l29.c]⟩ 23 (0, 0))) fun r21 h25 => ∃ l30 : Sl, r21 = .slice l30.a l30.n l30.c ∧ I2 l30 (IntKind.wrap .i64 (n12 + 1)) h25 ∧ m2 l30 (IntKind.wrap .i64 (n12 + 1)) h25 < m2 l28 n12 h23) (Q (.slice l28.a l28.n l28.c) h23)))))) := by kernel_rfl
theorem F65.denf (V : Value → List Value → PT) (n : Int) (n1 : Int) (n2 : Int) (l : Sl) (l1 : Sl) (l2 : Sl) (l3 : Sl) (l4 : Sl) (l5 : Sl) : denF Tryd.prog [6, 15] [(82, F82.V), (97, F97.V), (98, F98.V), (99, F99.V)] V [(30, .orderL [0, 2, 3, 5, 6, 8, 9, 11, 12, 4, 7, 10, 13, 1, 14, 15, 16] [1]), (250, .loop [(12, .sl), (13, .int .i64)] []), (1018, .loop [(12, .sl), (14, .int .i64)] []), (4004, .order [0, 1, 2, 3, 4, 5, 7, 8, 9, 10, 11, 6, 12, 13, 14, 15]), (4090, .loop [(12, .sl), (16, .int .i64)] []), (32585, .order [0, 1, 2, 3, 4, 5, 7, 8, 10, 11, 13, 14, 16, 17, 19, 20, 22, 23, 6, 9, 12, 15, 18, 21, 24, 25, 26, 27])] Tryd.f65 [.v (.bool false), .v (.agg ⟨[.int .u64 n, .int .u64 n1, .int .u64 n2, .slice l.a l.n l.c, .slice l1.a l1.n l1.c, .slice l2.a l2.n l2.c]⟩), .v (.slice l3.a l3.n l3.c), .v (.slice l4.a l4.n l4.c), .v (.slice l5.a l5.n l5.c)] = F65.Tf n n1 n2 l l1 l2 l3 l4 l5 := F65.genf V F82.T F97.T F98.T F99.T n n1 n2 l l1 l2 l3 l4 l5
def F65.W (T65t : Int → Int → Int → Sl → Sl → Sl → Sl → Sl → Sl → PT) (T65f : Int → Int → Int → Sl → Sl → Sl → Sl → Sl → Sl → PT) (args : List Value) : PT := match args with
  | [.bool true, .agg ⟨[.int .u64 n, .int .u64 n1, .int .u64 n2, .slice l_a l_n l_c, .slice l1_a l1_n l1_c, .slice l2_a l2_n l2_c]⟩, .slice l3_a l3_n l3_c, .slice l4_a l4_n l4_c, .slice l5_a l5_n l5_c] => T65t n n1 n2 ⟨l_a, l_n, l_c⟩ ⟨l1_a, l1_n, l1_c⟩ ⟨l2_a, l2_n, l2_c⟩ ⟨l3_a, l3_n, l3_c⟩ ⟨l4_a, l4_n, l4_c⟩ ⟨l5_a, l5_n, l5_c⟩
  | [.bool false, .agg ⟨[.int .u64 n, .int .u64 n1, .int .u64 n2, .slice l_a l_n l_c, .slice l1_a l1_n l1_c, .slice l2_a l2_n l2_c]⟩, .slice l3_a l3_n l3_c, .slice l4_a l4_n l4_c, .slice l5_a l5_n l5_c] => T65f n n1 n2 ⟨l_a, l_n, l_c⟩ ⟨l1_a, l1_n, l1_c⟩ ⟨l2_a, l2_n, l2_c⟩ ⟨l3_a, l3_n, l3_c⟩ ⟨l4_a, l4_n, l4_c⟩ ⟨l5_a, l5_n, l5_c⟩
  | _ => fun _ _ => False
def F65.V : List Value → PT := F65.W F65.Tt F65.Tf
theorem F65.ok : FOk Tryd.prog 65 F65.V := by
  refine ⟨⟨_, Tryd.func65, rfl, rfl⟩, fun args => ?_⟩
  have hG : GOk Tryd.prog [(82, F82.V), (97, F97.V), (98, F98.V), (99, F99.V)] := GOk.cons F82.ok (GOk.cons F97.ok (GOk.cons F98.ok (GOk.cons F99.ok (GOk.nil))))
  have hV : VOk Tryd.prog noV := noV_ok
  unfold F65.V F65.W
  split
  · exact denF_okV hG hV Tryd.func65 (fun h Q hq => (F65.dent _ _ _ _ _ _ _ _ _ _) ▸ hq)
  · exact denF_okV hG hV Tryd.func65 (fun h Q hq => (F65.denf _ _ _ _ _ _ _ _ _ _) ▸ hq)
  · exact fun h Q hq => hq.elim
def F22.T (n : Int) (n1 : Int) (n2 : Int) (l : Sl) (l1 : Sl) (l2 : Sl) : PT := fun h Q =>
  F64.T n n1 n2 l l1 l2 h fun r h1 => ∃ b : Bool, r = .bool b ∧ parB b (∃ (I : Sl → Sl → Sl → Hp → Prop) (m : Sl → Sl → Sl → Hp → Nat), I l l1 ⟨none, 0, 0⟩ h1 ∧ (∀ l3 : Sl, ∀ l4 : Sl, ∀ l5 : Sl, ∀ h2 : Hp, I l3 l4 l5 h2 → par ((256 : Int) < (IntKind.wrap .i64 ((l3.n : Int) + (l4.n : Int)))) (Sl.okCut l3 0 (iMin 256 (l3.n : Int)) (l3.c : Int) ∧ Sl.okCut l4 0 (IntKind.wrap .i64 (256 - (iMin 256 (l3.n : Int)))) (l4.c : Int) ∧ F65.Tf n n1 n2 l l1 l2 (Sl.cut l3 2 0 (iMin 256 (l3.n : Int)) (l3.c : Int)) (Sl.cut l4 7 0 (IntKind.wrap .i64 (256 - (iMin 256 (l3.n : Int)))) (l4.c : Int)) ⟨none, 0, 0⟩ h2 fun r1 h3 => ∃ l6 : Sl, r1 = .slice l6.a l6.n l6.c ∧ appendD l5 23 1 24 [.slice none 0 0] 1 [.slice l6.a l6.n l6.c] h3 fun l7 h4 => Sl.okCut l3 (iMin 256 (l3.n : Int)) (l3.n : Int) (l3.c : Int) ∧ Sl.okCut l4 (IntKind.wrap .i64 (256 - (iMin 256 (l3.n : Int)))) (l4.n : Int) (l4.c : Int) ∧ I (Sl.cut l3 2 (iMin 256 (l3.n : Int)) (l3.n : Int) (l3.c : Int)) (Sl.cut l4 7 (IntKind.wrap .i64 (256 - (iMin 256 (l3.n : Int)))) (l4.n : Int) (l4.c : Int)) l7 h4 ∧ m (Sl.cut l3 2 (iMin 256 (l3.n : Int)) (l3.n : Int) (l3.c : Int)) (Sl.cut l4 7 (IntKind.wrap .i64 (256 - (iMin 256 (l3.n : Int)))) (l4.n : Int) (l4.c : Int)) l7 h4 < m l3 l4 l5 h2) (F65.Tt n n1 n2 l l1 l2 l3 l4 l2 h2 fun r2 h5 => ∃ l8 : Sl, r2 = .slice l8.a l8.n l8.c ∧ appendD l5 23 1 24 [.slice none 0 0] 1 [.slice l8.a l8.n l8.c] h5 fun l9 h6 => Q (.slice l9.a l9.n l9.c) h6))) (Q (.slice none 0 0) h1)
theorem F22.gen (V : Value → List Value → PT) (T64 : Int → Int → Int → Sl → Sl → Sl → PT) (T65t : Int → Int → Int → Sl → Sl → Sl → Sl → Sl → Sl → PT) (T65f : Int → Int → Int → Sl → Sl → Sl → Sl → Sl → Sl → PT) (n : Int) (n1 : Int) (n2 : Int) (l : Sl) (l1 : Sl) (l2 : Sl) : denF Tryd.prog [1, 33, 49] [(64, F64.W T64), (65, F65.W T65t T65f)] V [(14, .order [0, 1, 2, 3, 4, 5]), (124, .loop [(3, .sl), (4, .sl), (5, .sl)] []), (3978, .order [0, 1, 2, 3, 4, 5, 6, 7, 8, 9, 10, 11, 12]), (3979, .order [0, 1, 2, 3, 4, 5, 6, 7, 8])] Tryd.f22 [.v (.agg ⟨[.int .u64 n, .int .u64 n1, .int .u64 n2, .slice l.a l.n l.c, .slice l1.a l1.n l1.c, .slice l2.a l2.n l2.c]⟩)] = fun h Q =>
  T64 n n1 n2 l l1 l2 h fun r h1 => ∃ b : Bool, r = .bool b ∧ parB b (∃ (I : Sl → Sl → Sl → Hp → Prop) (m : Sl → Sl → Sl → Hp → Nat), I l l1 ⟨none, 0, 0⟩ h1 ∧ (∀ l3 : Sl, ∀ l4 : Sl, ∀ l5 : Sl, ∀ h2 : Hp, I l3 l4 l5 h2 → par ((256 : Int) < (IntKind.wrap .i64 ((l3.n : Int) + (l4.n : Int)))) (Sl.okCut l3 0 (iMin 256 (l3.n : Int)) (l3.c : Int) ∧ Sl.okCut l4 0 (IntKind.wrap .i64 (256 - (iMin 256 (l3.n : Int)))) (l4.c : Int) ∧ T65f n n1 n2 l l1 l2 (Sl.cut l3 2 0 (iMin 256 (l3.n : Int)) (l3.c : Int)) (Sl.cut l4 7 0 (IntKind.wrap .i64 (256 - (iMin 256 (l3.n : Int)))) (l4.c : Int)) ⟨none, 0, 0⟩ h2 fun r1 h3 => ∃ l6 : Sl, r1 = .slice l6.a l6.n l6.c ∧ appendD l5 23 1 24 [.slice none 0 0] 1 [.slice l6.a l6.n l6.c] h3 fun l7 h4 => Sl.okCut l3 (iMin 256 (l3.n : Int)) (l3.n : Int) (l3.c : Int) ∧ Sl.okCut l4 (IntKind.wrap .i64 (256 - (iMin 256 (l3.n : Int)))) (l4.n : Int) (l4.c : Int) ∧ I (Sl.cut l3 2 (iMin 256 (l3.n : Int)) (l3.n : Int) (l3.c : Int)) (Sl.cut l4 7 (IntKind.wrap .i64 (256 - (iMin 256 (l3.n : Int)))) (l4.n : Int) (l4.c : Int)) l7 h4 ∧ m (Sl.cut l3 2 (iMin 256 (l3.n : Int)) (l3.n : Int) (l3.c : Int)) (Sl.cut l4 7 (IntKind.wrap .i64 (256 - (iMin 256 (l3.n : Int)))) (l4.n : Int) (l4.c : Int)) l7 h4 < m l3 l4 l5 h2) (T65t n n1 n2 l l1 l2 l3 l4 l2 h2 fun r2 h5 => ∃ l8 : Sl, r2 = .slice l8.a l8.n l8.c ∧ appendD l5 23 1 24 [.slice none 0 0] 1 [.slice l8.a l8.n l8.c] h5 fun l9 h6 => Q (.slice l9.a l9.n l9.c) h6))) (Q (.slice none 0 0) h1) := by kernel_rfl
theorem F22.den (V : Value → List Value → PT) (n : Int) (n1 : Int) (n2 : Int) (l : Sl) (l1 : Sl) (l2 : Sl) : denF Tryd.prog [1, 33, 49] [(64, F64.V), (65, F65.V)] V [(14, .order [0, 1, 2, 3, 4, 5]), (124, .loop [(3, .sl), (4, .sl), (5, .sl)] []), (3978, .order [0, 1, 2, 3, 4, 5, 6, 7, 8, 9, 10, 11, 12]), (3979, .order [0, 1, 2, 3, 4, 5, 6, 7, 8])] Tryd.f22 [.v (.agg ⟨[.int .u64 n, .int .u64 n1, .int .u64 n2, .slice l.a l.n l.c, .slice l1.a l1.n l1.c, .slice l2.a l2.n l2.c]⟩)] = F22.T n n1 n2 l l1 l2 := F22.gen V F64.T F65.Tt F65.Tf n n1 n2 l l1 l2
def F22.W (T22 : Int → Int → Int → Sl → Sl → Sl → PT) (args : List Value) : PT := match args with
  | [.agg ⟨[.int .u64 n, .int .u64 n1, .int .u64 n2, .slice l_a l_n l_c, .slice l1_a l1_n l1_c, .slice l2_a l2_n l2_c]⟩] => T22 n n1 n2 ⟨l_a, l_n, l_c⟩ ⟨l1_a, l1_n, l1_c⟩ ⟨l2_a, l2_n, l2_c⟩
  | _ => fun _ _ => False
def F22.V : List Value → PT := F22.W F22.T
theorem F22.ok : FOk Tryd.prog 22 F22.V := by
  refine ⟨⟨_, Tryd.func22, rfl, rfl⟩, fun args => ?_⟩
  have hG : GOk Tryd.prog [(64, F64.V), (65, F65.V)] := GOk.cons F64.ok (GOk.cons F65.ok (GOk.nil))
  have hV : VOk Tryd.prog noV := noV_ok
  unfold F22.V F22.W
  split
  · exact denF_okV hG hV Tryd.func22 (fun h Q hq => (F22.den _ _ _ _ _ _ _) ▸ hq)
  · exact fun h Q hq => hq.elim
def F67.T (n : Int) (l : Sl) : PT := fun h Q =>
  ∃ J : Int → Hp → Prop, (∀ n1 : Int, ∀ h1 : Hp, J n1 h1 → (512 : Int) ≠ 0 ∧ ∃ J1 : Int → Sl → Hp → Prop, (∀ n2 : Int, ∀ l1 : Sl, ∀ h2 : Hp, J1 n2 l1 h2 → ∃ (I : Int → Sl → Int → Bool → Hp → Prop) (m : Int → Sl → Int → Bool → Hp → Nat), I n2 l1 0 true h2 ∧ (∀ n3 : Int, ∀ l2 : Sl, ∀ n4 : Int, (∀ h3 : Hp, I n3 l2 n4 true h3 → ∃ J2 : Int → Hp → Prop, (∀ n5 : Int, ∀ h4 : Hp, J2 n5 h4 → par ((IntKind.wrap .i64 (n4 + n5)) = (l.n : Int)) ((0 : Int) ≤ 8 ∧ ∀ b1, h4 b1 = none → Sl.okCut l n4 (IntKind.wrap .i64 (n4 + n5)) (l.c : Int) ∧ ∃ vs, (h4.new b1 (.cells ⟨[.int .u8 (IntKind.wrap .u8 n5), .int .u8 (IntKind.wrap .u8 (shrI .i64 n5 8)), .int .u8 (IntKind.wrap .u8 1)]⟩ 5 (0, 0))).row ((Sl.cut l 1 n4 (IntKind.wrap .i64 (n4 + n5)) (l.c : Int)).a) (((Sl.cut l 1 n4 (IntKind.wrap .i64 (n4 + n5)) (l.c : Int)).n) * 1) vs ∧ (∀ v ∈ vs, Value.oneCell' v = true) ∧ appendD ⟨(some ⟨b1, 0, none⟩), 3, 3⟩ 5 1 1 [.int .u8 0] ((Sl.cut l 1 n4 (IntKind.wrap .i64 (n4 + n5)) (l.c : Int)).n) vs (h4.new b1 (.cells ⟨[.int .u8 (IntKind.wrap .u8 n5), .int .u8 (IntKind.wrap .u8 (shrI .i64 n5 8)), .int .u8 (IntKind.wrap .u8 1)]⟩ 5 (0, 0))) fun l3 h5 => F84.T l3 h5 fun r h6 => ∃ n6 : Int, r = .int .u32 n6 ∧ F83.T n6 h6 fun r1 h7 => ∃ l4 : Sl, r1 = .slice l4.a l4.n l4.c ∧ ∃ vs1, h7.row l4.a (l4.n * 1) vs1 ∧ (∀ v ∈ vs1, Value.oneCell' v = true) ∧ appendD l2 5 1 1 [.int .u8 0] l4.n vs1 h7 fun l5 h8 => ∃ vs2, h8.row l3.a (l3.n * 1) vs2 ∧ (∀ v ∈ vs2, Value.oneCell' v = true) ∧ appendD l5 5 1 1 [.int .u8 0] l3.n vs2 h8 fun l6 h9 => I 0 l6 (IntKind.wrap .i64 (n4 + n5)) false h9 ∧ m 0 l6 (IntKind.wrap .i64 (n4 + n5)) false h9 < m n3 l2 n4 true h3) ((0 : Int) ≤ 8 ∧ ∀ b2, h4 b2 = none → Sl.okCut l n4 (IntKind.wrap .i64 (n4 + n5)) (l.c : Int) ∧ ∃ vs3, (h4.new b2 (.cells ⟨[.int .u8 (IntKind.wrap .u8 n5), .int .u8 (IntKind.wrap .u8 (shrI .i64 n5 8)), .int .u8 (IntKind.wrap .u8 2)]⟩ 5 (0, 0))).row ((Sl.cut l 1 n4 (IntKind.wrap .i64 (n4 + n5)) (l.c : Int)).a) (((Sl.cut l 1 n4 (IntKind.wrap .i64 (n4 + n5)) (l.c : Int)).n) * 1) vs3 ∧ (∀ v ∈ vs3, Value.oneCell' v = true) ∧ appendD ⟨(some ⟨b2, 0, none⟩), 3, 3⟩ 5 1 1 [.int .u8 0] ((Sl.cut l 1 n4 (IntKind.wrap .i64 (n4 + n5)) (l.c : Int)).n) vs3 (h4.new b2 (.cells ⟨[.int .u8 (IntKind.wrap .u8 n5), .int .u8 (IntKind.wrap .u8 (shrI .i64 n5 8)), .int .u8 (IntKind.wrap .u8 2)]⟩ 5 (0, 0))) fun l7 h10 => F84.T l7 h10 fun r2 h11 => ∃ n7 : Int, r2 = .int .u32 n7 ∧ F83.T n7 h11 fun r3 h12 => ∃ l8 : Sl, r3 = .slice l8.a l8.n l8.c ∧ ∃ vs4, h12.row l8.a (l8.n * 1) vs4 ∧ (∀ v ∈ vs4, Value.oneCell' v = true) ∧ appendD l2 5 1 1 [.int .u8 0] l8.n vs4 h12 fun l9 h13 => ∃ vs5, h13.row l7.a (l7.n * 1) vs5 ∧ (∀ v ∈ vs5, Value.oneCell' v = true) ∧ appendD l9 5 1 1 [.int .u8 0] l7.n vs5 h13 fun l10 h14 => I 0 l10 (IntKind.wrap .i64 (n4 + n5)) false h14 ∧ m 0 l10 (IntKind.wrap .i64 (n4 + n5)) false h14 < m n3 l2 n4 true h3)) ∧ (par ((IntKind.wrap .i64 ((l.n : Int) - n4)) < (IntKind.wrap .i64 ((IntKind.wrap .i64 (512 - n3)) - 7))) (J2 (IntKind.wrap .i64 ((l.n : Int) - n4)) h3) (J2 (IntKind.wrap .i64 ((IntKind.wrap .i64 (512 - n3)) - 7)) h3))) ∧ (∀ h3 : Hp, I n3 l2 n4 false h3 → par (n4 < (l.n : Int)) (∃ J3 : Int → Hp → Prop, (∀ n8 : Int, ∀ h15 : Hp, J3 n8 h15 → par ((IntKind.wrap .i64 (n4 + n8)) = (l.n : Int)) ((0 : Int) ≤ 8 ∧ ∀ b3, h15 b3 = none → Sl.okCut l n4 (IntKind.wrap .i64 (n4 + n8)) (l.c : Int) ∧ ∃ vs6, (h15.new b3 (.cells ⟨[.int .u8 (IntKind.wrap .u8 n8), .int .u8 (IntKind.wrap .u8 (shrI .i64 n8 8)), .int .u8 (IntKind.wrap .u8 4)]⟩ 5 (0, 0))).row ((Sl.cut l 1 n4 (IntKind.wrap .i64 (n4 + n8)) (l.c : Int)).a) (((Sl.cut l 1 n4 (IntKind.wrap .i64 (n4 + n8)) (l.c : Int)).n) * 1) vs6 ∧ (∀ v ∈ vs6, Value.oneCell' v = true) ∧ appendD ⟨(some ⟨b3, 0, none⟩), 3, 3⟩ 5 1 1 [.int .u8 0] ((Sl.cut l 1 n4 (IntKind.wrap .i64 (n4 + n8)) (l.c : Int)).n) vs6 (h15.new b3 (.cells ⟨[.int .u8 (IntKind.wrap .u8 n8), .int .u8 (IntKind.wrap .u8 (shrI .i64 n8 8)), .int .u8 (IntKind.wrap .u8 4)]⟩ 5 (0, 0))) fun l11 h16 => F84.T l11 h16 fun r4 h17 => ∃ n9 : Int, r4 = .int .u32 n9 ∧ F83.T n9 h17 fun r5 h18 => ∃ l12 : Sl, r5 = .slice l12.a l12.n l12.c ∧ ∃ vs7, h18.row l12.a (l12.n * 1) vs7 ∧ (∀ v ∈ vs7, Value.oneCell' v = true) ∧ appendD l2 5 1 1 [.int .u8 0] l12.n vs7 h18 fun l13 h19 => ∃ vs8, h19.row l11.a (l11.n * 1) vs8 ∧ (∀ v ∈ vs8, Value.oneCell' v = true) ∧ appendD l13 5 1 1 [.int .u8 0] l11.n vs8 h19 fun l14 h20 => I 0 l14 (IntKind.wrap .i64 (n4 + n8)) false h20 ∧ m 0 l14 (IntKind.wrap .i64 (n4 + n8)) false h20 < m n3 l2 n4 false h3) ((0 : Int) ≤ 8 ∧ ∀ b4, h15 b4 = none → Sl.okCut l n4 (IntKind.wrap .i64 (n4 + n8)) (l.c : Int) ∧ ∃ vs9, (h15.new b4 (.cells ⟨[.int .u8 (IntKind.wrap .u8 n8), .int .u8 (IntKind.wrap .u8 (shrI .i64 n8 8)), .int .u8 (IntKind.wrap .u8 3)]⟩ 5 (0, 0))).row ((Sl.cut l 1 n4 (IntKind.wrap .i64 (n4 + n8)) (l.c : Int)).a) (((Sl.cut l 1 n4 (IntKind.wrap .i64 (n4 + n8)) (l.c : Int)).n) * 1) vs9 ∧ (∀ v ∈ vs9, Value.oneCell' v = true) ∧ appendD ⟨(some ⟨b4, 0, none⟩), 3, 3⟩ 5 1 1 [.int .u8 0] ((Sl.cut l 1 n4 (IntKind.wrap .i64 (n4 + n8)) (l.c : Int)).n) vs9 (h15.new b4 (.cells ⟨[.int .u8 (IntKind.wrap .u8 n8), .int .u8 (IntKind.wrap .u8 (shrI .i64 n8 8)), .int .u8 (IntKind.wrap .u8 3)]⟩ 5 (0, 0))) fun l15 h21 => F84.T l15 h21 fun r6 h22 => ∃ n10 : Int, r6 = .int .u32 n10 ∧ F83.T n10 h22 fun r7 h23 => ∃ l16 : Sl, r7 = .slice l16.a l16.n l16.c ∧ ∃ vs10, h23.row l16.a (l16.n * 1) vs10 ∧ (∀ v ∈ vs10, Value.oneCell' v = true) ∧ appendD l2 5 1 1 [.int .u8 0] l16.n vs10 h23 fun l17 h24 => ∃ vs11, h24.row l15.a (l15.n * 1) vs11 ∧ (∀ v ∈ vs11, Value.oneCell' v = true) ∧ appendD l17 5 1 1 [.int .u8 0] l15.n vs11 h24 fun l18 h25 => I 0 l18 (IntKind.wrap .i64 (n4 + n8)) false h25 ∧ m 0 l18 (IntKind.wrap .i64 (n4 + n8)) false h25 < m n3 l2 n4 false h3)) ∧ (par ((IntKind.wrap .i64 ((l.n : Int) - n4)) < (IntKind.wrap .i64 ((IntKind.wrap .i64 (512 - n3)) - 7))) (J3 (IntKind.wrap .i64 ((l.n : Int) - n4)) h3) (J3 (IntKind.wrap .i64 ((IntKind.wrap .i64 (512 - n3)) - 7)) h3))) (Q (.slice l2.a l2.n l2.c) h3)))) ∧ (par ((IntKind.wrap .i64 (512 - (Int.tmod n1 512))) < 8) (∃ (I1 : Int → Sl → Hp → Prop) (m1 : Int → Sl → Hp → Nat), I1 (Int.tmod n1 512) ⟨none, 0, 0⟩ h1 ∧ (∀ n11 : Int, ∀ l19 : Sl, ∀ h26 : Hp, I1 n11 l19 h26 → par (n11 < 512) (appendD l19 5 1 1 [.int .u8 0] 1 [.int .u8 0] h26 fun l20 h27 => I1 (IntKind.wrap .i64 (n11 + 1)) l20 h27 ∧ m1 (IntKind.wrap .i64 (n11 + 1)) l20 h27 < m1 n11 l19 h26) (J1 0 l19 h26))) (J1 (Int.tmod n1 512) ⟨none, 0, 0⟩ h1))) ∧ (par (n < 0) (J 0 h) (J n h))
theorem F67.gen (V : Value → List Value → PT) (T83 : Int → PT) (T84 : Sl → PT) (n : Int) (l : Sl) : denF Tryd.prog [23] [(83, F83.W T83), (84, F84.W T84)] V [(3, .join [(0, .int .i64)] []), (31, .join [(5, .int .i64), (6, .sl)] []), (1000, .loop [(5, .int .i64), (6, .sl)] []), (1018, .loop [(5, .int .i64), (6, .sl), (7, .int .i64), (8, .bool)] []), (32585, .join [(9, .int .i64)] [])] Tryd.f67 [.v (.int .i64 n), .v (.slice l.a l.n l.c)] = fun h Q =>
  ∃ J : Int → Hp → Prop, (∀ n1 : Int, ∀ h1 : Hp, J n1 h1 → (512 : Int) ≠ 0 ∧ ∃ J1 : Int → Sl → Hp → Prop, (∀ n2 : Int, ∀ l1 : Sl, ∀ h2 : Hp, J1 n2 l1 h2 → ∃ (I : Int → Sl → Int → Bool → Hp → Prop) (m : Int → Sl → Int → Bool → Hp → Nat), I n2 l1 0 true h2 ∧ (∀ n3 : Int, ∀ l2 : Sl, ∀ n4 : Int, (∀ h3 : Hp, I n3 l2 n4 true h3 → ∃ J2 : Int → Hp → Prop, (∀ n5 : Int, ∀ h4 : Hp, J2 n5 h4 → par ((IntKind.wrap .i64 (n4 + n5)) = (l.n : Int)) ((0 : Int) ≤ 8 ∧ ∀ b1, h4 b1 = none → Sl.okCut l n4 (IntKind.wrap .i64 (n4 + n5)) (l.c : Int) ∧ ∃ vs, (h4.new b1 (.cells ⟨[.int .u8 (IntKind.wrap .u8 n5), .int .u8 (IntKind.wrap .u8 (shrI .i64 n5 8)), .int .u8 (IntKind.wrap .u8 1)]⟩ 5 (0, 0))).row ((Sl.cut l 1 n4 (IntKind.wrap .i64 (n4 + n5)) (l.c : Int)).a) (((Sl.cut l 1 n4 (IntKind.wrap .i64 (n4 + n5)) (l.c : Int)).n) * 1) vs ∧ (∀ v ∈ vs, Value.oneCell' v = true) ∧ appendD ⟨(some ⟨b1, 0, none⟩), 3, 3⟩ 5 1 1 [.int .u8 0] ((Sl.cut l 1 n4 (IntKind.wrap .i64 (n4 + n5)) (l.c : Int)).n) vs (h4.new b1 (.cells ⟨[.int .u8 (IntKind.wrap .u8 n5), .int .u8 (IntKind.wrap .u8 (shrI .i64 n5 8)), .int .u8 (IntKind.wrap .u8 1)]⟩ 5 (0, 0))) fun l3 h5 => T84 l3 h5 fun r h6 => ∃ n6 : Int, r = .int .u32 n6 ∧ T83 n6 h6 fun r1 h7 => ∃ l4 : Sl, r1 = .slice l4.a l4.n l4.c ∧ ∃ vs1, h7.row l4.a (l4.n * 1) vs1 ∧ (∀ v ∈ vs1, Value.oneCell' v = true) ∧ appendD l2 5 1 1 [.int .u8 0] l4.n vs1 h7 fun l5 h8 => ∃ vs2, h8.row l3.a (l3.n * 1) vs2 ∧ (∀ v ∈ vs2, Value.oneCell' v = true) ∧ appendD l5 5 1 1 [.int .u8 0] l3.n vs2 h8 fun l6 h9 => I 0 l6 (IntKind.wrap .i64 (n4 + n5)) false h9 ∧ m 0 l6 (IntKind.wrap .i64 (n4 + n5)) false h9 < m n3 l2 n4 true h3) ((0 : Int) ≤ 8 ∧ ∀ b2, h4 b2 = none → Sl.okCut l n4 (IntKind.wrap .i64 (n4 + n5)) (l.c : Int) ∧ ∃ vs3, (h4.new b2 (.cells ⟨[.int .u8 (IntKind.wrap .u8 n5), .int .u8 (IntKind.wrap .u8 (shrI .i64 n5 8)), .int .u8 (IntKind.wrap .u8 2)]⟩ 5 (0, 0))).row ((Sl.cut l 1 n4 (IntKind.wrap .i64 (n4 + n5)) (l.c : Int)).a) (((Sl.cut l 1 n4 (IntKind.wrap .i64 (n4 + n5)) (l.c : Int)).n) * 1) vs3 ∧ (∀ v ∈ vs3, Value.oneCell' v = true) ∧ appendD ⟨(some ⟨b2, 0, none⟩), 3, 3⟩ 5 1 1 [.int .u8 0] ((Sl.cut l 1 n4 (IntKind.wrap .i64 (n4 + n5)) (l.c : Int)).n) vs3 (h4.new b2 (.cells ⟨[.int .u8 (IntKind.wrap .u8 n5), .int .u8 (IntKind.wrap .u8 (shrI .i64 n5 8)), .int .u8 (IntKind.wrap .u8 2)]⟩ 5 (0, 0))) fun l7 h10 => T84 l7 h10 fun r2 h11 => ∃ n7 : Int, r2 = .int .u32 n7 ∧ T83 n7 h11 fun r3 h12 => ∃ l8 : Sl, r3 = .slice l8.a l8.n l8.c ∧ ∃ vs4, h12.row l8.a (l8.n * 1) vs4 ∧ (∀ v ∈ vs4, Value.oneCell' v = true) ∧ appendD l2 5 1 1 [.int .u8 0] l8.n vs4 h12 fun l9 h13 => ∃ vs5, h13.row l7.a (l7.n * 1) vs5 ∧ (∀ v ∈ vs5, Value.oneCell' v = true) ∧ appendD l9 5 1 1 [.int .u8 0] l7.n vs5 h13 fun l10 h14 => I 0 l10 (IntKind.wrap .i64 (n4 + n5)) false h14 ∧ m 0 l10 (IntKind.wrap .i64 (n4 + n5)) false h14 < m n3 l2 n4 true h3)) ∧ (par ((IntKind.wrap .i64 ((l.n : Int) - n4)) < (IntKind.wrap .i64 ((IntKind.wrap .i64 (512 - n3)) - 7))) (J2 (IntKind.wrap .i64 ((l.n : Int) - n4)) h3) (J2 (IntKind.wrap .i64 ((IntKind.wrap .i64 (512 - n3)) - 7)) h3))) ∧ (∀ h3 : Hp, I n3 l2 n4 false h3 → par (n4 < (l.n : Int)) (∃ J3 : Int → Hp → Prop, (∀ n8 : Int, ∀ h15 : Hp, J3 n8 h15 → par ((IntKind.wrap .i64 (n4 + n8)) = (l.n : Int)) ((0 : Int) ≤ 8 ∧ ∀ b3, h15 b3 = none → Sl.okCut l n4 (IntKind.wrap .i64 (n4 + n8)) (l.c : Int) ∧ ∃ vs6, (h15.new b3 (.cells ⟨[.int .u8 (IntKind.wrap .u8 n8), .int .u8 (IntKind.wrap .u8 (shrI .i64 n8 8)), .int .u8 (IntKind.wrap .u8 4)]⟩ 5 (0, 0))).row ((Sl.cut l 1 n4 (IntKind.wrap .i64 (n4 + n8)) (l.c : Int)).a) (((Sl.cut l 1 n4 (IntKind.wrap .i64 (n4 + n8)) (l.c : Int)).n) * 1) vs6 ∧ (∀ v ∈ vs6, Value.oneCell' v = true) ∧ appendD ⟨(some ⟨b3, 0, none⟩), 3, 3⟩ 5 1 1 [.int .u8 0] ((Sl.cut l 1 n4 (IntKind.wrap .i64 (n4 + n8)) (l.c : Int)).n) vs6 (h15.new b3 (.cells ⟨[.int .u8 (IntKind.wrap .u8 n8), .int .u8 (IntKind.wrap .u8 (shrI .i64 n8 8)), .int .u8 (IntKind.wrap .u8 4)]⟩ 5 (0, 0))) fun l11 h16 => T84 l11 h16 fun r4 h17 => ∃ n9 : Int, r4 = .int .u32 n9 ∧ T83 n9 h17 fun r5 h18 => ∃ l12 : Sl, r5 = .slice l12.a l12.n l12.c ∧ ∃ vs7, h18.row l12.a (l12.n * 1) vs7 ∧ (∀ v ∈ vs7, Value.oneCell' v = true) ∧ appendD l2 5 1 1 [.int .u8 0] l12.n vs7 h18 fun l13 h19 => ∃ vs8, h19.row l11.a (l11.n * 1) vs8 ∧ (∀ v ∈ vs8, Value.oneCell' v = true) ∧ appendD l13 5 1 1 [.int .u8 0] l11.n vs8 h19 fun l14 h20 => I 0 l14 (IntKind.wrap .i64 (n4 + n8)) false h20 ∧ m 0 l14 (IntKind.wrap .i64 (n4 + n8)) false h20 < m n3 l2 n4 false h3) ((0 : Int) ≤ 8 ∧ ∀ b4, h15 b4 = none → Sl.okCut l n4 (IntKind.wrap .i64 (n4 + n8)) (l.c : Int) ∧ ∃ vs9, (h15.new b4 (.cells ⟨[.int .u8 (IntKind.wrap .u8 n8), .int .u8 (IntKind.wrap .u8 (shrI .i64 n8 8)), .int .u8 (IntKind.wrap .u8 3)]⟩ 5 (0, 0))).row ((Sl.cut l 1 n4 (IntKind.wrap .i64 (n4 + n8)) (l.c : Int)).a) (((Sl.cut l 1 n4 (IntKind.wrap .i64 (n4 + n8)) (l.c : Int)).n) * 1) vs9 ∧ (∀ v ∈ vs9, Value.oneCell' v = true) ∧ appendD ⟨(some ⟨b4, 0, none⟩), 3, 3⟩ 5 1 1 [.int .u8 0] ((Sl.cut l 1 n4 (IntKind.wrap .i64 (n4 + n8)) (l.c : Int)).n) vs9 (h15.new b4 (.cells ⟨[.int .u8 (IntKind.wrap .u8 n8), .int .u8 (IntKind.wrap .u8 (shrI .i64 n8 8)), .int .u8 (IntKind.wrap .u8 3)]⟩ 5 (0, 0))) fun l15 h21 => T84 l15 h21 fun r6 h22 => ∃ n10 : Int, r6 = .int .u32 n10 ∧ T83 n10 h22 fun r7 h23 => ∃ l16 : Sl, r7 = .slice l16.a l16.n l16.c ∧ ∃ vs10, h23.row l16.a (l16.n * 1) vs10 ∧ (∀ v ∈ vs10, Value.oneCell' v = true) ∧ appendD l2 5 1 1 [.int .u8 0] l16.n vs10 h23 fun l17 h24 => ∃ vs11, h24.row l15.a (l15.n * 1) vs11 ∧ (∀ v ∈ vs11, Value.oneCell' v = true) ∧ appendD l17 5 1 1 [.int .u8 0] l15.n vs11 h24 fun l18 h25 => I 0 l18 (IntKind.wrap .i64 (n4 + n8)) false h25 ∧ m 0 l18 (IntKind.wrap .i64 (n4 + n8)) false h25 < m n3 l2 n4 false h3)) ∧ (par ((IntKind.wrap .i64 ((l.n : Int) - n4)) < (IntKind.wrap .i64 ((IntKind.wrap .i64 (512 - n3)) - 7))) (J3 (IntKind.wrap .i64 ((l.n : Int) - n4)) h3) (J3 (IntKind.wrap .i64 ((IntKind.wrap .i64 (512 - n3)) - 7)) h3))) (Q (.slice l2.a l2.n l2.c) h3)))) ∧ (par ((IntKind.wrap .i64 (512 - (Int.tmod n1 512))) < 8) (∃ (I1 : Int → Sl → Hp → Prop) (m1 : Int → Sl → Hp → Nat), I1 (Int.tmod n1 512) ⟨none, 0, 0⟩ h1 ∧ (∀ n11 : Int, ∀ l19 : Sl, ∀ h26 : Hp, I1 n11 l19 h26 → par (n11 < 512) (appendD l19 5 1 1 [.int .u8 0] 1 [.int .u8 0] h26 fun l20 h27 => I1 (IntKind.wrap .i64 (n11 + 1)) l20 h27 ∧ m1 (IntKind.wrap .i64 (n11 + 1)) l20 h27 < m1 n11 l19 h26) (J1 0 l19 h26))) (J1 (Int.tmod n1 512) ⟨none, 0, 0⟩ h1))) ∧ (par (n < 0) (J 0 h) (J n h)) := by kernel_rfl
theorem F67.den (V : Value → List Value → PT) (n : Int) (l : Sl) : denF Tryd.prog [23] [(83, F83.V), (84, F84.V)] V [(3, .join [(0, .int .i64)] []), (31, .join [(5, .int .i64), (6, .sl)] []), (1000, .loop [(5, .int .i64), (6, .sl)] []), (1018, .loop [(5, .int .i64), (6, .sl), (7, .int .i64), (8, .bool)] []), (32585, .join [(9, .int .i64)] [])] Tryd.f67 [.v (.int .i64 n), .v (.slice l.a l.n l.c)] = F67.T n l := F67.gen V F83.T F84.T n l
def F67.W (T67 : Int → Sl → PT) (args : List Value) : PT := match args with
  | [.int .i64 n, .slice l_a l_n l_c] => T67 n ⟨l_a, l_n, l_c⟩
  | _ => fun _ _ => False
def F67.V : List Value → PT := F67.W F67.T
theorem F67.ok : FOk Tryd.prog 67 F67.V := by
  refine ⟨⟨_, Tryd.func67, rfl, rfl⟩, fun args => ?_⟩
  have hG : GOk Tryd.prog [(83, F83.V), (84, F84.V)] := GOk.cons F83.ok (GOk.cons F84.ok (GOk.nil))
  have hV : VOk Tryd.prog noV := noV_ok
  unfold F67.V F67.W
  split
  · exact denF_okV hG hV Tryd.func67 (fun h Q hq => (F67.den _ _ _) ▸ hq)
  · exact fun h Q hq => hq.elim
def F24.T (n : Int) (l : Sl) : PT := fun h Q =>
  ∃ J : Int → Hp → Prop, (∀ n1 : Int, ∀ h1 : Hp, J n1 h1 → ∃ (I : Sl → Int → Hp → Prop) (m : Sl → Int → Hp → Nat), I ⟨none, 0, 0⟩ 0 h1 ∧ (∀ l1 : Sl, ∀ n2 : Int, ∀ h2 : Hp, I l1 n2 h2 → par (n2 < (l.n : Int)) (∃ b o, (l.a : Option Addr) = some ⟨b, o, none⟩ ∧ ((0 : Int) ≤ n2 ∧ n2 < (l.n : Int)) ∧ ∃ n3 : Int, h2.at b (o + n2.toNat * 6) = some (.int .u64 n3) ∧ ∃ n4 : Int, h2.at b ((o + n2.toNat * 6) + 1) = some (.int .u64 n4) ∧ ∃ n5 : Int, h2.at b ((o + n2.toNat * 6) + 2) = some (.int .u64 n5) ∧ ∃ l2 : Sl, h2.at b ((o + n2.toNat * 6) + 3) = some (.slice l2.a l2.n l2.c) ∧ ∃ l3 : Sl, h2.at b ((o + n2.toNat * 6) + 4) = some (.slice l3.a l3.n l3.c) ∧ ∃ l4 : Sl, h2.at b ((o + n2.toNat * 6) + 5) = some (.slice l4.a l4.n l4.c) ∧ F22.T n3 n4 n5 l2 l3 l4 h2 fun r h3 => ∃ l5 : Sl, r = .slice l5.a l5.n l5.c ∧ ∃ (I1 : Sl → Int → Hp → Prop) (m1 : Sl → Int → Hp → Nat), I1 l1 0 h3 ∧ (∀ l6 : Sl, ∀ n6 : Int, ∀ h4 : Hp, I1 l6 n6 h4 → par (n6 < (l5.n : Int)) (∃ b1 o1, (l5.a : Option Addr) = some ⟨b1, o1, none⟩ ∧ ((0 : Int) ≤ n6 ∧ n6 < (l5.n : Int)) ∧ ∃ l7 : Sl, h4.at b1 (o1 + n6.toNat) = some (.slice l7.a l7.n l7.c) ∧ F67.T (IntKind.wrap .i64 (n1 + (l6.n : Int))) l7 h4 fun r1 h5 => ∃ l8 : Sl, r1 = .slice l8.a l8.n l8.c ∧ ∃ vs, h5.row l8.a (l8.n * 1) vs ∧ (∀ v ∈ vs, Value.oneCell' v = true) ∧ appendD l6 5 1 1 [.int .u8 0] l8.n vs h5 fun l9 h6 => I1 l9 (IntKind.wrap .i64 (n6 + 1)) h6 ∧ m1 l9 (IntKind.wrap .i64 (n6 + 1)) h6 < m1 l6 n6 h4) (I l6 (IntKind.wrap .i64 (n2 + 1)) h4 ∧ m l6 (IntKind.wrap .i64 (n2 + 1)) h4 < m l1 n2 h2))) (Q (.slice l1.a l1.n l1.c) h2))) ∧ (par (n < 0) (J 0 h) (J n h))
theorem F24.gen (V : Value → List Value → PT) (T22 : Int → Int → Int → Sl → Sl → Sl → PT) (T67 : Int → Sl → PT) (n : Int) (l : Sl) : denF Tryd.prog [] [(22, F22.W T22), (67, F67.W T67)] V [(3, .join [(0, .int .i64)] []), (122, .loop [(5, .sl), (6, .int .i64)] []), (15654, .loop [(5, .sl), (8, .int .i64)] [])] Tryd.f24 [.v (.int .i64 n), .v (.slice l.a l.n l.c)] = fun h Q =>
  ∃ J : Int → Hp → Prop, (∀ n1 : Int, ∀ h1 : Hp, J n1 h1 → ∃ (I : Sl → Int → Hp → Prop) (m : Sl → Int → Hp → Nat), I ⟨none, 0, 0⟩ 0 h1 ∧ (∀ l1 : Sl, ∀ n2 : Int, ∀ h2 : Hp, I l1 n2 h2 → par (n2 < (l.n : Int)) (∃ b o, (l.a : Option Addr) = some ⟨b, o, none⟩ ∧ ((0 : Int) ≤ n2 ∧ n2 < (l.n : Int)) ∧ ∃ n3 : Int, h2.at b (o + n2.toNat * 6) = some (.int .u64 n3) ∧ ∃ n4 : Int, h2.at b ((o + n2.toNat * 6) + 1) = some (.int .u64 n4) ∧ ∃ n5 : Int, h2.at b ((o + n2.toNat * 6) + 2) = some (.int .u64 n5) ∧ ∃ l2 : Sl, h2.at b ((o + n2.toNat * 6) + 3) = some (.slice l2.a l2.n l2.c) ∧ ∃ l3 : Sl, h2.at b ((o + n2.toNat * 6) + 4) = some (.slice l3.a l3.n l3.c) ∧ ∃ l4 : Sl, h2.at b ((o + n2.toNat * 6) + 5) = some (.slice l4.a l4.n l4.c) ∧ T22 n3 n4 n5 l2 l3 l4 h2 fun r h3 => ∃ l5 : Sl, r = .slice l5.a l5.n l5.c ∧ ∃ (I1 : Sl → Int → Hp → Prop) (m1 : Sl → Int → Hp → Nat), I1 l1 0 h3 ∧ (∀ l6 : Sl, ∀ n6 : Int, ∀ h4 : Hp, I1 l6 n6 h4 → par (n6 < (l5.n : Int)) (∃ b1 o1, (l5.a : Option Addr) = some ⟨b1, o1, none⟩ ∧ ((0 : Int) ≤ n6 ∧ n6 < (l5.n : Int)) ∧ ∃ l7 : Sl, h4.at b1 (o1 + n6.toNat) = some (.slice l7.a l7.n l7.c) ∧ T67 (IntKind.wrap .i64 (n1 + (l6.n : Int))) l7 h4 fun r1 h5 => ∃ l8 : Sl, r1 = .slice l8.a l8.n l8.c ∧ ∃ vs, h5.row l8.a (l8.n * 1) vs ∧ (∀ v ∈ vs, Value.oneCell' v = true) ∧ appendD l6 5 1 1 [.int .u8 0] l8.n vs h5 fun l9 h6 => I1 l9 (IntKind.wrap .i64 (n6 + 1)) h6 ∧ m1 l9 (IntKind.wrap .i64 (n6 + 1)) h6 < m1 l6 n6 h4) (I l6 (IntKind.wrap .i64 (n2 + 1)) h4 ∧ m l6 (IntKind.wrap .i64 (n2 + 1)) h4 < m l1 n2 h2))) (Q (.slice l1.a l1.n l1.c) h2))) ∧ (par (n < 0) (J 0 h) (J n h)) := by kernel_rfl
theorem F24.den (V : Value → List Value → PT) (n : Int) (l : Sl) : denF Tryd.prog [] [(22, F22.V), (67, F67.V)] V [(3, .join [(0, .int .i64)] []), (122, .loop [(5, .sl), (6, .int .i64)] []), (15654, .loop [(5, .sl), (8, .int .i64)] [])] Tryd.f24 [.v (.int .i64 n), .v (.slice l.a l.n l.c)] = F24.T n l := F24.gen V F22.T F67.T n l
def F24.W (T24 : Int → Sl → PT) (args : List Value) : PT := match args with
  | [.int .i64 n, .slice l_a l_n l_c] => T24 n ⟨l_a, l_n, l_c⟩
  | _ => fun _ _ => False
def F24.V : List Value → PT := F24.W F24.T
theorem F24.ok : FOk Tryd.prog 24 F24.V := by
  refine ⟨⟨_, Tryd.func24, rfl, rfl⟩, fun args => ?_⟩
  have hG : GOk Tryd.prog [(22, F22.V), (67, F67.V)] := GOk.cons F22.ok (GOk.cons F67.ok (GOk.nil))
  have hV : VOk Tryd.prog noV := noV_ok
  unfold F24.V F24.W
  split
  · exact denF_okV hG hV Tryd.func24 (fun h Q hq => (F24.den _ _ _) ▸ hq)
  · exact fun h Q hq => hq.elim
def F4.T (l : Sl) (n : Int) : PT := fun h Q =>
  F17.T l h fun r h1 => ∃ b : Bool, r = .bool b ∧ parB b (par ((1099511627776 : Int) < n) (Q (.bool true) h1) (F18.T l h1 fun r1 h2 => ∃ l1 : Sl, r1 = .slice l1.a l1.n l1.c ∧ ∀ b1, h2 b1 = none → F19.T (some ⟨b1, 0, none⟩) l (h2.new b1 (.cells ⟨[.slice none 0 0, .slice none 0 0, .slice none 0 0, .slice none 0 0, .slice none 0 0, .slice none 0 0, .slice none 0 0, .slice none 0 0, .slice none 0 0, .slice none 0 0, .slice none 0 0, .slice none 0 0, .slice none 0 0, .slice none 0 0, .slice none 0 0, .slice none 0 0, .slice none 0 0, .slice none 0 0, .slice none 0 0, .slice none 0 0, .slice none 0 0, .slice none 0 0, .slice none 0 0, .slice none 0 0, .slice none 0 0, .slice none 0 0, .slice none 0 0, .slice none 0 0]⟩ 46 (0, 0))) fun r2 h3 => ∃ l2 : Sl, r2 = .slice l2.a l2.n l2.c ∧ ∃ (I : Int → Hp → Prop) (m : Int → Hp → Nat), I 0 h3 ∧ (∀ n1 : Int, ∀ h4 : Hp, I n1 h4 → par (n1 < 2) (∃ (I1 : Int → Hp → Prop) (m1 : Int → Hp → Nat), I1 0 h4 ∧ (∀ n2 : Int, ∀ h5 : Hp, I1 n2 h5 → par (n2 < (l2.n : Int)) (∃ b2 o, (l2.a : Option Addr) = some ⟨b2, o, none⟩ ∧ ((0 : Int) ≤ n2 ∧ n2 < (l2.n : Int)) ∧ ∃ n3 : Int, h5.at b2 (o + n2.toNat * 6) = some (.int .u64 n3) ∧ ∃ n4 : Int, h5.at b2 ((o + n2.toNat * 6) + 1) = some (.int .u64 n4) ∧ ∃ n5 : Int, h5.at b2 ((o + n2.toNat * 6) + 2) = some (.int .u64 n5) ∧ ∃ l3 : Sl, h5.at b2 ((o + n2.toNat * 6) + 3) = some (.slice l3.a l3.n l3.c) ∧ ∃ l4 : Sl, h5.at b2 ((o + n2.toNat * 6) + 4) = some (.slice l4.a l4.n l4.c) ∧ ∃ l5 : Sl, h5.at b2 ((o + n2.toNat * 6) + 5) = some (.slice l5.a l5.n l5.c) ∧ ∃ b3 o1, (l1.a : Option Addr) = some ⟨b3, o1, none⟩ ∧ ((0 : Int) ≤ n2 ∧ n2 < (l1.n : Int)) ∧ ∃ n6 : Int, h5.at b3 (o1 + n2.toNat * 6) = some (.int .u64 n6) ∧ ∃ n7 : Int, h5.at b3 ((o1 + n2.toNat * 6) + 1) = some (.int .u64 n7) ∧ ∃ n8 : Int, h5.at b3 ((o1 + n2.toNat * 6) + 2) = some (.int .u64 n8) ∧ ∃ l6 : Sl, h5.at b3 ((o1 + n2.toNat * 6) + 3) = some (.slice l6.a l6.n l6.c) ∧ ∃ l7 : Sl, h5.at b3 ((o1 + n2.toNat * 6) + 4) = some (.slice l7.a l7.n l7.c) ∧ ∃ l8 : Sl, h5.at b3 ((o1 + n2.toNat * 6) + 5) = some (.slice l8.a l8.n l8.c) ∧ F21.T n3 n4 n5 l3 l4 l5 h5 fun r3 h6 => ∃ l9 : Sl, r3 = .slice l9.a l9.n l9.c ∧ h6.at b3 (o1 + n2.toNat * 6) = some (.int .u64 n6) ∧ h6.at b3 ((o1 + n2.toNat * 6) + 1) = some (.int .u64 n7) ∧ h6.at b3 ((o1 + n2.toNat * 6) + 2) = some (.int .u64 n8) ∧ h6.at b3 ((o1 + n2.toNat * 6) + 3) = some (.slice l6.a l6.n l6.c) ∧ h6.at b3 ((o1 + n2.toNat * 6) + 4) = some (.slice l7.a l7.n l7.c) ∧ h6.at b3 ((o1 + n2.toNat * 6) + 5) = some (.slice l8.a l8.n l8.c) ∧ F22.T n6 n7 n8 l6 l7 l8 h6 fun r4 h7 => ∃ l10 : Sl, r4 = .slice l10.a l10.n l10.c ∧ F20.T l9 l10 h7 fun r5 h8 => ∃ b4 : Bool, r5 = .bool b4 ∧ parB b4 (I1 (IntKind.wrap .i64 (n2 + 1)) h8 ∧ m1 (IntKind.wrap .i64 (n2 + 1)) h8 < m1 n2 h5) (Q (.bool false) h8)) (F23.T n l2 h5 fun r6 h9 => ∃ l11 : Sl, r6 = .slice l11.a l11.n l11.c ∧ F24.T n l1 h9 fun r7 h10 => ∃ l12 : Sl, r7 = .slice l12.a l12.n l12.c ∧ F10.T l11 l12 h10 fun r8 h11 => ∃ b5 : Bool, r8 = .bool b5 ∧ parB b5 (I (IntKind.wrap .i64 (n1 + 1)) h11 ∧ m (IntKind.wrap .i64 (n1 + 1)) h11 < m n1 h4) (Q (.bool false) h11)))) (F25.T l2 l1 h4 fun r9 h12 => ∃ b6 : Bool, r9 = .bool b6 ∧ parB b6 (F16.T (some ⟨b1, 0, none⟩) h12 fun r10 h13 => ∃ b7 : Bool, r10 = .bool b7 ∧ parB b7 (F26.T l2 h13 fun r11 h14 => ∃ (I2 : Int → Hp → Prop) (m2 : Int → Hp → Nat), I2 0 h14 ∧ (∀ n9 : Int, ∀ h15 : Hp, I2 n9 h15 → par (n9 < (l2.n : Int)) (∃ b8 o2, (l2.a : Option Addr) = some ⟨b8, o2, none⟩ ∧ ((0 : Int) ≤ n9 ∧ n9 < (l2.n : Int)) ∧ ∃ n10 : Int, h15.at b8 (o2 + n9.toNat * 6) = some (.int .u64 n10) ∧ ∃ n11 : Int, h15.at b8 ((o2 + n9.toNat * 6) + 1) = some (.int .u64 n11) ∧ ∃ n12 : Int, h15.at b8 ((o2 + n9.toNat * 6) + 2) = some (.int .u64 n12) ∧ ∃ l13 : Sl, h15.at b8 ((o2 + n9.toNat * 6) + 3) = some (.slice l13.a l13.n l13.c) ∧ ∃ l14 : Sl, h15.at b8 ((o2 + n9.toNat * 6) + 4) = some (.slice l14.a l14.n l14.c) ∧ ∃ l15 : Sl, h15.at b8 ((o2 + n9.toNat * 6) + 5) = some (.slice l15.a l15.n l15.c) ∧ F21.T n10 n11 n12 l13 l14 l15 h15 fun r12 h16 => ∃ l16 : Sl, r12 = .slice l16.a l16.n l16.c ∧ F18.T l2 h16 fun r13 h17 => ∃ l17 : Sl, r13 = .slice l17.a l17.n l17.c ∧ ∃ b9 o3, (l17.a : Option Addr) = some ⟨b9, o3, none⟩ ∧ ((0 : Int) ≤ n9 ∧ n9 < (l17.n : Int)) ∧ ∃ n13 : Int, h17.at b9 (o3 + n9.toNat * 6) = some (.int .u64 n13) ∧ ∃ n14 : Int, h17.at b9 ((o3 + n9.toNat * 6) + 1) = some (.int .u64 n14) ∧ ∃ n15 : Int, h17.at b9 ((o3 + n9.toNat * 6) + 2) = some (.int .u64 n15) ∧ ∃ l18 : Sl, h17.at b9 ((o3 + n9.toNat * 6) + 3) = some (.slice l18.a l18.n l18.c) ∧ ∃ l19 : Sl, h17.at b9 ((o3 + n9.toNat * 6) + 4) = some (.slice l19.a l19.n l19.c) ∧ ∃ l20 : Sl, h17.at b9 ((o3 + n9.toNat * 6) + 5) = some (.slice l20.a l20.n l20.c) ∧ F22.T n13 n14 n15 l18 l19 l20 h17 fun r14 h18 => ∃ l21 : Sl, r14 = .slice l21.a l21.n l21.c ∧ F20.T l16 l21 h18 fun r15 h19 => ∃ b10 : Bool, r15 = .bool b10 ∧ parB b10 (I2 (IntKind.wrap .i64 (n9 + 1)) h19 ∧ m2 (IntKind.wrap .i64 (n9 + 1)) h19 < m2 n9 h15) (Q (.bool false) h19)) (F23.T n l2 h15 fun r16 h20 => ∃ l22 : Sl, r16 = .slice l22.a l22.n l22.c ∧ F18.T l2 h20 fun r17 h21 => ∃ l23 : Sl, r17 = .slice l23.a l23.n l23.c ∧ F24.T n l23 h21 fun r18 h22 => ∃ l24 : Sl, r18 = .slice l24.a l24.n l24.c ∧ F10.T l22 l24 h22 fun r19 h23 => ∃ b11 : Bool, r19 = .bool b11 ∧ parB b11 (F16.T (some ⟨b1, 0, none⟩) h23 fun r20 h24 => ∃ b12 : Bool, r20 = .bool b12 ∧ parB b12 (Q (.bool true) h24) (Q (.bool false) h24)) (Q (.bool false) h23)))) (Q (.bool false) h13)) (Q (.bool false) h12))))) (Q (.bool true) h1)
theorem F4.gen (V : Value → List Value → PT) (T10 : Sl → Sl → PT) (T16 : Option Addr → PT) (T17 : Sl → PT) (T18 : Sl → PT) (T19 : Option Addr → Sl → PT) (T20 : Sl → Sl → PT) (T21 : Int → Int → Int → Sl → Sl → Sl → PT) (T22 : Int → Int → Int → Sl → Sl → Sl → PT) (T23 : Int → Sl → PT) (T24 : Int → Sl → PT) (T25 : Sl → Sl → PT) (T26 : Sl → PT) (l : Sl) (n : Int) : denF Tryd.prog [] [(10, F10.W T10), (16, F16.W T16), (17, F17.W T17), (18, F18.W T18), (19, F19.W T19), (20, F20.W T20), (21, F21.W T21), (22, F22.W T22), (23, F23.W T23), (24, F24.W T24), (25, F25.W T25), (26, F26.W T26)] V [(506, .loop [(8, .int .i64)] []), (4090, .loop [(10, .int .i64)] []), (64802, .loop [(9, .int .i64)] []), (2073672, .order [0, 1, 2, 3, 5, 6, 7, 8, 4, 9, 10, 11])] Tryd.f4 [.v (.slice l.a l.n l.c), .v (.int .i64 n)] = fun h Q =>
  T17 l h fun r h1 => ∃ b : Bool, r = .bool b ∧ parB b (par ((1099511627776 : Int) < n) (Q (.bool true) h1) (T18 l h1 fun r1 h2 => ∃ l1 : Sl, r1 = .slice l1.a l1.n l1.c ∧ ∀ b1, h2 b1 = none → T19 (some ⟨b1, 0, none⟩) l (h2.new b1 (.cells ⟨[.slice none 0 0, .slice none 0 0, .slice none 0 0, .slice none 0 0, .slice none 0 0, .slice none 0 0, .slice none 0 0, .slice none 0 0, .slice none 0 0, .slice none 0 0, .slice none 0 0, .slice none 0 0, .slice none 0 0, .slice none 0 0, .slice none 0 0, .slice none 0 0, .slice none 0 0, .slice none 0 0, .slice none 0 0, .slice none 0 0, .slice none 0 0, .slice none 0 0, .slice none 0 0, .slice none 0 0, .slice none 0 0, .slice none 0 0, .slice none 0 0, .slice none 0 0]⟩ 46 (0, 0))) fun r2 h3 => ∃ l2 : Sl, r2 = .slice l2.a l2.n l2.c ∧ ∃ (I : Int → Hp → Prop) (m : Int → Hp → Nat), I 0 h3 ∧ (∀ n1 : Int, ∀ h4 : Hp, I n1 h4 → par (n1 < 2) (∃ (I1 : Int → Hp → Prop) (m1 : Int → Hp → Nat), I1 0 h4 ∧ (∀ n2 : Int, ∀ h5 : Hp, I1 n2 h5 → par (n2 < (l2.n : Int)) (∃ b2 o, (l2.a : Option Addr) = some ⟨b2, o, none⟩ ∧ ((0 : Int) ≤ n2 ∧ n2 < (l2.n : Int)) ∧ ∃ n3 : Int, h5.at b2 (o + n2.toNat * 6) = some (.int .u64 n3) ∧ ∃ n4 : Int, h5.at b2 ((o + n2.toNat * 6) + 1) = some (.int .u64 n4) ∧ ∃ n5 : Int, h5.at b2 ((o + n2.toNat * 6) + 2) = some (.int .u64 n5) ∧ ∃ l3 : Sl, h5.at b2 ((o + n2.toNat * 6) + 3) = some (.slice l3.a l3.n l3.c) ∧ ∃ l4 : Sl, h5.at b2 ((o + n2.toNat * 6) + 4) = some (.slice l4.a l4.n l4.c) ∧ ∃ l5 : Sl, h5.at b2 ((o + n2.toNat * 6) + 5) = some (.slice l5.a l5.n l5.c) ∧ ∃ b3 o1, (l1.a : Option Addr) = some ⟨b3, o1, none⟩ ∧ ((0 : Int) ≤ n2 ∧ n2 < (l1.n : Int)) ∧ ∃ n6 : Int, h5.at b3 (o1 + n2.toNat * 6) = some (.int .u64 n6) ∧ ∃ n7 : Int, h5.at b3 ((o1 + n2.toNat * 6) + 1) = some (.int .u64 n7) ∧ ∃ n8 : Int, h5.at b3 ((o1 + n2.toNat * 6) + 2) = some (.int .u64 n8) ∧ ∃ l6 : Sl, h5.at b3 ((o1 + n2.toNat * 6) + 3) = some (.slice l6.a l6.n l6.c) ∧ ∃ l7 : Sl, h5.at b3 ((o1 + n2.toNat * 6) + 4) = some (.slice l7.a l7.n l7.c) ∧ ∃ l8 : Sl, h5.at b3 ((o1 + n2.toNat * 6) + 5) = some (.slice l8.a l8.n l8.c) ∧ T21 n3 n4 n5 l3 l4 l5 h5 fun r3 h6 => ∃ l9 : Sl, r3 = .slice l9.a l9.n l9.c ∧ h6.at b3 (o1 + n2.toNat * 6) = some (.int .u64 n6) ∧ h6.at b3 ((o1 + n2.toNat * 6) + 1) = some (.int .u64 n7) ∧ h6.at b3 ((o1 + n2.toNat * 6) + 2) = some (.int .u64 n8) ∧ h6.at b3 ((o1 + n2.toNat * 6) + 3) = some (.slice l6.a l6.n l6.c) ∧ h6.at b3 ((o1 + n2.toNat * 6) + 4) = some (.slice l7.a l7.n l7.c) ∧ h6.at b3 ((o1 + n2.toNat * 6) + 5) = some (.slice l8.a l8.n l8.c) ∧ T22 n6 n7 n8 l6 l7 l8 h6 fun r4 h7 => ∃ l10 : Sl, r4 = .slice l10.a l10.n l10.c ∧ T20 l9 l10 h7 fun r5 h8 => ∃ b4 : Bool, r5 = .bool b4 ∧ parB b4 (I1 (IntKind.wrap .i64 (n2 + 1)) h8 ∧ m1 (IntKind.wrap .i64 (n2 + 1)) h8 < m1 n2 h5) (Q (.bool false) h8)) (T23 n l2 h5 fun r6 h9 => ∃ l11 : Sl, r6 = .slice l11.a l11.n l11.c ∧ T24 n l1 h9 fun r7 h10 => ∃ l12 : Sl, r7 = .slice l12.a l12.n l12.c ∧ T10 l11 l12 h10 fun r8 h11 => ∃ b5 : Bool, r8 = .bool b5 ∧ parB b5 (I (IntKind.wrap .i64 (n1 + 1)) h11 ∧ m (IntKind.wrap .i64 (n1 + 1)) h11 < m n1 h4) (Q (.bool false) h11)))) (T25 l2 l1 h4 fun r9 h12 => ∃ b6 : Bool, r9 = .bool b6 ∧ parB b6 (T16 (some ⟨b1, 0, none⟩) h12 fun r10 h13 => ∃ b7 : Bool, r10 = .bool b7 ∧ parB b7 (T26 l2 h13 fun r11 h14 => ∃ (I2 : Int → Hp → Prop) (m2 : Int → Hp → Nat), I2 0 h14 ∧ (∀ n9 : Int, ∀ h15 : Hp, I2 n9 h15 → par (n9 < (l2.n : Int)) (∃ b8 o2, (l2.a : Option Addr) = some ⟨b8, o2, none⟩ ∧ ((0 : Int) ≤ n9 ∧ n9 < (l2.n : Int)) ∧ ∃ n10 : Int, h15.at b8 (o2 + n9.toNat * 6) = some (.int .u64 n10) ∧ ∃ n11 : Int, h15.at b8 ((o2 + n9.toNat * 6) + 1) = some (.int .u64 n11) ∧ ∃ n12 : Int, h15.at b8 ((o2 + n9.toNat * 6) + 2) = some (.int .u64 n12) ∧ ∃ l13 : Sl, h15.at b8 ((o2 + n9.toNat * 6) + 3) = some (.slice l13.a l13.n l13.c) ∧ ∃ l14 : Sl, h15.at b8 ((o2 + n9.toNat * 6) + 4) = some (.slice l14.a l14.n l14.c) ∧ ∃ l15 : Sl, h15.at b8 ((o2 + n9.toNat * 6) + 5) = some (.slice l15.a l15.n l15.c) ∧ T21 n10 n11 n12 l13 l14 l15 h15 fun r12 h16 => ∃ l16 : Sl, r12 = .slice l16.a l16.n l16.c ∧ T18 l2 h16 fun r13 h17 => ∃ l17 : Sl, r13 = .slice l17.a l17.n l17.c ∧ ∃ b9 o3, (l17.a : Option Addr) = some ⟨b9, o3, none⟩ ∧ ((0 : Int) ≤ n9 ∧ n9 < (l17.n : Int)) ∧ ∃ n13 : Int, h17.at b9 (o3 + n9.toNat * 6) = some (.int .u64 n13) ∧ ∃ n14 : Int, h17.at b9 ((o3 + n9.toNat * 6) + 1) = some (.int .u64 n14) ∧ ∃ n15 : Int, h17.at b9 ((o3 + n9.toNat * 6) + 2) = some (.int .u64 n15) ∧ ∃ l18 : Sl, h17.at b9 ((o3 + n9.toNat * 6) + 3) = some (.slice l18.a l18.n l18.c) ∧ ∃ l19 : Sl, h17.at b9 ((o3 + n9.toNat * 6) + 4) = some (.slice l19.a l19.n l19.c) ∧ ∃ l20 : Sl, h17.at b9 ((o3 + n9.toNat * 6) + 5) = some (.slice l20.a l20.n l20.c) ∧ T22 n13 n14 n15 l18 l19 l20 h17 fun r14 h18 => ∃ l21 : Sl, r14 = .slice l21.a l21.n l21.c ∧ T20 l16 l21 h18 fun r15 h19 => ∃ b10 : Bool, r15 = .bool b10 ∧ parB b10 (I2 (IntKind.wrap .i64 (n9 + 1)) h19 ∧ m2 (IntKind.wrap .i64 (n9 + 1)) h19 < m2 n9 h15) (Q (.bool false) h19)) (T23 n l2 h15 fun r16 h20 => ∃ l22 : Sl, r16 = .slice l22.a l22.n l22.c ∧ T18 l2 h20 fun r17 h21 => ∃ l23 : Sl, r17 = .slice l23.a l23.n l23.c ∧ T24 n l23 h21 fun r18 h22 => ∃ l24 : Sl, r18 = .slice l24.a l24.n l24.c ∧ T10 l22 l24 h22 fun r19 h23 => ∃ b11 : Bool, r19 = .bool b11 ∧ parB b11 (T16 (some ⟨b1, 0, none⟩) h23 fun r20 h24 => ∃ b12 : Bool, r20 = .bool b12 ∧ parB b12 (Q (.bool true) h24) (Q (.bool false) h24)) (Q (.bool false) h23)))) (Q (.bool false) h13)) (Q (.bool false) h12))))) (Q (.bool true) h1) := by kernel_rfl
theorem F4.den (V : Value → List Value → PT) (l : Sl) (n : Int) : denF Tryd.prog [] [(10, F10.V), (16, F16.V), (17, F17.V), (18, F18.V), (19, F19.V), (20, F20.V), (21, F21.V), (22, F22.V), (23, F23.V), (24, F24.V), (25, F25.V), (26, F26.V)] V [(506, .loop [(8, .int .i64)] []), (4090, .loop [(10, .int .i64)] []), (64802, .loop [(9, .int .i64)] []), (2073672, .order [0, 1, 2, 3, 5, 6, 7, 8, 4, 9, 10, 11])] Tryd.f4 [.v (.slice l.a l.n l.c), .v (.int .i64 n)] = F4.T l n := F4.gen V F10.T F16.T F17.T F18.T F19.T F20.T F21.T F22.T F23.T F24.T F25.T F26.T l n
def F4.W (T4 : Sl → Int → PT) (args : List Value) : PT := match args with
  | [.slice l_a l_n l_c, .int .i64 n] => T4 ⟨l_a, l_n, l_c⟩ n
  | _ => fun _ _ => False
def F4.V : List Value → PT := F4.W F4.T
theorem F4.ok : FOk Tryd.prog 4 F4.V := by
  refine ⟨⟨_, Tryd.func4, rfl, rfl⟩, fun args => ?_⟩
  have hG : GOk Tryd.prog [(10, F10.V), (16, F16.V), (17, F17.V), (18, F18.V), (19, F19.V), (20, F20.V), (21, F21.V), (22, F22.V), (23, F23.V), (24, F24.V), (25, F25.V), (26, F26.V)] := GOk.cons F10.ok (GOk.cons F16.ok (GOk.cons F17.ok (GOk.cons F18.ok (GOk.cons F19.ok (GOk.cons F20.ok (GOk.cons F21.ok (GOk.cons F22.ok (GOk.cons F23.ok (GOk.cons F24.ok (GOk.cons F25.ok (GOk.cons F26.ok (GOk.nil))))))))))))
  have hV : VOk Tryd.prog noV := noV_ok
  unfold F4.V F4.W
  split
  · exact denF_okV hG hV Tryd.func4 (fun h Q hq => (F4.den _ _ _) ▸ hq)
  · exact fun h Q hq => hq.elim
def F29.T (n : Int) : PT := fun h Q =>
  ((0 : Int) ≤ (iMin (iMax n 1) 5) ∧ (iMin (iMax n 1) 5) ≤ (iMin (iMax n 1) 5) ∧ 24 * (iMin (iMax n 1) 5) ≤ 281474976710656) ∧ ((0 : Int) ≤ (iMin (iMax n 1) 5) ∧ (iMin (iMax n 1) 5) ≤ (iMin (iMax n 1) 5) ∧ 16 * (iMin (iMax n 1) 5) ≤ 281474976710656) ∧ ((0 : Int) ≤ (iMin (iMax n 1) 5) ∧ (iMin (iMax n 1) 5) ≤ (iMin (iMax n 1) 5) ∧ 24 * (iMin (iMax n 1) 5) ≤ 281474976710656) ∧ ∀ b, h b = none → ((0 : Int) ≤ (iMin (iMax n 1) 5) ∧ (iMin (iMax n 1) 5) ≤ (iMin (iMax n 1) 5) ∧ 16 * (iMin (iMax n 1) 5) ≤ 281474976710656) ∧ ((0 : Int) ≤ (iMin (iMax n 1) 5) ∧ (iMin (iMax n 1) 5) ≤ (iMin (iMax n 1) 5) ∧ 16 * (iMin (iMax n 1) 5) ≤ 281474976710656) ∧ ∀ b1, (h.new b (.cells (Builtin.zeroCells (List.toArray [.slice none 0 0]) ((iMin (iMax n 1) 5) : Int).toNat) 124 (0, 0))) b1 = none → ((0 : Int) ≤ (iMin (iMax n 1) 5) ∧ (iMin (iMax n 1) 5) ≤ (iMin (iMax n 1) 5) ∧ 16 * (iMin (iMax n 1) 5) ≤ 281474976710656) ∧ ∀ b2, ((h.new b (.cells (Builtin.zeroCells (List.toArray [.slice none 0 0]) ((iMin (iMax n 1) 5) : Int).toNat) 124 (0, 0))).new b1 (.cells ⟨[.slice (some ⟨b, 0, none⟩) ((iMin (iMax n 1) 5) : Int).toNat ((iMin (iMax n 1) 5) : Int).toNat]⟩ 113 (0, 0))) b2 = none → ((0 : Int) ≤ (iMin (iMax n 1) 5) ∧ (iMin (iMax n 1) 5) ≤ (iMin (iMax n 1) 5) ∧ 16 * (iMin (iMax n 1) 5) ≤ 281474976710656) ∧ ((0 : Int) ≤ (iMin (iMax n 1) 5) ∧ (iMin (iMax n 1) 5) ≤ (iMin (iMax n 1) 5) ∧ 16 * (iMin (iMax n 1) 5) ≤ 281474976710656) ∧ ∀ b3, (((h.new b (.cells (Builtin.zeroCells (List.toArray [.slice none 0 0]) ((iMin (iMax n 1) 5) : Int).toNat) 124 (0, 0))).new b1 (.cells ⟨[.slice (some ⟨b, 0, none⟩) ((iMin (iMax n 1) 5) : Int).toNat ((iMin (iMax n 1) 5) : Int).toNat]⟩ 113 (0, 0))).new b2 (.map #[] 0)) b3 = none → ∀ b4, ((((h.new b (.cells (Builtin.zeroCells (List.toArray [.slice none 0 0]) ((iMin (iMax n 1) 5) : Int).toNat) 124 (0, 0))).new b1 (.cells ⟨[.slice (some ⟨b, 0, none⟩) ((iMin (iMax n 1) 5) : Int).toNat ((iMin (iMax n 1) 5) : Int).toNat]⟩ 113 (0, 0))).new b2 (.map #[] 0)).new b3 (.cells (Builtin.zeroCells (List.toArray [.string (ByteArray.mk #[])]) ((iMin (iMax n 1) 5) : Int).toNat) 9 (0, 0))) b4 = none → ∀ b5, (((((h.new b (.cells (Builtin.zeroCells (List.toArray [.slice none 0 0]) ((iMin (iMax n 1) 5) : Int).toNat) 124 (0, 0))).new b1 (.cells ⟨[.slice (some ⟨b, 0, none⟩) ((iMin (iMax n 1) 5) : Int).toNat ((iMin (iMax n 1) 5) : Int).toNat]⟩ 113 (0, 0))).new b2 (.map #[] 0)).new b3 (.cells (Builtin.zeroCells (List.toArray [.string (ByteArray.mk #[])]) ((iMin (iMax n 1) 5) : Int).toNat) 9 (0, 0))).new b4 (.map #[] 0)) b5 = none → Q (.pointer (some ⟨b5, 0, none⟩)) ((((((h.new b (.cells (Builtin.zeroCells (List.toArray [.slice none 0 0]) ((iMin (iMax n 1) 5) : Int).toNat) 124 (0, 0))).new b1 (.cells ⟨[.slice (some ⟨b, 0, none⟩) ((iMin (iMax n 1) 5) : Int).toNat ((iMin (iMax n 1) 5) : Int).toNat]⟩ 113 (0, 0))).new b2 (.map #[] 0)).new b3 (.cells (Builtin.zeroCells (List.toArray [.string (ByteArray.mk #[])]) ((iMin (iMax n 1) 5) : Int).toNat) 9 (0, 0))).new b4 (.map #[] 0)).new b5 (.cells ⟨[.pointer (some ⟨b1, 0, none⟩), .map (some b2), .slice (some ⟨b3, 0, none⟩) ((iMin (iMax n 1) 5) : Int).toNat ((iMin (iMax n 1) 5) : Int).toNat, .map (some b4)]⟩ 117 (0, 0)))
theorem F29.den (V : Value → List Value → PT) (n : Int) : denF Tryd.prog [] [] V [(14, .orderL [0, 5, 1, 2, 3, 4, 6, 7, 8, 9, 10] [1, 4, 6, 7])] Tryd.f29 [.v (.int .i64 n)] = F29.T n := by kernel_rfl
def F29.W (T29 : Int → PT) (args : List Value) : PT := match args with
  | [.int .i64 n] => T29 n
  | _ => fun _ _ => False
def F29.V : List Value → PT := F29.W F29.T
theorem F29.ok : FOk Tryd.prog 29 F29.V := by
  refine ⟨⟨_, Tryd.func29, rfl, rfl⟩, fun args => ?_⟩
  have hG : GOk Tryd.prog [] := GOk.nil
  have hV : VOk Tryd.prog noV := noV_ok
  unfold F29.V F29.W
  split
  · exact denF_okV hG hV Tryd.func29 (fun h Q hq => (F29.den _ _) ▸ hq)
  · exact fun h Q hq => hq.elim
end Go.Eng.YtblghgacokoklaaDoor
end
section
/-
  SPECS OF THE WRITING, 1: the document's numbers, words and joins.
-/
set_option linter.unusedSimpArgs false
set_option linter.unusedVariables false
namespace Go.Eng.YtblghgacokoklaaDoor
theorem num_u {h : Hp} {n : Int} {Q : Value → Hp → Prop} (hn : okU n) (hQ : ∀ l' h', Buf h' l' 1 5 (bv (encU n.toNat)) → Keep h h' → (l'.a = none ∨ New h l') → Q (.slice l'.a l'.n l'.c) h') : F82.T n h Q := by
  obtain ⟨m, rfl⟩ : ∃ m : Nat, n = (m : Int) := ⟨n.toNat, by have := hn.1; omega⟩
  have := hn.2
  exact number_doc (by omega) fun l' h' B K N => hQ l' h' (by rw [Int.toNat_natCast]; exact B) K N
theorem num_i {h : Hp} {n : Int} {Q : Value → Hp → Prop} (h0 : 0 ≤ n) (h1 : n < 9223372036854775808) (hQ : ∀ l' h', Buf h' l' 1 5 (bv (encU n.toNat)) → Keep h h' → (l'.a = none ∨ New h l') → Q (.slice l'.a l'.n l'.c) h') : F98.T n h Q := by
  unfold F98.T
  rw [wrap_u64 h0 (by omega)]
  exact num_u ⟨h0, by omega⟩ fun l' h' B K N => ⟨l', rfl, hQ l' h' B K N⟩
theorem words_doc {h : Hp} {s : ByteArray} {Q : Value → Hp → Prop} (hs : s.size ≤ 1000000) (hQ : ∀ l' h', Buf h' l' 1 5 (bv (encT s)) → Keep h h' → (l'.a = none ∨ New h l') → Q (.slice l'.a l'.n l'.c) h') : F99.T s h Q := by
  unfold F99.T
  rw [wrap_u64 (by omega) (by omega)]
  have hl := bI_length s
  have hel := encU_len s.size
  refine num_u ⟨by omega, by omega⟩ fun l1 h1 B1 K1 N1 => ⟨l1, rfl, ?_⟩
  rw [Int.toNat_natCast] at B1
  refine ⟨fun l2 n h2 => ∃ i : Nat, n = (i : Int) ∧ i ≤ s.size ∧ Buf h2 l2 1 5 (bv (encU s.size ++ (bI s).take i)) ∧ Keep h h2 ∧ (l2.a = none ∨ New h l2), fun _ n _ => s.size - n.toNat, ⟨0, rfl, Nat.zero_le _, by simpa using B1, K1, N1⟩, ?_⟩
  rintro l2 n h2 ⟨i, rfl, hi, B2, K2, N2⟩
  have l2n : l2.n = (encU s.size).length + i := by have := B2.len; rw [bv_length, List.length_append, List.length_take] at this; omega
  refine ⟨fun hlt => ⟨⟨by omega, hlt⟩, ?_⟩, fun hge => ?_⟩
  · have hi1 : i < s.size := by omega
    refine append_buf B2 rfl rfl (by omega) fun l3 h3 B3 hn3 U3 => ?_
    rw [next_b hi1 (by omega)]
    refine ⟨⟨i + 1, rfl, hi1, ?_, (keep_grow K2 N2 U3).1, (keep_grow K2 N2 U3).2⟩, by dsimp only; omega⟩
    rw [bI_get s i hi1] at B3
    rw [List.take_succ_eq_append_getElem (by omega), ← List.append_assoc, bv_append]
    exact B3
  · have e : (bI s).take i = bI s := List.take_of_length_le (by omega)
    rw [e] at B2
    exact hQ l2 h2 B2 K2 N2
theorem Rows.nil (h : Hp) : Rows h [] [] := ⟨rfl, fun i hi => absurd hi (Nat.not_lt_zero i)⟩
theorem Rows.cons {h : Hp} {s : Sl} {x : List Int} {ss : List Sl} {xs : List (List Int)} (hr : h.row s.a s.n (bv x)) (R : Rows h ss xs) : Rows h (s :: ss) (x :: xs) := by
  refine ⟨by simp [R.1], fun i hi hj => ?_⟩
  cases i with
  | zero => exact hr
  | succ i => exact R.2 i (by simpa using hi) (by simpa using hj)
theorem buf_bytes {h : Hp} {s : Sl} {x : List Int} (B : Buf h s 1 5 (bv x)) : h.row s.a s.n (bv x) := by have := B.row; rw [Nat.mul_one] at this; exact this
theorem join_doc {h : Hp} {l : Sl} {ss : List Sl} {xs : List (List Int)} {Q : Value → Hp → Prop} (hl : h.row l.a l.n (slV ss)) (R : Rows h ss xs) (hs : xs.flatten.length ≤ 1000000000000) (hn : xs.length ≤ 1000000)
    (hQ : ∀ l' h', Buf h' l' 1 5 (bv xs.flatten) → Keep h h' → (l'.a = none ∨ New h l') → Q (.slice l'.a l'.n l'.c) h') : F97.T l h Q := by
  have hln : l.n = xs.length := by have := hl.1; rw [slV_length] at this; have := R.1; omega
  refine ⟨fun l1 n h1 => ∃ i : Nat, n = (i : Int) ∧ i ≤ xs.length ∧ Buf h1 l1 1 5 (bv (xs.take i).flatten) ∧ Keep h h1 ∧ (l1.a = none ∨ New h l1), fun _ n _ => xs.length - n.toNat, ⟨0, rfl, Nat.zero_le _, by simpa [bv] using Buf.nil h 1 5, Keep.refl _, .inl rfl⟩, ?_⟩
  rintro l1 n h1 ⟨i, rfl, hi, B1, K1, N1⟩
  refine ⟨fun hlt => ?_, fun hge => ?_⟩
  · have hi1 : i < xs.length := by omega
    have hi2 : i < ss.length := by have := R.1; omega
    obtain ⟨b, o, ha, hat⟩ := row_get (K1.row hl) (i := i) (by omega)
    have hr := K1.row (R.2 i hi2 hi1)
    have hxl : ss[i].n = xs[i].length := by have := hr.1; rw [bv_length] at this; exact this.symm
    have l1n : l1.n = (xs.take i).flatten.length := by have := B1.len; rw [bv_length] at this; omega
    have htk : (xs.take (i + 1)).flatten = (xs.take i).flatten ++ xs[i] := by rw [List.take_succ_eq_append_getElem hi1, List.flatten_append]; simp
    have hle : (xs.take (i + 1)).flatten.length ≤ xs.flatten.length := by
      have : xs.flatten = (xs.take (i + 1)).flatten ++ (xs.drop (i + 1)).flatten := by rw [← List.flatten_append, List.take_append_drop]
      rw [this, List.length_append]; omega
    rw [htk, List.length_append] at hle
    refine ⟨b, o, ha, ⟨by omega, hlt⟩, ss[i], by rw [Int.toNat_natCast, hat i (by omega)]; simp [slV, hi2], bv xs[i], by rw [Nat.mul_one]; exact hr, bv_one _, ?_⟩
    refine append_buf B1 rfl (by rw [bv_length, hxl]; omega) (by omega) fun l3 h3 B3 hn3 U3 => ?_
    rw [next_b hi1 (by omega)]
    refine ⟨⟨i + 1, rfl, hi1, ?_, (keep_grow K1 N1 U3).1, (keep_grow K1 N1 U3).2⟩, by dsimp only; omega⟩
    rw [htk, bv_append]
    exact B3
  · have e : xs.take i = xs := List.take_of_length_le (by omega)
    rw [e] at B1
    exact hQ l1 h1 B1 K1 N1
/-- A list that is made for it. -/
theorem join_lit {h : Hp} {b k : Nat} {ss : List Sl} {xs : List (List Int)} {Q : Value → Hp → Prop} (hb : h b = none) (hk : ss.length = k) (R : Rows h ss xs) (hs : xs.flatten.length ≤ 1000000000000) (hn : xs.length ≤ 1000000)
    (hQ : ∀ l' h', Buf h' l' 1 5 (bv xs.flatten) → Keep h h' → (l'.a = none ∨ New h l') → Q (.slice l'.a l'.n l'.c) h') : F97.T ⟨some ⟨b, 0, none⟩, k, k⟩ (h.new b (.cells ⟨slV ss⟩ 23 (0, 0))) Q := by
  have k0 := Keep.new hb (.cells ⟨slV ss⟩ 23 (0, 0))
  refine join_doc (row_new h b 23 (slV ss) k (by rw [slV_length]; exact hk)) (R.keep k0) hs hn fun l' h' B K N => hQ l' h' B (k0.trans K) ?_
  rcases N with h0 | ⟨b1, e, hn1⟩
  · exact .inl h0
  · exact .inr ⟨b1, e, k0.dom _ hn1⟩
end Go.Eng.YtblghgacokoklaaDoor
end
section
/-
  SPECS OF THE WRITING, 2: the document's record.
-/
set_option linter.unusedSimpArgs false
set_option linter.unusedVariables false
set_option maxRecDepth 100000
namespace Go.Eng.YtblghgacokoklaaDoor
theorem placed_len {p : Placed} (hp : p.ok) : p.enc.length ≤ 200 := by
  have h1 := encUs_length [p.lv, p.num, p.weight, p.bytes, p.entries]
  have h2 := encT_length hp.least
  have h3 := encT_length hp.greatest
  unfold Placed.enc
  simp only [List.length_append, List.length_cons, List.length_nil] at h1 ⊢
  omega
theorem record_df {h : Hp} {e : Edit} {l l1 l2 l3 l4 l5 : Sl} {Q : Value → Hp → Prop} (E : EdAt h e l3 l4 l5) (S : e.small) (hQ : ∀ l' h', Buf h' l' 1 5 (bv (recB e false)) → Keep h h' → (l'.a = none ∨ New h l') → Q (.slice l'.a l'.n l'.c) h') : F65.Tf e.log e.next e.seq l l1 l2 l3 l4 l5 h Q := by
  have n3 := E.nout
  have n4 := E.ninn
  have n5 : l5.n = e.ptr.length := by have := E.ptr.1; simpa [ptrV] using this.symm
  have s1 := S.nout
  have s2 := S.ninn
  have s3 := S.nptr
  refine num_u S.log fun a1 h1 B1 K1 N1 => ⟨a1, rfl, num_u S.next fun a2 h2 B2 K2 N2 => ⟨a2, rfl, num_u S.seq fun a3 h3 B3 K3 N3 => ⟨a3, rfl, num_i (by omega) (by omega) fun a4 h4 B4 K4 N4 => ⟨a4, rfl, fun b hb b1 hb1 => ?_⟩⟩⟩⟩
  have Kb := Keep.new hb (.cells ⟨[.int .u8 0]⟩ 5 (0, 0))
  have K14 := ((K1.trans K2).trans K3).trans K4
  have hl1 := encU_len e.log.toNat
  have hl2 := encU_len e.next.toNat
  have hl3 := encU_len e.seq.toNat
  have hl4 := encU_len (l3.n : Int).toNat
  refine join_lit (ss := [⟨some ⟨b, 0, none⟩, 1, 1⟩, a1, a2, a3, a4]) (xs := [[0], encU e.log.toNat, encU e.next.toNat, encU e.seq.toNat, encU (l3.n : Int).toNat]) hb1 rfl
    (Rows.cons (row_new h4 b 5 (bv [0]) 1 rfl) (Rows.cons ((((K2.trans K3).trans K4).trans Kb).row (buf_bytes B1)) (Rows.cons (((K3.trans K4).trans Kb).row (buf_bytes B2)) (Rows.cons ((K4.trans Kb).row (buf_bytes B3)) (Rows.cons (Kb.row (buf_bytes B4)) (Rows.nil _)))))) (by simp only [List.flatten_cons, List.flatten_nil, List.length_append, List.length_cons, List.length_nil]; omega) (by simp only [List.length_cons, List.length_nil]; omega) fun l10 h5 B5 K5 N5 => ⟨l10, rfl, ?_⟩
  have Kall : Keep h h5 := (K14.trans Kb).trans K5
  have N5 := new_mono (K14.trans Kb) N5
  have ehd : [[0], encU e.log.toNat, encU e.next.toNat, encU e.seq.toNat, encU (l3.n : Int).toNat].flatten = 0 :: encUs [e.log, e.next, e.seq, (e.out.length : Int)] := by
    rw [n3]; simp [encUs]
  rw [ehd] at B5
  have hhd : (0 :: encUs [e.log, e.next, e.seq, (e.out.length : Int)]).length ≤ 41 := by have := encUs_length [e.log, e.next, e.seq, (e.out.length : Int)]; simp only [List.length_cons, List.length_nil] at this ⊢; omega
  generalize hgen : 0 :: encUs [e.log, e.next, e.seq, (e.out.length : Int)] = hd at B5 hhd
  refine ⟨fun l11 n h6 => ∃ k : Nat, n = (k : Int) ∧ k ≤ e.out.length ∧ Buf h6 l11 1 5 (bv (hd ++ (e.out.take k).flatMap Place.enc)) ∧ Keep h h6 ∧ (l11.a = none ∨ New h l11), fun _ n _ => e.out.length - n.toNat, ⟨0, rfl, Nat.zero_le _, by simpa using B5, Kall, N5⟩, ?_⟩
  rintro l11 n h6 ⟨k, rfl, hk, B6, K6, N6⟩
  have hlo : ((e.out.take k).flatMap Place.enc).length ≤ 20 * e.out.length := Nat.le_trans (flatMap_le Place.enc 20 _ fun p _ => p.enc_length) (by rw [List.length_take]; omega)
  refine ⟨fun hlt => ?_, fun hge => ?_⟩
  · have hk1 : k < e.out.length := by omega
    have hp := S.out _ (List.getElem_mem hk1)
    obtain ⟨b2, o, ha, hat⟩ := row_get (K6.row E.out) (i := k * 2) (by omega)
    have c0 : h6.at b2 (o + ((k : Int)).toNat * 2) = some (.int .i64 e.out[k].lv) := by
      rw [Int.toNat_natCast, hat (k * 2) (by omega)]
      exact flat_get Place.cells 2 (fun _ => rfl) e.out k 0 hk1 (by decide)
    have c1 : h6.at b2 ((o + ((k : Int)).toNat * 2) + 1) = some (.int .u64 e.out[k].num) := by
      rw [Int.toNat_natCast, Nat.add_assoc, hat (k * 2 + 1) (by omega)]
      exact flat_get Place.cells 2 (fun _ => rfl) e.out k 1 hk1 (by decide)
    refine ⟨b2, o, ha, ⟨by omega, hlt⟩, _, c0, b2, o, ha, ⟨by omega, hlt⟩, _, c1, num_i hp.lv.1 hp.lv.2 fun a5 h7 B7 K7 N7 => ⟨a5, rfl, K7.at c1, num_u hp.num fun a6 h8 B8 K8 N8 => ⟨a6, rfl, fun b4 hb4 => ?_⟩⟩⟩
    have hl5 := encU_len e.out[k].lv.toNat
    have hl6 := encU_len e.out[k].num.toNat
    refine join_lit (ss := [l11, a5, a6]) (xs := [hd ++ (e.out.take k).flatMap Place.enc, encU e.out[k].lv.toNat, encU e.out[k].num.toNat]) hb4 rfl (Rows.cons ((K7.trans K8).row (buf_bytes B6)) (Rows.cons (K8.row (buf_bytes B7)) (Rows.cons (buf_bytes B8) (Rows.nil _)))) (by simp only [List.flatten_cons, List.flatten_nil, List.length_append, List.length_nil]; omega) (by simp only [List.length_cons, List.length_nil]; omega) fun l14 h9 B9 K9 N9 => ⟨l14, rfl, ?_⟩
    rw [next_b hk1 (by omega)]
    refine ⟨⟨k + 1, rfl, hk1, ?_, ((K6.trans K7).trans K8).trans K9, new_mono ((K6.trans K7).trans K8) N9⟩, by dsimp only; omega⟩
    rw [List.take_succ_eq_append_getElem hk1, List.flatMap_append]
    have : [hd ++ (e.out.take k).flatMap Place.enc, encU e.out[k].lv.toNat, encU e.out[k].num.toNat].flatten = hd ++ ((e.out.take k).flatMap Place.enc ++ [e.out[k]].flatMap Place.enc) := by
      simp [Place.enc, encUs]
    rw [← this]
    exact B9
  have hke : e.out.take k = e.out := List.take_of_length_le (by omega)
  rw [hke] at B6 hlo
  clear hke hk hge k
  refine num_i (by omega) (by omega) fun a7 h10 B10 K10 N10 => ⟨a7, rfl, fun b5 hb5 => ?_⟩
  have hl7 := encU_len (l4.n : Int).toNat
  refine join_lit (ss := [l11, a7]) (xs := [hd ++ e.out.flatMap Place.enc, encU (l4.n : Int).toNat]) hb5 rfl (Rows.cons (K10.row (buf_bytes B6)) (Rows.cons (buf_bytes B10) (Rows.nil _))) (by simp only [List.flatten_cons, List.flatten_nil, List.length_append, List.length_nil]; omega) (by simp only [List.length_cons, List.length_nil]; omega) fun l16 h11 B11 K11 N11 => ⟨l16, rfl, ?_⟩
  have K011 := (K6.trans K10).trans K11
  have N11 := new_mono (K6.trans K10) N11
  have e2 : [hd ++ e.out.flatMap Place.enc, encU (l4.n : Int).toNat].flatten = hd ++ e.out.flatMap Place.enc ++ encUs [(e.inn.length : Int)] := by rw [n4]; simp [encUs]
  rw [e2] at B11
  have hh2 : (hd ++ e.out.flatMap Place.enc ++ encUs [(e.inn.length : Int)]).length ≤ 30000 := by have := encUs_length [(e.inn.length : Int)]; simp only [List.length_append, List.length_cons, List.length_nil] at this ⊢; omega
  generalize hgen2 : hd ++ e.out.flatMap Place.enc ++ encUs [(e.inn.length : Int)] = hd2 at B11 hh2
  refine ⟨fun l17 n h12 => ∃ k : Nat, n = (k : Int) ∧ k ≤ e.inn.length ∧ Buf h12 l17 1 5 (bv (hd2 ++ (e.inn.take k).flatMap Placed.enc)) ∧ Keep h h12 ∧ (l17.a = none ∨ New h l17), fun _ n _ => e.inn.length - n.toNat, ⟨0, rfl, Nat.zero_le _, by simpa using B11, K011, N11⟩, ?_⟩
  rintro l17 n h12 ⟨k, rfl, hk, B12, K12, N12⟩
  have hli : ((e.inn.take k).flatMap Placed.enc).length ≤ 200 * e.inn.length := Nat.le_trans (flatMap_le Placed.enc 200 _ fun p hp => by have hq := S.inn p (List.mem_of_mem_take hp); exact placed_len hq) (by rw [List.length_take]; omega)
  refine ⟨fun hlt => ?_, fun hge => ?_⟩
  · have hk1 : k < e.inn.length := by omega
    have hp := S.inn _ (List.getElem_mem hk1)
    obtain ⟨b6, o, ha, hat⟩ := row_get (K12.row E.inn) (i := k * 7) (by omega)
    have at_ : ∀ j, j < 7 → h12.at b6 (o + (k * 7 + j)) = (Placed.cells e.inn[k])[j]? := fun j hj => by
      rw [hat (k * 7 + j) (by omega)]
      exact flat_get Placed.cells 7 (fun _ => rfl) e.inn k j hk1 hj
    have c0 : h12.at b6 (o + ((k : Int)).toNat * 7) = some (.int .i64 e.inn[k].lv) := by rw [Int.toNat_natCast]; exact at_ 0 (by decide)
    have c1 : h12.at b6 ((o + ((k : Int)).toNat * 7) + 1) = some (.int .u64 e.inn[k].num) := by rw [Int.toNat_natCast, Nat.add_assoc]; exact at_ 1 (by decide)
    have c2 : h12.at b6 (((o + ((k : Int)).toNat * 7) + 1) + 1) = some (.int .i64 e.inn[k].weight) := by rw [Int.toNat_natCast, Nat.add_assoc, Nat.add_assoc]; exact at_ 2 (by decide)
    have c3 : h12.at b6 (((o + ((k : Int)).toNat * 7) + 1) + 2) = some (.int .i64 e.inn[k].bytes) := by rw [Int.toNat_natCast, Nat.add_assoc, Nat.add_assoc]; exact at_ 3 (by decide)
    have c4 : h12.at b6 (((o + ((k : Int)).toNat * 7) + 1) + 3) = some (.int .i64 e.inn[k].entries) := by rw [Int.toNat_natCast, Nat.add_assoc, Nat.add_assoc]; exact at_ 4 (by decide)
    have c5 : h12.at b6 (((o + ((k : Int)).toNat * 7) + 1) + 4) = some (.string e.inn[k].least) := by rw [Int.toNat_natCast, Nat.add_assoc, Nat.add_assoc]; exact at_ 5 (by decide)
    have c6 : h12.at b6 (((o + ((k : Int)).toNat * 7) + 1) + 5) = some (.string e.inn[k].greatest) := by rw [Int.toNat_natCast, Nat.add_assoc, Nat.add_assoc]; exact at_ 6 (by decide)
    have hs1 := hp.least
    have hs2 := hp.greatest
    refine ⟨b6, o, ha, ⟨by omega, hlt⟩, _, c1, _, c2, _, c3, _, c4, _, c5, _, c6, b6, o, ha, ⟨by omega, hlt⟩, _, c0,
      num_i hp.lv.1 hp.lv.2 fun a1 g1 D1 M1 _ => ⟨a1, rfl, num_u hp.num fun a2 g2 D2 M2 _ => ⟨a2, rfl, num_i hp.weight.1 hp.weight.2 fun a3 g3 D3 M3 _ => ⟨a3, rfl, num_i hp.bytes.1 hp.bytes.2 fun a4 g4 D4 M4 _ => ⟨a4, rfl, num_i hp.entries.1 hp.entries.2 fun a5 g5 D5 M5 _ => ⟨a5, rfl,
      words_doc (by omega) fun a6 g6 D6 M6 _ => ⟨a6, rfl, words_doc (by omega) fun a7 g7 D7 M7 _ => ⟨a7, rfl, fun b8 hb8 => ?_⟩⟩⟩⟩⟩⟩⟩⟩
    have m6 := M7
    have m5 := M6.trans m6
    have m4 := M5.trans m5
    have m3 := M4.trans m4
    have m2 := M3.trans m3
    have m1 := M2.trans m2
    have m0 := M1.trans m1
    have q1 := encU_len e.inn[k].lv.toNat
    have q2 := encU_len e.inn[k].num.toNat
    have q3 := encU_len e.inn[k].weight.toNat
    have q4 := encU_len e.inn[k].bytes.toNat
    have q5 := encU_len e.inn[k].entries.toNat
    have q6 := encT_length hs1
    have q7 := encT_length hs2
    refine join_lit (ss := [l17, a1, a2, a3, a4, a5, a6, a7]) (xs := [hd2 ++ (e.inn.take k).flatMap Placed.enc, encU e.inn[k].lv.toNat, encU e.inn[k].num.toNat, encU e.inn[k].weight.toNat, encU e.inn[k].bytes.toNat, encU e.inn[k].entries.toNat, encT e.inn[k].least, encT e.inn[k].greatest]) hb8 rfl
      (Rows.cons (m0.row (buf_bytes B12)) (Rows.cons (m1.row (buf_bytes D1)) (Rows.cons (m2.row (buf_bytes D2)) (Rows.cons (m3.row (buf_bytes D3)) (Rows.cons (m4.row (buf_bytes D4)) (Rows.cons (m5.row (buf_bytes D5)) (Rows.cons (m6.row (buf_bytes D6)) (Rows.cons (buf_bytes D7) (Rows.nil _))))))))) (by simp only [List.flatten_cons, List.flatten_nil, List.length_append, List.length_nil]; omega) (by simp only [List.length_cons, List.length_nil]; omega) fun l25 h20 B20 K20 N20 => ⟨l25, rfl, ?_⟩
    rw [next_b hk1 (by omega)]
    refine ⟨⟨k + 1, rfl, hk1, ?_, (K12.trans m0).trans K20, new_mono (K12.trans m0) N20⟩, by dsimp only; omega⟩
    rw [List.take_succ_eq_append_getElem hk1, List.flatMap_append]
    have : [hd2 ++ (e.inn.take k).flatMap Placed.enc, encU e.inn[k].lv.toNat, encU e.inn[k].num.toNat, encU e.inn[k].weight.toNat, encU e.inn[k].bytes.toNat, encU e.inn[k].entries.toNat, encT e.inn[k].least, encT e.inn[k].greatest].flatten = hd2 ++ ((e.inn.take k).flatMap Placed.enc ++ [e.inn[k]].flatMap Placed.enc) := by
      simp [Placed.enc, encUs]
    rw [← this]
    exact B20
  have hke : e.inn.take k = e.inn := List.take_of_length_le (by omega)
  rw [hke] at B12 hli
  clear hke hk hge k
  refine num_i (by omega) (by omega) fun a7 h21 B21 K21 N21 => ⟨a7, rfl, fun b9 hb9 => ?_⟩
  have hl8 := encU_len (l5.n : Int).toNat
  refine join_lit (ss := [l17, a7]) (xs := [hd2 ++ e.inn.flatMap Placed.enc, encU (l5.n : Int).toNat]) hb9 rfl (Rows.cons (K21.row (buf_bytes B12)) (Rows.cons (buf_bytes B21) (Rows.nil _))) (by simp only [List.flatten_cons, List.flatten_nil, List.length_append, List.length_nil]; omega) (by simp only [List.length_cons, List.length_nil]; omega) fun l27 h22 B22 K22 N22 => ⟨l27, rfl, ?_⟩
  have K022 := (K12.trans K21).trans K22
  have N22 := new_mono (K12.trans K21) N22
  have e3 : [hd2 ++ e.inn.flatMap Placed.enc, encU (l5.n : Int).toNat].flatten = hd2 ++ e.inn.flatMap Placed.enc ++ encUs [(e.ptr.length : Int)] := by rw [n5]; simp [encUs]
  rw [e3] at B22
  have hh3 : (hd2 ++ e.inn.flatMap Placed.enc ++ encUs [(e.ptr.length : Int)]).length ≤ 300000 := by have := encUs_length [(e.ptr.length : Int)]; simp only [List.length_append, List.length_cons, List.length_nil] at this ⊢; omega
  generalize hgen3 : hd2 ++ e.inn.flatMap Placed.enc ++ encUs [(e.ptr.length : Int)] = hd3 at B22 hh3
  refine ⟨fun l28 n h23 => ∃ k : Nat, n = (k : Int) ∧ k ≤ e.ptr.length ∧ Buf h23 l28 1 5 (bv (hd3 ++ (e.ptr.take k).flatMap encT)) ∧ Keep h h23 ∧ (l28.a = none ∨ New h l28), fun _ n _ => e.ptr.length - n.toNat, ⟨0, rfl, Nat.zero_le _, by simpa using B22, K022, N22⟩, ?_⟩
  rintro l28 n h23 ⟨k, rfl, hk, B23, K23, N23⟩
  have hlp : ((e.ptr.take k).flatMap encT).length ≤ 74 * e.ptr.length := Nat.le_trans (flatMap_le encT 74 _ fun p hp => encT_length (S.ptr p (List.mem_of_mem_take hp))) (by rw [List.length_take]; omega)
  refine ⟨fun hlt => ?_, fun hge => ?_⟩
  · have hk1 : k < e.ptr.length := by omega
    have hp := S.ptr _ (List.getElem_mem hk1)
    obtain ⟨b10, o, ha, hat⟩ := row_get (K23.row E.ptr) (i := k) (by omega)
    have c0 : h23.at b10 (o + ((k : Int)).toNat) = some (.string e.ptr[k]) := by rw [Int.toNat_natCast, hat k (by omega)]; simp [ptrV, hk1]
    refine ⟨b10, o, ha, ⟨by omega, hlt⟩, _, c0, words_doc (by omega) fun a1 g1 D1 M1 _ => ⟨a1, rfl, fun b11 hb11 => ?_⟩⟩
    have q6 := encT_length hp
    refine join_lit (ss := [l28, a1]) (xs := [hd3 ++ (e.ptr.take k).flatMap encT, encT e.ptr[k]]) hb11 rfl (Rows.cons (M1.row (buf_bytes B23)) (Rows.cons (buf_bytes D1) (Rows.nil _))) (by simp only [List.flatten_cons, List.flatten_nil, List.length_append, List.length_nil]; omega) (by simp only [List.length_cons, List.length_nil]; omega) fun l30 h25 B25 K25 N25 => ⟨l30, rfl, ?_⟩
    rw [next_b hk1 (by omega)]
    refine ⟨⟨k + 1, rfl, hk1, ?_, (K23.trans M1).trans K25, new_mono (K23.trans M1) N25⟩, by dsimp only; omega⟩
    rw [List.take_succ_eq_append_getElem hk1, List.flatMap_append]
    have : [hd3 ++ (e.ptr.take k).flatMap encT, encT e.ptr[k]].flatten = hd3 ++ ((e.ptr.take k).flatMap encT ++ [e.ptr[k]].flatMap encT) := by simp
    rw [← this]
    exact B25
  have hke : e.ptr.take k = e.ptr := List.take_of_length_le (by omega)
  rw [hke] at B23
  refine hQ l28 h23 ?_ K23 N23
  have : recB e false = hd3 ++ e.ptr.flatMap encT := by
    rw [← hgen3, ← hgen2, ← hgen]
    simp [recB]
  rw [this]
  exact B23
theorem record_dt {h : Hp} {e : Edit} {l l1 l2 l3 l4 l5 : Sl} {Q : Value → Hp → Prop} (E : EdAt h e l3 l4 l5) (S : e.small) (hQ : ∀ l' h', Buf h' l' 1 5 (bv (recB e true)) → Keep h h' → (l'.a = none ∨ New h l') → Q (.slice l'.a l'.n l'.c) h') : F65.Tt e.log e.next e.seq l l1 l2 l3 l4 l5 h Q := by
  have n3 := E.nout
  have n4 := E.ninn
  have n5 : l5.n = e.ptr.length := by have := E.ptr.1; simpa [ptrV] using this.symm
  have s1 := S.nout
  have s2 := S.ninn
  have s3 := S.nptr
  refine num_u S.log fun a1 h1 B1 K1 N1 => ⟨a1, rfl, num_u S.next fun a2 h2 B2 K2 N2 => ⟨a2, rfl, num_u S.seq fun a3 h3 B3 K3 N3 => ⟨a3, rfl, num_i (by omega) (by omega) fun a4 h4 B4 K4 N4 => ⟨a4, rfl, fun b hb b1 hb1 => ?_⟩⟩⟩⟩
  have Kb := Keep.new hb (.cells ⟨[.int .u8 1]⟩ 5 (0, 0))
  have K14 := ((K1.trans K2).trans K3).trans K4
  have hl1 := encU_len e.log.toNat
  have hl2 := encU_len e.next.toNat
  have hl3 := encU_len e.seq.toNat
  have hl4 := encU_len (l3.n : Int).toNat
  refine join_lit (ss := [⟨some ⟨b, 0, none⟩, 1, 1⟩, a1, a2, a3, a4]) (xs := [[1], encU e.log.toNat, encU e.next.toNat, encU e.seq.toNat, encU (l3.n : Int).toNat]) hb1 rfl
    (Rows.cons (row_new h4 b 5 (bv [1]) 1 rfl) (Rows.cons ((((K2.trans K3).trans K4).trans Kb).row (buf_bytes B1)) (Rows.cons (((K3.trans K4).trans Kb).row (buf_bytes B2)) (Rows.cons ((K4.trans Kb).row (buf_bytes B3)) (Rows.cons (Kb.row (buf_bytes B4)) (Rows.nil _)))))) (by simp only [List.flatten_cons, List.flatten_nil, List.length_append, List.length_cons, List.length_nil]; omega) (by simp only [List.length_cons, List.length_nil]; omega) fun l10 h5 B5 K5 N5 => ⟨l10, rfl, ?_⟩
  have Kall : Keep h h5 := (K14.trans Kb).trans K5
  have N5 := new_mono (K14.trans Kb) N5
  have ehd : [[1], encU e.log.toNat, encU e.next.toNat, encU e.seq.toNat, encU (l3.n : Int).toNat].flatten = 1 :: encUs [e.log, e.next, e.seq, (e.out.length : Int)] := by
    rw [n3]; simp [encUs]
  rw [ehd] at B5
  have hhd : (1 :: encUs [e.log, e.next, e.seq, (e.out.length : Int)]).length ≤ 41 := by have := encUs_length [e.log, e.next, e.seq, (e.out.length : Int)]; simp only [List.length_cons, List.length_nil] at this ⊢; omega
  generalize hgen : 1 :: encUs [e.log, e.next, e.seq, (e.out.length : Int)] = hd at B5 hhd
  refine ⟨fun l11 n h6 => ∃ k : Nat, n = (k : Int) ∧ k ≤ e.out.length ∧ Buf h6 l11 1 5 (bv (hd ++ (e.out.take k).flatMap Place.enc)) ∧ Keep h h6 ∧ (l11.a = none ∨ New h l11), fun _ n _ => e.out.length - n.toNat, ⟨0, rfl, Nat.zero_le _, by simpa using B5, Kall, N5⟩, ?_⟩
  rintro l11 n h6 ⟨k, rfl, hk, B6, K6, N6⟩
  have hlo : ((e.out.take k).flatMap Place.enc).length ≤ 20 * e.out.length := Nat.le_trans (flatMap_le Place.enc 20 _ fun p _ => p.enc_length) (by rw [List.length_take]; omega)
  refine ⟨fun hlt => ?_, fun hge => ?_⟩
  · have hk1 : k < e.out.length := by omega
    have hp := S.out _ (List.getElem_mem hk1)
    obtain ⟨b2, o, ha, hat⟩ := row_get (K6.row E.out) (i := k * 2) (by omega)
    have c0 : h6.at b2 (o + ((k : Int)).toNat * 2) = some (.int .i64 e.out[k].lv) := by
      rw [Int.toNat_natCast, hat (k * 2) (by omega)]
      exact flat_get Place.cells 2 (fun _ => rfl) e.out k 0 hk1 (by decide)
    have c1 : h6.at b2 ((o + ((k : Int)).toNat * 2) + 1) = some (.int .u64 e.out[k].num) := by
      rw [Int.toNat_natCast, Nat.add_assoc, hat (k * 2 + 1) (by omega)]
      exact flat_get Place.cells 2 (fun _ => rfl) e.out k 1 hk1 (by decide)
    refine ⟨b2, o, ha, ⟨by omega, hlt⟩, _, c0, b2, o, ha, ⟨by omega, hlt⟩, _, c1, num_i hp.lv.1 hp.lv.2 fun a5 h7 B7 K7 N7 => ⟨a5, rfl, K7.at c1, num_u hp.num fun a6 h8 B8 K8 N8 => ⟨a6, rfl, fun b4 hb4 => ?_⟩⟩⟩
    have hl5 := encU_len e.out[k].lv.toNat
    have hl6 := encU_len e.out[k].num.toNat
    refine join_lit (ss := [l11, a5, a6]) (xs := [hd ++ (e.out.take k).flatMap Place.enc, encU e.out[k].lv.toNat, encU e.out[k].num.toNat]) hb4 rfl (Rows.cons ((K7.trans K8).row (buf_bytes B6)) (Rows.cons (K8.row (buf_bytes B7)) (Rows.cons (buf_bytes B8) (Rows.nil _)))) (by simp only [List.flatten_cons, List.flatten_nil, List.length_append, List.length_nil]; omega) (by simp only [List.length_cons, List.length_nil]; omega) fun l14 h9 B9 K9 N9 => ⟨l14, rfl, ?_⟩
    rw [next_b hk1 (by omega)]
    refine ⟨⟨k + 1, rfl, hk1, ?_, ((K6.trans K7).trans K8).trans K9, new_mono ((K6.trans K7).trans K8) N9⟩, by dsimp only; omega⟩
    rw [List.take_succ_eq_append_getElem hk1, List.flatMap_append]
    have : [hd ++ (e.out.take k).flatMap Place.enc, encU e.out[k].lv.toNat, encU e.out[k].num.toNat].flatten = hd ++ ((e.out.take k).flatMap Place.enc ++ [e.out[k]].flatMap Place.enc) := by
      simp [Place.enc, encUs]
    rw [← this]
    exact B9
  have hke : e.out.take k = e.out := List.take_of_length_le (by omega)
  rw [hke] at B6 hlo
  clear hke hk hge k
  refine num_i (by omega) (by omega) fun a7 h10 B10 K10 N10 => ⟨a7, rfl, fun b5 hb5 => ?_⟩
  have hl7 := encU_len (l4.n : Int).toNat
  refine join_lit (ss := [l11, a7]) (xs := [hd ++ e.out.flatMap Place.enc, encU (l4.n : Int).toNat]) hb5 rfl (Rows.cons (K10.row (buf_bytes B6)) (Rows.cons (buf_bytes B10) (Rows.nil _))) (by simp only [List.flatten_cons, List.flatten_nil, List.length_append, List.length_nil]; omega) (by simp only [List.length_cons, List.length_nil]; omega) fun l16 h11 B11 K11 N11 => ⟨l16, rfl, ?_⟩
  have K011 := (K6.trans K10).trans K11
  have N11 := new_mono (K6.trans K10) N11
  have e2 : [hd ++ e.out.flatMap Place.enc, encU (l4.n : Int).toNat].flatten = hd ++ e.out.flatMap Place.enc ++ encUs [(e.inn.length : Int)] := by rw [n4]; simp [encUs]
  rw [e2] at B11
  have hh2 : (hd ++ e.out.flatMap Place.enc ++ encUs [(e.inn.length : Int)]).length ≤ 30000 := by have := encUs_length [(e.inn.length : Int)]; simp only [List.length_append, List.length_cons, List.length_nil] at this ⊢; omega
  generalize hgen2 : hd ++ e.out.flatMap Place.enc ++ encUs [(e.inn.length : Int)] = hd2 at B11 hh2
  refine ⟨fun l17 n h12 => ∃ k : Nat, n = (k : Int) ∧ k ≤ e.inn.length ∧ Buf h12 l17 1 5 (bv (hd2 ++ (e.inn.take k).flatMap Placed.enc)) ∧ Keep h h12 ∧ (l17.a = none ∨ New h l17), fun _ n _ => e.inn.length - n.toNat, ⟨0, rfl, Nat.zero_le _, by simpa using B11, K011, N11⟩, ?_⟩
  rintro l17 n h12 ⟨k, rfl, hk, B12, K12, N12⟩
  have hli : ((e.inn.take k).flatMap Placed.enc).length ≤ 200 * e.inn.length := Nat.le_trans (flatMap_le Placed.enc 200 _ fun p hp => by have hq := S.inn p (List.mem_of_mem_take hp); exact placed_len hq) (by rw [List.length_take]; omega)
  refine ⟨fun hlt => ?_, fun hge => ?_⟩
  · have hk1 : k < e.inn.length := by omega
    have hp := S.inn _ (List.getElem_mem hk1)
    obtain ⟨b6, o, ha, hat⟩ := row_get (K12.row E.inn) (i := k * 7) (by omega)
    have at_ : ∀ j, j < 7 → h12.at b6 (o + (k * 7 + j)) = (Placed.cells e.inn[k])[j]? := fun j hj => by
      rw [hat (k * 7 + j) (by omega)]
      exact flat_get Placed.cells 7 (fun _ => rfl) e.inn k j hk1 hj
    have c0 : h12.at b6 (o + ((k : Int)).toNat * 7) = some (.int .i64 e.inn[k].lv) := by rw [Int.toNat_natCast]; exact at_ 0 (by decide)
    have c1 : h12.at b6 ((o + ((k : Int)).toNat * 7) + 1) = some (.int .u64 e.inn[k].num) := by rw [Int.toNat_natCast, Nat.add_assoc]; exact at_ 1 (by decide)
    have c2 : h12.at b6 (((o + ((k : Int)).toNat * 7) + 1) + 1) = some (.int .i64 e.inn[k].weight) := by rw [Int.toNat_natCast, Nat.add_assoc, Nat.add_assoc]; exact at_ 2 (by decide)
    have c3 : h12.at b6 (((o + ((k : Int)).toNat * 7) + 1) + 2) = some (.int .i64 e.inn[k].bytes) := by rw [Int.toNat_natCast, Nat.add_assoc, Nat.add_assoc]; exact at_ 3 (by decide)
    have c4 : h12.at b6 (((o + ((k : Int)).toNat * 7) + 1) + 3) = some (.int .i64 e.inn[k].entries) := by rw [Int.toNat_natCast, Nat.add_assoc, Nat.add_assoc]; exact at_ 4 (by decide)
    have c5 : h12.at b6 (((o + ((k : Int)).toNat * 7) + 1) + 4) = some (.string e.inn[k].least) := by rw [Int.toNat_natCast, Nat.add_assoc, Nat.add_assoc]; exact at_ 5 (by decide)
    have c6 : h12.at b6 (((o + ((k : Int)).toNat * 7) + 1) + 5) = some (.string e.inn[k].greatest) := by rw [Int.toNat_natCast, Nat.add_assoc, Nat.add_assoc]; exact at_ 6 (by decide)
    have hs1 := hp.least
    have hs2 := hp.greatest
    refine ⟨b6, o, ha, ⟨by omega, hlt⟩, _, c1, _, c2, _, c3, _, c4, _, c5, _, c6, b6, o, ha, ⟨by omega, hlt⟩, _, c0,
      num_i hp.lv.1 hp.lv.2 fun a1 g1 D1 M1 _ => ⟨a1, rfl, num_u hp.num fun a2 g2 D2 M2 _ => ⟨a2, rfl, num_i hp.weight.1 hp.weight.2 fun a3 g3 D3 M3 _ => ⟨a3, rfl, num_i hp.bytes.1 hp.bytes.2 fun a4 g4 D4 M4 _ => ⟨a4, rfl, num_i hp.entries.1 hp.entries.2 fun a5 g5 D5 M5 _ => ⟨a5, rfl,
      words_doc (by omega) fun a6 g6 D6 M6 _ => ⟨a6, rfl, words_doc (by omega) fun a7 g7 D7 M7 _ => ⟨a7, rfl, fun b8 hb8 => ?_⟩⟩⟩⟩⟩⟩⟩⟩
    have m6 := M7
    have m5 := M6.trans m6
    have m4 := M5.trans m5
    have m3 := M4.trans m4
    have m2 := M3.trans m3
    have m1 := M2.trans m2
    have m0 := M1.trans m1
    have q1 := encU_len e.inn[k].lv.toNat
    have q2 := encU_len e.inn[k].num.toNat
    have q3 := encU_len e.inn[k].weight.toNat
    have q4 := encU_len e.inn[k].bytes.toNat
    have q5 := encU_len e.inn[k].entries.toNat
    have q6 := encT_length hs1
    have q7 := encT_length hs2
    refine join_lit (ss := [l17, a1, a2, a3, a4, a5, a6, a7]) (xs := [hd2 ++ (e.inn.take k).flatMap Placed.enc, encU e.inn[k].lv.toNat, encU e.inn[k].num.toNat, encU e.inn[k].weight.toNat, encU e.inn[k].bytes.toNat, encU e.inn[k].entries.toNat, encT e.inn[k].least, encT e.inn[k].greatest]) hb8 rfl
      (Rows.cons (m0.row (buf_bytes B12)) (Rows.cons (m1.row (buf_bytes D1)) (Rows.cons (m2.row (buf_bytes D2)) (Rows.cons (m3.row (buf_bytes D3)) (Rows.cons (m4.row (buf_bytes D4)) (Rows.cons (m5.row (buf_bytes D5)) (Rows.cons (m6.row (buf_bytes D6)) (Rows.cons (buf_bytes D7) (Rows.nil _))))))))) (by simp only [List.flatten_cons, List.flatten_nil, List.length_append, List.length_nil]; omega) (by simp only [List.length_cons, List.length_nil]; omega) fun l25 h20 B20 K20 N20 => ⟨l25, rfl, ?_⟩
    rw [next_b hk1 (by omega)]
    refine ⟨⟨k + 1, rfl, hk1, ?_, (K12.trans m0).trans K20, new_mono (K12.trans m0) N20⟩, by dsimp only; omega⟩
    rw [List.take_succ_eq_append_getElem hk1, List.flatMap_append]
    have : [hd2 ++ (e.inn.take k).flatMap Placed.enc, encU e.inn[k].lv.toNat, encU e.inn[k].num.toNat, encU e.inn[k].weight.toNat, encU e.inn[k].bytes.toNat, encU e.inn[k].entries.toNat, encT e.inn[k].least, encT e.inn[k].greatest].flatten = hd2 ++ ((e.inn.take k).flatMap Placed.enc ++ [e.inn[k]].flatMap Placed.enc) := by
      simp [Placed.enc, encUs]
    rw [← this]
    exact B20
  have hke : e.inn.take k = e.inn := List.take_of_length_le (by omega)
  rw [hke] at B12 hli
  clear hke hk hge k
  refine num_i (by omega) (by omega) fun a7 h21 B21 K21 N21 => ⟨a7, rfl, fun b9 hb9 => ?_⟩
  have hl8 := encU_len (l5.n : Int).toNat
  refine join_lit (ss := [l17, a7]) (xs := [hd2 ++ e.inn.flatMap Placed.enc, encU (l5.n : Int).toNat]) hb9 rfl (Rows.cons (K21.row (buf_bytes B12)) (Rows.cons (buf_bytes B21) (Rows.nil _))) (by simp only [List.flatten_cons, List.flatten_nil, List.length_append, List.length_nil]; omega) (by simp only [List.length_cons, List.length_nil]; omega) fun l27 h22 B22 K22 N22 => ⟨l27, rfl, ?_⟩
  have K022 := (K12.trans K21).trans K22
  have N22 := new_mono (K12.trans K21) N22
  have e3 : [hd2 ++ e.inn.flatMap Placed.enc, encU (l5.n : Int).toNat].flatten = hd2 ++ e.inn.flatMap Placed.enc ++ encUs [(e.ptr.length : Int)] := by rw [n5]; simp [encUs]
  rw [e3] at B22
  have hh3 : (hd2 ++ e.inn.flatMap Placed.enc ++ encUs [(e.ptr.length : Int)]).length ≤ 300000 := by have := encUs_length [(e.ptr.length : Int)]; simp only [List.length_append, List.length_cons, List.length_nil] at this ⊢; omega
  generalize hgen3 : hd2 ++ e.inn.flatMap Placed.enc ++ encUs [(e.ptr.length : Int)] = hd3 at B22 hh3
  refine ⟨fun l28 n h23 => ∃ k : Nat, n = (k : Int) ∧ k ≤ e.ptr.length ∧ Buf h23 l28 1 5 (bv (hd3 ++ (e.ptr.take k).flatMap encT)) ∧ Keep h h23 ∧ (l28.a = none ∨ New h l28), fun _ n _ => e.ptr.length - n.toNat, ⟨0, rfl, Nat.zero_le _, by simpa using B22, K022, N22⟩, ?_⟩
  rintro l28 n h23 ⟨k, rfl, hk, B23, K23, N23⟩
  have hlp : ((e.ptr.take k).flatMap encT).length ≤ 74 * e.ptr.length := Nat.le_trans (flatMap_le encT 74 _ fun p hp => encT_length (S.ptr p (List.mem_of_mem_take hp))) (by rw [List.length_take]; omega)
  refine ⟨fun hlt => ?_, fun hge => ?_⟩
  · have hk1 : k < e.ptr.length := by omega
    have hp := S.ptr _ (List.getElem_mem hk1)
    obtain ⟨b10, o, ha, hat⟩ := row_get (K23.row E.ptr) (i := k) (by omega)
    have c0 : h23.at b10 (o + ((k : Int)).toNat) = some (.string e.ptr[k]) := by rw [Int.toNat_natCast, hat k (by omega)]; simp [ptrV, hk1]
    refine ⟨b10, o, ha, ⟨by omega, hlt⟩, _, c0, words_doc (by omega) fun a1 g1 D1 M1 _ => ⟨a1, rfl, fun b11 hb11 => ?_⟩⟩
    have q6 := encT_length hp
    refine join_lit (ss := [l28, a1]) (xs := [hd3 ++ (e.ptr.take k).flatMap encT, encT e.ptr[k]]) hb11 rfl (Rows.cons (M1.row (buf_bytes B23)) (Rows.cons (buf_bytes D1) (Rows.nil _))) (by simp only [List.flatten_cons, List.flatten_nil, List.length_append, List.length_nil]; omega) (by simp only [List.length_cons, List.length_nil]; omega) fun l30 h25 B25 K25 N25 => ⟨l30, rfl, ?_⟩
    rw [next_b hk1 (by omega)]
    refine ⟨⟨k + 1, rfl, hk1, ?_, (K23.trans M1).trans K25, new_mono (K23.trans M1) N25⟩, by dsimp only; omega⟩
    rw [List.take_succ_eq_append_getElem hk1, List.flatMap_append]
    have : [hd3 ++ (e.ptr.take k).flatMap encT, encT e.ptr[k]].flatten = hd3 ++ ((e.ptr.take k).flatMap encT ++ [e.ptr[k]].flatMap encT) := by simp
    rw [← this]
    exact B25
  have hke : e.ptr.take k = e.ptr := List.take_of_length_le (by omega)
  rw [hke] at B23
  refine hQ l28 h23 ?_ K23 N23
  have : recB e true = hd3 ++ e.ptr.flatMap encT := by
    rw [← hgen3, ← hgen2, ← hgen]
    simp [recB]
  rw [this]
  exact B23
end Go.Eng.YtblghgacokoklaaDoor
end
section
/-
  SPECS OF THE WRITING, 3: the document's Right and Put.
-/
set_option linter.unusedSimpArgs false
set_option linter.unusedVariables false
set_option maxRecDepth 100000
namespace Go.Eng.YtblghgacokoklaaDoor
/-- s[i:j:m] -/
theorem cutN {h : Hp} {s : Sl} {sz i j m : Nat} {vs : List Value} (hr : h.row s.a (s.n * sz) vs) (hi : i ≤ j) (hj : j ≤ s.n) (hm : j ≤ m) :
    h.row (Sl.cut s sz (i : Int) (j : Int) (m : Int)).a ((Sl.cut s sz (i : Int) (j : Int) (m : Int)).n * sz) ((vs.drop (i * sz)).take ((j - i) * sz)) := by
  have h2 : (j - i) * sz ≤ s.n * sz - i * sz := by rw [← Nat.sub_mul]; exact Nat.mul_le_mul_right _ (by omega)
  have h1 := row_take (row_drop hr (k := i * sz) (Nat.mul_le_mul_right _ (by omega))) (k := (j - i) * sz) h2
  have hn : (Sl.cut s sz (i : Int) (j : Int) (m : Int)).n = j - i := by simp [Sl.cut]
  rw [hn]
  refine row_congr h1 ?_
  unfold Sl.cut
  simp only [Int.toNat_natCast]
  by_cases hmi : m = i
  · left; rw [show j - i = 0 by omega, Nat.zero_mul]
  · right; rw [if_neg hmi]
theorem right_doc {h : Hp} {e : Edit} {l l1 l2 : Sl} {Q : Value → Hp → Prop} (E : EdAt h e l l1 l2) (n1 : e.out.length < 9223372036854775807) (n2 : e.inn.length < 9223372036854775807) (n3 : e.ptr.length < 9223372036854775807)
    (hQ : Q (.bool e.told) h) : F64.T e.log e.next e.seq l l1 l2 h Q := by
  have no := E.nout
  have ni := E.ninn
  have np := E.nptr
  have bad1 : e.out.all Place.told = false → Q (.bool false) h := fun hb => by
    have : e.told = false := by unfold Edit.told; rw [hb]; rfl
    rw [this] at hQ; exact hQ
  refine ⟨fun i h1 => ∃ k : Nat, i = (k : Int) ∧ k ≤ e.out.length ∧ h1 = h ∧ (e.out.take k).all Place.told = true, fun i _ => e.out.length - i.toNat, ⟨0, rfl, Nat.zero_le _, rfl, rfl⟩, ?_⟩
  rintro i h1 ⟨k, rfl, hk, rfl, ht⟩
  refine ⟨fun hlt => ?_, fun hge => ?_⟩
  · have hk1 : k < e.out.length := by omega
    obtain ⟨b, o, ha, hat⟩ := row_get E.out (i := k * 2) (by omega)
    have c0 : h1.at b (o + ((k : Int)).toNat * 2) = some (.int .i64 e.out[k].lv) := by
      rw [Int.toNat_natCast, hat (k * 2) (by omega)]
      exact flat_get Place.cells 2 (fun _ => rfl) e.out k 0 hk1 (by decide)
    refine ⟨b, o, ha, ⟨by omega, hlt⟩, _, c0, fun hb => bad1 (all_not _ _ k hk1 (by unfold Place.told; rw [decide_eq_false]; omega)), fun hb => ⟨b, o, ha, ⟨by omega, hlt⟩, _, c0, fun hc => bad1 (all_not _ _ k hk1 (by unfold Place.told; rw [decide_eq_false]; omega)), fun hc => ?_⟩⟩
    rw [next_i hk1 n1]
    exact ⟨⟨k + 1, rfl, hk1, rfl, by rw [all_at _ _ k hk1 ht]; unfold Place.told; rw [decide_eq_true]; omega⟩, by dsimp only; omega⟩
  have hkn : k = e.out.length := by omega
  subst hkn
  rw [List.take_length] at ht
  have bad2 : e.inn.all Placed.told = false → Q (.bool false) h1 := fun hb => by
    have : e.told = false := by unfold Edit.told; rw [hb]; simp
    rw [this] at hQ; exact hQ
  refine ⟨fun i h2 => ∃ k : Nat, i = (k : Int) ∧ k ≤ e.inn.length ∧ h2 = h1 ∧ (e.inn.take k).all Placed.told = true, fun i _ => e.inn.length - i.toNat, ⟨0, rfl, Nat.zero_le _, rfl, rfl⟩, ?_⟩
  rintro i h2 ⟨k, rfl, hk, rfl, ht2⟩
  refine ⟨fun hlt => ?_, fun hge => ?_⟩
  · have hk1 : k < e.inn.length := by omega
    obtain ⟨b, o, ha, hat⟩ := row_get E.inn (i := k * 7) (by omega)
    have cc : ∀ j, j < 7 → h2.at b ((o + k * 7) + j) = (Placed.cells e.inn[k])[j]? := fun j hj => by
      rw [Nat.add_assoc, hat _ (by omega)]
      exact flat_get Placed.cells 7 (fun _ => rfl) e.inn k j hk1 hj
    have hbad : ¬ (0 ≤ e.inn[k].lv ∧ e.inn[k].lv < 5 ∧ 0 ≤ e.inn[k].weight ∧ 0 ≤ e.inn[k].bytes ∧ 0 ≤ e.inn[k].entries ∧ e.inn[k].least.size ≤ 64 ∧ e.inn[k].greatest.size ≤ 64) → Q (.bool false) h2 := fun hb => bad2 (all_not _ _ k hk1 (by unfold Placed.told; rw [decide_eq_false hb]))
    refine ⟨b, o, ha, ⟨by omega, hlt⟩, e.inn[k].lv, ?_, e.inn[k].num, ?_, e.inn[k].weight, ?_, e.inn[k].bytes, ?_, e.inn[k].entries, ?_, e.inn[k].least, ?_, e.inn[k].greatest, ?_, fun q1 => hbad (by omega), fun q1 => ⟨fun q2 => hbad (by omega), fun q2 => ⟨fun q3 => hbad (by omega), fun q3 => ⟨fun q4 => hbad (by omega), fun q4 => ⟨fun q5 => hbad (by omega), fun q5 => ⟨fun q6 => hbad (by omega), fun q6 => ⟨fun q7 => hbad (by omega), fun q7 => ?_⟩⟩⟩⟩⟩⟩⟩
    · rw [Int.toNat_natCast]; exact cc 0 (by decide)
    · rw [Int.toNat_natCast]; exact cc 1 (by decide)
    · rw [Int.toNat_natCast]; exact cc 2 (by decide)
    · rw [Int.toNat_natCast]; exact cc 3 (by decide)
    · rw [Int.toNat_natCast]; exact cc 4 (by decide)
    · rw [Int.toNat_natCast]; exact cc 5 (by decide)
    · rw [Int.toNat_natCast]; exact cc 6 (by decide)
    · rw [next_i hk1 n2]
      exact ⟨⟨k + 1, rfl, hk1, rfl, by rw [all_at _ _ k hk1 ht2]; unfold Placed.told; rw [decide_eq_true]; omega⟩, by dsimp only; omega⟩
  have hkn : k = e.inn.length := by omega
  subst hkn
  rw [List.take_length] at ht2
  have bad3 : e.ptr.all (fun s => decide (s.size ≤ 64)) = false → Q (.bool false) h2 := fun hb => by
    have : e.told = false := by unfold Edit.told; rw [hb]; simp
    rw [this] at hQ; exact hQ
  refine ⟨fun i h3 => ∃ k : Nat, i = (k : Int) ∧ k ≤ e.ptr.length ∧ h3 = h2 ∧ (e.ptr.take k).all (fun s => decide (s.size ≤ 64)) = true, fun i _ => e.ptr.length - i.toNat, ⟨0, rfl, Nat.zero_le _, rfl, rfl⟩, ?_⟩
  rintro i h3 ⟨k, rfl, hk, rfl, ht3⟩
  refine ⟨fun hlt => ?_, fun hge => ?_⟩
  · have hk1 : k < e.ptr.length := by omega
    obtain ⟨b, o, ha, hat⟩ := row_get E.ptr (i := k) (by omega)
    have c0 : h3.at b (o + ((k : Int)).toNat) = some (.string e.ptr[k]) := by rw [Int.toNat_natCast, hat k (by omega)]; simp [ptrV, hk1]
    refine ⟨b, o, ha, ⟨by omega, hlt⟩, _, c0, fun hb => bad3 (all_not _ _ k hk1 (by rw [decide_eq_false]; omega)), fun hb => ?_⟩
    rw [next_i hk1 n3]
    exact ⟨⟨k + 1, rfl, hk1, rfl, by rw [all_at _ _ k hk1 ht3, decide_eq_true]; omega⟩, by dsimp only; omega⟩
  have hkn : k = e.ptr.length := by omega
  subst hkn
  rw [List.take_length] at ht3
  have he : e.told = decide (e.ptr.length ≤ 5) := by unfold Edit.told; rw [ht, ht2, ht3]; simp
  rw [he] at hQ
  refine ⟨fun hb => ?_, fun hb => ?_⟩
  · rw [decide_eq_true (by omega)] at hQ; exact hQ
  · rw [decide_eq_false (by omega)] at hQ; exact hQ
theorem put_doc {h : Hp} {e : Edit} {l l1 l2 : Sl} {Q : Value → Hp → Prop} (E : EdAt h e l l1 l2) (c1 : l.n ≤ l.c) (c2 : l1.n ≤ l1.c) (V : e.valid) (n1 : e.out.length + e.inn.length ≤ 1000000000000) (n3 : e.ptr.length < 9223372036854775807)
    (hQ : ∀ r h' ss, Buf h' r 1 23 (slV ss) → RowsAt h' ss (putS e) → (∀ s ∈ ss, s.a = none ∨ New h s) → Keep h h' → (r.a = none ∨ New h r) → Q (.slice r.a r.n r.c) h') : F22.T e.log e.next e.seq l l1 l2 h Q := by
  unfold F22.T
  refine right_doc E (by omega) (by omega) n3 ⟨e.told, rfl, fun ht => ?_, fun hf => ?_⟩
  · have T := told_spec V ht
    refine ⟨fun l4 l5 l3 h2 => ∃ f e' ss done, e'.log = e.log ∧ e'.next = e.next ∧ e'.seq = e.seq ∧ e'.ptr = e.ptr ∧ Told e' ∧ EdAt h e' l4 l5 l2 ∧ l4.n ≤ l4.c ∧ l5.n ≤ l5.c ∧ Buf h2 l3 1 23 (slV ss) ∧ RowsAt h2 ss done ∧ (∀ s ∈ ss, s.a = none ∨ New h s) ∧ done ++ putF f e' = putS e ∧ e'.out.length + e'.inn.length < f ∧ Keep h h2 ∧ (l3.a = none ∨ New h l3) ∧ done.length + (e'.out.length + e'.inn.length) ≤ e.out.length + e.inn.length,
      fun l4 l5 _ _ => l4.n + l5.n, ⟨e.out.length + e.inn.length + 1, e, [], [], rfl, rfl, rfl, rfl, T, E, c1, c2, Buf.nil h 1 23, RowsAt.nil h, fun s hs => (by cases hs), by unfold putS; rw [if_pos ht]; rfl, by omega, Keep.refl h, .inl rfl, by simp⟩, ?_⟩
    rintro l4 l5 l3 h2 ⟨f, e', ss, done, g1, g2, g3, g4, T', E', d1, d2, B, R, hNs, hput, hfuel, K, hN, hcnt⟩
    have n4 := E'.nout
    have n5 := E'.ninn
    obtain ⟨f, rfl⟩ : ∃ g, f = g + 1 := ⟨f - 1, by omega⟩
    have hss : l3.n = ss.length := by have := B.len; rw [slV_length] at this; omega
    have hdn : ss.length = done.length := R.1
    have S := T'.small (by rw [g1]; exact V.log) (by rw [g2]; exact V.next) (by rw [g3]; exact V.seq)
    have kwt : IntKind.wrap .i64 ((l4.n : Int) + (l5.n : Int)) = ((l4.n + l5.n : Nat) : Int) := by rw [wrap_i64 (by omega) (by omega)]; omega
    have k1 : iMin 256 (l4.n : Int) = ((min 256 l4.n : Nat) : Int) := iMin_nat 256 l4.n
    have kw : IntKind.wrap .i64 (256 - ((min 256 l4.n : Nat) : Int)) = ((256 - min 256 l4.n : Nat) : Int) := by rw [wrap_i64 (by omega) (by omega)]; omega
    rw [kwt, k1, kw]
    have hsz : e'.size = l4.n + l5.n := by unfold Edit.size; omega
    refine ⟨fun hbig => ?_, fun hsm => ?_⟩
    · have hbig' : 256 < e'.size := by omega
      have r1 := cutN E'.out (i := 0) (j := min 256 l4.n) (m := l4.c) (Nat.zero_le _) (by omega) (by omega)
      have r2 := cutN E'.inn (i := 0) (j := 256 - min 256 l4.n) (m := l5.c) (Nat.zero_le _) (by omega) (by omega)
      have r3 := cutN E'.out (i := min 256 l4.n) (j := l4.n) (m := l4.c) (by omega) (Nat.le_refl _) d1
      have r4 := cutN E'.inn (i := 256 - min 256 l4.n) (j := l5.n) (m := l5.c) (by omega) (Nat.le_refl _) d2
      have e1 : ((outV e'.out).drop (0 * 2)).take ((min 256 l4.n - 0) * 2) = outV (piece e').out := by
        rw [Nat.zero_mul, List.drop_zero, Nat.sub_zero]
        unfold outV
        rw [flat_take Place.cells 2 (fun _ => rfl), n4, Nat.min_comm, take_min]
        rfl
      have e2 : ((inV e'.inn).drop (0 * 7)).take ((256 - min 256 l4.n - 0) * 7) = inV (piece e').inn := by
        rw [Nat.zero_mul, List.drop_zero, Nat.sub_zero]
        unfold inV
        rw [flat_take Placed.cells 7 (fun _ => rfl), n4, Nat.min_comm]
        rfl
      have e3 : ((outV e'.out).drop (min 256 l4.n * 2)).take ((l4.n - min 256 l4.n) * 2) = outV (behind e').out := by
        rw [List.take_of_length_le (by rw [List.length_drop, outV_len, n4]; omega)]
        unfold outV
        rw [flat_drop Place.cells 2 (fun _ => rfl), n4, Nat.min_comm, drop_min]
        rfl
      have e4 : ((inV e'.inn).drop ((256 - min 256 l4.n) * 7)).take ((l5.n - (256 - min 256 l4.n)) * 7) = inV (behind e').inn := by
        rw [List.take_of_length_le (by rw [List.length_drop, inV_len, n5]; omega)]
        unfold inV
        rw [flat_drop Placed.cells 7 (fun _ => rfl), n4, Nat.min_comm]
        rfl
      rw [e1] at r1; rw [e2] at r2; rw [e3] at r3; rw [e4] at r4
      have q3 : (Sl.cut l4 2 ((min 256 l4.n : Nat) : Int) (l4.n : Int) (l4.c : Int)).n = l4.n - min 256 l4.n := by simp [Sl.cut]
      have q4 : (Sl.cut l5 7 ((256 - min 256 l4.n : Nat) : Int) (l5.n : Int) (l5.c : Int)).n = l5.n - (256 - min 256 l4.n) := by simp [Sl.cut]
      have p3 : (Sl.cut l4 2 ((min 256 l4.n : Nat) : Int) (l4.n : Int) (l4.c : Int)).c = l4.c - min 256 l4.n := by simp [Sl.cut]
      have p4 : (Sl.cut l5 7 ((256 - min 256 l4.n : Nat) : Int) (l5.n : Int) (l5.c : Int)).c = l5.c - (256 - min 256 l4.n) := by simp [Sl.cut]
      have Eb : EdAt h (behind e') (Sl.cut l4 2 ((min 256 l4.n : Nat) : Int) (l4.n : Int) (l4.c : Int)) (Sl.cut l5 7 ((256 - min 256 l4.n : Nat) : Int) (l5.n : Int) (l5.c : Int)) l2 := ⟨r3, r4, E'.ptr⟩
      have bo := Eb.nout
      have bi := Eb.ninn
      have g1' : (piece e').log = e.log := g1
      have g2' : (piece e').next = e.next := g2
      have g3' : (piece e').seq = e.seq := g3
      have Ep : EdAt h (piece e') (Sl.cut l4 2 0 ((min 256 l4.n : Nat) : Int) (l4.c : Int)) (Sl.cut l5 7 0 ((256 - min 256 l4.n : Nat) : Int) (l5.c : Int)) ⟨none, 0, 0⟩ := ⟨r1, r2, ⟨rfl, .inl rfl⟩⟩
      refine ⟨⟨by omega, by omega, by omega, by omega⟩, ⟨by omega, by omega, by omega, by omega⟩, ?_⟩
      rw [← g1', ← g2', ← g3']
      refine record_df (e := piece e') (Ep.keep K) S.noptr fun r h3 B3 K3 N3 => ⟨r, rfl, ?_⟩
      refine append_buf (B.keep K3) rfl rfl (by omega) fun s' h4 B4 hn4 U4 => ?_
      have hNs' : ∀ s ∈ ss ++ [r], s.a = none ∨ New h s := fun s hs => by
        rcases List.mem_append.1 hs with hs | hs
        · exact hNs s hs
        · rw [List.mem_singleton] at hs; subst hs; exact new_mono K N3
      obtain ⟨K4, N4⟩ := keep_grow (K.trans K3) hN U4
      refine ⟨⟨by omega, by omega, by omega, by omega⟩, ⟨by omega, by omega, by omega, by omega⟩, ⟨f, behind e', ss ++ [r], done ++ [recB (piece e') false], rfl, rfl, rfl, g4, T'.behind, Eb, by omega, by omega, by simpa [slV] using B4, ?_, hNs', ?_, by omega, K4, N4, ?_⟩, by dsimp only; omega⟩
      · exact RowsAt.snoc ((R.keep K3).upd U4 (B.keep K3) (by decide)) (B3.upd U4 (buf_off B3 (B.keep K3) (by decide)))
      · rw [← hput, putF_more hbig', List.append_assoc]
        rfl
      · rw [List.length_append, List.length_singleton]; omega
    · have hsm' : e'.size ≤ 256 := by omega
      have ef := front_all hsm'
      rw [ef] at S
      rw [← g1, ← g2, ← g3]
      have Ep : EdAt h e' l4 l5 l2 := E'
      refine record_dt (e := e') (Ep.keep K) S fun r h3 B3 K3 N3 => ⟨r, rfl, ?_⟩
      refine append_buf (B.keep K3) rfl rfl (by omega) fun s' h4 B4 hn4 U4 => ?_
      have hNs' : ∀ s ∈ ss ++ [r], s.a = none ∨ New h s := fun s hs => by
        rcases List.mem_append.1 hs with hs | hs
        · exact hNs s hs
        · rw [List.mem_singleton] at hs; subst hs; exact new_mono K N3
      obtain ⟨K4, N4⟩ := keep_grow (K.trans K3) hN U4
      refine hQ s' h4 (ss ++ [r]) (by simpa [slV] using B4) ?_ hNs' K4 N4
      rw [← hput, putF_last hsm', ef]
      exact RowsAt.snoc ((R.keep K3).upd U4 (B.keep K3) (by decide)) (B3.upd U4 (buf_off B3 (B.keep K3) (by decide)))
  · refine hQ ⟨none, 0, 0⟩ h [] (Buf.nil h 1 23) ?_ (fun s hs => (by cases hs)) (Keep.refl h) (.inl rfl)
    have : putS e = [] := by unfold putS; rw [if_neg (by rw [hf]; decide)]
    rw [this]
    exact RowsAt.nil h
theorem put_spec' {h : Hp} {e : Edit} {l l1 l2 : Sl} {Q : Value → Hp → Prop} (E : EdAt h e l l1 l2) (c1 : l.n ≤ l.c) (c2 : l1.n ≤ l1.c) (V : e.valid) (n1 : e.out.length + e.inn.length ≤ 1000000000000) (n3 : e.ptr.length < 9223372036854775807)
    (hQ : ∀ r h' ss, Buf h' r 1 23 (slV ss) → RowsAt h' ss (putS e) → (∀ s ∈ ss, s.a = none ∨ New h s) → Keep h h' → (r.a = none ∨ New h r) → Q (.slice r.a r.n r.c) h') : F21.T e.log e.next e.seq l l1 l2 h Q := by
  unfold F21.T
  refine tells_spec E (by omega) (by omega) n3 ⟨e.told, rfl, fun ht => ?_, fun hf => ?_⟩
  · have T := told_spec V ht
    refine ⟨fun l3 x y z l4 l5 l6 h2 => x = e.log ∧ y = e.next ∧ z = e.seq ∧ l6 = l2 ∧ ∃ f e' ss done, e'.log = e.log ∧ e'.next = e.next ∧ e'.seq = e.seq ∧ e'.ptr = e.ptr ∧ Told e' ∧ EdAt h e' l4 l5 l2 ∧ l4.n ≤ l4.c ∧ l5.n ≤ l5.c ∧ Buf h2 l3 1 23 (slV ss) ∧ RowsAt h2 ss done ∧ (∀ s ∈ ss, s.a = none ∨ New h s) ∧ done ++ putF f e' = putS e ∧ e'.out.length + e'.inn.length < f ∧ Keep h h2 ∧ (l3.a = none ∨ New h l3) ∧ done.length + (e'.out.length + e'.inn.length) ≤ e.out.length + e.inn.length,
      fun _ _ _ _ l4 l5 _ _ => l4.n + l5.n, ⟨rfl, rfl, rfl, rfl, e.out.length + e.inn.length + 1, e, [], [], rfl, rfl, rfl, rfl, T, E, c1, c2, Buf.nil h 1 23, RowsAt.nil h, fun s hs => (by cases hs), by unfold putS; rw [if_pos ht]; rfl, by omega, Keep.refl h, .inl rfl, by simp⟩, ?_⟩
    rintro l3 x y z l4 l5 l6 h2 ⟨rfl, rfl, rfl, rfl, f, e', ss, done, g1, g2, g3, g4, T', E', d1, d2, B, R, hNs, hput, hfuel, K, hN, hcnt⟩
    have k1 : iMin (l4.n : Int) 256 = ((min l4.n 256 : Nat) : Int) := iMin_nat l4.n 256
    have kw : IntKind.wrap .i64 (256 - ((min l4.n 256 : Nat) : Int)) = ((256 - min l4.n 256 : Nat) : Int) := by rw [wrap_i64 (by omega) (by omega)]; omega
    have k2 : iMin (l5.n : Int) ((256 - min l4.n 256 : Nat) : Int) = ((min l5.n (256 - min l4.n 256) : Nat) : Int) := iMin_nat _ _
    rw [k1, kw, k2]
    have Ef := ed_front E'
    have Eb := ed_behind E' d1 d2
    have no := Eb.nout
    have ni := Eb.ninn
    have n4 := E'.nout
    have n5 := E'.ninn
    have q4 : (Sl.cut l4 2 ((min l4.n 256 : Nat) : Int) (l4.n : Int) (l4.c : Int)).n = l4.n - min l4.n 256 := by simp [Sl.cut]
    have q5 : (Sl.cut l5 7 ((min l5.n (256 - min l4.n 256) : Nat) : Int) (l5.n : Int) (l5.c : Int)).n = l5.n - min l5.n (256 - min l4.n 256) := by simp [Sl.cut]
    have p4 : (Sl.cut l4 2 ((min l4.n 256 : Nat) : Int) (l4.n : Int) (l4.c : Int)).c = l4.c - min l4.n 256 := by simp [Sl.cut]
    have p5 : (Sl.cut l5 7 ((min l5.n (256 - min l4.n 256) : Nat) : Int) (l5.n : Int) (l5.c : Int)).c = l5.c - min l5.n (256 - min l4.n 256) := by simp [Sl.cut]
    have S := T'.small (by rw [g1]; exact V.log) (by rw [g2]; exact V.next) (by rw [g3]; exact V.seq)
    obtain ⟨f, rfl⟩ : ∃ g, f = g + 1 := ⟨f - 1, by omega⟩
    have hss : l3.n = ss.length := by have := B.len; rw [slV_length] at this; omega
    have hdn : ss.length = done.length := R.1
    refine ⟨⟨by omega, by omega, by omega, by omega⟩, ⟨by omega, by omega, by omega, by omega⟩, ⟨by omega, by omega, by omega, by omega⟩, ⟨by omega, by omega, by omega, by omega⟩, fun hz => ?_, fun hz => ?_⟩
    · have hz' : (behind e').out.length + (behind e').inn.length = 0 := by
        rw [wrap_i64 (by omega) (by omega)] at hz
        omega
      refine record_t' (e := front e') g1 g2 g3 (Ef.keep K) S fun r h3 B3 K3 N3 => ⟨r, rfl, ?_⟩
      refine append_buf (B.keep K3) rfl rfl (by omega) fun s' h4 B4 hn4 U4 => ?_
      have hNs' : ∀ s ∈ ss ++ [r], s.a = none ∨ New h s := fun s hs => by
        rcases List.mem_append.1 hs with hs | hs
        · exact hNs s hs
        · rw [List.mem_singleton] at hs; subst hs; exact new_mono K (.inr N3)
      obtain ⟨K4, N4⟩ := keep_grow (K.trans K3) hN U4
      refine hQ s' h4 (ss ++ [r]) (by simpa [slV] using B4) ?_ hNs' K4 N4
      rw [← hput]
      unfold putF
      rw [if_pos hz']
      exact RowsAt.snoc ((R.keep K3).upd U4 (B.keep K3) (by decide)) (B3.upd U4 (buf_off B3 (B.keep K3) (by decide)))
    · have hz' : ¬ (behind e').out.length + (behind e').inn.length = 0 := by
        rw [wrap_i64 (by omega) (by omega)] at hz
        omega
      refine record_f' (e := { front e' with ptr := [] }) g1 g2 g3 (EdAt.keep K ⟨Ef.out, Ef.inn, ⟨rfl, .inl rfl⟩⟩) S.noptr fun r h3 B3 K3 N3 => ⟨r, rfl, ?_⟩
      refine append_buf (B.keep K3) rfl rfl (by omega) fun s' h4 B4 hn4 U4 => ?_
      have hNs' : ∀ s ∈ ss ++ [r], s.a = none ∨ New h s := fun s hs => by
        rcases List.mem_append.1 hs with hs | hs
        · exact hNs s hs
        · rw [List.mem_singleton] at hs; subst hs; exact new_mono K (.inr N3)
      obtain ⟨K4, N4⟩ := keep_grow (K.trans K3) hN U4
      refine ⟨⟨rfl, rfl, rfl, rfl, f, behind e', ss ++ [r], done ++ [recB { front e' with ptr := [] } false], g1, g2, g3, g4, T'.behind, Eb, by omega, by omega, by simpa [slV] using B4, ?_, hNs', ?_, by omega, K4, N4, ?_⟩, by dsimp only; omega⟩
      · exact RowsAt.snoc ((R.keep K3).upd U4 (B.keep K3) (by decide)) (B3.upd U4 (buf_off B3 (B.keep K3) (by decide)))
      · rw [← hput]
        conv => rhs; unfold putF
        rw [if_neg hz', List.append_assoc]
        rfl
      · rw [List.length_append, List.length_singleton]; omega
  · refine hQ ⟨none, 0, 0⟩ h [] (Buf.nil h 1 23) ?_ (fun s hs => (by cases hs)) (Keep.refl h) (.inl rfl)
    have : putS e = [] := by unfold putS; rw [if_neg (by rw [hf]; decide)]
    rw [this]
    exact RowsAt.nil h
end Go.Eng.YtblghgacokoklaaDoor
end
section
/-
  SPECS OF THE WRITING, 4: a record laid into a log, by the program and by the document.
-/
set_option linter.unusedSimpArgs false
set_option linter.unusedVariables false
set_option maxRecDepth 100000
namespace Go.Eng.YtblghgacokoklaaDoor
/-- A piece's body: two bytes of length, its kind, the bytes. -/
def bodyB (k : Int) (p : List Int) : List Int := [((p.length % 256 : Nat) : Int), ((p.length / 256 % 256 : Nat) : Int), k] ++ p
def pieceB (k : Int) (p : List Int) : List Int := fourB (sumB (bodyB k p)) ++ bodyB k p
theorem pieceB_len (k : Int) (p : List Int) : (pieceB k p).length = p.length + 7 := by simp [pieceB, bodyB, fourB]
def piecesB : Nat → Nat → Bool → List Int → List Int
  | 0, _, _, _ => []
  | f + 1, p, first, r =>
    if min r.length (505 - p) = r.length then pieceB (if first then 1 else 4) r
    else pieceB (if first then 2 else 3) (r.take (min r.length (505 - p))) ++ piecesB f 0 false (r.drop (min r.length (505 - p)))
/-- What is laid for a record behind so many bytes. -/
def appB (at_ : Nat) (r : List Int) : List Int :=
  if 512 - at_ % 512 ≤ 7 then List.replicate (512 - at_ % 512) 0 ++ piecesB (r.length + 1) 0 true r else piecesB (r.length + 1) (at_ % 512) true r
theorem piecesB_len : ∀ (f p : Nat) (b : Bool) (r : List Int), p ≤ 504 → (piecesB f p b r).length ≤ 8 * r.length + 7
  | 0, _, _, r, _ => by simp [piecesB]
  | f + 1, p, b, r, hp => by
    unfold piecesB
    split
    · rw [pieceB_len]; omega
    · have h1 := piecesB_len f 0 false (r.drop (min r.length (505 - p))) (by decide)
      rw [List.length_drop] at h1
      rw [List.length_append, pieceB_len, List.length_take]
      omega
theorem appB_len (a : Nat) (r : List Int) : (appB a r).length ≤ 8 * r.length + 20 := by
  unfold appB
  split
  · have h1 := piecesB_len (r.length + 1) 0 true r (by decide)
    rw [List.length_append, List.length_replicate]; omega
  · have h1 := piecesB_len (r.length + 1) (a % 512) true r (by omega)
    omega
theorem shr64 (a k : Nat) (hk : k ≤ 64) : shrI .i64 (a : Int) (k : Int) = ((a / 2 ^ k : Nat) : Int) := by
  unfold shrI
  have h1 : min (k : Int).toNat (IntKind.bits .i64) = k := by show min (k : Int).toNat 64 = k; omega
  have h2 : (2 : Int) ^ k = ((2 ^ k : Nat) : Int) := by rw [Int.natCast_pow]; rfl
  rw [h1, h2, Int.fdiv_eq_ediv_of_nonneg _ (Int.natCast_nonneg _)]
  exact (Int.natCast_ediv a (2 ^ k)).symm
theorem head_cells (n : Nat) {k : Int} (hk : 0 ≤ k ∧ k < 256) : [Value.int .u8 (IntKind.wrap .u8 (n : Int)), .int .u8 (IntKind.wrap .u8 (shrI .i64 (n : Int) 8)), .int .u8 (IntKind.wrap .u8 k)] = bv [((n % 256 : Nat) : Int), ((n / 256 % 256 : Nat) : Int), k] := by
  have e8 := shr64 n 8 (by decide)
  simp only [show ((8 : Nat) : Int) = 8 from rfl] at e8
  rw [e8]
  simp only [IntKind.wrap_u8]
  have : k % 256 = k := Int.emod_eq_of_lt hk.1 hk.2
  rw [this]
  rfl
theorem bodyB_ok {k : Int} (hk : 0 ≤ k ∧ k < 256) {p : List Int} (hp : okB8 p) : okB8 (bodyB k p) := by
  refine okB8_app (fun c hc => ?_) hp
  simp only [List.mem_cons, List.not_mem_nil, or_false] at hc
  rcases hc with rfl | rfl | rfl <;> omega
theorem buf_lit {h : Hp} {b n : Nat} (vs : List Value) (hn : vs.length = n) : Buf (h.new b (.cells ⟨vs⟩ 5 (0, 0))) ⟨some ⟨b, 0, none⟩, n, n⟩ 1 5 vs :=
  ⟨by show vs.length = n * 1; omega, Nat.le_refl _, .inr ⟨b, _, (0, 0), rfl, by unfold Hp.new; rw [if_pos rfl], by show n * 1 ≤ vs.length; omega, fun j _ => by simp, by show vs.take vs.length = vs; exact List.take_length⟩⟩
theorem four_log {h : Hp} {x : Nat} {Q : Value → Hp → Prop} (hQ : ∀ l' h', Buf h' l' 1 5 (bv (fourB x)) → Keep h h' → New h l' → Q (.slice l'.a l'.n l'.c) h') : F122.T (x : Int) h Q := by
  refine ⟨by decide, by decide, by decide, fun b hb => ?_⟩
  rw [four_cells]
  exact hQ ⟨some ⟨b, 0, none⟩, 4, 4⟩ _ (buf_lit _ rfl) (Keep.new hb _) ⟨b, rfl, hb⟩
theorem piece_spec {h : Hp} {l : Sl} {bs : List Int} {k : Int} {Q : Value → Hp → Prop} (T : Tab h) (hr : h.row l.a l.n (bv bs)) (hok : okB8 bs) (hs : bs.length ≤ 1000000) (hk : 0 ≤ k ∧ k < 256)
    (hQ : ∀ l' h', Buf h' l' 1 5 (bv (pieceB k bs)) → Keep h h' → (l'.a = none ∨ New h l') → Q (.slice l'.a l'.n l'.c) h') : F101.T k l h Q := by
  have hln : l.n = bs.length := by have := hr.1; rw [bv_length] at this; exact this.symm
  refine ⟨by decide, fun b hb => ?_⟩
  rw [head_cells l.n hk, hln]
  have B0 : Buf (h.new b (.cells ⟨bv [((bs.length % 256 : Nat) : Int), ((bs.length / 256 % 256 : Nat) : Int), k]⟩ 5 (0, 0))) ⟨some ⟨b, 0, none⟩, 3, 3⟩ 1 5 (bv [((bs.length % 256 : Nat) : Int), ((bs.length / 256 % 256 : Nat) : Int), k]) := buf_lit _ rfl
  have k0 := Keep.new hb (.cells ⟨bv [((bs.length % 256 : Nat) : Int), ((bs.length / 256 % 256 : Nat) : Int), k]⟩ 5 (0, 0))
  have N0 : New h ⟨some ⟨b, 0, none⟩, 3, 3⟩ := ⟨b, rfl, hb⟩
  have r0 := k0.row hr
  rw [hln] at r0
  refine ⟨bv bs, by rw [Nat.mul_one]; exact r0, bv_one bs, ?_⟩
  refine append_buf B0 rfl (by rw [bv_length]; omega) (by show (3 + bs.length) * 1 ≤ _; omega) fun l1 h1 B1 hn1 U1 => ?_
  obtain ⟨K1, N1⟩ := keep_grow k0 (.inr N0) U1
  rw [← bv_append] at B1
  have hok1 := bodyB_ok hk hok
  refine sum_spec (T.keep K1) (buf_bytes B1) hok1 (by simp only [List.length_append, List.length_cons, List.length_nil]; omega) ⟨_, rfl, ?_⟩
  refine four_log fun l2 h2 B2 K2 N2 => ⟨l2, rfl, ?_⟩
  have B1' := B1.keep K2
  refine ⟨_, by rw [Nat.mul_one]; exact buf_bytes B1', bv_one _, ?_⟩
  have hl1 : l1.n = 3 + bs.length := hn1
  have hl2 : l2.n = 4 := by have := B2.len; rw [bv_length] at this; simp [fourB] at this; omega
  refine append_buf B2 rfl (by rw [bv_length]; simp only [List.length_append, List.length_cons, List.length_nil]; omega) (by omega) fun l3 h3 B3 hn3 U3 => ?_
  obtain ⟨K3, N3⟩ := keep_grow K2 (.inr N2) U3
  rw [← bv_append] at B3
  refine hQ l3 h3 B3 (K1.trans K3) ?_
  exact new_mono K1 N3
/-- A piece, as the document lays it down. -/
theorem doc_piece {h0 h : Hp} {l l2 : Sl} {k : Int} {i n : Nat} {bs done : List Int} {R : Sl → Hp → Prop} (hr : h.row l.a l.n (bv bs)) (hc : l.n ≤ l.c) (hok : okB8 bs) (hs : bs.length ≤ 1000000) (hi : i + n ≤ bs.length) (hk : 0 ≤ k ∧ k < 256)
    (B : Buf h l2 1 5 (bv done)) (hd : done.length ≤ 100000000000) (K : Keep h0 h) (N : l2.a = none ∨ New h0 l2)
    (hR : ∀ l' h', Buf h' l' 1 5 (bv (done ++ pieceB k ((bs.drop i).take n))) → Keep h0 h' → (l'.a = none ∨ New h0 l') → R l' h') :
    (0 : Int) ≤ 8 ∧ ∀ b1, h b1 = none → Sl.okCut l (i : Int) ((i + n : Nat) : Int) (l.c : Int) ∧ ∃ vs, (h.new b1 (.cells ⟨[.int .u8 (IntKind.wrap .u8 (n : Int)), .int .u8 (IntKind.wrap .u8 (shrI .i64 (n : Int) 8)), .int .u8 (IntKind.wrap .u8 k)]⟩ 5 (0, 0))).row ((Sl.cut l 1 (i : Int) ((i + n : Nat) : Int) (l.c : Int)).a) (((Sl.cut l 1 (i : Int) ((i + n : Nat) : Int) (l.c : Int)).n) * 1) vs ∧ (∀ v ∈ vs, Value.oneCell' v = true) ∧ appendD ⟨(some ⟨b1, 0, none⟩), 3, 3⟩ 5 1 1 [.int .u8 0] ((Sl.cut l 1 (i : Int) ((i + n : Nat) : Int) (l.c : Int)).n) vs (h.new b1 (.cells ⟨[.int .u8 (IntKind.wrap .u8 (n : Int)), .int .u8 (IntKind.wrap .u8 (shrI .i64 (n : Int) 8)), .int .u8 (IntKind.wrap .u8 k)]⟩ 5 (0, 0))) fun l3 h5 => F84.T l3 h5 fun r h6 => ∃ n6 : Int, r = .int .u32 n6 ∧ F83.T n6 h6 fun r1 h7 => ∃ l4 : Sl, r1 = .slice l4.a l4.n l4.c ∧ ∃ vs1, h7.row l4.a (l4.n * 1) vs1 ∧ (∀ v ∈ vs1, Value.oneCell' v = true) ∧ appendD l2 5 1 1 [.int .u8 0] l4.n vs1 h7 fun l5 h8 => ∃ vs2, h8.row l3.a (l3.n * 1) vs2 ∧ (∀ v ∈ vs2, Value.oneCell' v = true) ∧ appendD l5 5 1 1 [.int .u8 0] l3.n vs2 h8 fun l6 h9 => R l6 h9 := by
  have hln : l.n = bs.length := by have := hr.1; rw [bv_length] at this; exact this.symm
  have hl2 : l2.n = done.length := by have := B.len; rw [bv_length] at this; omega
  have hpl : ((bs.drop i).take n).length = n := by rw [List.length_take, List.length_drop]; omega
  refine ⟨by decide, fun b hb => ⟨⟨by omega, by omega, by omega, by omega⟩, ?_⟩⟩
  rw [head_cells n hk]
  have hb3 : (bv [((n % 256 : Nat) : Int), ((n / 256 % 256 : Nat) : Int), k]).length = 3 := rfl
  generalize hgen : bv [((n % 256 : Nat) : Int), ((n / 256 % 256 : Nat) : Int), k] = hd3 at hb3
  have B0 : Buf (h.new b (.cells ⟨hd3⟩ 5 (0, 0))) ⟨some ⟨b, 0, none⟩, 3, 3⟩ 1 5 hd3 := buf_lit _ hb3
  have k0 := Keep.new hb (.cells ⟨hd3⟩ 5 (0, 0))
  have N0 : New h ⟨some ⟨b, 0, none⟩, 3, 3⟩ := ⟨b, rfl, hb⟩
  have rc := cutN (sz := 1) (i := i) (j := i + n) (m := l.c) (by rw [Nat.mul_one]; exact hr) (by omega) (by omega) (by omega)
  have hcn : (Sl.cut l 1 (i : Int) ((i + n : Nat) : Int) (l.c : Int)).n = n := by simp [Sl.cut]; omega
  have ebs : ((bv bs).drop (i * 1)).take ((i + n - i) * 1) = bv ((bs.drop i).take n) := by
    rw [Nat.mul_one, Nat.mul_one, Nat.add_sub_cancel_left]; unfold bv; rw [List.map_take, List.map_drop]
  rw [ebs] at rc
  refine ⟨_, k0.row rc, bv_one _, ?_⟩
  rw [hcn]
  refine append_buf B0 rfl (by rw [bv_length]; omega) (by show (3 + n) * 1 ≤ _; omega) fun l3 h5 B3 hn3 U3 => ?_
  obtain ⟨K3, N3⟩ := keep_grow k0 (.inr N0) U3
  have ebody : hd3 ++ bv ((bs.drop i).take n) = bv (bodyB k ((bs.drop i).take n)) := by
    rw [← hgen, ← bv_append]; unfold bodyB; rw [hpl]
  rw [ebody] at B3
  have hok1 : okB8 (bodyB k ((bs.drop i).take n)) := bodyB_ok hk (ok_take (ok_drop hok i) n)
  have hbl : (bodyB k ((bs.drop i).take n)).length = n + 3 := by simp only [bodyB, List.length_append, List.length_cons, List.length_nil, hpl]; omega
  refine sum_of (buf_bytes B3) hok1 (by omega) ⟨_, rfl, ?_⟩
  refine four_of fun l4 h7 B4 K4 N4 => ⟨l4, rfl, _, by rw [Nat.mul_one]; exact buf_bytes B4, bv_one _, ?_⟩
  have hl4 : l4.n = 4 := by have := B4.len; rw [bv_length] at this; simp [fourB] at this; omega
  have hl3 : l3.n = n + 3 := by rw [hn3]; show 3 + n = n + 3; omega
  have K34 := K3.trans K4
  have B2' := B.keep K34
  refine append_buf B2' rfl (by rw [bv_length, hl4]; rfl) (by omega) fun l5 h8 B5 hn5 U5 => ?_
  obtain ⟨K5, N5⟩ := keep_grow (K.trans K34) N U5
  rw [← bv_append] at B5
  have off3 : Off l3 l2 := (new_off N3 B).2
  have B3' := (B3.keep K4).upd U5 off3
  refine ⟨_, by rw [Nat.mul_one]; exact buf_bytes B3', bv_one _, ?_⟩
  refine append_buf B5 rfl (by rw [bv_length, hbl]; omega) (by omega) fun l6 h9 B6 hn6 U6 => ?_
  obtain ⟨K6, N6⟩ := keep_grow K5 N5 U6
  rw [← bv_append, List.append_assoc] at B6
  exact hR l6 h9 B6 K6 N6
end Go.Eng.YtblghgacokoklaaDoor
end
section
/-
  SPECS OF THE WRITING, 5: the log's Append, by the program and by the document.
-/
set_option linter.unusedSimpArgs false
set_option linter.unusedVariables false
set_option maxRecDepth 100000
namespace Go.Eng.YtblghgacokoklaaDoor
theorem tmod512 (a : Nat) : Int.tmod (a : Int) 512 = ((a % 512 : Nat) : Int) := by
  rw [Int.tmod_eq_emod_of_nonneg (by omega)]; omega
theorem room_spec {h : Hp} {a : Nat} {Q : Value → Hp → Prop} (hQ : Q (.int .i64 ((512 - a % 512 : Nat) : Int)) h) : F100.T (a : Int) h Q := by
  refine ⟨by decide, ?_⟩
  rw [tmod512]
  have : IntKind.wrap .i64 (512 - ((a % 512 : Nat) : Int)) = ((512 - a % 512 : Nat) : Int) := by rw [wrap_i64 (by omega) (by omega)]; omega
  rw [this]
  exact hQ
theorem iMax0 (n : Int) : iMax n 0 = ((n.toNat : Nat) : Int) := by unfold iMax; split <;> omega
theorem zero_row (n : Nat) : (Builtin.zeroCells (List.toArray [Value.int .u8 0]) ((n : Nat) : Int).toNat) = ⟨bv (List.replicate n 0)⟩ := by
  rw [Int.toNat_natCast]
  unfold Builtin.zeroCells bv
  apply Array.ext
  · simp
  · intro i h1 h2
    simp [Nat.mod_one]
theorem lay_piece {h h2 : Hp} {l2 l3 : Sl} {k : Int} {r done : List Int} {R : Sl → Hp → Prop} (T : Tab h) (K2 : Keep h h2) (N2 : l3.a = none ∨ New h l3) (hrow : h2.row l2.a l2.n (bv r)) (hok : okB8 r) (hs : r.length ≤ 1000000) (hk : 0 ≤ k ∧ k < 256) (B2 : Buf h2 l3 1 5 (bv done)) (hd : done.length ≤ 100000000000)
    (hR : ∀ l5 h5, Buf h5 l5 1 5 (bv (done ++ pieceB k r)) → Keep h h5 → (l5.a = none ∨ New h l5) → R l5 h5) :
    F101.T k l2 h2 fun r1 h4 => ∃ l4 : Sl, r1 = .slice l4.a l4.n l4.c ∧ ∃ vs, h4.row l4.a (l4.n * 1) vs ∧ (∀ v ∈ vs, Value.oneCell' v = true) ∧ appendD l3 5 1 1 [.int .u8 0] l4.n vs h4 fun l5 h5 => R l5 h5 := by
  have h3n : l3.n = done.length := by have := B2.len; rw [bv_length] at this; omega
  refine piece_spec (T.keep K2) hrow hok hs hk fun l4 h4 B4 K4 N4 => ⟨l4, rfl, _, by rw [Nat.mul_one]; exact buf_bytes B4, bv_one _, ?_⟩
  have hl4 : l4.n = r.length + 7 := by have := B4.len; rw [bv_length, pieceB_len] at this; omega
  refine append_buf (B2.keep K4) rfl (by rw [bv_length, pieceB_len]; omega) (by omega) fun l5 h5 B5 hn5 U5 => ?_
  obtain ⟨K5, N5⟩ := keep_grow (K2.trans K4) N2 U5
  rw [← bv_append] at B5
  exact hR l5 h5 B5 K5 N5
theorem append_spec {h : Hp} {l : Sl} {n : Int} {bs : List Int} {Q : Value → Hp → Prop} (T : Tab h) (hr : h.row l.a l.n (bv bs)) (hc : l.n ≤ l.c) (hok : okB8 bs) (hs : bs.length ≤ 1000000) (hn : n ≤ 10000000000000)
    (hQ : ∀ l' h', Buf h' l' 1 5 (bv (appB n.toNat bs)) → Keep h h' → (l'.a = none ∨ New h l') → Q (.slice l'.a l'.n l'.c) h') : F66.T n l h Q := by
  have hln : l.n = bs.length := by have := hr.1; rw [bv_length] at this; exact this.symm
  unfold F66.T
  rw [iMax0]
  generalize ha : n.toNat = a at hQ
  have ha1 : a ≤ 10000000000000 := by omega
  clear hn ha n
  refine ⟨fun l1 h1 => ∃ z p, appB a bs = z ++ piecesB (bs.length + 1) p true bs ∧ p = (a + z.length) % 512 ∧ p ≤ 504 ∧ z.length ≤ 7 ∧ Buf h1 l1 1 5 (bv z) ∧ Keep h h1 ∧ (l1.a = none ∨ New h l1), ?_, ?_⟩
  · rintro l1 h1 ⟨z, p, hz, hp, hp2, hzl, B1, K1, N1⟩
    refine ⟨fun l2 l3 n1 h2 => ∃ (f p : Nat) (b : Bool) (r done : List Int), appB a bs = done ++ piecesB f p b r ∧ p = (a + done.length) % 512 ∧ p ≤ 504 ∧ r.length < f ∧ n1 = (if b then 1 else 3) ∧ okB8 r ∧ r.length ≤ bs.length ∧ done.length + 8 * r.length ≤ 8 * bs.length + 7 ∧ h.row l2.a l2.n (bv r) ∧ l2.n ≤ l2.c ∧ Buf h2 l3 1 5 (bv done) ∧ Keep h h2 ∧ (l3.a = none ∨ New h l3), fun l2 _ _ _ => l2.n, ⟨bs.length + 1, p, true, bs, z, hz, hp, hp2, by omega, rfl, hok, Nat.le_refl _, by omega, hr, hc, B1, K1, N1⟩, ?_⟩
    rintro l2 l3 n1 h2 ⟨f, p, b, r, done, hd, hp, hp2, hf, rfl, hokr, hrl, hdl, hrow, hcap, B2, K2, N2⟩
    have h2n : l2.n = r.length := by have := hrow.1; rw [bv_length] at this; exact this.symm
    have h3n : l3.n = done.length := by have := B2.len; rw [bv_length] at this; omega
    have w1' : IntKind.wrap .i64 (((a : Nat) : Int) + (l3.n : Int)) = ((a + done.length : Nat) : Int) := by
      rw [wrap_i64 (by omega) (by omega)]; omega
    rw [w1']
    refine room_spec ⟨_, rfl, ?_⟩
    rw [← hp]
    have w2 : IntKind.wrap .i64 (((512 - p : Nat) : Int) - 7) = ((505 - p : Nat) : Int) := by rw [wrap_i64 (by omega) (by omega)]; omega
    have w3 : iMin (l2.n : Int) ((505 - p : Nat) : Int) = ((min r.length (505 - p) : Nat) : Int) := by rw [iMin_nat, h2n]
    rw [w2, w3]
    obtain ⟨f, rfl⟩ : ∃ g, f = g + 1 := ⟨f - 1, by omega⟩
    unfold piecesB at hd
    refine ⟨fun hall => ?_, fun hmore => ?_⟩
    · rw [if_pos (by omega)] at hd
      refine ⟨fun h1 => ?_, fun h1 => ?_⟩
      · have hb : b = true := by cases b with
          | true => rfl
          | false => exact absurd h1 (by decide)
        subst hb
        exact lay_piece T K2 N2 (K2.row hrow) hokr (by omega) (by decide) B2 (by omega) fun l5 h5 B5 K5 N5 => hQ l5 h5 (by rw [hd]; exact B5) K5 N5
      · have hb : b = false := by cases b with
          | true => exact absurd rfl h1
          | false => rfl
        subst hb
        exact lay_piece T K2 N2 (K2.row hrow) hokr (by omega) (by decide) B2 (by omega) fun l5 h5 B5 K5 N5 => hQ l5 h5 (by rw [hd]; exact B5) K5 N5
    · rw [if_neg (by omega)] at hd
      have hm : min r.length (505 - p) = 505 - p := by omega
      have hm2 : 505 - p < r.length := by omega
      rw [hm] at hd hmore ⊢
      have c1 := cutN (sz := 1) (i := 0) (j := 505 - p) (m := l2.c) (by rw [Nat.mul_one]; exact hrow) (Nat.zero_le _) (by omega) (by omega)
      have c2 := cutN (sz := 1) (i := 505 - p) (j := l2.n) (m := l2.c) (by rw [Nat.mul_one]; exact hrow) (by omega) (by omega) (by omega)
      have n1 : (Sl.cut l2 1 0 ((505 - p : Nat) : Int) (l2.c : Int)).n = 505 - p := by simp [Sl.cut]
      have n2 : (Sl.cut l2 1 ((505 - p : Nat) : Int) (l2.n : Int) (l2.c : Int)).n = r.length - (505 - p) := by simp [Sl.cut]; omega
      have n3 : (Sl.cut l2 1 ((505 - p : Nat) : Int) (l2.n : Int) (l2.c : Int)).c = l2.c - (505 - p) := by simp [Sl.cut]
      have e1 : ((bv r).drop (0 * 1)).take ((505 - p - 0) * 1) = bv (r.take (505 - p)) := by
        rw [Nat.zero_mul, List.drop_zero, Nat.mul_one, Nat.sub_zero]; unfold bv; rw [List.map_take]
      have e2 : ((bv r).drop ((505 - p) * 1)).take ((l2.n - (505 - p)) * 1) = bv (r.drop (505 - p)) := by
        rw [List.take_of_length_le (by rw [List.length_drop, bv_length]; omega), Nat.mul_one]; unfold bv; rw [List.map_drop]
      rw [e1, Nat.mul_one] at c1
      rw [e2, Nat.mul_one] at c2
      have tl : (r.take (505 - p)).length = 505 - p := by rw [List.length_take]; omega
      have dl : (r.drop (505 - p)).length = r.length - (505 - p) := List.length_drop
      refine ⟨fun h1 => ⟨⟨by omega, by omega, by omega, by omega⟩, ?_⟩, fun h1 => ⟨⟨by omega, by omega, by omega, by omega⟩, ?_⟩⟩
      · have hb : b = true := by cases b with
          | true => rfl
          | false => exact absurd h1 (by decide)
        subst hb
        refine lay_piece T K2 N2 (K2.row c1) (ok_take hokr _) (by omega) (by decide) B2 (by omega) fun l5 h5 B5 K5 N5 => ⟨⟨by omega, by omega, by omega, by omega⟩, ⟨f, 0, false, r.drop (505 - p), done ++ pieceB 2 (r.take (505 - p)), ?_, ?_, by decide, by omega, rfl, ok_drop hokr _, by omega, ?_, c2, by omega, B5, K5, N5⟩, by dsimp only; omega⟩
        · rw [hd, List.append_assoc]; rfl
        · rw [List.length_append, pieceB_len, tl]; omega
        · rw [List.length_append, pieceB_len, tl, dl]; omega
      · have hb : b = false := by cases b with
          | true => exact absurd rfl h1
          | false => rfl
        subst hb
        refine lay_piece T K2 N2 (K2.row c1) (ok_take hokr _) (by omega) (by decide) B2 (by omega) fun l5 h5 B5 K5 N5 => ⟨⟨by omega, by omega, by omega, by omega⟩, ⟨f, 0, false, r.drop (505 - p), done ++ pieceB 3 (r.take (505 - p)), ?_, ?_, by decide, by omega, rfl, ok_drop hokr _, by omega, ?_, c2, by omega, B5, K5, N5⟩, by dsimp only; omega⟩
        · rw [hd, List.append_assoc]; rfl
        · rw [List.length_append, pieceB_len, tl]; omega
        · rw [List.length_append, pieceB_len, tl, dl]; omega
  · refine room_spec ⟨_, rfl, fun hle => ?_, fun hgt => ?_⟩
    · refine ⟨⟨by omega, Int.le_refl _, by omega⟩, fun b hb => ?_⟩
      rw [zero_row, Int.toNat_natCast]
      refine ⟨List.replicate (512 - a % 512) 0, 0, by unfold appB; rw [if_pos (by omega)], by rw [List.length_replicate]; omega, by decide, by rw [List.length_replicate]; omega, buf_lit _ (by rw [bv_length, List.length_replicate]), Keep.new hb _, .inr ⟨b, rfl, hb⟩⟩
    · exact ⟨[], a % 512, by unfold appB; rw [if_neg (by omega)]; rfl, rfl, by omega, Nat.zero_le _, Buf.nil h 1 5, Keep.refl h, .inl rfl⟩
end Go.Eng.YtblghgacokoklaaDoor
end
section
/-
  SPECS OF THE WRITING, 6: the document's Append.
-/
set_option linter.unusedSimpArgs false
set_option linter.unusedVariables false
set_option maxRecDepth 100000
namespace Go.Eng.YtblghgacokoklaaDoor
theorem append_doc {h : Hp} {l : Sl} {n : Int} {bs : List Int} {Q : Value → Hp → Prop} (hr : h.row l.a l.n (bv bs)) (hc : l.n ≤ l.c) (hok : okB8 bs) (hs : bs.length ≤ 1000000) (hn : n ≤ 10000000000000)
    (hQ : ∀ l' h', Buf h' l' 1 5 (bv (appB n.toNat bs)) → Keep h h' → (l'.a = none ∨ New h l') → Q (.slice l'.a l'.n l'.c) h') : F67.T n l h Q := by
  have hln : l.n = bs.length := by have := hr.1; rw [bv_length] at this; exact this.symm
  unfold F67.T
  refine ⟨fun n1 h1 => n1 = ((n.toNat : Nat) : Int) ∧ h1 = h, ?_, fun h0 => ⟨by omega, rfl⟩, fun h0 => ⟨by omega, rfl⟩⟩
  generalize ha : n.toNat = a at hQ ⊢
  have ha1 : a ≤ 10000000000000 := by omega
  rintro n1 h1 ⟨rfl, rfl⟩
  clear hn ha n
  refine ⟨by decide, fun n2 l1 h2 => ∃ z p, n2 = ((p : Nat) : Int) ∧ appB a bs = z ++ piecesB (bs.length + 1) p true bs ∧ p ≤ 504 ∧ z.length ≤ 7 ∧ Buf h2 l1 1 5 (bv z) ∧ Keep h1 h2 ∧ (l1.a = none ∨ New h1 l1), ?_, ?_⟩
  · rintro n2 l1 h2 ⟨z, p, rfl, hz, hp2, hzl, B1, K1, N1⟩
    refine ⟨fun n3 l2 n4 b h3 => ∃ (p i : Nat) (done : List Int), n3 = ((p : Nat) : Int) ∧ n4 = ((i : Nat) : Int) ∧ i ≤ bs.length ∧ (if b = true ∨ i < bs.length then ∃ f, bs.length - i < f ∧ appB a bs = done ++ piecesB f p b (bs.drop i) else appB a bs = done) ∧ p ≤ 504 ∧ done.length + 8 * (bs.length - i) ≤ 8 * bs.length + 20 ∧ Buf h3 l2 1 5 (bv done) ∧ Keep h1 h3 ∧ (l2.a = none ∨ New h1 l2) ∧ (b = true → i = 0 ∧ done.length ≤ 7), fun _ _ n4 b _ => (bs.length - n4.toNat) + (if b then 1 else 0), ⟨p, 0, z, rfl, rfl, Nat.zero_le _, by rw [if_pos (.inl rfl)]; exact ⟨bs.length + 1, by omega, hz⟩, hp2, by omega, B1, K1, N1, fun _ => ⟨rfl, hzl⟩⟩, ?_⟩
    intro n3 l2 n4
    refine ⟨?_, ?_⟩
    · rintro h3 ⟨p, i, done, rfl, rfl, hi, hd, hp, hlen, B3, K3, N3, hb⟩
      obtain ⟨hi0, hd7⟩ := hb rfl
      rw [if_pos (.inl rfl)] at hd
      obtain ⟨f, hf, hd⟩ := hd
      have w1 : IntKind.wrap .i64 ((l.n : Int) - ((i : Nat) : Int)) = ((bs.length - i : Nat) : Int) := by rw [wrap_i64 (by omega) (by omega)]; omega
      have w2' : IntKind.wrap .i64 (512 - ((p : Nat) : Int)) = 512 - ((p : Nat) : Int) := wrap_i64 (by omega) (by omega)
      have w2 : IntKind.wrap .i64 (IntKind.wrap .i64 (512 - ((p : Nat) : Int)) - 7) = ((505 - p : Nat) : Int) := by rw [w2', wrap_i64 (by omega) (by omega)]; omega
      rw [w1, w2]
      obtain ⟨f, rfl⟩ : ∃ g, f = g + 1 := ⟨f - 1, by omega⟩
      unfold piecesB at hd
      rw [List.length_drop] at hd
      refine ⟨fun n5 h4 => n5 = ((min (bs.length - i) (505 - p) : Nat) : Int) ∧ h4 = h3, ?_, fun hlt => ⟨by omega, rfl⟩, fun hge => ⟨by omega, rfl⟩⟩
      rintro n5 h4 ⟨rfl, rfl⟩
      have w3 : IntKind.wrap .i64 (((i : Nat) : Int) + ((min (bs.length - i) (505 - p) : Nat) : Int)) = ((i + min (bs.length - i) (505 - p) : Nat) : Int) := by rw [wrap_i64 (by omega) (by omega)]; omega
      rw [w3]
      refine ⟨fun hall => ?_, fun hmore => ?_⟩
      · have hm : min (bs.length - i) (505 - p) = bs.length - i := by omega
        rw [if_pos hm] at hd
        refine doc_piece (K3.row hr) hc hok hs (by omega) (by decide) B3 (by omega) K3 N3 fun l' h' B K N => ⟨⟨0, i + min (bs.length - i) (505 - p), _, rfl, rfl, by omega, ?_, by decide, ?_, B, K, N, fun h0 => (by cases h0)⟩, ?_⟩
        · rw [if_neg (by rw [hm]; simp; omega), hm, List.take_of_length_le (by rw [List.length_drop]; omega)]
          exact hd
        · rw [List.length_append, pieceB_len, List.length_take, List.length_drop]; omega
        · simp only [Int.toNat_natCast, if_true, if_false, Bool.false_eq_true]; omega
      · have hm : min (bs.length - i) (505 - p) = 505 - p := by omega
        rw [if_neg (by omega)] at hd
        refine doc_piece (K3.row hr) hc hok hs (by omega) (by decide) B3 (by omega) K3 N3 fun l' h' B K N => ⟨⟨0, i + min (bs.length - i) (505 - p), _, rfl, rfl, by omega, ?_, by decide, ?_, B, K, N, fun h0 => (by cases h0)⟩, ?_⟩
        · rw [if_pos (.inr (by omega))]
          refine ⟨f, by omega, ?_⟩
          rw [hd, List.append_assoc, List.drop_drop]; rfl
        · rw [List.length_append, pieceB_len, List.length_take, List.length_drop]; omega
        · simp only [Int.toNat_natCast, if_true, if_false, Bool.false_eq_true]; omega
    · rintro h3 ⟨p, i, done, rfl, rfl, hi, hd, hp, hlen, B3, K3, N3, -⟩
      refine ⟨fun hlt => ?_, fun hge => ?_⟩
      · rw [if_pos (.inr (by omega))] at hd
        obtain ⟨f, hf, hd⟩ := hd
        have w1 : IntKind.wrap .i64 ((l.n : Int) - ((i : Nat) : Int)) = ((bs.length - i : Nat) : Int) := by rw [wrap_i64 (by omega) (by omega)]; omega
        have w2' : IntKind.wrap .i64 (512 - ((p : Nat) : Int)) = 512 - ((p : Nat) : Int) := wrap_i64 (by omega) (by omega)
        have w2 : IntKind.wrap .i64 (IntKind.wrap .i64 (512 - ((p : Nat) : Int)) - 7) = ((505 - p : Nat) : Int) := by rw [w2', wrap_i64 (by omega) (by omega)]; omega
        rw [w1, w2]
        obtain ⟨f, rfl⟩ : ∃ g, f = g + 1 := ⟨f - 1, by omega⟩
        unfold piecesB at hd
        rw [List.length_drop] at hd
        refine ⟨fun n5 h4 => n5 = ((min (bs.length - i) (505 - p) : Nat) : Int) ∧ h4 = h3, ?_, fun hlt => ⟨by omega, rfl⟩, fun hge => ⟨by omega, rfl⟩⟩
        rintro n5 h4 ⟨rfl, rfl⟩
        have w3 : IntKind.wrap .i64 (((i : Nat) : Int) + ((min (bs.length - i) (505 - p) : Nat) : Int)) = ((i + min (bs.length - i) (505 - p) : Nat) : Int) := by rw [wrap_i64 (by omega) (by omega)]; omega
        rw [w3]
        refine ⟨fun hall => ?_, fun hmore => ?_⟩
        · have hm : min (bs.length - i) (505 - p) = bs.length - i := by omega
          rw [if_pos hm] at hd
          refine doc_piece (K3.row hr) hc hok hs (by omega) (by decide) B3 (by omega) K3 N3 fun l' h' B K N => ⟨⟨0, i + min (bs.length - i) (505 - p), _, rfl, rfl, by omega, ?_, by decide, ?_, B, K, N, fun h0 => (by cases h0)⟩, ?_⟩
          · rw [if_neg (by rw [hm]; simp; omega), hm, List.take_of_length_le (by rw [List.length_drop]; omega)]
            exact hd
          · rw [List.length_append, pieceB_len, List.length_take, List.length_drop]; omega
          · simp only [Int.toNat_natCast, if_true, if_false, Bool.false_eq_true]; omega
        · have hm : min (bs.length - i) (505 - p) = 505 - p := by omega
          rw [if_neg (by omega)] at hd
          refine doc_piece (K3.row hr) hc hok hs (by omega) (by decide) B3 (by omega) K3 N3 fun l' h' B K N => ⟨⟨0, i + min (bs.length - i) (505 - p), _, rfl, rfl, by omega, ?_, by decide, ?_, B, K, N, fun h0 => (by cases h0)⟩, ?_⟩
          · rw [if_pos (.inr (by omega))]
            refine ⟨f, by omega, ?_⟩
            rw [hd, List.append_assoc, List.drop_drop]; rfl
          · rw [List.length_append, pieceB_len, List.length_take, List.length_drop]; omega
          · simp only [Int.toNat_natCast, if_true, if_false, Bool.false_eq_true]; omega
      · rw [if_neg (by simp; omega)] at hd
        exact hQ l2 h3 (by rw [hd]; exact B3) K3 N3
  · have w0 : IntKind.wrap .i64 (512 - Int.tmod ((a : Nat) : Int) 512) = ((512 - a % 512 : Nat) : Int) := by rw [tmod512, wrap_i64 (by omega) (by omega)]; omega
    rw [w0, tmod512]
    refine ⟨fun hlt => ?_, fun hge => ?_⟩
    · refine ⟨fun n11 l19 h26 => ∃ (k : Nat), n11 = ((a % 512 + k : Nat) : Int) ∧ a % 512 + k ≤ 512 ∧ Buf h26 l19 1 5 (bv (List.replicate k 0)) ∧ Keep h1 h26 ∧ (l19.a = none ∨ New h1 l19), fun n11 _ _ => 512 - n11.toNat, ⟨0, rfl, by omega, Buf.nil h1 1 5, Keep.refl h1, .inl rfl⟩, ?_⟩
      rintro n11 l19 h26 ⟨k, rfl, hk, B1, K1, N1⟩
      have hln1 : l19.n = k := by have := B1.len; rw [bv_length, List.length_replicate] at this; omega
      refine ⟨fun hlt1 => ?_, fun hge1 => ?_⟩
      · refine append_buf B1 rfl rfl (by omega) fun l5 h5 B5 hn5 U5 => ?_
        obtain ⟨K5, N5⟩ := keep_grow K1 N1 U5
        have w : IntKind.wrap .i64 (((a % 512 + k : Nat) : Int) + 1) = ((a % 512 + (k + 1) : Nat) : Int) := by rw [wrap_i64 (by omega) (by omega)]; omega
        rw [w]
        refine ⟨⟨k + 1, rfl, by omega, ?_, K5, N5⟩, by dsimp only; omega⟩
        have e : bv (List.replicate k 0) ++ [Value.int .u8 0] = bv (List.replicate (k + 1) 0) := by
          rw [List.replicate_succ', bv_append]; rfl
        rw [← e]; exact B5
      · have hk2 : k = 512 - a % 512 := by omega
        subst hk2
        exact ⟨List.replicate (512 - a % 512) 0, 0, rfl, by unfold appB; rw [if_pos (by omega)], by decide, by rw [List.length_replicate]; omega, B1, K1, N1⟩
    · exact ⟨[], a % 512, rfl, by unfold appB; rw [if_neg (by omega)]; rfl, by omega, Nat.zero_le _, Buf.nil h1 1 5, Keep.refl h1, .inl rfl⟩
end Go.Eng.YtblghgacokoklaaDoor
end
section
/-
  SPECS OF THE WRITING, 7: a manifest's Bytes, by the program and by the document.
-/
set_option linter.unusedSimpArgs false
set_option linter.unusedVariables false
set_option maxRecDepth 100000
namespace Go.Eng.YtblghgacokoklaaDoor
theorem encUs_ok (l : List Int) : okB8 (encUs l) := by
  intro c hc
  obtain ⟨n, _, hn⟩ := List.mem_flatMap.1 hc
  exact encU_ok _ c hn
theorem encT_ok (s : ByteArray) : okB8 (encT s) := okB8_app (encU_ok _) (bI_ok s)
theorem flatMap_ok {α : Type} (f : α → List Int) (hf : ∀ x, okB8 (f x)) (l : List α) : okB8 (l.flatMap f) := by
  intro c hc
  obtain ⟨n, _, hn⟩ := List.mem_flatMap.1 hc
  exact hf n c hn
theorem recB_ok (e : Edit) (b : Bool) : okB8 (recB e b) := by
  unfold recB
  intro c hc
  rcases List.mem_cons.1 hc with rfl | hc
  · cases b <;> decide
  · exact okB8_app (okB8_app (okB8_app (okB8_app (okB8_app (encUs_ok _) (flatMap_ok _ (fun p => encUs_ok _) _)) (encUs_ok _)) (flatMap_ok _ (fun p => okB8_app (okB8_app (encUs_ok _) (encT_ok _)) (encT_ok _)) _)) (encUs_ok _)) (flatMap_ok _ encT_ok _) c hc
theorem recB_len {e : Edit} (S : e.small) (b : Bool) : (recB e b).length ≤ 100000 + 200 * 1000 + 74 * 1000 := by
  have h1 := encUs_length [e.log, e.next, e.seq, (e.out.length : Int)]
  have h2 := encUs_length [(e.inn.length : Int)]
  have h3 := encUs_length [(e.ptr.length : Int)]
  have h4 : (e.out.flatMap Place.enc).length ≤ 20 * e.out.length := flatMap_le Place.enc 20 _ fun p _ => p.enc_length
  have h5 : (e.inn.flatMap Placed.enc).length ≤ 200 * e.inn.length := flatMap_le Placed.enc 200 _ fun p hp => placed_len (S.inn p hp)
  have h6 : (e.ptr.flatMap encT).length ≤ 74 * e.ptr.length := flatMap_le encT 74 _ fun p hp => encT_length (S.ptr p hp)
  have := S.nout
  have := S.ninn
  have := S.nptr
  unfold recB
  simp only [List.length_cons, List.length_append, List.length_nil] at h1 h2 h3 ⊢
  omega
theorem putF_recs : ∀ (f : Nat) (e : Edit), Told e → okU e.log → okU e.next → okU e.seq → (putF f e).length ≤ e.size + 1 ∧ ∀ r ∈ putF f e, okB8 r ∧ r.length ≤ 400000
  | 0, e, _, _, _, _ => ⟨Nat.zero_le _, fun r hr => (by cases hr)⟩
  | f + 1, e, T, h1, h2, h3 => by
    have S := T.small h1 h2 h3
    by_cases hsz : e.size ≤ 256
    · rw [putF_last hsz]
      refine ⟨by simp, fun r hr => ?_⟩
      rw [List.mem_singleton] at hr
      subst hr
      exact ⟨recB_ok _ _, by have := recB_len S true; omega⟩
    · rw [putF_more (by omega)]
      obtain ⟨i1, i2⟩ := putF_recs f (behind e) T.behind h1 h2 h3
      rw [behind_size] at i1
      refine ⟨by rw [List.length_cons]; omega, fun r hr => ?_⟩
      rcases List.mem_cons.1 hr with rfl | hr
      · exact ⟨recB_ok _ _, by have := recB_len S.noptr false; exact Nat.le_trans this (by decide)⟩
      · exact i2 r hr
theorem putS_recs {e : Edit} (V : e.valid) : (putS e).length ≤ e.size + 1 ∧ ∀ r ∈ putS e, okB8 r ∧ r.length ≤ 400000 := by
  unfold putS
  split
  · rename_i h
    exact putF_recs _ e (told_spec V h) V.log V.next V.seq
  · exact ⟨Nat.zero_le _, fun r hr => (by cases hr)⟩
def bytesF (a : Nat) : List Int → List (List Int) → List Int
  | o, [] => o
  | o, r :: rs => bytesF a (o ++ appB (a + o.length) r) rs
theorem bytesF_cons (a : Nat) (o r : List Int) (rs : List (List Int)) : bytesF a o (r :: rs) = bytesF a (o ++ appB (a + o.length) r) rs := rfl
def szs (L : List EdS) : Nat := (L.map fun x => x.e.size + 1).sum
theorem szs_cons (x : EdS) (L : List EdS) : szs (x :: L) = x.e.size + 1 + szs L := by simp [szs]
/-- What edits' lists are, in memory. -/
structure Eds (h : Hp) (l : Sl) (L : List EdS) : Prop where
  row : h.row l.a (l.n * 6) (edV L)
  at_ : ∀ x ∈ L, EdAt h x.e x.a x.b x.c
  cap : ∀ x ∈ L, x.a.n ≤ x.a.c ∧ x.b.n ≤ x.b.c
  val : ∀ x ∈ L, x.e.valid
  few : parts L ≤ 100000
theorem Eds.keep {h h' : Hp} (k : Keep h h') {l : Sl} {L : List EdS} (A : Eds h l L) : Eds h' l L := ⟨k.row A.row, fun x hx => (A.at_ x hx).keep k, A.cap, A.val, A.few⟩
theorem Eds.n {h : Hp} {l : Sl} {L : List EdS} (A : Eds h l L) : l.n = L.length := by
  have h1 := A.row.1
  rw [edV_len] at h1
  omega
theorem drop_get {α : Type} {l : List α} {i : Nat} (h : i < l.length) : l.drop i = l[i] :: l.drop (i + 1) := List.drop_eq_getElem_cons h
theorem szs_le : ∀ L : List EdS, szs L ≤ parts L
  | [] => Nat.le_refl _
  | x :: L => by
    have := szs_le L
    rw [szs_cons, parts_cons]
    unfold Edit.size
    omega
theorem Eds.cells {h : Hp} {l : Sl} {L : List EdS} (A : Eds h l L) {i : Nat} (hi : i < L.length) : ∃ b o, l.a = some ⟨b, o, none⟩ ∧ ((0 : Int) ≤ (i : Int) ∧ (i : Int) < (l.n : Int)) ∧ h.at b (o + (i : Int).toNat * 6) = some (.int .u64 L[i].e.log) ∧ h.at b ((o + (i : Int).toNat * 6) + 1) = some (.int .u64 L[i].e.next) ∧ h.at b ((o + (i : Int).toNat * 6) + 2) = some (.int .u64 L[i].e.seq) ∧ h.at b ((o + (i : Int).toNat * 6) + 3) = some (.slice L[i].a.a L[i].a.n L[i].a.c) ∧ h.at b ((o + (i : Int).toNat * 6) + 4) = some (.slice L[i].b.a L[i].b.n L[i].b.c) ∧ h.at b ((o + (i : Int).toNat * 6) + 5) = some (.slice L[i].c.a L[i].c.n L[i].c.c) := by
  have hn := A.n
  obtain ⟨b, o, ha, hat⟩ := row_get A.row (i := i * 6) (by omega)
  have c : ∀ j, j < 6 → h.at b ((o + (i : Int).toNat * 6) + j) = (EdS.cells L[i])[j]? := fun j hj => by
    rw [Int.toNat_natCast, Nat.add_assoc, hat _ (by omega)]
    exact flat_get EdS.cells 6 (fun _ => rfl) L i j hi hj
  exact ⟨b, o, ha, ⟨by omega, by omega⟩, c 0 (by decide), c 1 (by decide), c 2 (by decide), c 3 (by decide), c 4 (by decide), c 5 (by decide)⟩
theorem bytes_len {a : Nat} : ∀ (rs : List (List Int)) (o : List Int), (∀ r ∈ rs, r.length ≤ 400000) → (bytesF a o rs).length ≤ o.length + 4000000 * rs.length
  | [], o, _ => by simp [bytesF]
  | r :: rs, o, h => by
    unfold bytesF
    have h1 := appB_len (a + o.length) r
    have h2 := h r List.mem_cons_self
    have h3 := bytes_len (a := a) rs (o ++ appB (a + o.length) r) fun r' hr => h r' (List.mem_cons_of_mem _ hr)
    rw [List.length_append] at h3
    rw [List.length_cons]
    omega
theorem allput {L : List EdS} (hv : ∀ x ∈ L, x.e.valid) : ((L.flatMap fun x => putS x.e).length ≤ szs L) ∧ ∀ r ∈ L.flatMap fun x => putS x.e, okB8 r ∧ r.length ≤ 400000 := by
  refine ⟨?_, fun r hr => ?_⟩
  · induction L with
    | nil => exact Nat.le_refl _
    | cons x L ih =>
      have h1 := ih fun y hy => hv y (List.mem_cons_of_mem _ hy)
      have h2 := (putS_recs (hv x List.mem_cons_self)).1
      rw [List.flatMap_cons, List.length_append, szs_cons]
      omega
  · obtain ⟨x, hx, hr⟩ := List.mem_flatMap.1 hr
    exact (putS_recs (hv x hx)).2 r hr
theorem bytes_spec {h : Hp} {l : Sl} {n : Int} {L : List EdS} {Q : Value → Hp → Prop} (T : Tab h) (A : Eds h l L) (hn : n ≤ 2000000000000)
    (hQ : ∀ l' h', Buf h' l' 1 5 (bv (bytesF n.toNat [] (L.flatMap fun x => putS x.e))) → Keep h h' → (l'.a = none ∨ New h l') → Q (.slice l'.a l'.n l'.c) h') : F23.T n l h Q := by
  have hln := A.n
  have hfew := A.few
  have hsz := szs_le L
  have hpl := parts_len L
  obtain ⟨hall, hrec⟩ := allput A.val
  unfold F23.T
  rw [iMax0]
  generalize ha : n.toNat = a at hQ
  have ha1 : a ≤ 2000000000000 := by omega
  clear hn ha n
  refine ⟨fun l1 n1 h1 => ∃ (i : Nat) (done : List Int), n1 = (i : Int) ∧ i ≤ L.length ∧ bytesF a done ((L.drop i).flatMap fun x => putS x.e) = bytesF a [] (L.flatMap fun x => putS x.e) ∧ done.length + 4000000 * ((L.drop i).flatMap fun x => putS x.e).length ≤ 4000000 * (L.flatMap fun x => putS x.e).length ∧ Buf h1 l1 1 5 (bv done) ∧ Keep h h1 ∧ (l1.a = none ∨ New h l1), fun _ n1 _ => L.length - n1.toNat, ⟨0, [], rfl, Nat.zero_le _, rfl, by simp, Buf.nil h 1 5, Keep.refl h, .inl rfl⟩, ?_⟩
  rintro l1 n1 h1 ⟨i, done, rfl, hi, hd, hlen, B1, K1, N1⟩
  refine ⟨fun hlt => ?_, fun hge => ?_⟩
  · have hi1 : i < L.length := by omega
    have hx := List.getElem_mem hi1
    obtain ⟨b, o, hb, hbd, c0, c1, c2, c3, c4, c5⟩ := (A.keep K1).cells hi1
    have hp := parts_mem hx
    refine ⟨b, o, hb, hbd, _, c0, _, c1, _, c2, _, c3, _, c4, _, c5, ?_⟩
    refine put_spec' ((A.at_ _ hx).keep K1) (A.cap _ hx).1 (A.cap _ hx).2 (A.val _ hx) (by omega) (by omega) fun r h2 ss B2 R2 hNs K2 N2 => ⟨r, rfl, ?_⟩
    have hrn : r.n = (putS L[i].e).length := by have := B2.len; rw [slV_length, R2.1] at this; omega
    rw [drop_get hi1, List.flatMap_cons] at hd hlen
    obtain ⟨hpn, hpr⟩ := putS_recs (A.val _ hx)
    have hszm : L[i].e.size + 1 ≤ parts L := by unfold Edit.size; omega
    refine ⟨fun l6 n5 h3 => ∃ (j : Nat) (done : List Int), n5 = (j : Int) ∧ j ≤ (putS L[i].e).length ∧ bytesF a done ((putS L[i].e).drop j ++ (L.drop (i + 1)).flatMap fun x => putS x.e) = bytesF a [] (L.flatMap fun x => putS x.e) ∧ done.length + 4000000 * ((putS L[i].e).drop j ++ (L.drop (i + 1)).flatMap fun x => putS x.e).length ≤ 4000000 * (L.flatMap fun x => putS x.e).length ∧ Buf h3 l6 1 5 (bv done) ∧ Upd h2 h3 l1 l6, fun _ n5 _ => (putS L[i].e).length - n5.toNat, ⟨0, done, rfl, Nat.zero_le _, hd, hlen, B1.keep K2, Upd.refl _ _⟩, ?_⟩
    rintro l6 n5 h3 ⟨j, done, rfl, hj, hd, hlen, B3, U3⟩
    obtain ⟨K3, N3⟩ := keep_grow (K1.trans K2) N1 U3
    refine ⟨fun hlt5 => ?_, fun hge5 => ?_⟩
    · have hj1 : j < (putS L[i].e).length := by omega
      have hj2 : j < ss.length := by have := R2.1; omega
      have B2' := B2.upd U3 (buf_off B2 (B1.keep K2) (by decide))
      obtain ⟨b1, o1, ha1', hat⟩ := row_get B2'.row (i := j) (by rw [Nat.mul_one]; omega)
      have Rj := (R2.2 j hj2 hj1).upd U3 (new_off (hNs _ (List.getElem_mem hj2)) B1).2
      have hrj := hpr _ (List.getElem_mem hj1)
      rw [drop_get hj1, List.cons_append] at hd hlen
      rw [bytesF_cons] at hd
      rw [List.length_cons] at hlen
      have hl6 : l6.n = done.length := by have := B3.len; rw [bv_length] at this; omega
      have w : IntKind.wrap .i64 (((a : Nat) : Int) + (l6.n : Int)) = ((a + done.length : Nat) : Int) := by rw [wrap_i64 (by omega) (by omega)]; omega
      refine ⟨b1, o1, ha1', ⟨by omega, hlt5⟩, ss[j], by rw [Int.toNat_natCast, hat j (by omega)]; simp [slV, hj2], ?_⟩
      rw [w]
      refine append_spec (T.keep K3) (buf_bytes Rj) Rj.cap hrj.1 (by omega) (by omega) fun l8 h4 B4 K4 N4 => ⟨l8, rfl, _, by rw [Nat.mul_one]; exact buf_bytes B4, bv_one _, ?_⟩
      rw [Int.toNat_natCast] at B4 ⊢
      have hal := appB_len (a + done.length) (putS L[i].e)[j]
      have hl8 : l8.n = (appB (a + done.length) (putS L[i].e)[j]).length := by have := B4.len; rw [bv_length] at this; omega
      refine append_buf (B3.keep K4) rfl (by rw [bv_length]; omega) (by omega) fun l9 h5 B5 hn5 U5 => ?_
      rw [← bv_append] at B5
      have wj : IntKind.wrap .i64 ((j : Int) + 1) = ((j + 1 : Nat) : Int) := by rw [wrap_i64 (by omega) (by omega)]; omega
      rw [wj]
      refine ⟨⟨j + 1, _, rfl, hj1, hd, ?_, B5, (U3.trans (Upd.of_keep K4 l6)).trans U5⟩, by dsimp only; omega⟩
      rw [List.length_append]; omega
    · rw [List.drop_of_length_le (by omega), List.nil_append] at hd hlen
      have wi : IntKind.wrap .i64 ((i : Int) + 1) = ((i + 1 : Nat) : Int) := by rw [wrap_i64 (by omega) (by omega)]; omega
      rw [wi]
      exact ⟨⟨i + 1, done, rfl, hi1, hd, hlen, B3, K3, N3⟩, by dsimp only; omega⟩
  · rw [List.drop_of_length_le (by omega)] at hd
    exact hQ l1 h1 (by rw [← hd]; exact B1) K1 N1
theorem bytes_doc {h : Hp} {l : Sl} {n : Int} {L : List EdS} {Q : Value → Hp → Prop} (A : Eds h l L) (hn : n ≤ 2000000000000)
    (hQ : ∀ l' h', Buf h' l' 1 5 (bv (bytesF n.toNat [] (L.flatMap fun x => putS x.e))) → Keep h h' → (l'.a = none ∨ New h l') → Q (.slice l'.a l'.n l'.c) h') : F24.T n l h Q := by
  have hln := A.n
  have hfew := A.few
  have hsz := szs_le L
  have hpl := parts_len L
  obtain ⟨hall, hrec⟩ := allput A.val
  unfold F24.T
  refine ⟨fun n1 h1 => n1 = ((n.toNat : Nat) : Int) ∧ h = h1, ?_, fun h0 => ⟨by omega, rfl⟩, fun h0 => ⟨by omega, rfl⟩⟩
  generalize ha : n.toNat = a at hQ ⊢
  have ha1 : a ≤ 2000000000000 := by omega
  rintro n1 h1 ⟨rfl, he⟩
  cases he
  clear hn ha n
  refine ⟨fun l1 n1 h1 => ∃ (i : Nat) (done : List Int), n1 = (i : Int) ∧ i ≤ L.length ∧ bytesF a done ((L.drop i).flatMap fun x => putS x.e) = bytesF a [] (L.flatMap fun x => putS x.e) ∧ done.length + 4000000 * ((L.drop i).flatMap fun x => putS x.e).length ≤ 4000000 * (L.flatMap fun x => putS x.e).length ∧ Buf h1 l1 1 5 (bv done) ∧ Keep h h1 ∧ (l1.a = none ∨ New h l1), fun _ n1 _ => L.length - n1.toNat, ⟨0, [], rfl, Nat.zero_le _, rfl, by simp, Buf.nil h 1 5, Keep.refl h, .inl rfl⟩, ?_⟩
  rintro l1 n1 h1 ⟨i, done, rfl, hi, hd, hlen, B1, K1, N1⟩
  refine ⟨fun hlt => ?_, fun hge => ?_⟩
  · have hi1 : i < L.length := by omega
    have hx := List.getElem_mem hi1
    obtain ⟨b, o, hb, hbd, c0, c1, c2, c3, c4, c5⟩ := (A.keep K1).cells hi1
    have hp := parts_mem hx
    refine ⟨b, o, hb, hbd, _, c0, _, c1, _, c2, _, c3, _, c4, _, c5, ?_⟩
    refine put_doc ((A.at_ _ hx).keep K1) (A.cap _ hx).1 (A.cap _ hx).2 (A.val _ hx) (by omega) (by omega) fun r h2 ss B2 R2 hNs K2 N2 => ⟨r, rfl, ?_⟩
    have hrn : r.n = (putS L[i].e).length := by have := B2.len; rw [slV_length, R2.1] at this; omega
    rw [drop_get hi1, List.flatMap_cons] at hd hlen
    obtain ⟨hpn, hpr⟩ := putS_recs (A.val _ hx)
    have hszm : L[i].e.size + 1 ≤ parts L := by unfold Edit.size; omega
    refine ⟨fun l6 n5 h3 => ∃ (j : Nat) (done : List Int), n5 = (j : Int) ∧ j ≤ (putS L[i].e).length ∧ bytesF a done ((putS L[i].e).drop j ++ (L.drop (i + 1)).flatMap fun x => putS x.e) = bytesF a [] (L.flatMap fun x => putS x.e) ∧ done.length + 4000000 * ((putS L[i].e).drop j ++ (L.drop (i + 1)).flatMap fun x => putS x.e).length ≤ 4000000 * (L.flatMap fun x => putS x.e).length ∧ Buf h3 l6 1 5 (bv done) ∧ Upd h2 h3 l1 l6, fun _ n5 _ => (putS L[i].e).length - n5.toNat, ⟨0, done, rfl, Nat.zero_le _, hd, hlen, B1.keep K2, Upd.refl _ _⟩, ?_⟩
    rintro l6 n5 h3 ⟨j, done, rfl, hj, hd, hlen, B3, U3⟩
    obtain ⟨K3, N3⟩ := keep_grow (K1.trans K2) N1 U3
    refine ⟨fun hlt5 => ?_, fun hge5 => ?_⟩
    · have hj1 : j < (putS L[i].e).length := by omega
      have hj2 : j < ss.length := by have := R2.1; omega
      have B2' := B2.upd U3 (buf_off B2 (B1.keep K2) (by decide))
      obtain ⟨b1, o1, ha1', hat⟩ := row_get B2'.row (i := j) (by rw [Nat.mul_one]; omega)
      have Rj := (R2.2 j hj2 hj1).upd U3 (new_off (hNs _ (List.getElem_mem hj2)) B1).2
      have hrj := hpr _ (List.getElem_mem hj1)
      rw [drop_get hj1, List.cons_append] at hd hlen
      rw [bytesF_cons] at hd
      rw [List.length_cons] at hlen
      have hl6 : l6.n = done.length := by have := B3.len; rw [bv_length] at this; omega
      have w : IntKind.wrap .i64 (((a : Nat) : Int) + (l6.n : Int)) = ((a + done.length : Nat) : Int) := by rw [wrap_i64 (by omega) (by omega)]; omega
      refine ⟨b1, o1, ha1', ⟨by omega, hlt5⟩, ss[j], by rw [Int.toNat_natCast, hat j (by omega)]; simp [slV, hj2], ?_⟩
      rw [w]
      refine append_doc (buf_bytes Rj) Rj.cap hrj.1 (by omega) (by omega) fun l8 h4 B4 K4 N4 => ⟨l8, rfl, _, by rw [Nat.mul_one]; exact buf_bytes B4, bv_one _, ?_⟩
      rw [Int.toNat_natCast] at B4 ⊢
      have hal := appB_len (a + done.length) (putS L[i].e)[j]
      have hl8 : l8.n = (appB (a + done.length) (putS L[i].e)[j]).length := by have := B4.len; rw [bv_length] at this; omega
      refine append_buf (B3.keep K4) rfl (by rw [bv_length]; omega) (by omega) fun l9 h5 B5 hn5 U5 => ?_
      rw [← bv_append] at B5
      have wj : IntKind.wrap .i64 ((j : Int) + 1) = ((j + 1 : Nat) : Int) := by rw [wrap_i64 (by omega) (by omega)]; omega
      rw [wj]
      refine ⟨⟨j + 1, _, rfl, hj1, hd, ?_, B5, (U3.trans (Upd.of_keep K4 l6)).trans U5⟩, by dsimp only; omega⟩
      rw [List.length_append]; omega
    · rw [List.drop_of_length_le (by omega), List.nil_append] at hd hlen
      have wi : IntKind.wrap .i64 ((i : Int) + 1) = ((i + 1 : Nat) : Int) := by rw [wrap_i64 (by omega) (by omega)]; omega
      rw [wi]
      exact ⟨⟨i + 1, done, rfl, hi1, hd, hlen, B3, K3, N3⟩, by dsimp only; omega⟩
  · rw [List.drop_of_length_le (by omega)] at hd
    exact hQ l1 h1 (by rw [← hd]; exact B1) K1 N1
end Go.Eng.YtblghgacokoklaaDoor
end
section
/-
  SPECS OF THE ROOM, 1: one list laid with room behind it, of any kind.
-/
set_option linter.unusedSimpArgs false
set_option linter.unusedVariables false
set_option maxRecDepth 100000
namespace Go.Eng.YtblghgacokoklaaDoor
def marks (mk : Nat → List Value) (k : Nat) : List Value := (List.range k).flatMap mk
theorem marks_succ (mk : Nat → List Value) (k : Nat) : marks mk (k + 1) = marks mk k ++ mk k := by unfold marks; rw [List.range_succ, List.flatMap_append]; simp
theorem marks_len {mk : Nat → List Value} {sz : Nat} (h : ∀ j, (mk j).length = sz) (k : Nat) : (marks mk k).length = k * sz := by
  unfold marks; rw [flat_length mk sz h, List.length_range]
def lensV (ks : List Nat) : List Value := ks.map fun k => Value.int .i64 ((k : Nat) : Int)
theorem lensV_len (ks : List Nat) : (lensV ks).length = ks.length := List.length_map _
/-- The lists of one kind that a room has laid. -/
structure ColF {α : Type} (h0 h : Hp) (w n : Sl) (tw t sz : Nat) (f : α → List Value) (mk : Nat → List Value) (F : List (Sl × List α)) : Prop where
  W : Buf h w 1 tw (slV (F.map (·.1)))
  N : Buf h n 1 3 (lensV (F.map (·.2.length)))
  wn : w.a = none ∨ New h0 w
  nn : n.a = none ∨ New h0 n
  S : ∀ x ∈ F, Buf h x.1 sz t (x.2.flatMap f ++ marks mk 40)
  new : ∀ x ∈ F, New h0 x.1
  pw : F.Pairwise fun x y => Off x.1 y.1 ∧ Off y.1 x.1
/-- What a laying does to all else. -/
structure Steps (h h' : Hp) (w n n' : Sl) (pb : Nat) : Prop where
  go : ∀ (r : Sl) (sz t : Nat) (vs : List Value), Buf h r sz t vs → Off r (rb pb) → Off r w → Off r n → Buf h' r sz t vs
  n_at : n'.a = n.a ∨ New h n'
theorem room_buf {h : Hp} {pb : Nat} {cs : List Value} (hc : h pb = some (.cells ⟨cs⟩ 46 (0, 0))) (hl : cs.length = 28) : Buf h (rb pb) 28 46 cs :=
  ⟨hl, Nat.le_refl _, .inr ⟨pb, _, (0, 0), rfl, hc, by show 1 * 28 ≤ cs.length; omega, fun j _ => by simp, by show cs.take cs.length = cs; exact List.take_length⟩⟩
theorem New.back {h0 h : Hp} (K : Keep h0 h) {s : Sl} (N : New h s) : New h0 s := by
  obtain ⟨b, e, hn⟩ := N
  exact ⟨b, e, K.dom b hn⟩
theorem New.off2 {h : Hp} {s r : Sl} {sz t : Nat} {vs : List Value} (N : New h s) (B : Buf h r sz t vs) : Off r s ∧ Off s r := new_off (.inr N) B
theorem lay_gen {α : Type} {h0 h : Hp} {pb slot tw t sz bytes : Nat} {f : α → List Value} {mk : Nat → List Value} {z : List Value} {G : Int → Hp → (List Value → Hp → Prop) → Prop} {w n l : Sl} {cs : List Value} {F : List (Sl × List α)} {o : List α} {Q : Value → Hp → Prop}
    (hG : ∀ (j : Nat) h K, K (mk j) h → G (j : Int) h K) (hf : ∀ x, (f x).length = sz) (hmk : ∀ j, (mk j).length = sz) (hz : z.length = sz) (hone : ∀ x, ∀ v ∈ f x, Value.oneCell' v = true)
    (ht3 : t ≠ 3) (htw : t ≠ tw) (ht46 : t ≠ 46) (hw46 : tw ≠ 46) (hw3 : tw ≠ 3) (hcs : cs.length = 28) (hslot : slot + 1 < 28) (hw : cs[slot]? = some (.slice w.a w.n w.c)) (hn : cs[slot + 1]? = some (.slice n.a n.n n.c))
    (hc : h pb = some (.cells ⟨cs⟩ 46 (0, 0))) (hpb : h0 pb = none) (K : Keep h0 h) (C : ColF h0 h w n tw t sz f mk F)
    (hr : h.row l.a (l.n * sz) (o.flatMap f)) (hln : l.n = o.length) (ho : l.n ≤ 10000) (hF : F.length ≤ 100000) (hb : bytes ≤ 100)
    (hQ : ∀ h' w' n' s, ColF h0 h' w' n' tw t sz f mk (F ++ [(s, o)]) → Steps h h' w n n' pb → h' pb = some (.cells ⟨(cs.set slot (.slice w'.a w'.n w'.c)).set (slot + 1) (.slice n'.a n'.n n'.c)⟩ 46 (0, 0)) → Keep h0 h' → s.n = o.length + 40 → s.n ≤ s.c →
      Q (.slice (Sl.cut s sz 0 (l.n : Int) (s.n : Int)).a (Sl.cut s sz 0 (l.n : Int) (s.n : Int)).n (Sl.cut s sz 0 (l.n : Int) (s.n : Int)).c) h') :
    ∀ b, h b = none → ∃ vs, (h.new b (.cells ⟨[]⟩ t (0, 0))).row l.a (l.n * sz) vs ∧ (∀ v ∈ vs, Value.oneCell' v = true) ∧ appendD ⟨(some ⟨b, 0, none⟩), 0, 0⟩ t sz bytes z l.n vs (h.new b (.cells ⟨[]⟩ t (0, 0))) fun l1 h1 => ∃ (I : Sl → Int → Hp → Prop) (m : Sl → Int → Hp → Nat), I l1 0 h1 ∧ (∀ l2 : Sl, ∀ n1 : Int, ∀ h2 : Hp, I l2 n1 h2 → par (n1 < 40) (G n1 h2 fun us h3 => appendD l2 t sz bytes z 1 us h3 fun l3 h4 => I l3 (IntKind.wrap .i64 (n1 + 1)) h4 ∧ m l3 (IntKind.wrap .i64 (n1 + 1)) h4 < m l2 n1 h2) (∃ b1 o, (some ⟨pb, 0, none⟩ : Option Addr) = some ⟨b1, o, none⟩ ∧ ∃ l4 : Sl, h2.at b1 (o + slot) = some (.slice l4.a l4.n l4.c) ∧ appendD l4 tw 1 24 [.slice none 0 0] 1 [.slice l2.a l2.n l2.c] h2 fun l5 h5 => ∃ b2 o1, (some ⟨pb, 0, none⟩ : Option Addr) = some ⟨b2, o1, none⟩ ∧ h5.canW b2 (o1 + slot) 1 ∧ ∃ b3 o2, (some ⟨pb, 0, none⟩ : Option Addr) = some ⟨b3, o2, none⟩ ∧ ∃ l6 : Sl, (h5.wr b2 (o1 + slot) [.slice l5.a l5.n l5.c]).at b3 (o2 + (slot + 1)) = some (.slice l6.a l6.n l6.c) ∧ appendD l6 3 1 8 [.int .i64 0] 1 [.int .i64 (l.n : Int)] (h5.wr b2 (o1 + slot) [.slice l5.a l5.n l5.c]) fun l7 h6 => ∃ b4 o3, (some ⟨pb, 0, none⟩ : Option Addr) = some ⟨b4, o3, none⟩ ∧ h6.canW b4 (o3 + (slot + 1)) 1 ∧ Sl.okCut l2 0 (l.n : Int) (l2.n : Int) ∧ Q (.slice (Sl.cut l2 sz 0 (l.n : Int) (l2.n : Int)).a (Sl.cut l2 sz 0 (l.n : Int) (l2.n : Int)).n (Sl.cut l2 sz 0 (l.n : Int) (l2.n : Int)).c) (h6.wr b4 (o3 + (slot + 1)) [.slice l7.a l7.n l7.c]))) := by
  have hol : (o.flatMap f).length = o.length * sz := flat_length f sz hf o
  intro b hbn
  have hb2 : (h.new b (.cells ⟨[]⟩ t (0, 0))) b = some (.cells ⟨[]⟩ t (0, 0)) := newSelf h b _
  have B0 : Buf (h.new b (.cells ⟨[]⟩ t (0, 0))) ⟨some ⟨b, 0, none⟩, 0, 0⟩ sz t [] := ⟨by simp, Nat.le_refl _, .inr ⟨b, _, (0, 0), rfl, hb2, by simp, fun j _ => by simp, rfl⟩⟩
  have k0 : Keep h (h.new b (.cells ⟨[]⟩ t (0, 0))) := Keep.new hbn _
  have N0 : New h ⟨some ⟨b, 0, none⟩, 0, 0⟩ := ⟨b, rfl, hbn⟩
  refine ⟨o.flatMap f, k0.row hr, fun v hv => ?_, ?_⟩
  · obtain ⟨x, _, hx⟩ := List.mem_flatMap.1 hv
    exact hone x v hx
  have mul2 : ∀ n : Nat, n ≤ 20000 → n * bytes ≤ 140737488355328 := fun n hn => Nat.le_trans (Nat.mul_le_mul hn hb) (by decide)
  refine append_buf B0 hz (by rw [hol, hln]) (mul2 _ (by show 0 + l.n ≤ _; omega)) fun s1 h1 B1 hn1 U1 => ?_
  refine ⟨fun l2 n1 h2 => ∃ j : Nat, n1 = (j : Int) ∧ j ≤ 40 ∧ Buf h2 l2 sz t (o.flatMap f ++ marks mk j) ∧ l2.n = o.length + j ∧ Keep h h2 ∧ New h l2, fun _ n1 _ => 40 - n1.toNat, ⟨0, rfl, Nat.zero_le _, by simpa [marks] using B1, by rw [hn1]; show 0 + l.n = _; omega, (keep_grow k0 (.inr N0) U1).1, newGrow N0 k0 U1⟩, ?_⟩
  rintro l2 n1 h2 ⟨j, rfl, hj, B2, l2n, K2, N2⟩
  refine ⟨fun hlt => hG _ _ _ ?_, fun hge => ?_⟩
  · have w3 : IntKind.wrap .i64 ((j : Int) + 1) = ((j + 1 : Nat) : Int) := next_b (n := 600) (by omega) (by omega)
    refine append_buf B2 hz (by rw [hmk, Nat.one_mul]) (mul2 _ (by omega)) fun l3 h4 B4 hn4 U4 => ?_
    rw [w3]
    refine ⟨⟨j + 1, rfl, by omega, ?_, by omega, (keep_grow K2 (.inr N2) U4).1, newGrow N2 K2 U4⟩, by dsimp only; omega⟩
    rw [marks_succ, ← List.append_assoc]
    exact B4
  · have hj4 : j = 40 := by omega
    subst hj4
    have c2 := K2 _ _ hc
    refine ⟨pb, 0, rfl, w, by unfold Hp.at; rw [c2, Nat.zero_add]; show cs.toArray[slot]? = _; rw [List.getElem?_toArray]; exact hw, ?_⟩
    have CW := C.W.keep K2
    have hwn : w.n = F.length := by have := C.W.len; rw [slV_length, List.length_map] at this; omega
    have hnn : n.n = F.length := by have := C.N.len; rw [lensV_len, List.length_map] at this; omega
    refine append_buf CW rfl rfl (by omega) fun l5 h5 B5 hn5 U5 => ?_
    have R2 := room_buf c2 hcs
    have c5 : h5 pb = some (.cells ⟨cs⟩ 46 (0, 0)) := by
      refine U5.keep pb _ (fun o' hw' => ?_) c2
      exact buf_off R2 CW (Ne.symm hw46) pb 0 o' rfl hw'
    have P5 := room_buf c5 hcs
    have U5' : Upd h5 (h5.wr pb (0 + slot) [.slice l5.a l5.n l5.c]) (rb pb) (rb pb) := upd_wr c5
    have c5' : (h5.wr pb (0 + slot) [.slice l5.a l5.n l5.c]) pb = some (.cells ⟨cs.set slot (.slice l5.a l5.n l5.c)⟩ 46 (0, 0)) := by
      rw [wr_at c5, Nat.zero_add]; rfl
    refine ⟨pb, 0, rfl, ⟨_, _, _, c5, by show 0 + slot + 1 ≤ cs.length; omega, fun j _ _ => by simp⟩, pb, 0, rfl, n, by unfold Hp.at; rw [c5', Nat.zero_add]; show (cs.set slot _).toArray[slot + 1]? = _; rw [List.getElem?_toArray, List.getElem?_set_ne (by omega)]; exact hn, ?_⟩
    generalize hg5 : h5.wr pb (0 + slot) [.slice l5.a l5.n l5.c] = g5 at U5' c5'
    have CN := C.N.keep K2
    have CN5 := CN.upd U5 (buf_off CN CW (Ne.symm hw3))
    have CN6 := CN5.upd U5' (buf_off CN5 P5 (by decide))
    have Q5 := room_buf c5' (by rw [List.length_set]; exact hcs)
    refine append_buf CN6 rfl rfl (by omega) fun l7 h6 B6 hn6 U6 => ?_
    have c6 : h6 pb = some (.cells ⟨cs.set slot (.slice l5.a l5.n l5.c)⟩ 46 (0, 0)) := by
      refine U6.keep pb _ (fun o' hw' => ?_) c5'
      exact buf_off Q5 CN6 (by decide) pb 0 o' rfl hw'
    have P6 := room_buf c6 (by rw [List.length_set]; exact hcs)
    have U6' : Upd h6 (h6.wr pb (0 + (slot + 1)) [.slice l7.a l7.n l7.c]) (rb pb) (rb pb) := upd_wr c6
    have c6' : (h6.wr pb (0 + (slot + 1)) [.slice l7.a l7.n l7.c]) pb = some (.cells ⟨(cs.set slot (.slice l5.a l5.n l5.c)).set (slot + 1) (.slice l7.a l7.n l7.c)⟩ 46 (0, 0)) := by
      rw [wr_at c6, Nat.zero_add]; rfl
    have B2c := B2.cap
    refine ⟨pb, 0, rfl, ⟨_, _, _, c6, by show 0 + (slot + 1) + 1 ≤ (cs.set slot _).length; rw [List.length_set]; omega, fun j _ _ => by simp⟩, ⟨by decide, by omega, by omega, by omega⟩, ?_⟩
    obtain ⟨K5, N5⟩ := keep_grow (K.trans K2) C.wn U5
    have Kg5 : Keep h0 g5 := by rw [← hg5]; exact keepWr hpb K5 _ _
    obtain ⟨K6, N6⟩ := keep_grow Kg5 C.nn U6
    have N20 : New h0 l2 := N2.back K
    have all : ∀ (r : Sl) (sz t : Nat) (vs : List Value), Buf h2 r sz t vs → Off r (rb pb) → Off r w → Off r n → Buf (h6.wr pb (0 + (slot + 1)) [.slice l7.a l7.n l7.c]) r sz t vs := fun r sz t vs B o1 o2 o3 => (((B.upd U5 o2).upd U5' o1).upd U6 o3).upd U6' o1
    have mine : ∀ (r : Sl) (vs : List Value), Buf h2 r sz t vs → Buf (h6.wr pb (0 + (slot + 1)) [.slice l7.a l7.n l7.c]) r sz t vs := fun r vs B => all r sz t vs B (buf_off B R2 ht46) (buf_off B CW htw) (buf_off B CN ht3)
    refine hQ _ l5 l7 l2 ⟨?_, ?_, N5, N6, ?_, ?_, ?_⟩ ⟨fun r sz t vs B o1 o2 o3 => all r sz t vs (B.keep K2) o1 o2 o3, ?_⟩ c6' (keepWr hpb K6 _ _) l2n B2c
    · have w5 := B5.upd U5' (buf_off B5 P5 hw46)
      have w6 := w5.upd U6 (buf_off w5 CN6 hw3)
      have w7 := w6.upd U6' (buf_off w6 P6 hw46)
      rw [List.map_append]
      unfold slV at w7 ⊢
      rw [List.map_append]
      exact w7
    · have n7 := B6.upd U6' (buf_off B6 P6 (by decide))
      rw [List.map_append]
      unfold lensV at n7 ⊢
      rw [List.map_append]
      rw [hln] at n7
      exact n7
    · intro x hx
      rcases List.mem_append.1 hx with hx | hx
      · exact mine _ _ ((C.S x hx).keep K2)
      · rw [List.mem_singleton] at hx; subst hx
        exact mine _ _ B2
    · intro x hx
      rcases List.mem_append.1 hx with hx | hx
      · exact C.new x hx
      · rw [List.mem_singleton] at hx; subst hx
        exact N20
    · rw [List.pairwise_append]
      refine ⟨C.pw, List.pairwise_singleton _ _, fun x hx y hy => ?_⟩
      rw [List.mem_singleton] at hy; subst hy
      exact N2.off2 (C.S x hx)
    · rcases U6.at_ with h0' | ⟨b', e, hn'⟩
      · exact .inl h0'
      · exact .inr ⟨b', e, K2.dom _ (U5.dom _ (U5'.dom _ hn'))⟩
end Go.Eng.YtblghgacokoklaaDoor
end
section
/-
  SPECS OF THE ROOM, 2: a room of edits.
-/
set_option linter.unusedSimpArgs false
set_option linter.unusedVariables false
set_option maxRecDepth 100000
namespace Go.Eng.YtblghgacokoklaaDoor
def mkP (j : Nat) : List Value := [.int .i64 (lotN j), .int .u64 0]
def mkD (j : Nat) : List Value := [.int .i64 (lotN j), .int .u64 0, .int .i64 0, .int .i64 0, .int .i64 0, .string (ByteArray.mk #[]), .string (ByteArray.mk #[])]
def wordN (j : Nat) : ByteArray := if j % 2 = 0 then ByteArray.mk #[60, 111, 110, 101, 62] else ByteArray.mk #[60, 116, 119, 111, 62]
def mkT (j : Nat) : List Value := [.string (wordN j)]
def oneT (s : ByteArray) : List Value := [.string s]
theorem word_spec {h : Hp} {n : Nat} {Q : Value → Hp → Prop} (hQ : Q (.string (wordN n)) h) : F90.T (n : Int) h Q := by
  have e : Int.tmod (n : Int) 2 = ((n % 2 : Nat) : Int) := by rw [Int.tmod_eq_emod_of_nonneg (by omega)]; omega
  refine ⟨by decide, fun h0 => ?_, fun h0 => ?_⟩
  · unfold wordN at hQ; rw [if_pos (by omega)] at hQ; exact hQ
  · unfold wordN at hQ; rw [if_neg (by omega)] at hQ; exact hQ
def nilV : Value := .slice none 0 0
def slv (s : Sl) : Value := .slice s.a s.n s.c
def roomE (t tn p pn d dn : Sl) : List Value := [nilV, nilV, nilV, nilV, nilV, nilV, slv t, slv tn, nilV, nilV, nilV, nilV, nilV, nilV, nilV, nilV, slv p, slv pn, slv d, slv dn, nilV, nilV, nilV, nilV, nilV, nilV, nilV, nilV]
abbrev ColP := @ColF Place
structure Off2 (a b : Sl) : Prop where
  l : Off a b
  r : Off b a
/-- A room of edits. -/
structure Room (h0 h : Hp) (pb : Nat) (t tn p pn d dn : Sl) (FT : List (Sl × List ByteArray)) (FP : List (Sl × List Place)) (FD : List (Sl × List Placed)) : Prop where
  none_ : h0 pb = none
  cell : h pb = some (.cells ⟨roomE t tn p pn d dn⟩ 46 (0, 0))
  keep : Keep h0 h
  T : ColF h0 h t tn 63 9 1 oneT mkT FT
  P : ColF h0 h p pn 61 104 2 Place.cells mkP FP
  D : ColF h0 h d dn 62 108 7 Placed.cells mkD FD
  tp : Off2 tn pn
  td : Off2 tn dn
  pd : Off2 pn dn
theorem ColF.steps {α : Type} {h0 h h' : Hp} {w n w2 n2 n2' : Sl} {pb tw t sz : Nat} {f : α → List Value} {mk : Nat → List Value} {F : List (Sl × List α)} (C : ColF h0 h w n tw t sz f mk F) (S : Steps h h' w2 n2 n2' pb)
    (o1 : Off w (rb pb)) (o2 : Off w w2) (o3 : Off w n2) (o4 : Off n (rb pb)) (o5 : Off n w2) (o6 : Off n n2) (o7 : ∀ x ∈ F, Off x.1 (rb pb) ∧ Off x.1 w2 ∧ Off x.1 n2) : ColF h0 h' w n tw t sz f mk F :=
  ⟨S.go _ _ _ _ C.W o1 o2 o3, S.go _ _ _ _ C.N o4 o5 o6, C.wn, C.nn, fun x hx => S.go _ _ _ _ (C.S x hx) (o7 x hx).1 (o7 x hx).2.1 (o7 x hx).2.2, C.new, C.pw⟩
theorem Off2.swap {a b : Sl} (o : Off2 a b) : Off2 b a := ⟨o.r, o.l⟩
/-- After a laying, other slices are still apart. -/
theorem Steps.off {h h' : Hp} {w n n' r : Sl} {pb sz t : Nat} {vs : List Value} (S : Steps h h' w n n' pb) (B : Buf h r sz t vs) (o : Off2 r n) : Off2 r n' := by
  rcases S.n_at with h0 | N
  · exact ⟨fun b x y e1 e2 => o.l b x y e1 (by rw [← h0]; exact e2), fun b x y e1 e2 => o.r b x y (by rw [← h0]; exact e1) e2⟩
  · have := N.off2 B
    exact ⟨this.1, this.2⟩
theorem ColF.sub {α : Type} {h0 h h' : Hp} {w n w2 n2 n2' : Sl} {pb tw tw2 t sz : Nat} {f : α → List Value} {mk : Nat → List Value} {F : List (Sl × List α)} {cs vs ns : List Value} (C : ColF h0 h w n tw t sz f mk F) (S : Steps h h' w2 n2 n2' pb)
    (R : Buf h (rb pb) 28 46 cs) (W : Buf h w2 1 tw2 vs) (N : Buf h n2 1 3 ns) (o : Off2 n n2) (e1 : tw ≠ 46) (e2 : tw ≠ tw2) (e3 : tw ≠ 3) (e4 : (3 : Nat) ≠ tw2) (e5 : t ≠ 46) (e6 : t ≠ tw2) (e7 : t ≠ 3) : ColF h0 h' w n tw t sz f mk F :=
  C.steps S (buf_off C.W R e1) (buf_off C.W W e2) (buf_off C.W N e3) (buf_off C.N R (by decide)) (buf_off C.N W e4) o.l fun x hx => ⟨buf_off (C.S x hx) R e5, buf_off (C.S x hx) W e6, buf_off (C.S x hx) N e7⟩
theorem Room.buf {h0 h : Hp} {pb : Nat} {t tn p pn d dn : Sl} {FT : List (Sl × List ByteArray)} {FP : List (Sl × List Place)} {FD : List (Sl × List Placed)} (R : Room h0 h pb t tn p pn d dn FT FP FD) : Buf h (rb pb) 28 46 (roomE t tn p pn d dn) := room_buf R.cell rfl
theorem cell_one {n : Nat} {k : IntKind} {v : Value} (h : v = .int k n) : v.oneCell' = true := by subst h; rfl
theorem lay_places {h0 h : Hp} {pb : Nat} {t tn p pn d dn l : Sl} {FT : List (Sl × List ByteArray)} {FP : List (Sl × List Place)} {FD : List (Sl × List Placed)} {o : List Place} {Q : Value → Hp → Prop} (R : Room h0 h pb t tn p pn d dn FT FP FD)
    (hr : h.row l.a (l.n * 2) (outV o)) (ho : o.length ≤ 10000) (hF : FP.length ≤ 100000)
    (hQ : ∀ h' p' pn' s, Room h0 h' pb t tn p' pn' d dn FT (FP ++ [(s, o)]) FD → (∀ r sz vs, Buf h r sz 65 vs → Buf h' r sz 65 vs) → s.n = o.length + 40 → s.n ≤ s.c → Q (.slice s.a o.length s.n) h') : F117.T (some ⟨pb, 0, none⟩) l 40 h Q := by
  have hln : l.n = o.length := by have := hr.1; rw [outV_len] at this; omega
  refine lay_gen (slot := 16) (tw := 61) (t := 104) (sz := 2) (bytes := 16) (f := Place.cells) (mk := mkP) (z := [.int .i64 0, .int .u64 0]) (G := fun n1 h2 K => F85.T n1 h2 fun r h3 => ∃ n2 : Int, r = .int .i64 n2 ∧ K [.int .i64 n2, .int .u64 0] h3)
    (fun j h K hK => lot_spec ⟨_, rfl, hK⟩) (fun _ => rfl) (fun _ => rfl) rfl (fun x v hv => ?_) (by decide) (by decide) (by decide) (by decide) (by decide) rfl (by decide) rfl rfl R.cell R.none_ R.keep R.P hr hln (by omega) hF (by decide) fun h' w' n' s C S hc K hsn hsc => ?_
  · simp only [Place.cells, List.mem_cons, List.not_mem_nil, or_false] at hv
    rcases hv with rfl | rfl <;> rfl
  · rw [cut_a, show (Sl.cut s 2 0 (l.n : Int) (s.n : Int)).n = o.length by simp [Sl.cut]; omega, show (Sl.cut s 2 0 (l.n : Int) (s.n : Int)).c = s.n by simp [Sl.cut]]
    exact hQ h' w' n' s ⟨R.none_, hc, K, R.T.sub S R.buf R.P.W R.P.N R.tp (by decide) (by decide) (by decide) (by decide) (by decide) (by decide) (by decide), C, R.D.sub S R.buf R.P.W R.P.N R.pd.swap (by decide) (by decide) (by decide) (by decide) (by decide) (by decide) (by decide), S.off R.T.N R.tp, R.td, (S.off R.D.N R.pd.swap).swap⟩ (fun r sz vs B => S.go r sz 65 vs B (buf_off B R.buf (by decide)) (buf_off B R.P.W (by decide)) (buf_off B R.P.N (by decide))) hsn hsc
theorem lay_placeds {h0 h : Hp} {pb : Nat} {t tn p pn d dn l : Sl} {FT : List (Sl × List ByteArray)} {FP : List (Sl × List Place)} {FD : List (Sl × List Placed)} {o : List Placed} {Q : Value → Hp → Prop} (R : Room h0 h pb t tn p pn d dn FT FP FD)
    (hr : h.row l.a (l.n * 7) (inV o)) (ho : o.length ≤ 10000) (hF : FD.length ≤ 100000)
    (hQ : ∀ h' w' n' s, Room h0 h' pb t tn p pn w' n' FT FP (FD ++ [(s, o)]) → (∀ r sz vs, Buf h r sz 65 vs → Buf h' r sz 65 vs) → s.n = o.length + 40 → s.n ≤ s.c → Q (.slice s.a o.length s.n) h') : F118.T (some ⟨pb, 0, none⟩) l 40 h Q := by
  have hln : l.n = o.length := by have := hr.1; rw [inV_len] at this; omega
  refine lay_gen (slot := 18) (tw := 62) (t := 108) (sz := 7) (bytes := 72) (f := Placed.cells) (mk := mkD) (z := [.int .i64 0, .int .u64 0, .int .i64 0, .int .i64 0, .int .i64 0, .string (ByteArray.mk #[]), .string (ByteArray.mk #[])]) (G := fun n1 h2 K => F85.T n1 h2 fun r h3 => ∃ n2 : Int, r = .int .i64 n2 ∧ K [.int .i64 n2, .int .u64 0, .int .i64 0, .int .i64 0, .int .i64 0, .string (ByteArray.mk #[]), .string (ByteArray.mk #[])] h3)
    (fun j h K hK => lot_spec ⟨_, rfl, hK⟩) (fun _ => rfl) (fun _ => rfl) rfl (fun x v hv => ?_) (by decide) (by decide) (by decide) (by decide) (by decide) rfl (by decide) rfl rfl R.cell R.none_ R.keep R.D hr hln (by omega) hF (by decide) fun h' w' n' s C S hc K hsn hsc => ?_
  · simp only [Placed.cells, List.mem_cons, List.not_mem_nil, or_false] at hv
    rcases hv with rfl | rfl | rfl | rfl | rfl | rfl | rfl <;> rfl
  · rw [cut_a, show (Sl.cut s 7 0 (l.n : Int) (s.n : Int)).n = o.length by simp [Sl.cut]; omega, show (Sl.cut s 7 0 (l.n : Int) (s.n : Int)).c = s.n by simp [Sl.cut]]
    exact hQ h' w' n' s ⟨R.none_, hc, K, R.T.sub S R.buf R.D.W R.D.N R.td (by decide) (by decide) (by decide) (by decide) (by decide) (by decide) (by decide), R.P.sub S R.buf R.D.W R.D.N R.pd (by decide) (by decide) (by decide) (by decide) (by decide) (by decide) (by decide), C, R.tp, S.off R.T.N R.td, S.off R.P.N R.pd⟩ (fun r sz vs B => S.go r sz 65 vs B (buf_off B R.buf (by decide)) (buf_off B R.D.W (by decide)) (buf_off B R.D.N (by decide))) hsn hsc
theorem lay_texts {h0 h : Hp} {pb : Nat} {t tn p pn d dn l : Sl} {FT : List (Sl × List ByteArray)} {FP : List (Sl × List Place)} {FD : List (Sl × List Placed)} {o : List ByteArray} {Q : Value → Hp → Prop} (R : Room h0 h pb t tn p pn d dn FT FP FD)
    (hr : h.row l.a (l.n * 1) (o.flatMap oneT)) (ho : o.length ≤ 10000) (hF : FT.length ≤ 100000)
    (hQ : ∀ h' w' n' s, Room h0 h' pb w' n' p pn d dn (FT ++ [(s, o)]) FP FD → (∀ r sz vs, Buf h r sz 65 vs → Buf h' r sz 65 vs) → s.n = o.length + 40 → s.n ≤ s.c → Q (.slice s.a o.length s.n) h') : F119.T (some ⟨pb, 0, none⟩) l 40 h Q := by
  have hln : l.n = o.length := by have := hr.1; rw [flat_length oneT 1 (fun _ => rfl)] at this; omega
  refine lay_gen (slot := 6) (tw := 63) (t := 9) (sz := 1) (bytes := 16) (f := oneT) (mk := mkT) (z := [.string (ByteArray.mk #[])]) (G := fun n1 h2 K => F90.T n1 h2 fun r h3 => ∃ s : ByteArray, r = .string s ∧ K [.string s] h3)
    (fun j h K hK => word_spec ⟨_, rfl, hK⟩) (fun _ => rfl) (fun _ => rfl) rfl (fun x v hv => ?_) (by decide) (by decide) (by decide) (by decide) (by decide) rfl (by decide) rfl rfl R.cell R.none_ R.keep R.T hr hln (by omega) hF (by decide) fun h' w' n' s C S hc K hsn hsc => ?_
  · simp only [oneT, List.mem_cons, List.not_mem_nil, or_false] at hv
    subst hv; rfl
  · rw [cut_a, show (Sl.cut s 1 0 (l.n : Int) (s.n : Int)).n = o.length by simp [Sl.cut]; omega, show (Sl.cut s 1 0 (l.n : Int) (s.n : Int)).c = s.n by simp [Sl.cut]]
    exact hQ h' w' n' s ⟨R.none_, hc, K, C, R.P.sub S R.buf R.T.W R.T.N R.tp.swap (by decide) (by decide) (by decide) (by decide) (by decide) (by decide) (by decide), R.D.sub S R.buf R.T.W R.T.N R.td.swap (by decide) (by decide) (by decide) (by decide) (by decide) (by decide) (by decide), (S.off R.P.N R.tp.swap).swap, (S.off R.D.N R.td.swap).swap, R.pd⟩ (fun r sz vs B => S.go r sz 65 vs B (buf_off B R.buf (by decide)) (buf_off B R.T.W (by decide)) (buf_off B R.T.N (by decide))) hsn hsc
/-- An edit, its lists with their room. -/
structure FE where
  e : Edit
  a : Sl
  b : Sl
  c : Sl
def FE.s (x : FE) : EdS := ⟨x.e, ⟨x.a.a, x.e.out.length, x.a.n⟩, ⟨x.b.a, x.e.inn.length, x.b.n⟩, ⟨x.c.a, x.e.ptr.length, x.c.n⟩⟩
def xT (X : List FE) : List (Sl × List ByteArray) := X.map fun x => (x.c, x.e.ptr)
def xP (X : List FE) : List (Sl × List Place) := X.map fun x => (x.a, x.e.out)
def xD (X : List FE) : List (Sl × List Placed) := X.map fun x => (x.b, x.e.inn)
theorem flatT : ∀ p : List ByteArray, p.flatMap oneT = ptrV p
  | [] => rfl
  | a :: l => by
    rw [List.flatMap_cons, flatT l]
    rfl
theorem ColF.keep {α : Type} {h0 h h' : Hp} {w n : Sl} {tw t sz : Nat} {f : α → List Value} {mk : Nat → List Value} {F : List (Sl × List α)} (k : Keep h h') (C : ColF h0 h w n tw t sz f mk F) : ColF h0 h' w n tw t sz f mk F :=
  ⟨C.W.keep k, C.N.keep k, C.wn, C.nn, fun x hx => (C.S x hx).keep k, C.new, C.pw⟩
theorem ColF.upd {α : Type} {h0 h h' : Hp} {w n s s' : Sl} {tw t sz sz2 t2 : Nat} {f : α → List Value} {mk : Nat → List Value} {vs : List Value} {F : List (Sl × List α)} (U : Upd h h' s s') (B : Buf h s sz2 t2 vs) (e1 : tw ≠ t2) (e2 : (3 : Nat) ≠ t2) (e3 : t ≠ t2) (C : ColF h0 h w n tw t sz f mk F) : ColF h0 h' w n tw t sz f mk F :=
  ⟨C.W.upd U (buf_off C.W B e1), C.N.upd U (buf_off C.N B e2), C.wn, C.nn, fun x hx => (C.S x hx).upd U (buf_off (C.S x hx) B e3), C.new, C.pw⟩
section
variable {h0 h h' : Hp} {pb : Nat} {t tn p pn d dn : Sl} {FT : List (Sl × List ByteArray)} {FP : List (Sl × List Place)} {FD : List (Sl × List Placed)}
theorem Room.keeps (k : Keep h h') (R : Room h0 h pb t tn p pn d dn FT FP FD) : Room h0 h' pb t tn p pn d dn FT FP FD :=
  ⟨R.none_, k _ _ R.cell, R.keep.trans k, R.T.keep k, R.P.keep k, R.D.keep k, R.tp, R.td, R.pd⟩
theorem Room.upd {s s' : Sl} {vs : List Value} (R : Room h0 h pb t tn p pn d dn FT FP FD) (U : Upd h h' s s') (B : Buf h s 6 65 vs) (N : s.a = none ∨ New h0 s) : Room h0 h' pb t tn p pn d dn FT FP FD :=
  ⟨R.none_, U.keep pb _ (fun o hs => buf_off R.buf B (by decide) pb 0 o rfl hs) R.cell, (keep_grow R.keep N U).1, R.T.upd U B (by decide) (by decide) (by decide), R.P.upd U B (by decide) (by decide) (by decide), R.D.upd U B (by decide) (by decide) (by decide), R.tp, R.td, R.pd⟩
theorem Room.start {b : Nat} (hb : h b = none) : Room h (h.new b (.cells ⟨roomE ⟨none, 0, 0⟩ ⟨none, 0, 0⟩ ⟨none, 0, 0⟩ ⟨none, 0, 0⟩ ⟨none, 0, 0⟩ ⟨none, 0, 0⟩⟩ 46 (0, 0))) b ⟨none, 0, 0⟩ ⟨none, 0, 0⟩ ⟨none, 0, 0⟩ ⟨none, 0, 0⟩ ⟨none, 0, 0⟩ ⟨none, 0, 0⟩ [] [] [] := by
  have o : Off2 ⟨none, 0, 0⟩ ⟨none, 0, 0⟩ := ⟨fun _ _ _ e => (by cases e), fun _ _ _ e => (by cases e)⟩
  exact ⟨hb, newSelf h b _, Keep.new hb _, ⟨Buf.nil _ _ _, Buf.nil _ _ _, .inl rfl, .inl rfl, fun x hx => (by cases hx), fun x hx => (by cases hx), .nil⟩, ⟨Buf.nil _ _ _, Buf.nil _ _ _, .inl rfl, .inl rfl, fun x hx => (by cases hx), fun x hx => (by cases hx), .nil⟩, ⟨Buf.nil _ _ _, Buf.nil _ _ _, .inl rfl, .inl rfl, fun x hx => (by cases hx), fun x hx => (by cases hx), .nil⟩, o, o, o⟩
end
theorem room_edit {h0 h : Hp} {pb : Nat} {t tn p pn d dn l l1 l2 : Sl} {X : List FE} {e : Edit} {Q : Value → Hp → Prop} (R : Room h0 h pb t tn p pn d dn (xT X) (xP X) (xD X)) (E : EdAt h0 e l l1 l2)
    (n1 : e.out.length ≤ 10000) (n2 : e.inn.length ≤ 10000) (n3 : e.ptr.length ≤ 10000) (hX : X.length ≤ 100000)
    (hQ : ∀ h' t' tn' p' pn' d' dn' a b c, Room h0 h' pb t' tn' p' pn' d' dn' (xT (X ++ [⟨e, a, b, c⟩])) (xP (X ++ [⟨e, a, b, c⟩])) (xD (X ++ [⟨e, a, b, c⟩])) → (∀ r sz vs, Buf h r sz 65 vs → Buf h' r sz 65 vs) →  Q (.agg ⟨[.int .u64 e.log, .int .u64 e.next, .int .u64 e.seq, .slice a.a e.out.length a.n, .slice b.a e.inn.length b.n, .slice c.a e.ptr.length c.n]⟩) h') : F61.T (some ⟨pb, 0, none⟩) e.log e.next e.seq l l1 l2 h Q := by
  unfold F61.T F92.T F93.T F94.T
  refine lay_places R (R.keep.row E.out) n1 (by unfold xP; rw [List.length_map]; exact hX) fun h1 p1 pn1 a R1 g1 ha1 ha2 => ⟨⟨a.a, e.out.length, a.n⟩, rfl, ⟨a.a, e.out.length, a.n⟩, rfl, ?_⟩
  refine lay_placeds R1 (R1.keep.row E.inn) n2 (by unfold xD; rw [List.length_map]; exact hX) fun h2 d1 dn1 b R2 g2 hb1 hb2 => ⟨⟨b.a, e.inn.length, b.n⟩, rfl, ⟨b.a, e.inn.length, b.n⟩, rfl, ?_⟩
  refine lay_texts R2 (by rw [flatT, Nat.mul_one]; exact R2.keep.row E.ptr) n3 (by unfold xT; rw [List.length_map]; exact hX) fun h3 t1 tn1 c R3 g3 hc1 hc2 => ⟨⟨c.a, e.ptr.length, c.n⟩, rfl, ⟨c.a, e.ptr.length, c.n⟩, rfl, ?_⟩
  refine hQ h3 t1 tn1 p1 pn1 d1 dn1 a b c ?_ fun r sz vs B => g3 r sz vs (g2 r sz vs (g1 r sz vs B))
  unfold xT xP xD at R3 ⊢
  rw [List.map_append, List.map_append, List.map_append]
  exact R3
end Go.Eng.YtblghgacokoklaaDoor
end
