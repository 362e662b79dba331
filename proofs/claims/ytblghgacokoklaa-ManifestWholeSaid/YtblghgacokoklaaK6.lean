/-
  TEXTS OF MINE, JOINED: M2 S17 S18 V3 V4 V5 X2 X3 X4 V6 V7 V8 V9 VA VB.
-/
import Derived.Test.YtblghgacokoklaaK3
import Derived.Test.YtblghgacokoklaaK2
import Derived.Test.YtblghgacokoklaaProg
import Derived.Test.YtblghgacokoklaaK5
import Derived.Test.YtblghgacokoklaaK4
section

set_option maxRecDepth 100000
set_option linter.unusedVariables false
open Go.Proofs
namespace Go.Eng.Ytblghgacokoklaa
def F17.T (l : Sl) : PT := fun h Q =>
  F49.T l h fun r h1 => ∃ l1 : Sl, r = .slice l1.a l1.n l1.c ∧ ∃ (I : Int → Hp → Prop) (m : Int → Hp → Nat), I 0 h1 ∧ (∀ n : Int, ∀ h2 : Hp, I n h2 → par (n < (l1.n : Int)) (∃ (I1 : Int → Hp → Prop) (m1 : Int → Hp → Nat), I1 0 h2 ∧ (∀ n1 : Int, ∀ h3 : Hp, I1 n1 h3 → ∃ b o, (l1.a : Option Addr) = some ⟨b, o, none⟩ ∧ ((0 : Int) ≤ n ∧ n < (l1.n : Int)) ∧ ∃ l2 : Sl, h3.at b ((o + n.toNat * 6) + 3) = some (.slice l2.a l2.n l2.c) ∧ par (n1 < (l2.n : Int)) (∃ b1 o1, (l1.a : Option Addr) = some ⟨b1, o1, none⟩ ∧ ((0 : Int) ≤ n ∧ n < (l1.n : Int)) ∧ ∃ l3 : Sl, h3.at b1 ((o1 + n.toNat * 6) + 3) = some (.slice l3.a l3.n l3.c) ∧ ∃ b2 o2, (l1.a : Option Addr) = some ⟨b2, o2, none⟩ ∧ ((0 : Int) ≤ n ∧ n < (l1.n : Int)) ∧ ∃ l4 : Sl, h3.at b2 ((o2 + n.toNat * 6) + 3) = some (.slice l4.a l4.n l4.c) ∧ ∃ b3 o3, (l4.a : Option Addr) = some ⟨b3, o3, none⟩ ∧ ((0 : Int) ≤ n1 ∧ n1 < (l4.n : Int)) ∧ ∃ n2 : Int, h3.at b3 (o3 + n1.toNat * 2) = some (.int .i64 n2) ∧ F19.T n2 5 h3 fun r1 h4 => ∃ n3 : Int, r1 = .int .i64 n3 ∧ h4.at b1 ((o1 + n.toNat * 6) + 3) = some (.slice l3.a l3.n l3.c) ∧ ∃ b4 o4, (l3.a : Option Addr) = some ⟨b4, o4, none⟩ ∧ ((0 : Int) ≤ n1 ∧ n1 < (l3.n : Int)) ∧ h4.canW b4 (o4 + n1.toNat * 2) 1 ∧ I1 (IntKind.wrap .i64 (n1 + 1)) (h4.wr b4 (o4 + n1.toNat * 2) [.int .i64 n3]) ∧ m1 (IntKind.wrap .i64 (n1 + 1)) (h4.wr b4 (o4 + n1.toNat * 2) [.int .i64 n3]) < m1 n1 h3) (∃ (I2 : Int → Hp → Prop) (m2 : Int → Hp → Nat), I2 0 h3 ∧ (∀ n4 : Int, ∀ h5 : Hp, I2 n4 h5 → ∃ b5 o5, (l1.a : Option Addr) = some ⟨b5, o5, none⟩ ∧ ((0 : Int) ≤ n ∧ n < (l1.n : Int)) ∧ ∃ l5 : Sl, h5.at b5 ((o5 + n.toNat * 6) + 4) = some (.slice l5.a l5.n l5.c) ∧ par (n4 < (l5.n : Int)) (∃ b6 o6, (l1.a : Option Addr) = some ⟨b6, o6, none⟩ ∧ ((0 : Int) ≤ n ∧ n < (l1.n : Int)) ∧ ∃ l6 : Sl, h5.at b6 ((o6 + n.toNat * 6) + 4) = some (.slice l6.a l6.n l6.c) ∧ ∃ b7 o7, (l6.a : Option Addr) = some ⟨b7, o7, none⟩ ∧ ((0 : Int) ≤ n4 ∧ n4 < (l6.n : Int)) ∧ ∃ n5 : Int, h5.at b7 (o7 + n4.toNat * 7) = some (.int .i64 n5) ∧ F19.T n5 5 h5 fun r2 h6 => ∃ n6 : Int, r2 = .int .i64 n6 ∧ h6.canW b7 (o7 + n4.toNat * 7) 1 ∧ ∃ n7 : Int, (h6.wr b7 (o7 + n4.toNat * 7) [.int .i64 n6]).at b7 (((o7 + n4.toNat * 7) + 1) + 1) = some (.int .i64 n7) ∧ ∃ n8 : Int, (h6.wr b7 (o7 + n4.toNat * 7) [.int .i64 n6]).at b7 (((o7 + n4.toNat * 7) + 1) + 2) = some (.int .i64 n8) ∧ ∃ n9 : Int, (h6.wr b7 (o7 + n4.toNat * 7) [.int .i64 n6]).at b7 (((o7 + n4.toNat * 7) + 1) + 3) = some (.int .i64 n9) ∧ (h6.wr b7 (o7 + n4.toNat * 7) [.int .i64 n6]).canW b7 (((o7 + n4.toNat * 7) + 1) + 1) 1 ∧ ((h6.wr b7 (o7 + n4.toNat * 7) [.int .i64 n6]).wr b7 (((o7 + n4.toNat * 7) + 1) + 1) [.int .i64 (iMax n7 0)]).canW b7 (((o7 + n4.toNat * 7) + 1) + 2) 1 ∧ (((h6.wr b7 (o7 + n4.toNat * 7) [.int .i64 n6]).wr b7 (((o7 + n4.toNat * 7) + 1) + 1) [.int .i64 (iMax n7 0)]).wr b7 (((o7 + n4.toNat * 7) + 1) + 2) [.int .i64 (iMax n8 0)]).canW b7 (((o7 + n4.toNat * 7) + 1) + 3) 1 ∧ ∃ s : ByteArray, ((((h6.wr b7 (o7 + n4.toNat * 7) [.int .i64 n6]).wr b7 (((o7 + n4.toNat * 7) + 1) + 1) [.int .i64 (iMax n7 0)]).wr b7 (((o7 + n4.toNat * 7) + 1) + 2) [.int .i64 (iMax n8 0)]).wr b7 (((o7 + n4.toNat * 7) + 1) + 3) [.int .i64 (iMax n9 0)]).at b7 (((o7 + n4.toNat * 7) + 1) + 4) = some (.string s) ∧ ∃ s1 : ByteArray, ((((h6.wr b7 (o7 + n4.toNat * 7) [.int .i64 n6]).wr b7 (((o7 + n4.toNat * 7) + 1) + 1) [.int .i64 (iMax n7 0)]).wr b7 (((o7 + n4.toNat * 7) + 1) + 2) [.int .i64 (iMax n8 0)]).wr b7 (((o7 + n4.toNat * 7) + 1) + 3) [.int .i64 (iMax n9 0)]).at b7 (((o7 + n4.toNat * 7) + 1) + 4) = some (.string s1) ∧ okSub s 0 (iMin (s1.size : Int) 64) ∧ ((((h6.wr b7 (o7 + n4.toNat * 7) [.int .i64 n6]).wr b7 (((o7 + n4.toNat * 7) + 1) + 1) [.int .i64 (iMax n7 0)]).wr b7 (((o7 + n4.toNat * 7) + 1) + 2) [.int .i64 (iMax n8 0)]).wr b7 (((o7 + n4.toNat * 7) + 1) + 3) [.int .i64 (iMax n9 0)]).canW b7 (((o7 + n4.toNat * 7) + 1) + 4) 1 ∧ ∃ s2 : ByteArray, (((((h6.wr b7 (o7 + n4.toNat * 7) [.int .i64 n6]).wr b7 (((o7 + n4.toNat * 7) + 1) + 1) [.int .i64 (iMax n7 0)]).wr b7 (((o7 + n4.toNat * 7) + 1) + 2) [.int .i64 (iMax n8 0)]).wr b7 (((o7 + n4.toNat * 7) + 1) + 3) [.int .i64 (iMax n9 0)]).wr b7 (((o7 + n4.toNat * 7) + 1) + 4) [.string (s.extract (0 : Int).toNat ((iMin (s1.size : Int) 64) : Int).toNat)]).at b7 (((o7 + n4.toNat * 7) + 1) + 5) = some (.string s2) ∧ ∃ s3 : ByteArray, (((((h6.wr b7 (o7 + n4.toNat * 7) [.int .i64 n6]).wr b7 (((o7 + n4.toNat * 7) + 1) + 1) [.int .i64 (iMax n7 0)]).wr b7 (((o7 + n4.toNat * 7) + 1) + 2) [.int .i64 (iMax n8 0)]).wr b7 (((o7 + n4.toNat * 7) + 1) + 3) [.int .i64 (iMax n9 0)]).wr b7 (((o7 + n4.toNat * 7) + 1) + 4) [.string (s.extract (0 : Int).toNat ((iMin (s1.size : Int) 64) : Int).toNat)]).at b7 (((o7 + n4.toNat * 7) + 1) + 5) = some (.string s3) ∧ okSub s2 0 (iMin (s3.size : Int) 64) ∧ (((((h6.wr b7 (o7 + n4.toNat * 7) [.int .i64 n6]).wr b7 (((o7 + n4.toNat * 7) + 1) + 1) [.int .i64 (iMax n7 0)]).wr b7 (((o7 + n4.toNat * 7) + 1) + 2) [.int .i64 (iMax n8 0)]).wr b7 (((o7 + n4.toNat * 7) + 1) + 3) [.int .i64 (iMax n9 0)]).wr b7 (((o7 + n4.toNat * 7) + 1) + 4) [.string (s.extract (0 : Int).toNat ((iMin (s1.size : Int) 64) : Int).toNat)]).canW b7 (((o7 + n4.toNat * 7) + 1) + 5) 1 ∧ I2 (IntKind.wrap .i64 (n4 + 1)) ((((((h6.wr b7 (o7 + n4.toNat * 7) [.int .i64 n6]).wr b7 (((o7 + n4.toNat * 7) + 1) + 1) [.int .i64 (iMax n7 0)]).wr b7 (((o7 + n4.toNat * 7) + 1) + 2) [.int .i64 (iMax n8 0)]).wr b7 (((o7 + n4.toNat * 7) + 1) + 3) [.int .i64 (iMax n9 0)]).wr b7 (((o7 + n4.toNat * 7) + 1) + 4) [.string (s.extract (0 : Int).toNat ((iMin (s1.size : Int) 64) : Int).toNat)]).wr b7 (((o7 + n4.toNat * 7) + 1) + 5) [.string (s2.extract (0 : Int).toNat ((iMin (s3.size : Int) 64) : Int).toNat)]) ∧ m2 (IntKind.wrap .i64 (n4 + 1)) ((((((h6.wr b7 (o7 + n4.toNat * 7) [.int .i64 n6]).wr b7 (((o7 + n4.toNat * 7) + 1) + 1) [.int .i64 (iMax n7 0)]).wr b7 (((o7 + n4.toNat * 7) + 1) + 2) [.int .i64 (iMax n8 0)]).wr b7 (((o7 + n4.toNat * 7) + 1) + 3) [.int .i64 (iMax n9 0)]).wr b7 (((o7 + n4.toNat * 7) + 1) + 4) [.string (s.extract (0 : Int).toNat ((iMin (s1.size : Int) 64) : Int).toNat)]).wr b7 (((o7 + n4.toNat * 7) + 1) + 5) [.string (s2.extract (0 : Int).toNat ((iMin (s3.size : Int) 64) : Int).toNat)]) < m2 n4 h5) (∃ b8 o8, (l1.a : Option Addr) = some ⟨b8, o8, none⟩ ∧ ((0 : Int) ≤ n ∧ n < (l1.n : Int)) ∧ ∃ l7 : Sl, h5.at b8 ((o8 + n.toNat * 6) + 5) = some (.slice l7.a l7.n l7.c) ∧ ∃ b9 o9, (l1.a : Option Addr) = some ⟨b9, o9, none⟩ ∧ ((0 : Int) ≤ n ∧ n < (l1.n : Int)) ∧ ∃ l8 : Sl, h5.at b9 ((o9 + n.toNat * 6) + 5) = some (.slice l8.a l8.n l8.c) ∧ Sl.okCut l7 0 (iMin (l8.n : Int) 5) (l7.c : Int) ∧ ∃ b10 o10, (l1.a : Option Addr) = some ⟨b10, o10, none⟩ ∧ ((0 : Int) ≤ n ∧ n < (l1.n : Int)) ∧ h5.canW b10 ((o10 + n.toNat * 6) + 5) 1 ∧ ∃ (I3 : Int → Hp → Prop) (m3 : Int → Hp → Nat), I3 0 (h5.wr b10 ((o10 + n.toNat * 6) + 5) [.slice (Sl.cut l7 1 0 (iMin (l8.n : Int) 5) (l7.c : Int)).a (Sl.cut l7 1 0 (iMin (l8.n : Int) 5) (l7.c : Int)).n (Sl.cut l7 1 0 (iMin (l8.n : Int) 5) (l7.c : Int)).c]) ∧ (∀ n10 : Int, ∀ h7 : Hp, I3 n10 h7 → ∃ b11 o11, (l1.a : Option Addr) = some ⟨b11, o11, none⟩ ∧ ((0 : Int) ≤ n ∧ n < (l1.n : Int)) ∧ ∃ l9 : Sl, h7.at b11 ((o11 + n.toNat * 6) + 5) = some (.slice l9.a l9.n l9.c) ∧ par (n10 < (l9.n : Int)) (∃ b12 o12, (l1.a : Option Addr) = some ⟨b12, o12, none⟩ ∧ ((0 : Int) ≤ n ∧ n < (l1.n : Int)) ∧ ∃ l10 : Sl, h7.at b12 ((o12 + n.toNat * 6) + 5) = some (.slice l10.a l10.n l10.c) ∧ ∃ b13 o13, (l1.a : Option Addr) = some ⟨b13, o13, none⟩ ∧ ((0 : Int) ≤ n ∧ n < (l1.n : Int)) ∧ ∃ l11 : Sl, h7.at b13 ((o13 + n.toNat * 6) + 5) = some (.slice l11.a l11.n l11.c) ∧ ∃ b14 o14, (l11.a : Option Addr) = some ⟨b14, o14, none⟩ ∧ ((0 : Int) ≤ n10 ∧ n10 < (l11.n : Int)) ∧ ∃ s4 : ByteArray, h7.at b14 (o14 + n10.toNat) = some (.string s4) ∧ ∃ b15 o15, (l1.a : Option Addr) = some ⟨b15, o15, none⟩ ∧ ((0 : Int) ≤ n ∧ n < (l1.n : Int)) ∧ ∃ l12 : Sl, h7.at b15 ((o15 + n.toNat * 6) + 5) = some (.slice l12.a l12.n l12.c) ∧ ∃ b16 o16, (l12.a : Option Addr) = some ⟨b16, o16, none⟩ ∧ ((0 : Int) ≤ n10 ∧ n10 < (l12.n : Int)) ∧ ∃ s5 : ByteArray, h7.at b16 (o16 + n10.toNat) = some (.string s5) ∧ okSub s4 0 (iMin (s5.size : Int) 64) ∧ ∃ b17 o17, (l10.a : Option Addr) = some ⟨b17, o17, none⟩ ∧ ((0 : Int) ≤ n10 ∧ n10 < (l10.n : Int)) ∧ h7.canW b17 (o17 + n10.toNat) 1 ∧ I3 (IntKind.wrap .i64 (n10 + 1)) (h7.wr b17 (o17 + n10.toNat) [.string (s4.extract (0 : Int).toNat ((iMin (s5.size : Int) 64) : Int).toNat)]) ∧ m3 (IntKind.wrap .i64 (n10 + 1)) (h7.wr b17 (o17 + n10.toNat) [.string (s4.extract (0 : Int).toNat ((iMin (s5.size : Int) 64) : Int).toNat)]) < m3 n10 h7) (I (IntKind.wrap .i64 (n + 1)) h7 ∧ m (IntKind.wrap .i64 (n + 1)) h7 < m n h2))))))) (Q (.slice l1.a l1.n l1.c) h2))
def F17.W (T17 : Sl → PT) (args : List Value) : PT := match args with
  | [.slice l_a l_n l_c] => T17 ⟨l_a, l_n, l_c⟩
  | _ => fun _ _ => False
def F17.V : List Value → PT := F17.W F17.T
end Go.Eng.Ytblghgacokoklaa
end
section

/-
  SPECS, 17: edits brought to where they may be written.
-/
set_option linter.unusedSimpArgs false
set_option linter.unusedVariables false
namespace Go.Eng.Ytblghgacokoklaa
theorem buf_b {h : Hp} {s : Sl} {sz t : Nat} {vs : List Value} (B : Buf h s sz t vs) (hk : 0 < vs.length) : ∃ b, s.a = some ⟨b, 0, none⟩ := by
  obtain ⟨b, hb, _⟩ := buf_set B hk
  exact ⟨b, hb⟩
end Go.Eng.Ytblghgacokoklaa
end
section

/-
  SPECS, 18: edits brought to where they may be written, all of them; are lists of edits alike.
-/
set_option linter.unusedSimpArgs false
set_option linter.unusedVariables false
namespace Go.Eng.Ytblghgacokoklaa
theorem cut_a (s : Sl) (k m : Int) {sz : Nat} : (Sl.cut s sz 0 k m).a = s.a := by
  unfold Sl.cut
  simp only [Int.toNat_zero, Nat.zero_mul]
  split
  · rfl
  · cases s.a with
    | none => rfl
    | some a => simp [Addr.add]
end Go.Eng.Ytblghgacokoklaa
end
section

/-
  SPECS OF VERSIONS, 3: a version's copy; a table's place in a list; a table taken out.
-/
set_option linter.unusedSimpArgs false
set_option linter.unusedVariables false
set_option maxRecDepth 100000
namespace Go.Eng.Ytblghgacokoklaa
/-- A version that may be read. -/
def VerR (h : Hp) (vb : Nat) (lv : Lv) : Prop := ∃ (ls : Sl) (xs : List (Sl × List Tab)), h vb = some (.cells ⟨[.slice ls.a ls.n ls.c]⟩ 150 (0, 0)) ∧ h.row ls.a (ls.n * 1) (slV (xs.map (·.1))) ∧ (∀ x ∈ xs, h.row x.1.a (x.1.n * 6) (tabV x.2)) ∧ xs.map (·.2) = lv
theorem VerR.keep {h h' : Hp} {vb : Nat} {lv : Lv} (k : Keep h h') (V : VerR h vb lv) : VerR h' vb lv := by
  obtain ⟨ls, xs, h1, h2, h3, h4⟩ := V
  exact ⟨ls, xs, k _ _ h1, k.row h2, fun x hx => k.row (h3 x hx), h4⟩
/-- A version of one's own. -/
structure Ver (g h : Hp) (vb : Nat) (ls : Sl) (xs : List (Sl × List Tab)) : Prop where
  L : Lvs g h ls xs
  nv : g vb = none
  v : h vb = some (.cells ⟨[.slice ls.a ls.n ls.c]⟩ 150 (0, 0))
theorem Ver.r {g h : Hp} {vb : Nat} {ls : Sl} {xs : List (Sl × List Tab)} (V : Ver g h vb ls xs) : VerR h vb (xs.map (·.2)) := ⟨ls, xs, V.v, V.L.l.row, fun x hx => (V.L.t x hx).row, rfl⟩
theorem Ver.keep {g h h' : Hp} {vb : Nat} {ls : Sl} {xs : List (Sl × List Tab)} (V : Ver g h vb ls xs) (K : Keep h h') : Ver g h' vb ls xs := ⟨V.L.keep K, V.nv, K _ _ V.v⟩
theorem Ver.ck {κ : List Nat} {g h h' : Hp} {vb : Nat} {ls : Sl} {xs : List (Sl × List Tab)} (V : Ver g h vb ls xs) (C : Ck κ h h') (K : Keep g h') (a : 108 ∉ κ) (b : 87 ∉ κ) (c : 152 ∉ κ) : Ver g h' vb ls xs := ⟨V.L.ck C K a b, V.nv, C.keep _ _ V.v c⟩
/-- Row of lists read. -/
theorem rows_rd {h : Hp} {ls : Sl} {xs : List (Sl × List Tab)} (hr : h.row ls.a (ls.n * 1) (slV (xs.map (·.1)))) {i : Nat} {x : Sl × List Tab} (hx : xs[i]? = some x) : ls.n = xs.length ∧ ∃ b o, ls.a = some ⟨b, o, none⟩ ∧ h.at b (o + i) = some (.slice x.1.a x.1.n x.1.c) := by
  have hi : i < xs.length := (List.getElem?_eq_some_iff.1 hx).1
  have hn : ls.n = xs.length := by have := hr.1; rw [slV_length, List.length_map] at this; omega
  obtain ⟨b, o, ha, hat⟩ := row_get hr (i := i) (by omega)
  refine ⟨hn, b, o, ha, ?_⟩
  rw [hat i (by omega)]
  unfold slV; rw [List.getElem?_map, List.getElem?_map, hx]; rfl
theorem upd_new {h : Hp} {b t n c : Nat} {x : Array Value} (hb : h b = none) (sz : Nat) : Upd h (h.new b (.cells x t (0, 0))) ⟨none, 0, 0⟩ ⟨some ⟨b, 0, none⟩, n, c⟩ :=
  ⟨fun k y _ e => Keep.new hb _ k y e, .inr ⟨b, rfl, hb⟩, (Keep.new hb _).dom⟩
theorem rep_get {α : Type} {ys : List α} {n : Nat} {z : α} (hn : 0 < n) : (ys ++ List.replicate n z)[ys.length]? = some z := by
  rw [List.getElem?_append_right (Nat.le_refl _), Nat.sub_self, List.getElem?_replicate, if_pos hn]
theorem rep_set {α : Type} {ys : List α} {n : Nat} {z a : α} : (ys ++ List.replicate (n + 1) z).set ys.length a = (ys ++ [a]) ++ List.replicate n z := by
  rw [List.set_append_right _ _ (Nat.le_refl _), Nat.sub_self, List.replicate_succ]
  simp
theorem copied_ver {h : Hp} {vb : Nat} {lv : Lv} {Q : Value → Hp → Prop} (V : VerR h vb lv) (h5 : lv.length ≤ 5) (hs : totL lv ≤ 60000)
    (hQ : ∀ h' vb' ls xs, Ver h h' vb' ls xs → xs.map (·.2) = lv → Q (.pointer (some ⟨vb', 0, none⟩)) h') : F82.T (some ⟨vb, 0, none⟩) h Q := by
  obtain ⟨ls, xs, hv, hr, ht, rfl⟩ := V
  rw [List.length_map] at h5
  have hn : ls.n = xs.length := by have := hr.1; rw [slV_length, List.length_map] at this; omega
  unfold F82.T
  simp only [Int.toNat_natCast]
  refine ⟨vb, 0, rfl, ls, at_of hv 0, ⟨by omega, by omega, by omega⟩, fun b1 hb1 => ?_⟩
  have K1 := Keep.new hb1 (.cells (Builtin.zeroCells (List.toArray [.slice none 0 0]) ls.n) 106 (0, 0))
  refine ⟨vb, 0, rfl, ls, at_of (K1 _ _ hv) 0, fun n h1 => ∃ ys : List (Sl × List Tab), n = (ys.length : Int) ∧ ys.map (·.2) = (xs.map (·.2)).take ys.length ∧ ys.length ≤ xs.length ∧ Lvs h h1 ⟨some ⟨b1, 0, none⟩, ls.n, ls.n⟩ (ys ++ List.replicate (xs.length - ys.length) (⟨none, 0, 0⟩, [])), fun n _ => xs.length - n.toNat, ⟨[], rfl, rfl, Nat.zero_le _, K1, .inr ⟨b1, rfl, hb1⟩, ?_, ?_, ?_, ?_⟩, ?_⟩
  · have B := buf_make h b1 ls.n 106 [.slice none 0 0] (by decide)
    rw [zerosV_one] at B
    have e : slV ((([] : List (Sl × List Tab)) ++ List.replicate (xs.length - ([] : List (Sl × List Tab)).length) ((⟨none, 0, 0⟩ : Sl), ([] : List Tab))).map (·.1)) = List.replicate ls.n (.slice none 0 0) := by
      rw [hn]; simp [slV]
    rw [e]; exact B
  · intro x hx
    simp only [List.nil_append, List.mem_replicate] at hx
    rw [hx.2]; exact Buf.nil _ _ _
  · intro x hx
    simp only [List.nil_append, List.mem_replicate] at hx
    rw [hx.2]; exact .inl rfl
  · intro i j x y hx _ _
    have := List.mem_of_getElem? hx
    simp only [List.nil_append, List.mem_replicate] at this
    rw [this.2]; exact off_nil (.inl rfl)
  rintro n h1 ⟨ys, rfl, he, hl, L⟩
  refine ⟨fun hlt => ?_, fun hge => ?_⟩
  · have hlt' : ys.length < xs.length := by omega
    have hx := List.getElem?_eq_getElem hlt'
    generalize xs[ys.length] = x at hx
    have hxm := List.mem_of_getElem? hx
    obtain ⟨_, b3, o2, ha3, hat3⟩ := rows_rd (L.k.row hr) hx
    have htx := ht x hxm
    have hxn : x.1.n = x.2.length := by have := htx.1; rw [tabV_len] at this; omega
    have hxs : x.2.length ≤ totL (xs.map (·.2)) := totL_mem (List.mem_map_of_mem hxm)
    refine ⟨b3, o2, ha3, ⟨by omega, by omega⟩, x.1, hat3, ⟨by omega, by omega, by omega⟩, fun b4 hb4 => ?_⟩
    have B4 := buf_make h1 b4 x.1.n 85 [.int .u64 0, .int .i64 0, .int .i64 0, .int .i64 0, .string (ByteArray.mk #[]), .string (ByteArray.mk #[])] (by decide)
    rw [zeros_tab] at B4
    have U4 : Upd h1 _ ⟨none, 0, 0⟩ ⟨some ⟨b4, 0, none⟩, x.1.n, x.1.n⟩ := upd_new (t := 85) (x := Builtin.zeroCells (List.toArray [.int .u64 0, .int .i64 0, .int .i64 0, .int .i64 0, .string (ByteArray.mk #[]), .string (ByteArray.mk #[])]) x.1.n) hb4 6
    have hz : (ys ++ List.replicate (xs.length - ys.length) ((⟨none, 0, 0⟩ : Sl), ([] : List Tab)))[ys.length]? = some (⟨none, 0, 0⟩, []) := rep_get (by omega)
    obtain ⟨b5, ha5, _, hc5, L5, C5⟩ := L.put hz U4 B4
    have hb15 : b1 = b5 := by simpa using ha5
    subst hb15
    obtain ⟨k, hk⟩ : ∃ k, xs.length - ys.length = k + 1 := ⟨xs.length - ys.length - 1, by omega⟩
    rw [hk, rep_set] at L5
    have hz5 : (ys ++ [((⟨some ⟨b4, 0, none⟩, x.1.n, x.1.n⟩ : Sl), List.replicate x.1.n zT)] ++ List.replicate k ((⟨none, 0, 0⟩ : Sl), ([] : List Tab)))[ys.length]? = some (⟨some ⟨b4, 0, none⟩, x.1.n, x.1.n⟩, List.replicate x.1.n zT) := by
      rw [List.append_assoc, List.getElem?_append_right (Nat.le_refl _), Nat.sub_self]; rfl
    obtain ⟨b6, ha6, hat6⟩ := L5.rd hz5
    have hb16 : b1 = b6 := by simpa using ha6
    subst hb16
    refine ⟨b1, 0, rfl, ⟨by omega, by omega⟩, by rw [Nat.zero_add]; exact hc5, b1, 0, rfl, ⟨by omega, by omega⟩, ⟨some ⟨b4, 0, none⟩, x.1.n, x.1.n⟩, by rw [Nat.zero_add]; exact hat6, tabV x.2, ?_⟩
    simp only [Nat.zero_add]
    have hT5 := L5.t _ (List.mem_of_getElem? hz5)
    have hmin : Nat.min x.1.n x.1.n = x.1.n := Nat.min_self _
    obtain ⟨hc6, U6, T6⟩ := bufWr' (A := []) (U := tabV (List.replicate x.1.n zT)) (V := tabV x.2) (B := []) (b := b4) (by rw [List.nil_append, List.append_nil]; exact hT5) (by rw [tabV_len, tabV_len, List.length_replicate, hxn]) rfl
    simp only [List.nil_append, List.append_nil, List.length_nil] at hc6 U6 T6
    obtain ⟨L6, C6⟩ := L5.fill hz5 U6 T6
    refine ⟨by rw [hmin]; exact L5.k.row htx, tab_one _, hc6, ⟨ys ++ [(⟨some ⟨b4, 0, none⟩, x.1.n, x.1.n⟩, x.2)], ?_, ?_, ?_, ?_⟩, ?_⟩
    · rw [next_i (n := 100) (by omega) (by omega)]; simp
    · rw [List.map_append, he, List.length_append, List.length_singleton, List.take_succ_eq_append_getElem (by rw [List.length_map]; exact hlt')]
      rw [List.getElem_map]
      rw [List.getElem?_eq_getElem hlt'] at hx
      simp only [Option.some.injEq] at hx
      rw [hx]; rfl
    · rw [List.length_append, List.length_singleton]; omega
    · have e1 : xs.length - (ys ++ [((⟨some ⟨b4, 0, none⟩, x.1.n, x.1.n⟩ : Sl), x.2)]).length = k := by rw [List.length_append, List.length_singleton]; omega
      rw [e1]
      have e2 : (ys ++ [((⟨some ⟨b4, 0, none⟩, x.1.n, x.1.n⟩ : Sl), List.replicate x.1.n zT)] ++ List.replicate k ((⟨none, 0, 0⟩ : Sl), ([] : List Tab))).set ys.length (⟨some ⟨b4, 0, none⟩, x.1.n, x.1.n⟩, x.2) = ys ++ [((⟨some ⟨b4, 0, none⟩, x.1.n, x.1.n⟩ : Sl), x.2)] ++ List.replicate k ((⟨none, 0, 0⟩ : Sl), ([] : List Tab)) := by
        rw [List.append_assoc, List.set_append_right _ _ (Nat.le_refl _), Nat.sub_self]; simp
      rw [← e2]
      exact L6
    · rw [next_i (n := 100) (by omega) (by omega)]; omega
  · have hl2 : ys.length = xs.length := by omega
    intro b7 hb7
    have K7 := Keep.new hb7 (.cells ⟨[.slice (some ⟨b1, 0, none⟩) ls.n ls.n]⟩ 150 (0, 0))
    refine hQ _ b7 ⟨some ⟨b1, 0, none⟩, ls.n, ls.n⟩ ys ⟨?_, L.k.dom b7 hb7, new_at _ _ _⟩ ?_
    · rw [hl2, Nat.sub_self, List.replicate_zero, List.append_nil] at L
      exact L.keep K7
    · rw [he, hl2, ← List.length_map (f := fun x : Sl × List Tab => x.2), List.take_length]
/-- Is there such a level? -/
theorem has_spec {h : Hp} {vb : Nat} {ls : Sl} {n : Int} {Q : Value → Hp → Prop} (hv : h vb = some (.cells ⟨[.slice ls.a ls.n ls.c]⟩ 150 (0, 0))) (hT : 0 ≤ n → n < (ls.n : Int) → Q (.bool true) h) (hF : n < 0 ∨ (ls.n : Int) ≤ n → Q (.bool false) h) : F89.T (some ⟨vb, 0, none⟩) n h Q :=
  ⟨fun h0 => ⟨vb, 0, rfl, ls, at_of hv 0, fun h1 => hT h0 h1, fun h1 => hF (.inr (by omega))⟩, fun h0 => hF (.inl (by omega))⟩
theorem index_spec {h : Hp} {l : Sl} {ts : List Tab} {b : Nat} {num : Int} {Q : Value → Hp → Prop} (hr : h.row l.a (l.n * 6) (tabV ts)) (hn : l.n ≤ 60000) (hb : h.at b 1 = some (.int .u64 num))
    (h1 : ∀ P x R, ts = P ++ x :: R → (∀ y ∈ P, y.num ≠ num) → x.num = num → Q (.int .i64 (P.length : Int)) h) (h2 : (∀ y ∈ ts, y.num ≠ num) → Q (.int .i64 (-1)) h) : F98.T l b 0 h Q := by
  have hl : l.n = ts.length := by have := hr.1; rw [tabV_len] at this; omega
  refine ⟨fun n g => g = h ∧ ∃ P R, ts = P ++ R ∧ n = (P.length : Int) ∧ ∀ y ∈ P, y.num ≠ num, fun n _ => ts.length - n.toNat, ⟨rfl, [], ts, rfl, rfl, fun y hy => by cases hy⟩, ?_⟩
  rintro n g ⟨rfl, P, R, rfl, rfl, hP⟩
  rw [List.length_append] at hl
  refine ⟨fun hlt => ?_, fun hge => ?_⟩
  · rcases R with _ | ⟨x, R⟩
    · exact absurd hlt (by simp at hl; omega)
    refine tab_rd hr rfl fun b1 o1 => ⟨num, hb, fun he => ⟨true, rfl, fun _ => h1 P x R rfl hP he, fun h0 => (by cases h0)⟩, fun hne => ⟨false, rfl, fun h0 => (by cases h0), fun _ => ?_⟩⟩
    rw [List.length_cons] at hl
    rw [next_i (n := 70000) (by omega) (by omega)]
    refine ⟨⟨rfl, P ++ [x], R, by simp, by simp, fun y hy => ?_⟩, by dsimp only; rw [List.length_append, List.length_cons]; omega⟩
    rcases List.mem_append.1 hy with hy | hy
    · exact hP y hy
    · rw [List.mem_singleton] at hy; subst hy; exact hne
  · have : R = [] := List.eq_nil_of_length_eq_zero (by omega)
    subst this
    exact h2 (by simpa using hP)
theorem where_spec {h : Hp} {l : Sl} {ts : List Tab} {num : Int} {Q : Value → Hp → Prop} (hr : h.row l.a (l.n * 6) (tabV ts)) (hn : l.n ≤ 60000)
    (h1 : ∀ P x R, ts = P ++ x :: R → (∀ y ∈ P, y.num ≠ num) → x.num = num → Q (.int .i64 (P.length : Int)) h) (h2 : (∀ y ∈ ts, y.num ≠ num) → Q (.int .i64 (-1)) h) : F106.T l num h Q := by
  have hl : l.n = ts.length := by have := hr.1; rw [tabV_len] at this; omega
  refine ⟨fun n g => g = h ∧ ∃ P R, ts = P ++ R ∧ n = (P.length : Int) ∧ ∀ y ∈ P, y.num ≠ num, fun n _ => ts.length - n.toNat, ⟨rfl, [], ts, rfl, rfl, fun y hy => by cases hy⟩, ?_⟩
  rintro n g ⟨rfl, P, R, rfl, rfl, hP⟩
  rw [List.length_append] at hl
  refine ⟨fun hlt => ?_, fun hge => ?_⟩
  · rcases R with _ | ⟨x, R⟩
    · exact absurd hlt (by simp at hl; omega)
    obtain ⟨b, o, ha, hbd, n4, h4, _⟩ := tab_rd (K := fun b o n _ _ _ _ _ => n = x.num) hr rfl fun b o => rfl
    obtain ⟨b', o', ha', hbd', m4, k4, m5, k5, m6, k6, m7, k7, s, ks, s1, ks1, e⟩ := tab_rd (K := fun b o n _ _ _ _ _ => n = x.num) hr rfl fun b o => rfl
    subst e
    refine ⟨b', o', ha', hbd', x.num, k4, fun he => h1 P x R rfl hP he, fun hne => ?_⟩
    rw [List.length_cons] at hl
    rw [next_i (n := 70000) (by omega) (by omega)]
    refine ⟨⟨rfl, P ++ [x], R, by simp, by simp, fun y hy => ?_⟩, by dsimp only; rw [List.length_append, List.length_cons]; omega⟩
    rcases List.mem_append.1 hy with hy | hy
    · exact hP y hy
    · rw [List.mem_singleton] at hy; subst hy; exact hne
  · have : R = [] := List.eq_nil_of_length_eq_zero (by omega)
    subst this
    exact h2 (by simpa using hP)
theorem delete_spec {h : Hp} {l : Sl} {P R : List Tab} {x : Tab} {n n1 : Int} {Q : Value → Hp → Prop} (B : TB h l (P ++ x :: R)) (hn : l.n ≤ 60000) (e : n = (P.length : Int)) (e1 : n1 = ((P.length + 1 : Nat) : Int))
    (hQ : ∀ h' l', TB h' l' (P ++ R) → Upd h h' l l' → Q (.slice l'.a l'.n l'.c) h') : F100.T l n n1 h Q := by
  subst e e1
  have hl := B.n
  have hcap := Buf.cap B
  rw [List.length_append, List.length_cons] at hl
  obtain ⟨b, hb⟩ := buf_b B (by rw [tabV_len, List.length_append, List.length_cons]; omega)
  have hcb := cut_back (k := P.length + 1) (Buf.row B) (by omega) hcap
  have hdrop : (tabV (P ++ x :: R)).drop ((P.length + 1) * 6) = tabV R := by
    rw [tabV_app, tabV_cons, ← List.append_assoc]
    exact List.drop_left' (by rw [List.length_append, tabV_len]; show P.length * 6 + 6 = _; omega)
  rw [hdrop] at hcb
  have hbn : (Sl.cut l 6 ((P.length + 1 : Nat) : Int) (l.n : Int) (l.c : Int)).n = R.length := by unfold Sl.cut; dsimp only; omega
  have hfn : (Sl.cut l 6 0 (P.length : Int) (l.c : Int)).n = P.length := by unfold Sl.cut; dsimp only; omega
  have hfc : (Sl.cut l 6 0 (P.length : Int) (l.c : Int)).c = l.c := by unfold Sl.cut; dsimp only; omega
  refine ⟨⟨by omega, by omega, by omega, by omega⟩, fun he => absurd he (by omega), fun _ => ⟨⟨by omega, by omega, by omega, by omega⟩, ⟨by omega, by omega, by omega, by omega⟩, tabV R, hcb, tab_one _, ?_⟩⟩
  unfold appendD
  rw [hbn, hfn, hfc, cut_a, hb]
  have hadd : (some (⟨b, 0, none⟩ : Addr)).map (·.add (P.length * 6)) = some ⟨b, P.length * 6, none⟩ := by simp [addr_add]
  rw [hadd]
  refine ⟨by omega, fun _ => ?_, fun hlt => absurd hlt (by omega)⟩
  -- the tail over what goes
  obtain ⟨U2, B2, hUB, hUl⟩ := cut_at (l := x.cells ++ tabV R) (k := R.length * 6) (by rw [List.length_append, tabV_len]; omega)
  have hB2 : B2.length = 6 := by
    have := congrArg List.length hUB
    rw [List.length_append, List.length_append, tabV_len] at this
    have h6 : x.cells.length = 6 := rfl
    omega
  have Bf : Buf h l 6 85 (tabV P ++ (U2 ++ B2)) := by rw [← hUB, ← tabV_cons, ← tabV_app]; exact B
  obtain ⟨c1, Up1, W1⟩ := bufWr' (V := tabV R) Bf (by rw [tabV_len]; exact hUl) hb
  rw [tabV_len] at c1 Up1 W1
  refine ⟨c1, ⟨by dsimp only; omega, by dsimp only; omega, by dsimp only; omega, by dsimp only; omega⟩, ?_⟩
  have hcn : (Sl.cut ⟨some ⟨b, 0, none⟩, P.length + R.length, l.c⟩ 6 ((P.length + R.length : Nat) : Int) (l.n : Int) (l.c : Int)).n = 1 := by unfold Sl.cut; dsimp only; omega
  have hca : (Sl.cut ⟨some ⟨b, 0, none⟩, P.length + R.length, l.c⟩ 6 ((P.length + R.length : Nat) : Int) (l.n : Int) (l.c : Int)).a = some ⟨b, (tabV P ++ tabV R).length, none⟩ := by
    unfold Sl.cut
    dsimp only
    rw [if_neg (by omega)]
    simp only [Option.map_some, addr_add, List.length_append, tabV_len, Option.some.injEq, Addr.mk.injEq, and_true, true_and]
    omega
  have W1' : Buf (h.wrA (some ⟨b, P.length * 6, none⟩) (tabV R)) l 6 85 ((tabV P ++ tabV R) ++ (B2 ++ [])) := by simpa using W1
  have hz : zerosV [.int .u64 0, .int .i64 0, .int .i64 0, .int .i64 0, .string (ByteArray.mk #[]), .string (ByteArray.mk #[])] 1 = tabV [zT] := zeros_tab 1
  obtain ⟨c2, Up2, W2⟩ := bufWr' (V := tabV [zT]) W1' (by rw [tabV_len]; exact hB2) hb
  rw [tabV_len] at c2
  dsimp only
  rw [hcn, hca, hz]
  refine ⟨c2, hQ _ ⟨some ⟨b, 0, none⟩, P.length + R.length, l.c⟩ ?_ ?_⟩
  · have := buf_shrink (k := P.length + R.length) W2 (by rw [List.length_append, tabV_len, tabV_len]; omega) (by omega)
    rw [hb] at this
    show Buf _ _ 6 85 (tabV (P ++ R))
    rw [tabV_app]
    exact this
  · have Up := Up1.trans Up2
    exact ⟨Up.keep, .inl hb.symm, Up.dom⟩
end Go.Eng.Ytblghgacokoklaa
end
section

/-
  SPECS OF VERSIONS, 4: tables taken out; numbers counted.
-/
set_option linter.unusedSimpArgs false
set_option linter.unusedVariables false
set_option maxRecDepth 100000
namespace Go.Eng.Ytblghgacokoklaa
theorem out_rd {h : Hp} {l : Sl} {P R : List Place} {p : Place} (hr : h.row l.a (l.n * 2) (outV (P ++ p :: R))) : ∃ b o, l.a = some ⟨b, o, none⟩ ∧ (P.length : Int) < (l.n : Int) ∧ h.at b (o + (P.length : Int).toNat * 2) = some (.int .i64 p.lv) ∧ h.at b ((o + (P.length : Int).toNat * 2) + 1) = some (.int .u64 p.num) := by
  have hl := hr.1
  rw [outV_len, List.length_append, List.length_cons] at hl
  obtain ⟨b, o, ha, hat⟩ := row_get hr (i := P.length * 2) (by omega)
  have c : ∀ j, j < 2 → h.at b ((o + (P.length : Int).toNat * 2) + j) = (Place.cells p)[j]? := fun j hj => by
    rw [Int.toNat_natCast, Nat.add_assoc, hat _ (by omega)]
    have := flat_get Place.cells 2 (fun _ => rfl) (P ++ p :: R) P.length j (by rw [List.length_append, List.length_cons]; omega) hj
    rw [List.getElem_append_right (Nat.le_refl _)] at this
    simp only [Nat.sub_self, List.getElem_cons_zero] at this
    exact this
  exact ⟨b, o, ha, by omega, c 0 (by decide), c 1 (by decide)⟩
theorem out_spec {g h : Hp} {vb : Nat} {ls l : Sl} {xs : List (Sl × List Tab)} {ps : List Place} {Q : Value → Hp → Prop} (V : Ver g h vb ls xs) (hr : g.row l.a (l.n * 2) (outV ps)) (hs : totL (xs.map (·.2)) ≤ 60000) (hp : ps.length ≤ 60000)
    (hQ : ∀ h' xs', Ver g h' vb ls xs' → Ck [87, 108] h h' → xs'.map (·.2) = (outM ps (xs.map (·.2))).2 → Q (.int .i64 (outM ps (xs.map (·.2))).1) h') : F83.T (some ⟨vb, 0, none⟩) l h Q := by
  have hln : l.n = ps.length := by have := hr.1; rw [outV_len] at this; omega
  refine ⟨fun n h1 => ∃ P R xs1, ps = P ++ R ∧ n = (P.length : Int) ∧ Ver g h1 vb ls xs1 ∧ Ck [87, 108] h h1 ∧ outM ps (xs.map (·.2)) = outM R (xs1.map (·.2)) ∧ totL (xs1.map (·.2)) ≤ 60000, fun n _ => ps.length - n.toNat, ⟨[], ps, xs, rfl, rfl, V, Ck.refl _ _, rfl, hs⟩, ?_⟩
  rintro n h1 ⟨P, R, xs1, rfl, rfl, V1, C1, he, ht⟩
  rw [List.length_append] at hln hp
  rw [he] at hQ
  refine ⟨fun hlt => ?_, fun hge => ?_⟩
  · rcases R with _ | ⟨p, R⟩
    · exact absurd hlt (by simp at hln; omega)
    rw [List.length_cons] at hln hp
    obtain ⟨b, o, ha, hb, h0, hn1⟩ := out_rd (V1.L.k.row hr)
    refine ⟨b, o, ha, ⟨by omega, hb⟩, p.lv, h0, p.num, hn1, fun b1 hb1 => ?_⟩
    rw [new_wr]
    have eS : (setL ((⟨[Value.int .i64 0, Value.int .u64 0]⟩ : Array Value).toList) 0 [.int .i64 p.lv, .int .u64 p.num]).toArray = ⟨[.int .i64 p.lv, .int .u64 p.num]⟩ := rfl
    rw [eS]
    have K1 := Keep.new hb1 (.cells ⟨[.int .i64 p.lv, .int .u64 p.num]⟩ 89 (0, 0))
    have hx1 : (h1.new b1 (.cells ⟨[.int .i64 p.lv, .int .u64 p.num]⟩ 89 (0, 0))) b1 = some (.cells ⟨[.int .i64 p.lv, .int .u64 p.num]⟩ 89 (0, 0)) := new_at _ _ _
    have V2 := V1.keep K1
    have C2 : Ck [87, 108] h (h1.new b1 (.cells ⟨[.int .i64 p.lv, .int .u64 p.num]⟩ 89 (0, 0))) := C1.trans (Ck.of_keep K1)
    refine ⟨canW_new (new_at _ _ _) (Nat.le_refl _), p.lv, at_of hx1 0, ?_⟩
    clear V1 C1 K1 h0 hn1
    generalize h1.new b1 (.cells ⟨[.int .i64 p.lv, .int .u64 p.num]⟩ 89 (0, 0)) = h2 at hx1 V2 C2 ⊢
    refine has_spec V2.v (fun c0 c1 => ⟨true, rfl, fun _ => ?_, fun h0 => (by cases h0)⟩) (fun hc => ⟨false, rfl, fun h0 => (by cases h0), fun _ => ?_⟩)
    · have hlx := V2.L.len
      obtain ⟨x, hx⟩ : ∃ x, xs1[p.lv.toNat]? = some x := ⟨_, List.getElem?_eq_getElem (by omega)⟩
      obtain ⟨b4, ha4, hat4⟩ := V2.L.rd hx
      have hxm := List.mem_of_getElem? hx
      have T2 := V2.L.t x hxm
      have hx6 : x.2.length ≤ 60000 := Nat.le_trans (totL_mem (List.mem_map_of_mem hxm)) ht
      have hlv : (xs1.map (·.2))[p.lv.toNat]? = some x.2 := by rw [List.getElem?_map, hx]; rfl
      refine ⟨vb, 0, rfl, ls, at_of V2.v 0, p.lv, at_of hx1 0, b4, 0, ha4, ⟨c0, c1⟩, x.1, by rw [Nat.zero_add]; exact hat4, at_of V2.v 0, at_of hx1 0, by rw [Nat.zero_add]; exact hat4, ?_⟩
      refine index_spec (Buf.row T2) (by rw [T2.n]; exact hx6) (at_of hx1 1) (fun A y B e hA hy => ⟨(A.length : Int), rfl, fun h0 => absurd h0 (by omega), fun _ => ?_⟩) (fun hno => ⟨-1, rfl, fun _ => ?_, fun h0 => absurd (by decide) h0⟩)
      · refine ⟨vb, 0, rfl, ls, at_of V2.v 0, p.lv, at_of hx1 0, vb, 0, rfl, ls, at_of V2.v 0, p.lv, at_of hx1 0, b4, 0, ha4, ⟨c0, c1⟩, x.1, by rw [Nat.zero_add]; exact hat4, ?_⟩
        have hcut : cutN p.num x.2 = some (A ++ B) := by rw [e]; exact cutN_some hA hy
        have T2' : TB h2 x.1 (A ++ y :: B) := by rw [← e]; exact T2
        have eA : x.2.length = A.length + (B.length + 1) := by rw [e, List.length_append, List.length_cons]
        refine delete_spec T2' (by rw [T2.n]; exact hx6) rfl (by rw [next_i (n := 70000) (by omega) (by omega)]) fun h4 l' T4 U4 => ⟨l', rfl, ?_⟩
        have C4 : Ck [87] h2 h4 := Ck.of_upd T2' U4
        obtain ⟨b8, ha8, _, hc8, L8, C8⟩ := V2.L.put hx U4 T4
        refine ⟨by rw [C4.at V2.v (by decide)]; rfl, by rw [C4.at hx1 (by decide)]; rfl, b8, 0, ha8, ⟨c0, c1⟩, by rw [Nat.zero_add]; exact hc8, ?_⟩
        rw [Nat.zero_add, next_i (n := 70000) (by omega) (by omega)]
        refine ⟨⟨P ++ [p], R, xs1.set p.lv.toNat (l', A ++ B), by simp, by simp, ⟨L8, V2.nv, C8.keep _ _ V2.v (show 152 ∉ [87, 108] by decide)⟩, C2.trans C8, ?_, ?_⟩, by dsimp only; rw [List.length_append, List.length_cons]; omega⟩
        · rw [he, outM, if_neg (by omega), hlv]
          dsimp only
          rw [hcut]
          dsimp only
          rw [List.map_set]
        · rw [List.map_set]
          have := totL_set (us := A ++ B) hlv
          rw [List.length_append] at this
          dsimp only
          omega
      · have e1 : outM (p :: R) (xs1.map (·.2)) = (130, xs1.map (·.2)) := by
          rw [outM, if_neg (by omega), hlv]
          dsimp only
          rw [cutN_none hno]
        rw [e1] at hQ
        exact hQ h2 xs1 V2 C2 rfl
    · have e1 : outM (p :: R) (xs1.map (·.2)) = (133, xs1.map (·.2)) := by
        rw [outM]
        by_cases h0 : p.lv < 0
        · rw [if_pos h0]
        · rw [if_neg h0, List.getElem?_eq_none (by rw [List.length_map, ← V2.L.len]; omega)]
      rw [e1] at hQ
      exact hQ h2 xs1 V2 C2 rfl
  · have : R = [] := List.eq_nil_of_length_eq_zero (by omega)
    subst this
    exact hQ h1 xs1 V1 C1 rfl
theorem nums_app (A B : Lv) : nums (A ++ B) = nums A ++ nums B := by unfold nums; simp
theorem nums_one (l : List Tab) : nums [l] = l.map Tab.num := by unfold nums; simp
theorem nums_len (A : Lv) : (nums A).length = totL A := by unfold nums totL; rw [List.length_map, List.length_flatten]
/-- How often a number was met. -/
def cnt (l : List Int) (k : Int) : Int := ((l.count k : Nat) : Int)
theorem cnt_nil (k : Int) : cnt [] k = 0 := rfl
theorem cnt_app (A B : List Int) (k : Int) : cnt (A ++ B) k = cnt A k + cnt B k := by unfold cnt; rw [List.count_append]; omega
theorem cnt_one (j k : Int) : cnt [j] k = if k = j then 1 else 0 := by
  unfold cnt
  by_cases h : k = j
  · subst h; simp
  · rw [if_neg h, List.count_eq_zero.2 (by simpa using h)]; rfl
theorem cnt_le (l : List Int) (k : Int) : 0 ≤ cnt l k ∧ cnt l k ≤ (l.length : Int) := by
  unfold cnt
  have := List.count_le_length (a := k) (l := l)
  omega
theorem cnt_pos (l : List Int) (k : Int) : 0 < cnt l k ↔ k ∈ l := by
  unfold cnt
  rw [← List.count_pos_iff]
  omega
theorem Mp.congr {h : Hp} {b : Nat} {f f' : Int → Int} (M : Mp h b f) (e : ∀ k, f k = f' k) : Mp h b f' := by
  have : f = f' := funext e
  rw [← this]; exact M
theorem counted_spec {h : Hp} {vb b : Nat} {lv : Lv} {f : Int → Int} {Q : Value → Hp → Prop} (V : VerR h vb lv) (M : Mp h b f) (hf : ∀ k, 0 ≤ f k ∧ f k ≤ 1000000000) (hs : totL lv ≤ 60000) (h5 : lv.length ≤ 5)
    (hQ : ∀ h', Mp h' b (fun k => f k + cnt (nums lv) k) → One b h h' → Q (.tuple ⟨[]⟩) h') : F101.T (some ⟨vb, 0, none⟩) (some b) h Q := by
  obtain ⟨ls, xs, hv, hr, ht, rfl⟩ := V
  obtain ⟨es0, c0, hb0, _⟩ := id M
  rw [List.length_map] at h5
  have hn : ls.n = xs.length := by have := hr.1; rw [slV_length, List.length_map] at this; omega
  refine ⟨vb, 0, rfl, ls, at_of hv 0, fun n h1 => ∃ P R, xs = P ++ R ∧ n = (P.length : Int) ∧ Mp h1 b (fun k => f k + cnt (nums (P.map (·.2))) k) ∧ One b h h1, fun n _ => xs.length - n.toNat, ⟨[], xs, rfl, rfl, Mp.congr M fun k => by show f k = f k + cnt [] k; rw [cnt_nil]; omega, One.refl _ _⟩, ?_⟩
  rintro n h1 ⟨P, R, rfl, rfl, M1, O1⟩
  rw [List.length_append] at hn h5
  refine ⟨fun hlt => ?_, fun hge => ?_⟩
  · rcases R with _ | ⟨x, R⟩
    · exact absurd hlt (by simp at hn; omega)
    rw [List.length_cons] at hn h5
    obtain ⟨_, b1, o1, ha1, hat1⟩ := rows_rd (O1.row hb0 hr) (i := P.length) (x := x) (by simp)
    have htx := ht x (by simp)
    have hxn : x.1.n = x.2.length := by have := htx.1; rw [tabV_len] at this; omega
    have hxs : totL (P.map (·.2)) + x.2.length ≤ 60000 := by
      unfold totL at hs ⊢
      rw [List.map_append, List.map_cons, List.map_append, List.map_cons, List.sum_append, List.sum_cons] at hs
      omega
    refine ⟨b1, o1, ha1, ⟨by omega, hlt⟩, x.1, by rw [Int.toNat_natCast]; exact hat1, fun n1 h2 => ∃ A B, x.2 = A ++ B ∧ n1 = (A.length : Int) ∧ Mp h2 b (fun k => f k + cnt (nums (P.map (·.2))) k + cnt (A.map Tab.num) k) ∧ One b h h2, fun n1 _ => x.2.length - n1.toNat, ⟨[], x.2, rfl, rfl, Mp.congr M1 fun k => by rw [List.map_nil, cnt_nil]; omega, O1⟩, ?_⟩
    rintro n1 h2 ⟨A, B, eAB, rfl, M2, O2⟩
    refine ⟨fun hlt1 => ?_, fun hge1 => ?_⟩
    · rcases B with _ | ⟨t, B⟩
      · exact absurd hlt1 (by rw [hxn, eAB]; simp)
      rw [eAB] at htx
      have eL : x.2.length = A.length + (B.length + 1) := by rw [eAB, List.length_append, List.length_cons]
      refine tab_rd (O2.row hb0 htx) rfl fun b2 o2 => ?_
      refine Mp.add M2 t.num fun es c hes M3 => ?_
      rw [next_i (n := 70000) (by omega) (by omega)]
      have b1 := cnt_le (nums (P.map (·.2))) t.num
      have b2 := cnt_le (A.map Tab.num) t.num
      rw [nums_len] at b1
      rw [List.length_map] at b2
      have b3 := hf t.num
      refine ⟨⟨A ++ [t], B, by rw [eAB]; simp, by simp, Mp.congr M3 fun k => ?_, O2.trans (One.new _ (by rw [hes]; simp))⟩, by rw [eL]; dsimp only; omega⟩
      rw [wrap_i64 (by omega) (by omega), List.map_append, cnt_app, List.map_cons, List.map_nil, cnt_one]
      by_cases hk : k = t.num
      · rw [if_pos hk, if_pos hk, hk]; omega
      · rw [if_neg hk, if_neg hk]; omega
    · have hB : B = [] := List.eq_nil_of_length_eq_zero (by have := congrArg List.length eAB; rw [List.length_append] at this; omega)
      subst hB
      rw [List.append_nil] at eAB
      rw [next_i (n := 100) (by omega) (by omega)]
      refine ⟨⟨P ++ [x], R, by simp, by simp, Mp.congr M2 fun k => ?_, O2⟩, by (try dsimp only); rw [List.length_append, List.length_cons]; omega⟩
      rw [List.map_append, nums_app, cnt_app, List.map_cons, List.map_nil, nums_one, eAB]; omega
  · have : R = [] := List.eq_nil_of_length_eq_zero (by omega)
    subst this
    rw [List.append_nil] at hQ
    exact hQ h1 M1 O1
end Go.Eng.Ytblghgacokoklaa
end
section

/-
  SPECS OF VERSIONS, 5: tables brought in; levels sorted.
-/
set_option linter.unusedSimpArgs false
set_option linter.unusedVariables false
set_option maxRecDepth 100000
namespace Go.Eng.Ytblghgacokoklaa
theorem tab_at {h : Hp} {l : Sl} {ts : List Tab} (hr : h.row l.a (l.n * 6) (tabV ts)) {i : Nat} {x : Tab} (hx : ts[i]? = some x) : ∃ b o, l.a = some ⟨b, o, none⟩ ∧ i < l.n ∧ ∀ j, j < 6 → h.at b ((o + i * 6) + j) = (Tab.cells x)[j]? := by
  have hi : i < ts.length := (List.getElem?_eq_some_iff.1 hx).1
  have hl := hr.1
  rw [tabV_len] at hl
  obtain ⟨b, o, ha, hat⟩ := row_get hr (i := i * 6) (by omega)
  refine ⟨b, o, ha, by omega, fun j hj => ?_⟩
  rw [Nat.add_assoc, hat _ (by omega)]
  have := flat_get Tab.cells 6 (fun _ => rfl) ts i j hi hj
  rw [List.getElem?_eq_getElem hi] at hx
  rw [Option.some.inj hx] at this
  exact this
theorem in_rd {h : Hp} {l : Sl} {P R : List Placed} {p : Placed} (hr : h.row l.a (l.n * 7) (inV (P ++ p :: R))) {i : Int} (hi : i = (P.length : Int)) {K : Nat → Nat → Int → Int → Int → Int → Int → ByteArray → ByteArray → Prop} (hK : ∀ b o, K b o p.lv p.num p.weight p.bytes p.entries p.least p.greatest) :
    ∃ b o, (l.a : Option Addr) = some ⟨b, o, none⟩ ∧ ((0 : Int) ≤ i ∧ i < (l.n : Int)) ∧ ∃ n1 : Int, h.at b (o + i.toNat * 7) = some (.int .i64 n1) ∧ ∃ n2 : Int, h.at b ((o + i.toNat * 7) + 1) = some (.int .u64 n2) ∧ ∃ n3 : Int, h.at b ((o + i.toNat * 7) + 2) = some (.int .i64 n3) ∧ ∃ n4 : Int, h.at b ((o + i.toNat * 7) + 3) = some (.int .i64 n4) ∧ ∃ n5 : Int, h.at b ((o + i.toNat * 7) + 4) = some (.int .i64 n5) ∧ ∃ s : ByteArray, h.at b ((o + i.toNat * 7) + 5) = some (.string s) ∧ ∃ s1 : ByteArray, h.at b ((o + i.toNat * 7) + 6) = some (.string s1) ∧ K b o n1 n2 n3 n4 n5 s s1 := by
  subst hi
  have hl := hr.1
  rw [inV_len, List.length_append, List.length_cons] at hl
  obtain ⟨b, o, ha, hat⟩ := row_get hr (i := P.length * 7) (by omega)
  have c : ∀ j, j < 7 → h.at b ((o + (P.length : Int).toNat * 7) + j) = (Placed.cells p)[j]? := fun j hj => by
    rw [Int.toNat_natCast, Nat.add_assoc, hat _ (by omega)]
    have := flat_get Placed.cells 7 (fun _ => rfl) (P ++ p :: R) P.length j (by rw [List.length_append, List.length_cons]; omega) hj
    rw [List.getElem_append_right (Nat.le_refl _)] at this
    simp only [Nat.sub_self, List.getElem_cons_zero] at this
    exact this
  exact ⟨b, o, ha, ⟨by omega, by omega⟩, _, c 0 (by decide), _, c 1 (by decide), _, c 2 (by decide), _, c 3 (by decide), _, c 4 (by decide), _, c 5 (by decide), _, c 6 (by decide), hK b o⟩
theorem cnt_set : ∀ {lv : Lv} {k : Nat} {ts : List Tab} (t : Tab), lv[k]? = some ts → ∀ j, cnt (nums (lv.set k (ts ++ [t]))) j = cnt (nums lv) j + if j = t.num then 1 else 0
  | [], k, ts, t, h, j => by simp at h
  | l :: lv, 0, ts, t, h, j => by
    simp only [List.getElem?_cons_zero, Option.some.injEq] at h
    subst h
    rw [List.set_cons_zero, show (l ++ [t]) :: lv = [l ++ [t]] ++ lv from rfl, show l :: lv = [l] ++ lv from rfl, nums_app, nums_app, nums_one, nums_one, List.map_append, cnt_app, cnt_app, cnt_app, List.map_cons, List.map_nil, cnt_one]; omega
  | l :: lv, k + 1, ts, t, h, j => by
    simp only [List.getElem?_cons_succ] at h
    have := cnt_set t h j
    rw [List.set_cons_succ, show l :: lv.set k (ts ++ [t]) = [l] ++ lv.set k (ts ++ [t]) from rfl, show l :: lv = [l] ++ lv from rfl, nums_app, nums_app, cnt_app, cnt_app, this]; omega
/-- What comes of bringing tables in. -/
def InR (lv : Lv) (ps : List Placed) (c : Int) (lw : Lv) : Prop :=
  if (inM ps lv).1 = 0 then (c = 132 ∧ ∃ i ts, 1 ≤ i ∧ (inM ps lv).2[i]? = some ts ∧ Bad ts) ∨ (c = 0 ∧ Sorted (inM ps lv).2 lw) else c = (inM ps lv).1
/-- Sorted up to a level. -/
def SortTo (k : Nat) (lv lw : Lv) : Prop := lw.length = lv.length ∧ ∀ i ts us, lv[i]? = some ts → lw[i]? = some us → if 1 ≤ i ∧ i < k then Fine ts us else us = ts
theorem SortTo.step {k : Nat} {lv lw : Lv} {us : List Tab} (S : SortTo k lv lw) (hk : 1 ≤ k) {ts : List Tab} (h1 : lw[k]? = some ts) (hF : Fine ts us) : SortTo (k + 1) lv (lw.set k us) := by
  refine ⟨by rw [List.length_set]; exact S.1, fun i x y hx hy => ?_⟩
  rcases set_get hy with ⟨rfl, rfl, _⟩ | ⟨hne, hy⟩
  · have := S.2 i x ts hx h1
    rw [if_neg (by omega)] at this
    rw [if_pos ⟨hk, by omega⟩, ← this]; exact hF
  · have := S.2 i x y hx hy
    by_cases hi : 1 ≤ i ∧ i < k
    · rw [if_pos hi] at this; rw [if_pos ⟨hi.1, by omega⟩]; exact this
    · rw [if_neg hi] at this; rw [if_neg (by omega)]; exact this
theorem SortTo.done {k : Nat} {lv lw : Lv} (S : SortTo k lv lw) (hk : lv.length ≤ k) : Sorted lv lw := by
  refine ⟨S.1, ?_, fun i ts us hi h1 h2 => ?_⟩
  · by_cases h0 : 0 < lv.length
    · have h1 := List.getElem?_eq_getElem h0
      have h2 := List.getElem?_eq_getElem (l := lw) (i := 0) (by rw [S.1]; exact h0)
      have := S.2 0 _ _ h1 h2
      rw [if_neg (by omega)] at this
      rw [h1, h2, this]
    · have e1 := S.1
      have e2 : lv = [] := List.eq_nil_of_length_eq_zero (by omega)
      have e3 : lw = [] := List.eq_nil_of_length_eq_zero (by omega)
      rw [e2, e3]
  · have := S.2 i ts us h1 h2
    rw [if_pos ⟨hi, by have := (List.getElem?_eq_some_iff.1 h1).1; omega⟩] at this
    exact this
theorem sle {a b : ByteArray} : (sLt a b ∨ a = b) ↔ ¬ Bl b a := by
  rw [sLt_bl]
  constructor
  · rintro (h | rfl)
    · exact h.asym
    · exact Bl.irr
  · intro h
    rcases bl_tri a b with x | x | x
    · exact .inl x
    · exact absurd x h
    · exact .inr x
/-- The levels from 1 on are sorted, each looked at. -/
theorem sort_levels {g h : Hp} {vb : Nat} {ls : Sl} {xs : List (Sl × List Tab)} {Q : Value → Hp → Prop} (V : Ver g h vb ls xs) (hs : totL (xs.map (·.2)) ≤ 60000) (h1 : 1 ≤ xs.length) (h5 : xs.length ≤ 5)
    (hB : ∀ h' xs', Ver g h' vb ls xs' → Ck [87, 108] h h' → (∃ i ts, 1 ≤ i ∧ (xs.map (·.2))[i]? = some ts ∧ Bad ts) → Q (.int .i64 132) h')
    (hG : ∀ h' xs', Ver g h' vb ls xs' → Ck [87, 108] h h' → Sorted (xs.map (·.2)) (xs'.map (·.2)) → Q (.int .i64 0) h') :
    ∃ b8 o5, ((some ⟨vb, 0, none⟩) : Option Addr) = some ⟨b8, o5, none⟩ ∧ ∃ l5 : Sl, h.at b8 o5 = some (.slice l5.a l5.n l5.c) ∧ Sl.okCut l5 1 (l5.n : Int) (l5.c : Int) ∧ ∃ (I1 : Int → Hp → Prop) (m1 : Int → Hp → Nat), I1 0 h ∧ (∀ n8 : Int, ∀ h5 : Hp, I1 n8 h5 → par (n8 < ((Sl.cut l5 1 1 (l5.n : Int) (l5.c : Int)).n : Int)) (∃ b9 o6, ((Sl.cut l5 1 1 (l5.n : Int) (l5.c : Int)).a : Option Addr) = some ⟨b9, o6, none⟩ ∧ ((0 : Int) ≤ n8 ∧ n8 < ((Sl.cut l5 1 1 (l5.n : Int) (l5.c : Int)).n : Int)) ∧ ∃ l6 : Sl, h5.at b9 (o6 + n8.toNat) = some (.slice l6.a l6.n l6.c) ∧ F102.T l6 h5 fun r2 h6 => ∃ (I2 : Int → Hp → Prop) (m2 : Int → Hp → Nat), I2 1 h6 ∧ (∀ n9 : Int, ∀ h7 : Hp, I2 n9 h7 → par (n9 < (l6.n : Int)) (∃ b10 o7, (l6.a : Option Addr) = some ⟨b10, o7, none⟩ ∧ ((0 : Int) ≤ n9 ∧ n9 < (l6.n : Int)) ∧ ∃ s2 : ByteArray, h7.at b10 ((o7 + n9.toNat * 6) + 4) = some (.string s2) ∧ ∃ b11 o8, (l6.a : Option Addr) = some ⟨b11, o8, none⟩ ∧ ((0 : Int) ≤ (IntKind.wrap .i64 (n9 - 1)) ∧ (IntKind.wrap .i64 (n9 - 1)) < (l6.n : Int)) ∧ ∃ s3 : ByteArray, h7.at b11 ((o8 + ((IntKind.wrap .i64 (n9 - 1))).toNat * 6) + 5) = some (.string s3) ∧ par (sLt s2 s3 ∨ s2 = s3) (Q (.int .i64 132) h7) (I2 (IntKind.wrap .i64 (n9 + 1)) h7 ∧ m2 (IntKind.wrap .i64 (n9 + 1)) h7 < m2 n9 h7)) (I1 (IntKind.wrap .i64 (n8 + 1)) h7 ∧ m1 (IntKind.wrap .i64 (n8 + 1)) h7 < m1 n8 h5))) (Q (.int .i64 0) h5)) := by
  have hln := V.L.len
  have hcap := V.L.l.cap
  have hcn : (Sl.cut ls 1 1 (ls.n : Int) (ls.c : Int)).n = xs.length - 1 := by unfold Sl.cut; dsimp only; omega
  refine ⟨vb, 0, rfl, ls, at_of V.v 0, ⟨by omega, by omega, by omega, by omega⟩, fun n h' => ∃ (j : Nat) (xs2 : List (Sl × List Tab)), n = (j : Int) ∧ j + 1 ≤ xs.length ∧ Ver g h' vb ls xs2 ∧ Ck [87, 108] h h' ∧ SortTo (j + 1) (xs.map (·.2)) (xs2.map (·.2)), fun n _ => xs.length - n.toNat, ⟨0, xs, rfl, by omega, V, Ck.refl _ _, rfl, fun i ts us a b => by rw [if_neg (by omega)]; rw [a] at b; exact (Option.some.inj b).symm⟩, ?_⟩
  rintro n h2 ⟨j, xs2, rfl, hj, V2, C2, S2⟩
  have hl2 := V2.L.len
  rw [hcn]
  refine ⟨fun hlt => ?_, fun hge => ?_⟩
  · obtain ⟨x, hx⟩ : ∃ x, xs2[j + 1]? = some x := ⟨_, List.getElem?_eq_getElem (by omega)⟩
    have hxm := List.mem_of_getElem? hx
    obtain ⟨b, ha, hat⟩ := V2.L.rd hx
    have hlv2 : (xs2.map (·.2))[j + 1]? = some x.2 := by rw [List.getElem?_map, hx]; rfl
    obtain ⟨ts, hts⟩ : ∃ ts, (xs.map (·.2))[j + 1]? = some ts := ⟨_, List.getElem?_eq_getElem (by rw [List.length_map]; omega)⟩
    have hxts : x.2 = ts := by
      have := S2.2 (j + 1) ts x.2 hts hlv2
      rw [if_neg (by omega)] at this; exact this
    have hx6 : x.2.length ≤ 60000 := by rw [hxts]; exact Nat.le_trans (totL_mem (List.mem_of_getElem? hts)) hs
    have hca : (Sl.cut ls 1 1 (ls.n : Int) (ls.c : Int)).a = some ⟨b, 1, none⟩ := by
      unfold Sl.cut
      dsimp only
      rw [if_neg (by omega), ha]
      simp [addr_add]
    have T2 := V2.L.t x hxm
    refine ⟨b, 1, hca, ⟨by omega, by omega⟩, x.1, by rw [Int.toNat_natCast, Nat.add_comm]; exact hat, ?_⟩
    refine stable_t T2 (by rw [T2.n]; exact hx6) fun h3 us Sv3 hp hsrt => ?_
    obtain ⟨L3, C3⟩ := V2.L.fill hx Sv3.up Sv3.b
    have V3 : Ver g h3 vb ls (xs2.set (j + 1) (x.1, us)) := ⟨L3, V2.nv, C3.keep _ _ V2.v (show 152 ∉ [87] by decide)⟩
    have C23 : Ck [87, 108] h h3 := C2.trans (C3.mono (by simp))
    have hun : x.1.n = us.length := Sv3.b.n
    have hul : us.length ≤ 60000 := by rw [hp.length_eq]; exact hx6
    refine ⟨fun n9 h7 => h7 = h3 ∧ ∃ q : Nat, n9 = (q : Int) ∧ 1 ≤ q ∧ q ≤ us.length + 1 ∧ ∀ i a b, i + 1 < q → us[i]? = some a → us[i + 1]? = some b → Bl a.greatest b.least, fun n9 _ => us.length + 1 - n9.toNat, ⟨rfl, 1, rfl, Nat.le_refl _, by omega, fun i a b h0 => absurd h0 (by omega)⟩, ?_⟩
    rintro n9 h7 ⟨rfl, q, rfl, q1, q2, hA⟩
    refine ⟨fun hq => ?_, fun hq => ?_⟩
    · obtain ⟨y, hy⟩ : ∃ y, us[q]? = some y := ⟨_, List.getElem?_eq_getElem (by omega)⟩
      obtain ⟨z, hz⟩ : ∃ z, us[q - 1]? = some z := ⟨_, List.getElem?_eq_getElem (by omega)⟩
      obtain ⟨b1, o1, a1, l1, r1⟩ := tab_at (Buf.row Sv3.b) hy
      obtain ⟨b2, o2, a2, l2, r2⟩ := tab_at (Buf.row Sv3.b) hz
      have ew : IntKind.wrap .i64 ((q : Int) - 1) = ((q - 1 : Nat) : Int) := by rw [wrap_i64 (by omega) (by omega)]; omega
      rw [ew]
      refine ⟨b1, o1, a1, ⟨by omega, hq⟩, y.least, r1 4 (by decide), b2, o2, a2, ⟨by omega, by omega⟩, z.greatest, r2 5 (by decide), fun hc => ?_, fun hc => ?_⟩
      · exact hB h7 _ V3 C23 ⟨j + 1, ts, by omega, hts, us, by rw [← hxts]; exact hp, hsrt, q - 1, z, y, hz, by rw [Nat.sub_add_cancel q1]; exact hy, sle.1 hc⟩
      · rw [next_i (n := 70000) (by omega) (by omega)]
        refine ⟨⟨rfl, q + 1, rfl, by omega, by omega, fun i a b hi ea eb => ?_⟩, by (try dsimp only); omega⟩
        by_cases hiq : i + 1 < q
        · exact hA i a b hiq ea eb
        · have : i = q - 1 := by omega
          subst this
          rw [Nat.sub_add_cancel q1, hy] at eb
          rw [hz] at ea
          cases ea; cases eb
          rcases bl_tri z.greatest y.least with t | t | t
          · exact t
          · exact absurd (sle.2 t.asym) hc
          · exact absurd (Or.inr t.symm) hc
    · rw [next_i (n := 100) (by omega) (by omega)]
      refine ⟨⟨j + 1, _, rfl, by omega, V3, C23, ?_⟩, by (try dsimp only); omega⟩
      rw [List.map_set]
      exact S2.step (by omega) hlv2 ⟨hp, hsrt, fun i a b ea eb => hA i a b (by have := (List.getElem?_eq_some_iff.1 eb).1; dsimp only at this; omega) ea eb⟩
  · exact hG h2 xs2 V2 C2 (S2.done (by rw [List.length_map]; omega))
theorem in_spec {g h : Hp} {vb : Nat} {ls l : Sl} {xs : List (Sl × List Tab)} {ps : List Placed} {Q : Value → Hp → Prop} (V : Ver g h vb ls xs) (hr : g.row l.a (l.n * 7) (inV ps)) (hs : totL (xs.map (·.2)) + ps.length ≤ 60000) (h1 : 1 ≤ xs.length) (h5 : xs.length ≤ 5)
    (hQ : ∀ h' c xs', Ver g h' vb ls xs' → Ck [87, 108] h h' → InR (xs.map (·.2)) ps c (xs'.map (·.2)) → Q (.int .i64 c) h') : F84.T (some ⟨vb, 0, none⟩) l h Q := by
  have hln : l.n = ps.length := by have := hr.1; rw [inV_len] at this; omega
  intro b hb
  have gb : g b = none := V.L.k.dom b hb
  have K0 := Keep.new hb (.map #[] 0)
  refine counted_spec (V.r.keep K0) (Mp.new h b 0) (fun k => ⟨Int.le_refl _, by omega⟩) (by omega) (by rw [List.length_map]; exact h5) fun h1 M1 O1 => ?_
  have hb0 := new_at h b (.map #[] 0)
  have V1 : Ver g h1 vb ls xs := (V.keep K0).ck (O1.ck hb0) ((V.L.k.trans K0).one O1 gb) (by decide) (by decide) (by decide)
  have C1 : Ck [87, 108] h h1 := (Ck.of_keep K0).one O1 hb
  refine ⟨fun n h2 => ∃ P R xs1, ps = P ++ R ∧ n = (P.length : Int) ∧ Ver g h2 vb ls xs1 ∧ Ck [87, 108] h h2 ∧ inM ps (xs.map (·.2)) = inM R (xs1.map (·.2)) ∧ totL (xs1.map (·.2)) + R.length ≤ 60000 ∧ Mp h2 b (fun k => cnt (nums (xs1.map (·.2))) k), fun n _ => ps.length - n.toNat, ⟨[], ps, xs, rfl, rfl, V1, C1, rfl, hs, Mp.congr M1 fun k => by omega⟩, ?_⟩
  rintro n h2 ⟨P, R, xs1, rfl, rfl, V2, C2, he, ht, M2⟩
  rw [List.length_append] at hln
  have hs' := hs
  rw [List.length_append] at hs'
  have hxl := V2.L.len
  have hx0 := V.L.len
  refine ⟨fun hlt => ?_, fun hge => ?_⟩
  · rcases R with _ | ⟨p, R⟩
    · exact absurd hlt (by simp at hln; omega)
    rw [List.length_cons] at hln ht hs'
    have err : ∀ {c : Int}, c ≠ 0 → inM (p :: R) (xs1.map (·.2)) = (c, xs1.map (·.2)) → Q (.int .i64 c) h2 := fun {c} hc e => hQ h2 c xs1 V2 C2 (by unfold InR; rw [he, e, if_neg hc])
    refine in_rd (V2.L.k.row hr) rfl fun b1 o1 => ?_
    refine has_spec V2.v (fun c0 c1 => ⟨true, rfl, fun _ => ?_, fun h0 => (by cases h0)⟩) (fun hc => ⟨false, rfl, fun h0 => (by cases h0), fun _ => ?_⟩)
    · obtain ⟨x, hx⟩ : ∃ x, xs1[p.lv.toNat]? = some x := ⟨_, List.getElem?_eq_getElem (by omega)⟩
      have hxm := List.mem_of_getElem? hx
      have hlv : (xs1.map (·.2))[p.lv.toNat]? = some x.2 := by rw [List.getElem?_map, hx]; rfl
      refine Mp.get M2 p.num fun es c => ⟨fun h0 => ?_, fun h0 => ⟨fun hlt2 => ?_, fun hge2 => ?_⟩⟩
      · refine err (by decide) ?_
        rw [inM, if_neg (by omega), hlv]
        dsimp only
        rw [if_pos ((cnt_pos _ _).1 h0)]
      · refine err (by decide) ?_
        rw [inM, if_neg (by omega), hlv]
        dsimp only
        rw [if_neg (fun hm => h0 ((cnt_pos _ _).2 hm)), if_pos (blB_t.2 ((sLt_bl _ _).1 hlt2))]
      · refine Mp.add M2 p.num fun es1 c1' hes M3 => ?_
        have hcb := cnt_le (nums (xs1.map (·.2))) p.num
        rw [nums_len] at hcb
        have O3 : One b h2 _ := One.new (mPut es1 c1' (.int .u64 p.num) (.int .i64 (IntKind.wrap .i64 (cnt (nums (xs1.map (·.2))) p.num + 1)))) (by rw [hes]; simp)
        have V3 := V2.ck (O3.ck hes) (V2.L.k.one O3 gb) (show 108 ∉ [0] by decide) (show 87 ∉ [0] by decide) (show 152 ∉ [0] by decide)
        have C3 := C2.one O3 hb
        rw [wrap_i64 (by omega) (by omega)] at M3 V3 C3 ⊢
        clear O3
        generalize h2.new b (mPut es1 c1' (.int .u64 p.num) (.int .i64 (cnt (nums (xs1.map (·.2))) p.num + 1))) = h3 at M3 V3 C3 ⊢
        obtain ⟨b6, ha6, hat6⟩ := V3.L.rd hx
        have T3 := V3.L.t x hxm
        have hx6 : x.2.length + 1 ≤ 60000 := by have := totL_mem (List.mem_of_getElem? hlv); omega
        refine ⟨vb, 0, rfl, ls, at_of V3.v 0, vb, 0, rfl, ls, at_of V3.v 0, b6, 0, ha6, ⟨c0, c1⟩, x.1, by rw [Nat.zero_add]; exact hat6, at_of V3.v 0, at_of V3.v 0, by rw [Nat.zero_add]; exact hat6, ?_⟩
        refine append_buf T3 rfl rfl (by have := T3.n; omega) fun l' h4 B4 hl4 U4 => ?_
        have T4 : TB h4 l' (x.2 ++ [p.tab]) := by
          show Buf _ _ 6 85 (tabV _)
          rw [tabV_app]; exact B4
        have C4 : Ck [87] h3 h4 := Ck.of_upd T3 U4
        obtain ⟨b8, ha8, _, hc8, L8, C8⟩ := V3.L.put hx U4 T4
        refine ⟨by rw [C4.at V3.v (by decide)]; rfl, b8, 0, ha8, ⟨c0, c1⟩, by rw [Nat.zero_add]; exact hc8, ?_⟩
        rw [Nat.zero_add, next_i (n := 70000) (by omega) (by omega)]
        refine ⟨⟨P ++ [p], R, xs1.set p.lv.toNat (l', x.2 ++ [p.tab]), by simp, by simp, ⟨L8, V3.nv, C8.keep _ _ V3.v (show 152 ∉ [87, 108] by decide)⟩, C3.trans C8, ?_, ?_, ?_⟩, by (try dsimp only); simp only [List.length_append, List.length_cons]; omega⟩
        · rw [he, inM, if_neg (by omega), hlv]
          dsimp only
          rw [if_neg (fun hm => h0 ((cnt_pos _ _).2 hm)), if_neg (fun hbl => hge2 ((sLt_bl _ _).2 (blB_t.1 hbl))), List.map_set]
        · rw [List.map_set]
          have := totL_set (us := x.2 ++ [p.tab]) hlv
          rw [List.length_append, List.length_singleton] at this
          dsimp only
          omega
        · refine Mp.congr (Mp.ck C8 (by decide) M3) fun k => ?_
          rw [List.map_set, cnt_set p.tab hlv k]
          show (if k = p.num then _ else _) = _ + if k = p.num then 1 else 0
          by_cases hk : k = p.num
          · rw [if_pos hk, if_pos hk, hk]
          · rw [if_neg hk, if_neg hk]; omega
    · refine err (by decide) ?_
      rw [inM]
      by_cases h0 : p.lv < 0
      · rw [if_pos h0]
      · rw [if_neg h0, List.getElem?_eq_none (by rw [List.length_map]; omega)]
  · have : R = [] := List.eq_nil_of_length_eq_zero (by omega)
    subst this
    refine sort_levels V2 (by simpa using ht) (by omega) (by omega) (fun h3 xs3 V3 C3 hbad => hQ h3 132 xs3 V3 (C2.trans C3) ?_) (fun h3 xs3 V3 C3 hS => hQ h3 0 xs3 V3 (C2.trans C3) ?_)
    · unfold InR; rw [he]; exact .inl ⟨rfl, hbad⟩
    · unfold InR; rw [he]; exact .inr ⟨rfl, hS⟩
end Go.Eng.Ytblghgacokoklaa
end
section

/-
  SPECS OF SORTING WHOLE NUMBERS, 2.
-/
set_option linter.unusedSimpArgs false
set_option linter.unusedVariables false
set_option maxRecDepth 100000
namespace Go.Eng.Ytblghgacokoklaa
theorem insertion {h : Hp} {l : Sl} {lo hi : Int} {Q : Value → Hp → Prop} (U : Us h l) (h1 : 0 ≤ lo) (h2 : hi ≤ (l.n : Int)) (hn : l.n ≤ 60000) (h3 : lo ≤ 60000)
    (hQ : ∀ h', Sw h h' l → Q (.tuple ⟨[]⟩) h') : F122.T l lo hi h Q := by
  unfold F122.T
  rw [wr64 (x := lo + 1) (by omega) (by omega)]
  refine ⟨fun n2 h1 => Sw h h1 l ∧ lo + 1 ≤ n2 ∧ n2 ≤ 70000, fun n2 _ => (hi - n2).toNat, ⟨Sw.refl U, by omega, by omega⟩, ?_⟩
  rintro i g1 ⟨S, i0, i1⟩
  refine ⟨fun hlt => ?_, fun _ => hQ g1 S⟩
  rw [wr64 (x := i + 1) (by omega) (by omega)]
  refine ⟨fun n3 h2 => Sw h h2 l ∧ lo ≤ n3 ∧ n3 ≤ i, fun n3 _ => n3.toNat, ⟨S, by omega, by omega⟩, ?_⟩
  rintro j g ⟨S, j0, j1⟩
  refine ⟨fun hlt2 => ?_, fun _ => ⟨⟨S, by omega, by omega⟩, by dsimp only; omega⟩⟩
  rw [wr64 (x := j - 1) (by omega) (by omega)]
  refine Us.rd S.u (by omega) (by omega) fun b1 v1 => Us.rd S.u (by omega) (by omega) fun b2 v2 => less_any fun q => ⟨q, rfl, fun _ => ?_, fun _ => ⟨⟨S, by omega, by omega⟩, by dsimp only; omega⟩⟩
  clear b1 v1 b2 v2
  refine Us.rd S.u (i := j - 1) (by omega) (by omega) fun b1 v1 => Us.rd S.u (i := j) (by omega) (by omega) fun b2 v2 => Us.wr (v := v1) S.u (i := j) (by omega) (by omega) fun b3 U3 p3 => Us.wr (v := v2) U3 (i := j - 1) (by omega) (by omega) fun b4 U4 p4 => ?_
  have S2 : Sw h ((g.wr b3 (0 + (j).toNat) [.int .u64 v1]).wr b4 (0 + (j - 1).toNat) [.int .u64 v2]) l := ⟨U4, (S.up.trans p3).trans p4⟩
  generalize ((g.wr b3 (0 + (j).toNat) [.int .u64 v1]).wr b4 (0 + (j - 1).toNat) [.int .u64 v2]) = g2 at S2 ⊢
  clear U3 p3 U4 p4 b1 b2 b3 b4 v1 v2
  exact ⟨⟨S2, by omega, by omega⟩, by dsimp only; omega⟩
theorem reverse_u {h : Hp} {l : Sl} {lo hi : Int} {Q : Value → Hp → Prop} (U : Us h l) (h1 : 0 ≤ lo) (h2 : hi ≤ (l.n : Int)) (hn : l.n ≤ 60000) (h3 : lo ≤ 60000) (h4 : 0 ≤ hi)
    (hQ : ∀ h', Sw h h' l → Q (.tuple ⟨[]⟩) h') : F126.T l lo hi h Q := by
  unfold F126.T
  rw [wr64 (x := hi - 1) (by omega) (by omega)]
  refine ⟨fun n2 n3 h1 => Sw h h1 l ∧ lo ≤ n2 ∧ n3 < hi ∧ n2 ≤ 70000 ∧ -1 ≤ n3, fun n2 n3 _ => (n3 - n2 + 1).toNat, ⟨Sw.refl U, by omega, by omega, by omega, by omega⟩, ?_⟩
  rintro i j g ⟨S, i0, j0, i1, j1⟩
  refine ⟨fun hlt => ?_, fun _ => hQ g S⟩
  rw [wr64 (x := i + 1) (by omega) (by omega), wr64 (x := j - 1) (by omega) (by omega)]
  refine Us.rd S.u (i := j) (by omega) (by omega) fun b1 v1 => Us.rd S.u (i := i) (by omega) (by omega) fun b2 v2 => Us.wr (v := v1) S.u (i := i) (by omega) (by omega) fun b3 U3 p3 => Us.wr (v := v2) U3 (i := j) (by omega) (by omega) fun b4 U4 p4 => ?_
  have S2 : Sw h ((g.wr b3 (0 + (i).toNat) [.int .u64 v1]).wr b4 (0 + (j).toNat) [.int .u64 v2]) l := ⟨U4, (S.up.trans p3).trans p4⟩
  generalize ((g.wr b3 (0 + (i).toNat) [.int .u64 v1]).wr b4 (0 + (j).toNat) [.int .u64 v2]) = g2 at S2 ⊢
  clear U3 p3 U4 p4 b1 b2 b3 b4 v1 v2
  exact ⟨⟨S2, by omega, by omega, by omega, by omega⟩, by dsimp only; omega⟩
theorem sift {h : Hp} {l : Sl} {lo hi fi : Int} {Q : Value → Hp → Prop} (U : Us h l) (h1 : 0 ≤ lo) (h2 : 0 ≤ fi) (h3 : fi + hi ≤ (l.n : Int)) (h4 : lo ≤ 60000) (h5 : fi ≤ 60000) (hn : l.n ≤ 60000)
    (hQ : ∀ h', Sw h h' l → Q (.tuple ⟨[]⟩) h') : F135.T l lo hi fi h Q := by
  refine ⟨fun n3 h1 => Sw h h1 l ∧ lo ≤ n3 ∧ n3 ≤ 60000, fun n3 _ => (60000 - n3).toNat, ⟨Sw.refl U, by omega, by omega⟩, ?_⟩
  rintro r g ⟨S, r0, r1⟩
  rw [wr64 (x := 2 * r) (by omega) (by omega), wr64 (x := 2 * r + 1) (by omega) (by omega)]
  refine ⟨fun _ => hQ g S, fun hlt => ?_⟩
  rw [wr64 (x := 2 * r + 1 + 1) (by omega) (by omega), wr64 (x := fi + (2 * r + 1)) (by omega) (by omega), wr64 (x := fi + (2 * r + 1) + 1) (by omega) (by omega)]
  refine ⟨fun c g' => Sw h g' l ∧ r < c ∧ c < hi ∧ c ≤ 60000, ?_, fun hlt2 => ?_, fun _ => ⟨S, by omega, by omega, by omega⟩⟩
  · rintro c g ⟨S, c0, c1, c2⟩
    rw [wr64 (x := fi + r) (by omega) (by omega), wr64 (x := fi + c) (by omega) (by omega)]
    refine Us.rd S.u (by omega) (by omega) fun b1 v1 => Us.rd S.u (by omega) (by omega) fun b2 v2 => less_any fun q => ⟨q, rfl, fun _ => ?_, fun _ => hQ g S⟩
    clear b1 v1 b2 v2
    refine Us.rd S.u (i := fi + c) (by omega) (by omega) fun b1 v1 => Us.rd S.u (i := fi + r) (by omega) (by omega) fun b2 v2 => Us.wr (v := v1) S.u (i := fi + r) (by omega) (by omega) fun b3 U3 p3 => Us.wr (v := v2) U3 (i := fi + c) (by omega) (by omega) fun b4 U4 p4 => ?_
    have S2 : Sw h ((g.wr b3 (0 + (fi + r).toNat) [.int .u64 v1]).wr b4 (0 + (fi + c).toNat) [.int .u64 v2]) l := ⟨U4, (S.up.trans p3).trans p4⟩
    generalize ((g.wr b3 (0 + (fi + r).toNat) [.int .u64 v1]).wr b4 (0 + (fi + c).toNat) [.int .u64 v2]) = g2 at S2 ⊢
    clear U3 p3 U4 p4 b1 b2 b3 b4 v1 v2
    exact ⟨⟨S2, by omega, by omega⟩, by dsimp only; omega⟩
  · refine Us.rd S.u (by omega) (by omega) fun b1 v1 => Us.rd S.u (by omega) (by omega) fun b2 v2 => less_any fun q => ⟨q, rfl, fun _ => ⟨S, by omega, by omega, by omega⟩, fun _ => ⟨S, by omega, by omega, by omega⟩⟩
theorem heap_u {h : Hp} {l : Sl} {lo hi : Int} {Q : Value → Hp → Prop} (U : Us h l) (h1 : 0 ≤ lo) (h2 : hi ≤ (l.n : Int)) (hn : l.n ≤ 60000) (h3 : lo ≤ hi)
    (hQ : ∀ h', Sw h h' l → Q (.tuple ⟨[]⟩) h') : F123.T l lo hi h Q := by
  unfold F123.T
  rw [wr64 (x := hi - lo) (by omega) (by omega), wr64 (x := hi - lo - 1) (by omega) (by omega)]
  have hd : -1 ≤ Int.tdiv (hi - lo - 1) 2 ∧ Int.tdiv (hi - lo - 1) 2 ≤ 60000 := by
    by_cases h0 : hi - lo - 1 = -1
    · rw [h0]; decide
    · rw [Int.tdiv_eq_ediv_of_nonneg (by omega)]; omega
  rw [wr64 (x := Int.tdiv (hi - lo - 1) 2) (by omega) (by omega)]
  generalize Int.tdiv (hi - lo - 1) 2 = s at hd ⊢
  refine ⟨by decide, fun n2 h1 => Sw h h1 l ∧ -1 ≤ n2 ∧ n2 ≤ 60000, fun n2 _ => (n2 + 1).toNat, ⟨Sw.refl U, by omega, by omega⟩, ?_⟩
  rintro i g ⟨S, i0, i1⟩
  refine ⟨fun hlt => ?_, fun _ => ?_⟩
  · rw [wr64 (x := i - 1) (by omega) (by omega)]
    exact sift S.u hlt h1 (by omega) (by omega) (by omega) hn fun g2 S2 => ⟨⟨S.trans S2, by omega, by omega⟩, by dsimp only; omega⟩
  · refine ⟨fun n2 h1 => Sw h h1 l ∧ -1 ≤ n2 ∧ n2 < hi - lo, fun n2 _ => (n2 + 1).toNat, ⟨S, by omega, by omega⟩, ?_⟩
    rintro i g ⟨S, i0, i1⟩
    refine ⟨fun hlt => ?_, fun _ => hQ g S⟩
    rw [wr64 (x := i - 1) (by omega) (by omega), wr64 (x := lo + i) (by omega) (by omega)]
    refine Us.rd S.u (i := lo + i) (by omega) (by omega) fun b1 v1 => Us.rd S.u (i := lo) (by omega) (by omega) fun b2 v2 => Us.wr (v := v1) S.u (i := lo) (by omega) (by omega) fun b3 U3 p3 => Us.wr (v := v2) U3 (i := lo + i) (by omega) (by omega) fun b4 U4 p4 => ?_
    have S2 : Sw h ((g.wr b3 (0 + (lo).toNat) [.int .u64 v1]).wr b4 (0 + (lo + i).toNat) [.int .u64 v2]) l := ⟨U4, (S.up.trans p3).trans p4⟩
    generalize ((g.wr b3 (0 + (lo).toNat) [.int .u64 v1]).wr b4 (0 + (lo + i).toNat) [.int .u64 v2]) = g2 at S2 ⊢
    clear U3 p3 U4 p4 b1 b2 b3 b4 v1 v2
    exact sift S2.u (by decide) h1 (by omega) (by decide) (by omega) hn fun g3 S3 => ⟨⟨S2.trans S3, by omega, by omega⟩, by dsimp only; omega⟩
theorem partial_u {h : Hp} {l : Sl} {lo hi : Int} {Q : Value → Hp → Prop} (U : Us h l) (h1 : 0 ≤ lo) (h2 : hi ≤ (l.n : Int)) (hn : l.n ≤ 60000) (h3 : lo < hi)
    (hQ : ∀ h' b, Sw h h' l → Q (.bool b) h') : F127.T l lo hi h Q := by
  unfold F127.T
  rw [wr64 (x := lo + 1) (by omega) (by omega), wr64 (x := hi - lo) (by omega) (by omega)]
  refine ⟨fun n2 n3 h1 => Sw h h1 l ∧ lo + 1 ≤ n2 ∧ n2 ≤ hi ∧ 0 ≤ n3 ∧ n3 ≤ 5, fun _ n3 _ => (5 - n3).toNat, ⟨Sw.refl U, by omega, by omega, by omega, by omega⟩, ?_⟩
  rintro i k g ⟨S, i0, i1, k0, k1⟩
  refine ⟨fun hlt => ?_, fun _ => hQ g false S⟩
  rw [wr64 (x := k + 1) (by omega) (by omega)]
  refine ⟨fun n4 h2 => Sw h h2 l ∧ lo + 1 ≤ n4 ∧ n4 ≤ hi, ?_, ?_⟩
  · rintro i g ⟨S, i0, i1⟩
    refine ⟨fun _ => hQ g true S, fun hne => ⟨fun _ => hQ g false S, fun hb => ?_⟩⟩
    rw [wr64 (x := i - 1) (by omega) (by omega), wr64 (x := i - lo) (by omega) (by omega), wr64 (x := hi - i) (by omega) (by omega)]
    refine Us.rd S.u (i := i - 1) (by omega) (by omega) fun b1 v1 => Us.rd S.u (i := i) (by omega) (by omega) fun b2 v2 => Us.wr (v := v1) S.u (i := i) (by omega) (by omega) fun b3 U3 p3 => Us.wr (v := v2) U3 (i := i - 1) (by omega) (by omega) fun b4 U4 p4 => ?_
    have S2 : Sw h ((g.wr b3 (0 + (i).toNat) [.int .u64 v1]).wr b4 (0 + (i - 1).toNat) [.int .u64 v2]) l := ⟨U4, (S.up.trans p3).trans p4⟩
    generalize ((g.wr b3 (0 + (i).toNat) [.int .u64 v1]).wr b4 (0 + (i - 1).toNat) [.int .u64 v2]) = g2 at S2 ⊢
    clear U3 p3 U4 p4 b1 b2 b3 b4 v1 v2
    refine ⟨fun h3 => Sw h h3 l, ?_, fun h5 => ?_, fun _ => S2⟩
    · intro g3 S3
      refine ⟨fun _ => ?_, fun _ => ⟨⟨S3, i0, i1, by omega, by omega⟩, by dsimp only; omega⟩⟩
      rw [wr64 (x := i + 1) (by omega) (by omega)]
      refine ⟨fun n7 h4 => Sw h h4 l ∧ i + 1 ≤ n7 ∧ n7 ≤ hi, fun n7 _ => (hi - n7).toNat, ⟨S3, by omega, by omega⟩, ?_⟩
      rintro j g ⟨S, j0, j1⟩
      refine ⟨fun hlt => ?_, fun _ => ⟨⟨S, i0, i1, by omega, by omega⟩, by dsimp only; omega⟩⟩
      rw [wr64 (x := j - 1) (by omega) (by omega), wr64 (x := j + 1) (by omega) (by omega)]
      refine Us.rd S.u (by omega) (by omega) fun b1 v1 => Us.rd S.u (by omega) (by omega) fun b2 v2 => less_any fun q => ⟨q, rfl, fun _ => ?_, fun _ => ⟨⟨S, i0, i1, by omega, by omega⟩, by dsimp only; omega⟩⟩
      clear b1 v1 b2 v2
      refine Us.rd S.u (i := j - 1) (by omega) (by omega) fun b1 v1 => Us.rd S.u (i := j) (by omega) (by omega) fun b2 v2 => Us.wr (v := v1) S.u (i := j) (by omega) (by omega) fun b3 U3 p3 => Us.wr (v := v2) U3 (i := j - 1) (by omega) (by omega) fun b4 U4 p4 => ?_
      have S4 : Sw h ((g.wr b3 (0 + (j).toNat) [.int .u64 v1]).wr b4 (0 + (j - 1).toNat) [.int .u64 v2]) l := ⟨U4, (S.up.trans p3).trans p4⟩
      generalize ((g.wr b3 (0 + (j).toNat) [.int .u64 v1]).wr b4 (0 + (j - 1).toNat) [.int .u64 v2]) = g4 at S4 ⊢
      clear U3 p3 U4 p4 b1 b2 b3 b4 v1 v2
      exact ⟨⟨S4, by omega, by omega⟩, by dsimp only; omega⟩
    · refine ⟨fun n7 h4 => Sw h h4 l ∧ 0 ≤ n7 ∧ n7 < hi, fun n7 _ => n7.toNat, ⟨S2, by omega, by omega⟩, ?_⟩
      rintro j g ⟨S, j0, j1⟩
      refine ⟨fun hlt => ?_, fun _ => S⟩
      rw [wr64 (x := j - 1) (by omega) (by omega)]
      refine Us.rd S.u (by omega) (by omega) fun b1 v1 => Us.rd S.u (by omega) (by omega) fun b2 v2 => less_any fun q => ⟨q, rfl, fun _ => ?_, fun _ => S⟩
      clear b1 v1 b2 v2
      refine Us.rd S.u (i := j - 1) (by omega) (by omega) fun b1 v1 => Us.rd S.u (i := j) (by omega) (by omega) fun b2 v2 => Us.wr (v := v1) S.u (i := j) (by omega) (by omega) fun b3 U3 p3 => Us.wr (v := v2) U3 (i := j - 1) (by omega) (by omega) fun b4 U4 p4 => ?_
      have S4 : Sw h ((g.wr b3 (0 + (j).toNat) [.int .u64 v1]).wr b4 (0 + (j - 1).toNat) [.int .u64 v2]) l := ⟨U4, (S.up.trans p3).trans p4⟩
      generalize ((g.wr b3 (0 + (j).toNat) [.int .u64 v1]).wr b4 (0 + (j - 1).toNat) [.int .u64 v2]) = g4 at S4 ⊢
      clear U3 p3 U4 p4 b1 b2 b3 b4 v1 v2
      exact ⟨⟨S4, by omega, by omega⟩, by dsimp only; omega⟩
  · refine ⟨fun n7 h4 => Sw h h4 l ∧ lo + 1 ≤ n7 ∧ n7 ≤ hi, fun n7 _ => (hi - n7).toNat, ⟨S, i0, i1⟩, ?_⟩
    rintro j g ⟨S, j0, j1⟩
    refine ⟨fun hlt => ?_, fun _ => ⟨S, j0, j1⟩⟩
    rw [wr64 (x := j - 1) (by omega) (by omega), wr64 (x := j + 1) (by omega) (by omega)]
    exact Us.rd S.u (by omega) (by omega) fun b1 v1 => Us.rd S.u (by omega) (by omega) fun b2 v2 => less_any fun q => ⟨q, rfl, fun _ => ⟨S, j0, j1⟩, fun _ => ⟨⟨S, by omega, by omega⟩, by dsimp only; omega⟩⟩
end Go.Eng.Ytblghgacokoklaa
end
section

/-
  SPECS OF SORTING WHOLE NUMBERS, 3.
-/
set_option linter.unusedSimpArgs false
set_option linter.unusedVariables false
set_option maxRecDepth 100000
namespace Go.Eng.Ytblghgacokoklaa
def tab8 : ByteArray := ByteArray.mk (List.toArray [0, 1, 2, 2, 3, 3, 3, 3, 4, 4, 4, 4, 4, 4, 4, 4, 5, 5, 5, 5, 5, 5, 5, 5, 5, 5, 5, 5, 5, 5, 5, 5, 6, 6, 6, 6, 6, 6, 6, 6, 6, 6, 6, 6, 6, 6, 6, 6, 6, 6, 6, 6, 6, 6, 6, 6, 6, 6, 6, 6, 6, 6, 6, 6, 7, 7, 7, 7, 7, 7, 7, 7, 7, 7, 7, 7, 7, 7, 7, 7, 7, 7, 7, 7, 7, 7, 7, 7, 7, 7, 7, 7, 7, 7, 7, 7, 7, 7, 7, 7, 7, 7, 7, 7, 7, 7, 7, 7, 7, 7, 7, 7, 7, 7, 7, 7, 7, 7, 7, 7, 7, 7, 7, 7, 7, 7, 7, 7, 8, 8, 8, 8, 8, 8, 8, 8, 8, 8, 8, 8, 8, 8, 8, 8, 8, 8, 8, 8, 8, 8, 8, 8, 8, 8, 8, 8, 8, 8, 8, 8, 8, 8, 8, 8, 8, 8, 8, 8, 8, 8, 8, 8, 8, 8, 8, 8, 8, 8, 8, 8, 8, 8, 8, 8, 8, 8, 8, 8, 8, 8, 8, 8, 8, 8, 8, 8, 8, 8, 8, 8, 8, 8, 8, 8, 8, 8, 8, 8, 8, 8, 8, 8, 8, 8, 8, 8, 8, 8, 8, 8, 8, 8, 8, 8, 8, 8, 8, 8, 8, 8, 8, 8, 8, 8, 8, 8, 8, 8, 8, 8, 8, 8, 8, 8, 8, 8, 8, 8, 8, 8, 8, 8, 8, 8, 8, 8])
def tabL : List UInt8 := [0, 1, 2, 2, 3, 3, 3, 3, 4, 4, 4, 4, 4, 4, 4, 4, 5, 5, 5, 5, 5, 5, 5, 5, 5, 5, 5, 5, 5, 5, 5, 5, 6, 6, 6, 6, 6, 6, 6, 6, 6, 6, 6, 6, 6, 6, 6, 6, 6, 6, 6, 6, 6, 6, 6, 6, 6, 6, 6, 6, 6, 6, 6, 6, 7, 7, 7, 7, 7, 7, 7, 7, 7, 7, 7, 7, 7, 7, 7, 7, 7, 7, 7, 7, 7, 7, 7, 7, 7, 7, 7, 7, 7, 7, 7, 7, 7, 7, 7, 7, 7, 7, 7, 7, 7, 7, 7, 7, 7, 7, 7, 7, 7, 7, 7, 7, 7, 7, 7, 7, 7, 7, 7, 7, 7, 7, 7, 7, 8, 8, 8, 8, 8, 8, 8, 8, 8, 8, 8, 8, 8, 8, 8, 8, 8, 8, 8, 8, 8, 8, 8, 8, 8, 8, 8, 8, 8, 8, 8, 8, 8, 8, 8, 8, 8, 8, 8, 8, 8, 8, 8, 8, 8, 8, 8, 8, 8, 8, 8, 8, 8, 8, 8, 8, 8, 8, 8, 8, 8, 8, 8, 8, 8, 8, 8, 8, 8, 8, 8, 8, 8, 8, 8, 8, 8, 8, 8, 8, 8, 8, 8, 8, 8, 8, 8, 8, 8, 8, 8, 8, 8, 8, 8, 8, 8, 8, 8, 8, 8, 8, 8, 8, 8, 8, 8, 8, 8, 8, 8, 8, 8, 8, 8, 8, 8, 8, 8, 8, 8, 8, 8, 8, 8, 8, 8, 8]
theorem tab8_size : tab8.size = 256 := by decide +kernel
theorem tabL_at : ∀ k, k < 256 → (k = 0 ∨ (1 ≤ (tabL.getD k 0).toNat ∧ (tabL.getD k 0).toNat ≤ 8 ∧ 2 ^ ((tabL.getD k 0).toNat - 1) ≤ k)) := by decide +kernel
theorem tab8_at {k : Nat} (h : k < 256) (h0 : k ≠ 0) : ∃ r : Nat, bt tab8 (k : Int) = (r : Int) ∧ 1 ≤ r ∧ r ≤ 8 ∧ 2 ^ (r - 1) ≤ k := by
  obtain ⟨h1, h2, h3⟩ := (tabL_at k h).resolve_left h0
  refine ⟨(tabL.getD k 0).toNat, ?_, h1, h2, h3⟩
  unfold bt
  have hs : ((k : Int)).toNat < tab8.size := by rw [tab8_size]; omega
  rw [dif_pos hs]
  have e : tab8[((k : Int)).toNat]'hs = tabL.getD k 0 := by
    have hl : k < tabL.length := by have : tabL.length = 256 := by decide +kernel
                                    omega
    rw [List.getD_eq_getElem?_getD, List.getElem?_eq_getElem hl]
    rfl
  rw [e]
theorem shrN {k : IntKind} (a j : Nat) (hk : j ≤ k.bits) : shrI k (a : Int) (j : Int) = ((a / 2 ^ j : Nat) : Int) := by
  unfold shrI
  have h1 : min (j : Int).toNat k.bits = j := by omega
  have h2 : (2 : Int) ^ j = ((2 ^ j : Nat) : Int) := by rw [Int.natCast_pow]; rfl
  rw [h1, h2, Int.fdiv_eq_ediv_of_nonneg _ (Int.natCast_nonneg _)]
  exact (Int.natCast_ediv a (2 ^ j)).symm
theorem wrap8 {x : Int} (h0 : 0 ≤ x) (h1 : x < 256) : IntKind.wrap .u8 x = x := by rw [IntKind.wrap_u8]; omega
theorem len64 {h : Hp} {n : Nat} {Q : Value → Hp → Prop} (h0 : 1 ≤ n) (h1 : n < 65536) (hQ : ∀ r : Nat, 1 ≤ r → r ≤ 16 → 2 ^ (r - 1) ≤ n → Q (.int .i64 (r : Int)) h) : F132.T (n : Int) h Q := by
  have hsz : (tab8.size : Int) = 256 := by rw [tab8_size]; rfl
  have e8 : shrI .u64 (n : Int) 8 = ((n / 256 : Nat) : Int) := shrN (k := .u64) n 8 (by decide)
  refine ⟨fun hb => absurd hb (by omega), fun _ => ⟨fun hb => absurd hb (by omega), fun _ => ⟨fun hb => ⟨by decide, ?_⟩, fun hb => ?_⟩⟩⟩
  · rw [e8, wrap8 (by omega) (by omega)]
    obtain ⟨r, hr, r1, r2, r3⟩ := tab8_at (k := n / 256) (by omega) (by omega)
    refine ⟨⟨by omega, by show _ < (tab8.size : Int); omega⟩, ?_⟩
    have e : IntKind.wrap .i64 (IntKind.wrap .i64 (0 + 8) + IntKind.wrap .i64 (bt tab8 ((n / 256 : Nat) : Int))) = ((8 + r : Nat) : Int) := by
      rw [hr, wr64 (x := 0 + 8) (by omega) (by omega), wr64 (x := (r : Int)) (by omega) (by omega), wr64 (by omega) (by omega)]; omega
    have hq := hQ (8 + r) (by omega) (by omega) (by
      have : 2 ^ (8 + r - 1) = 256 * 2 ^ (r - 1) := by rw [show 8 + r - 1 = 8 + (r - 1) by omega, Nat.pow_add]
      omega)
    rw [← e] at hq
    exact hq
  · rw [wrap8 (by omega) (by omega)]
    obtain ⟨r, hr, r1, r2, r3⟩ := tab8_at (k := n) (by omega) (by omega)
    refine ⟨⟨by omega, by show _ < (tab8.size : Int); omega⟩, ?_⟩
    have e : IntKind.wrap .i64 (0 + IntKind.wrap .i64 (bt tab8 (n : Int))) = (r : Int) := by
      rw [hr, wr64 (x := (r : Int)) (by omega) (by omega), wr64 (by omega) (by omega)]; omega
    have hq := hQ r r1 (by omega) r3
    rw [← e] at hq
    exact hq
theorem len0 {h : Hp} {Q : Value → Hp → Prop} (hQ : ∀ r, Q (.int .i64 r) h) : F132.T 0 h Q := by
  refine ⟨fun hb => absurd hb (by decide), fun _ => ⟨fun hb => absurd hb (by decide), fun _ => ⟨fun hb => absurd hb (by decide), fun _ => ⟨⟨by decide, ?_⟩, hQ _⟩⟩⟩⟩
  show _ < (tab8.size : Int)
  rw [tab8_size]; decide
theorem bits_len {h : Hp} {n : Nat} {Q : Value → Hp → Prop} (h1 : n < 65536) (hQ : ∀ r, Q (.int .i64 r) h) : F117.T (n : Int) h Q := by
  rcases Nat.eq_zero_or_pos n with rfl | h0
  · exact len0 fun r => ⟨r, rfl, hQ r⟩
  · exact len64 h0 h1 fun r _ _ _ => ⟨_, rfl, hQ _⟩
theorem next_pow {h : Hp} {n : Nat} {Q : Value → Hp → Prop} (h0 : 1 ≤ n) (h1 : n < 65536) (hQ : ∀ m : Nat, 1 ≤ m → m ≤ 2 * n → Q (.int .u64 (m : Int)) h) : F136.T (n : Int) h Q := by
  unfold F136.T F117.T
  rw [wrap_u64 (by omega) (by omega)]
  refine len64 h0 h1 fun r r1 r2 r3 => ⟨_, rfl, _, rfl, by omega, ?_⟩
  have hp : 2 ^ r = 2 * 2 ^ (r - 1) := by conv => lhs; rw [show r = (r - 1) + 1 by omega, Nat.pow_succ]
                                          omega
  have hle : 2 ^ r ≤ 131072 := by omega
  have e : shlI .u64 1 (r : Int) = ((2 ^ r : Nat) : Int) := by
    unfold shlI
    have : min ((r : Int)).toNat (IntKind.bits .u64) = r := by show min _ 64 = r; omega
    rw [this, Int.one_mul]
    have h2 : (2 : Int) ^ r = ((2 ^ r : Nat) : Int) := by rw [Int.natCast_pow]; rfl
    rw [h2, wrap_u64 (by omega) (by omega)]
  rw [e]
  exact hQ _ Nat.one_le_two_pow (by omega)
theorem and_le {x : Int} {m : Nat} (hm : m < 18446744073709551616) : ∃ r : Nat, bitsI .and .u64 x (m : Int) = (r : Int) ∧ r ≤ m := by
  have e2 : (BitVec.ofInt 64 (m : Int)).toNat = m := by rw [BitVec.ofInt_natCast, BitVec.toNat_ofNat]; exact Nat.mod_eq_of_lt hm
  have hle : (BitVec.ofInt 64 x &&& BitVec.ofInt 64 (m : Int)).toNat ≤ m := by rw [BitVec.toNat_and, e2]; exact Nat.and_le_right
  refine ⟨_, ?_, hle⟩
  show IntKind.wrap .u64 (((BitVec.ofInt 64 x &&& BitVec.ofInt 64 (m : Int)).toNat : Nat) : Int) = _
  exact wrap_u64 (by omega) (by omega)
/-- The numbers that are drawn. -/
theorem next_rnd {h : Hp} {b : Nat} {r : Int} {Q : Value → Hp → Prop} (hb : h b = some (.cells ⟨[.int .u64 r]⟩ 210 (0, 0))) (hQ : ∀ v h' r', h' b = some (.cells ⟨[.int .u64 r']⟩ 210 (0, 0)) → (∀ k, k ≠ b → h' k = h k) → Q (.int .u64 v) h') : F137.T (some ⟨b, 0, none⟩) h Q := by
  have at_ : ∀ {g : Hp} {x : Int}, g b = some (.cells ⟨[.int .u64 x]⟩ 210 (0, 0)) → g.at b 0 = some (.int .u64 x) := fun hg => by unfold Hp.at; rw [hg]; rfl
  have can : ∀ {g : Hp} {x : Int}, g b = some (.cells ⟨[.int .u64 x]⟩ 210 (0, 0)) → g.canW b 0 1 := fun hg => ⟨_, _, _, hg, Nat.le_refl _, fun j _ _ => by simp⟩
  have st : ∀ {g : Hp} {x : Int} (y : Int), g b = some (.cells ⟨[.int .u64 x]⟩ 210 (0, 0)) → (g.wr b 0 [.int .u64 y]) b = some (.cells ⟨[.int .u64 y]⟩ 210 (0, 0)) := fun y hg => by rw [wr_at hg]; rfl
  have ot : ∀ {g : Hp} {vs : List Value} {k : Nat}, k ≠ b → (g.wr b 0 vs) k = g k := fun hk => by unfold Hp.wr; rw [if_neg hk]
  refine ⟨b, 0, rfl, r, at_ hb, b, 0, rfl, r, at_ hb, by decide, b, 0, rfl, can hb, b, 0, rfl, _, at_ (st _ hb), b, 0, rfl, _, at_ (st _ hb), by decide, b, 0, rfl, can (st _ hb), b, 0, rfl, _, at_ (st _ (st _ hb)), b, 0, rfl, _, at_ (st _ (st _ hb)), by decide, b, 0, rfl, can (st _ (st _ hb)), b, 0, rfl, _, at_ (st _ (st _ (st _ hb))), ?_⟩
  exact hQ _ _ _ (st _ (st _ (st _ hb))) fun k hk => by rw [ot hk, ot hk, ot hk]
/-- A list, and numbers that are drawn. -/
structure Rn (h h' : Hp) (l : Sl) (b : Nat) : Prop where
  s : Sw h h' l
  nb : h b = none
  c : ∃ r : Int, h' b = some (.cells ⟨[.int .u64 r]⟩ 210 (0, 0))
theorem rn_buf {h : Hp} {b : Nat} {r : Int} (hb : h b = some (.cells ⟨[.int .u64 r]⟩ 210 (0, 0))) : Buf h (rb b) 1 210 [.int .u64 r] :=
  ⟨rfl, Nat.le_refl _, .inr ⟨b, _, (0, 0), rfl, hb, Nat.le_refl _, fun j _ => by simp, rfl⟩⟩
theorem Rn.sw {h g g' : Hp} {l : Sl} {b : Nat} (R : Rn h g l b) (S : Sw g g' l) : Rn h g' l b := by
  obtain ⟨vs, B⟩ := R.s.u
  obtain ⟨r, hr⟩ := R.c
  exact ⟨R.s.trans S, R.nb, r, S.up.keep b _ (fun o ho => buf_off (rn_buf hr) B (by decide) b 0 o rfl ho) hr⟩
theorem Rn.draw {h g g' : Hp} {l : Sl} {b : Nat} {r' : Int} (R : Rn h g l b) (h1 : g' b = some (.cells ⟨[.int .u64 r']⟩ 210 (0, 0))) (h2 : ∀ k, k ≠ b → g' k = g k) : Rn h g' l b := by
  obtain ⟨vs, B⟩ := R.s.u
  obtain ⟨r, hr⟩ := R.c
  have hU : Upd g g' (rb b) (rb b) := ⟨fun k x hk e => by
    have hkb : k ≠ b := fun q => hk 0 (by rw [q]; rfl)
    rw [h2 k hkb]; exact e, .inl rfl, fun k e => by
    by_cases hkb : k = b
    · rw [hkb, h1] at e; cases e
    · rw [h2 k hkb] at e; exact e⟩
  refine ⟨⟨⟨vs, B.upd hU (buf_off B (rn_buf hr) (by decide))⟩, ⟨fun k x hk e => ?_, .inl rfl, fun k e => R.s.up.dom k (hU.dom k e)⟩⟩, R.nb, r', h1⟩
  have hkb : k ≠ b := fun q => by rw [q, R.nb] at e; cases e
  rw [h2 k hkb]
  exact R.s.up.keep k x hk e
theorem break_u {h : Hp} {l : Sl} {lo hi : Int} {Q : Value → Hp → Prop} (U : Us h l) (h1 : 0 ≤ lo) (h2 : hi ≤ (l.n : Int)) (hn : l.n ≤ 60000) (h3 : lo ≤ hi)
    (hQ : ∀ h', Sw h h' l → Q (.tuple ⟨[]⟩) h') : F124.T l lo hi h Q := by
  unfold F124.T
  rw [wr64 (x := hi - lo) (by omega) (by omega)]
  have hd : Int.tdiv (hi - lo) 4 = (hi - lo) / 4 := Int.tdiv_eq_ediv_of_nonneg (by omega)
  rw [hd, wr64 (x := (hi - lo) / 4) (by omega) (by omega), wr64 (x := (hi - lo) / 4 * 2) (by omega) (by omega), wr64 (x := lo + (hi - lo) / 4 * 2) (by omega) (by omega), wr64 (x := lo + (hi - lo) / 4 * 2 - 1) (by omega) (by omega), wr64 (x := lo + (hi - lo) / 4 * 2 + 1) (by omega) (by omega)]
  refine ⟨fun h8 => ?_, fun _ => hQ h (Sw.refl U)⟩
  intro b hb
  have hnb : (h.new b (.cells ⟨[.int .u64 0]⟩ 210 (0, 0))) b = some (.cells ⟨[.int .u64 0]⟩ 210 (0, 0)) := new_self h b _
  have R0 : Rn h (h.new b (.cells ⟨[.int .u64 0]⟩ 210 (0, 0))) l b := ⟨⟨U.keep (Keep.new hb _), Upd.of_keep (Keep.new hb _) l⟩, hb, 0, hnb⟩
  refine ⟨⟨_, _, _, hnb, Nat.le_refl _, fun j _ _ => by simp⟩, ?_⟩
  have R1 : Rn h ((h.new b (.cells ⟨[.int .u64 0]⟩ 210 (0, 0))).wr b 0 [.int .u64 (IntKind.wrap .u64 (hi - lo))]) l b := R0.draw (r' := IntKind.wrap .u64 (hi - lo)) (by rw [wr_at hnb]; rfl) fun k hk => by unfold Hp.wr; rw [if_neg hk]
  generalize ((h.new b (.cells ⟨[.int .u64 0]⟩ 210 (0, 0))).wr b 0 [.int .u64 (IntKind.wrap .u64 (hi - lo))]) = g1 at R1 ⊢
  obtain ⟨n, hnn⟩ : ∃ n : Nat, hi - lo = (n : Int) := ⟨(hi - lo).toNat, by omega⟩
  rw [hnn] at h8 ⊢
  refine next_pow (by omega) (by omega) fun m m1 m2 => ⟨_, rfl, by decide, ?_⟩
  refine ⟨fun i g => Rn h g l b ∧ lo ≤ i ∧ i ≤ hi, fun i _ => (hi + 1 - i).toNat, ⟨R1, by omega, by omega⟩, ?_⟩
  rintro i g ⟨R, i0, i1⟩
  refine ⟨by decide, fun hle => ?_, fun _ => hQ g R.s⟩
  obtain ⟨r, hr⟩ := R.c
  refine next_rnd hr fun v g2 r' hg hot => ⟨v, rfl, ?_⟩
  have R2 := R.draw hg hot
  obtain ⟨q, hq, hqm⟩ := and_le (x := v) (m := m - 1) (by omega)
  have hw : IntKind.wrap .u64 ((m : Int) - 1) = ((m - 1 : Nat) : Int) := by rw [wrap_u64 (by omega) (by omega)]; omega
  rw [hw, hq, wr64 (x := (q : Int)) (by omega) (by omega)]
  have S : Sw g2 g2 l := Sw.refl R2.s.u
  clear hg hot hr
  refine ⟨fun hge => ?_, fun hlt => ?_⟩
  · rw [wr64 (x := (q : Int) - (n : Int)) (by omega) (by omega), wr64 (x := lo + ((q : Int) - (n : Int))) (by omega) (by omega), wr64 (x := i + 1) (by omega) (by omega)]
    refine Us.rd S.u (i := lo + ((q : Int) - (n : Int))) (by omega) (by omega) fun b1 v1 => Us.rd S.u (i := i) (by omega) (by omega) fun b2 v2 => Us.wr (v := v1) S.u (i := i) (by omega) (by omega) fun b3 U3 p3 => Us.wr (v := v2) U3 (i := lo + ((q : Int) - (n : Int))) (by omega) (by omega) fun b4 U4 p4 => ?_
    have S3 : Sw g2 ((g2.wr b3 (0 + (i).toNat) [.int .u64 v1]).wr b4 (0 + (lo + ((q : Int) - (n : Int))).toNat) [.int .u64 v2]) l := ⟨U4, (S.up.trans p3).trans p4⟩
    generalize ((g2.wr b3 (0 + (i).toNat) [.int .u64 v1]).wr b4 (0 + (lo + ((q : Int) - (n : Int))).toNat) [.int .u64 v2]) = g3 at S3 ⊢
    clear U3 p3 U4 p4 b1 b2 b3 b4 v1 v2
    exact ⟨⟨R2.sw S3, by omega, by omega⟩, by dsimp only; omega⟩
  · rw [wr64 (x := lo + (q : Int)) (by omega) (by omega), wr64 (x := i + 1) (by omega) (by omega)]
    refine Us.rd S.u (i := lo + (q : Int)) (by omega) (by omega) fun b1 v1 => Us.rd S.u (i := i) (by omega) (by omega) fun b2 v2 => Us.wr (v := v1) S.u (i := i) (by omega) (by omega) fun b3 U3 p3 => Us.wr (v := v2) U3 (i := lo + (q : Int)) (by omega) (by omega) fun b4 U4 p4 => ?_
    have S3 : Sw g2 ((g2.wr b3 (0 + (i).toNat) [.int .u64 v1]).wr b4 (0 + (lo + (q : Int)).toNat) [.int .u64 v2]) l := ⟨U4, (S.up.trans p3).trans p4⟩
    generalize ((g2.wr b3 (0 + (i).toNat) [.int .u64 v1]).wr b4 (0 + (lo + (q : Int)).toNat) [.int .u64 v2]) = g3 at S3 ⊢
    clear U3 p3 U4 p4 b1 b2 b3 b4 v1 v2
    exact ⟨⟨R2.sw S3, by omega, by omega⟩, by dsimp only; omega⟩
theorem partEq {h : Hp} {l : Sl} {lo hi p : Int} {Q : Value → Hp → Prop} (U : Us h l) (h1 : 0 ≤ lo) (h2 : hi ≤ (l.n : Int)) (hn : l.n ≤ 60000) (p0 : lo ≤ p) (p1 : p < hi)
    (hQ : ∀ h' x, Sw h h' l → lo + 1 ≤ x → x ≤ hi → Q (.int .i64 x) h') : F129.T l lo hi p h Q := by
  unfold F129.T
  have S := Sw.refl U
  refine Us.rd S.u (i := p) (by omega) (by omega) fun b1 v1 => Us.rd S.u (i := lo) (by omega) (by omega) fun b2 v2 => Us.wr (v := v1) S.u (i := lo) (by omega) (by omega) fun b3 U3 p3 => Us.wr (v := v2) U3 (i := p) (by omega) (by omega) fun b4 U4 p4 => ?_
  have S : Sw h ((h.wr b3 (0 + (lo).toNat) [.int .u64 v1]).wr b4 (0 + (p).toNat) [.int .u64 v2]) l := ⟨U4, (S.up.trans p3).trans p4⟩
  generalize ((h.wr b3 (0 + (lo).toNat) [.int .u64 v1]).wr b4 (0 + (p).toNat) [.int .u64 v2]) = g at S ⊢
  clear U3 p3 U4 p4 b1 b2 b3 b4 v1 v2
  rw [wr64 (x := lo + 1) (by omega) (by omega), wr64 (x := hi - 1) (by omega) (by omega)]
  refine ⟨fun i j g => Sw h g l ∧ lo + 1 ≤ i ∧ i ≤ j + 2 ∧ j < hi ∧ i ≤ hi, fun i j _ => (j - i + 2).toNat, ⟨S, by omega, by omega, by omega, by omega⟩, ?_⟩
  rintro i0 j0 g ⟨S, a0, a1, a2, a3⟩
  refine ⟨fun i g => Sw h g l ∧ i0 ≤ i ∧ i ≤ j0 + 2 ∧ i ≤ hi, ?_, ?_⟩
  · rintro i g ⟨S, c0, c1, c2⟩
    refine ⟨fun j g => Sw h g l ∧ i - 2 ≤ j ∧ j ≤ j0, fun j _ => (j - i + 2).toNat, ⟨S, by omega, by omega⟩, ?_⟩
    rintro j g ⟨S, d0, d1⟩
    refine ⟨fun hle => ?_, fun hgt => ⟨fun _ => hQ g i S (by omega) (by omega), fun hc => absurd hc (by omega)⟩⟩
    refine Us.rd S.u (by omega) (by omega) fun b1 v1 => Us.rd S.u (by omega) (by omega) fun b2 v2 => less_any fun q => ⟨q, rfl, fun _ => ?_, fun _ => ⟨fun hc => absurd hc (by omega), fun _ => ?_⟩⟩
    · rw [wr64 (x := j - 1) (by omega) (by omega)]
      exact ⟨⟨S, by omega, by omega⟩, by dsimp only; omega⟩
    · clear b1 v1 b2 v2
      rw [wr64 (x := i + 1) (by omega) (by omega), wr64 (x := j - 1) (by omega) (by omega)]
      refine Us.rd S.u (i := j) (by omega) (by omega) fun b1 v1 => Us.rd S.u (i := i) (by omega) (by omega) fun b2 v2 => Us.wr (v := v1) S.u (i := i) (by omega) (by omega) fun b3 U3 p3 => Us.wr (v := v2) U3 (i := j) (by omega) (by omega) fun b4 U4 p4 => ?_
      have S2 : Sw h ((g.wr b3 (0 + (i).toNat) [.int .u64 v1]).wr b4 (0 + (j).toNat) [.int .u64 v2]) l := ⟨U4, (S.up.trans p3).trans p4⟩
      generalize ((g.wr b3 (0 + (i).toNat) [.int .u64 v1]).wr b4 (0 + (j).toNat) [.int .u64 v2]) = g2 at S2 ⊢
      clear U3 p3 U4 p4 b1 b2 b3 b4 v1 v2
      exact ⟨⟨S2, by omega, by omega, by omega, by omega⟩, by dsimp only; omega⟩
  · refine ⟨fun i g => Sw h g l ∧ i0 ≤ i ∧ i ≤ j0 + 2 ∧ i ≤ hi, fun i _ => (j0 + 1 - i).toNat, ⟨S, by omega, by omega, by omega⟩, ?_⟩
    rintro i g ⟨S, c0, c1, c2⟩
    refine ⟨fun hle => ?_, fun hgt => ⟨S, by omega, by omega, by omega⟩⟩
    refine Us.rd S.u (by omega) (by omega) fun b1 v1 => Us.rd S.u (by omega) (by omega) fun b2 v2 => less_any fun q => ⟨q, rfl, fun _ => ⟨S, by omega, by omega, by omega⟩, fun _ => ?_⟩
    rw [wr64 (x := i + 1) (by omega) (by omega)]
    exact ⟨⟨S, by omega, by omega, by omega⟩, by dsimp only; omega⟩
theorem part_u {h : Hp} {l : Sl} {lo hi p : Int} {Q : Value → Hp → Prop} (U : Us h l) (h1 : 0 ≤ lo) (h2 : hi ≤ (l.n : Int)) (hn : l.n ≤ 60000) (p0 : lo ≤ p) (p1 : p < hi)
    (hQ : ∀ h' x b, Sw h h' l → lo ≤ x → x < hi → Q (.tuple ⟨[.int .i64 x, .bool b]⟩) h') : F130.T l lo hi p h Q := by
  unfold F130.T
  have S := Sw.refl U
  refine Us.rd S.u (i := p) (by omega) (by omega) fun b1 v1 => Us.rd S.u (i := lo) (by omega) (by omega) fun b2 v2 => Us.wr (v := v1) S.u (i := lo) (by omega) (by omega) fun b3 U3 p3 => Us.wr (v := v2) U3 (i := p) (by omega) (by omega) fun b4 U4 p4 => ?_
  have S : Sw h ((h.wr b3 (0 + (lo).toNat) [.int .u64 v1]).wr b4 (0 + (p).toNat) [.int .u64 v2]) l := ⟨U4, (S.up.trans p3).trans p4⟩
  generalize ((h.wr b3 (0 + (lo).toNat) [.int .u64 v1]).wr b4 (0 + (p).toNat) [.int .u64 v2]) = g at S ⊢
  clear U3 p3 U4 p4 b1 b2 b3 b4 v1 v2
  rw [wr64 (x := lo + 1) (by omega) (by omega), wr64 (x := hi - 1) (by omega) (by omega)]
  refine ⟨fun i g => Sw h g l ∧ lo + 1 ≤ i ∧ i ≤ hi, ?_, ?_⟩
  · rintro i0 g ⟨S, a0, a1⟩
    refine ⟨fun j g => Sw h g l ∧ i0 - 1 ≤ j ∧ j < hi, ?_, ?_⟩
    · rintro j0 g ⟨S, b0, b1⟩
      refine ⟨fun hlt => ?_, fun hge => ?_⟩
      · refine Us.rd S.u (i := lo) (by omega) (by omega) fun b1 v1 => Us.rd S.u (i := j0) (by omega) (by omega) fun b2 v2 => Us.wr (v := v1) S.u (i := j0) (by omega) (by omega) fun b3 U3 p3 => Us.wr (v := v2) U3 (i := lo) (by omega) (by omega) fun b4 U4 p4 => ?_
        have S2 : Sw h ((g.wr b3 (0 + (j0).toNat) [.int .u64 v1]).wr b4 (0 + (lo).toNat) [.int .u64 v2]) l := ⟨U4, (S.up.trans p3).trans p4⟩
        generalize ((g.wr b3 (0 + (j0).toNat) [.int .u64 v1]).wr b4 (0 + (lo).toNat) [.int .u64 v2]) = g2 at S2 ⊢
        clear U3 p3 U4 p4 b1 b2 b3 b4 v1 v2
        exact hQ g2 j0 true S2 (by omega) (by omega)
      · rw [wr64 (x := i0 + 1) (by omega) (by omega), wr64 (x := j0 - 1) (by omega) (by omega)]
        refine Us.rd S.u (i := j0) (by omega) (by omega) fun b1 v1 => Us.rd S.u (i := i0) (by omega) (by omega) fun b2 v2 => Us.wr (v := v1) S.u (i := i0) (by omega) (by omega) fun b3 U3 p3 => Us.wr (v := v2) U3 (i := j0) (by omega) (by omega) fun b4 U4 p4 => ?_
        have S2 : Sw h ((g.wr b3 (0 + (i0).toNat) [.int .u64 v1]).wr b4 (0 + (j0).toNat) [.int .u64 v2]) l := ⟨U4, (S.up.trans p3).trans p4⟩
        generalize ((g.wr b3 (0 + (i0).toNat) [.int .u64 v1]).wr b4 (0 + (j0).toNat) [.int .u64 v2]) = g2 at S2 ⊢
        clear U3 p3 U4 p4 b1 b2 b3 b4 v1 v2
        refine ⟨fun i j g => Sw h g l ∧ lo + 2 ≤ i ∧ i ≤ j + 2 ∧ j < hi, fun i j _ => (j - i + 2).toNat, ⟨S2, by omega, by omega, by omega⟩, ?_⟩
        rintro i1 j1 g ⟨S, c0, c1, c2⟩
        refine ⟨fun i g => Sw h g l ∧ i1 ≤ i ∧ i ≤ j1 + 2, ?_, ?_⟩
        · rintro i g ⟨S, d0, d1⟩
          refine ⟨fun j g => Sw h g l ∧ i - 2 ≤ j ∧ j ≤ j1, fun j _ => (j - i + 2).toNat, ⟨S, by omega, by omega⟩, ?_⟩
          rintro j g ⟨S, e0, e1⟩
          refine ⟨fun hle => ?_, fun hgt => ⟨fun hc => ?_, fun hc => absurd hc (by omega)⟩⟩
          · refine Us.rd S.u (by omega) (by omega) fun b1 v1 => Us.rd S.u (by omega) (by omega) fun b2 v2 => less_any fun q => ⟨q, rfl, fun _ => ⟨fun hc => absurd hc (by omega), fun _ => ?_⟩, fun _ => ?_⟩
            · clear b1 v1 b2 v2
              rw [wr64 (x := i + 1) (by omega) (by omega), wr64 (x := j - 1) (by omega) (by omega)]
              refine Us.rd S.u (i := j) (by omega) (by omega) fun b1 v1 => Us.rd S.u (i := i) (by omega) (by omega) fun b2 v2 => Us.wr (v := v1) S.u (i := i) (by omega) (by omega) fun b3 U3 p3 => Us.wr (v := v2) U3 (i := j) (by omega) (by omega) fun b4 U4 p4 => ?_
              have S2 : Sw h ((g.wr b3 (0 + (i).toNat) [.int .u64 v1]).wr b4 (0 + (j).toNat) [.int .u64 v2]) l := ⟨U4, (S.up.trans p3).trans p4⟩
              generalize ((g.wr b3 (0 + (i).toNat) [.int .u64 v1]).wr b4 (0 + (j).toNat) [.int .u64 v2]) = g2 at S2 ⊢
              clear U3 p3 U4 p4 b1 b2 b3 b4 v1 v2
              exact ⟨⟨S2, by omega, by omega, by omega⟩, by dsimp only; omega⟩
            · rw [wr64 (x := j - 1) (by omega) (by omega)]
              exact ⟨⟨S, by omega, by omega⟩, by dsimp only; omega⟩
          · refine Us.rd S.u (i := lo) (by omega) (by omega) fun b1 v1 => Us.rd S.u (i := j) (by omega) (by omega) fun b2 v2 => Us.wr (v := v1) S.u (i := j) (by omega) (by omega) fun b3 U3 p3 => Us.wr (v := v2) U3 (i := lo) (by omega) (by omega) fun b4 U4 p4 => ?_
            have S2 : Sw h ((g.wr b3 (0 + (j).toNat) [.int .u64 v1]).wr b4 (0 + (lo).toNat) [.int .u64 v2]) l := ⟨U4, (S.up.trans p3).trans p4⟩
            generalize ((g.wr b3 (0 + (j).toNat) [.int .u64 v1]).wr b4 (0 + (lo).toNat) [.int .u64 v2]) = g2 at S2 ⊢
            clear U3 p3 U4 p4 b1 b2 b3 b4 v1 v2
            exact hQ g2 j false S2 (by omega) (by omega)
        · refine ⟨fun i g => Sw h g l ∧ i1 ≤ i ∧ i ≤ j1 + 2, fun i _ => (j1 + 1 - i).toNat, ⟨S, by omega, by omega⟩, ?_⟩
          rintro i g ⟨S, d0, d1⟩
          refine ⟨fun hle => ?_, fun hgt => ⟨S, by omega, by omega⟩⟩
          refine Us.rd S.u (by omega) (by omega) fun b1 v1 => Us.rd S.u (by omega) (by omega) fun b2 v2 => less_any fun q => ⟨q, rfl, fun _ => ?_, fun _ => ⟨S, by omega, by omega⟩⟩
          rw [wr64 (x := i + 1) (by omega) (by omega)]
          exact ⟨⟨S, by omega, by omega⟩, by dsimp only; omega⟩
    · refine ⟨fun j g => Sw h g l ∧ i0 - 1 ≤ j ∧ j < hi, fun j _ => (j - i0 + 1).toNat, ⟨S, by omega, by omega⟩, ?_⟩
      rintro j g ⟨S, b0, b1⟩
      refine ⟨fun hle => ?_, fun hgt => ⟨S, by omega, by omega⟩⟩
      refine Us.rd S.u (by omega) (by omega) fun b1 v1 => Us.rd S.u (by omega) (by omega) fun b2 v2 => less_any fun q => ⟨q, rfl, fun _ => ⟨S, by omega, by omega⟩, fun _ => ?_⟩
      rw [wr64 (x := j - 1) (by omega) (by omega)]
      exact ⟨⟨S, by omega, by omega⟩, by dsimp only; omega⟩
  · refine ⟨fun i g => Sw h g l ∧ lo + 1 ≤ i ∧ i ≤ hi, fun i _ => (hi - i).toNat, ⟨S, by omega, by omega⟩, ?_⟩
    rintro i g ⟨S, a0, a1⟩
    refine ⟨fun hle => ?_, fun hgt => ⟨S, by omega, by omega⟩⟩
    refine Us.rd S.u (by omega) (by omega) fun b1 v1 => Us.rd S.u (by omega) (by omega) fun b2 v2 => less_any fun q => ⟨q, rfl, fun _ => ?_, fun _ => ⟨S, by omega, by omega⟩⟩
    rw [wr64 (x := i + 1) (by omega) (by omega)]
    exact ⟨⟨S, by omega, by omega⟩, by dsimp only; omega⟩
end Go.Eng.Ytblghgacokoklaa
end
section

/-
  SPECS OF SORTING WHOLE NUMBERS, 4.
-/
set_option linter.unusedSimpArgs false
set_option linter.unusedVariables false
set_option maxRecDepth 100000
namespace Go.Eng.Ytblghgacokoklaa
def SortOk (l : Sl) (T : Sl → Int → Int → Int → PT) (N : Int) : Prop := ∀ (lo hi lim : Int) (h : Hp) (Q : Value → Hp → Prop), Us h l → 0 ≤ lo → lo ≤ hi → hi ≤ (l.n : Int) → hi - lo < N → (∀ h', Sw h h' l → Q (.tuple ⟨[]⟩) h') → T l lo hi lim h Q
theorem pdq_step {l : Sl} (hn : l.n ≤ 60000) {T : Sl → Int → Int → Int → PT} {N : Int} (hT : SortOk l T N) {lo hi lim : Int} {h : Hp} {Q : Value → Hp → Prop} (U : Us h l) (h1 : 0 ≤ lo) (h3 : lo ≤ hi) (h2 : hi ≤ (l.n : Int)) (hN : hi - lo ≤ N)
    (hQ : ∀ h', Sw h h' l → Q (.tuple ⟨[]⟩) h') : F116.G T l lo hi lim h Q := by
  unfold F116.G
  refine ⟨fun a b lim _ _ g => Sw h g l ∧ lo ≤ a ∧ a ≤ b ∧ b ≤ hi, fun a b _ _ _ _ => (b - a).toNat, ⟨Sw.refl U, by omega, by omega, by omega⟩, ?_⟩
  intro a b lim
  have ins : ∀ {g : Hp}, Sw h g l → lo ≤ a → a ≤ b → b ≤ hi → F122.T l a b g fun r h2 => Q (.tuple ⟨[]⟩) h2 := fun S x y z => insertion S.u (by omega) (by omega) hn (by omega) fun g' S' => hQ g' (S.trans S')
  have hea : ∀ {g : Hp}, Sw h g l → lo ≤ a → a ≤ b → b ≤ hi → F123.T l a b g fun r h2 => Q (.tuple ⟨[]⟩) h2 := fun S x y z => heap_u S.u (by omega) (by omega) hn (by omega) fun g' S' => hQ g' (S.trans S')
  refine ⟨⟨?_, ?_⟩, ⟨?_, ?_⟩⟩
  · rintro g ⟨S, a0, a1, a2⟩
    rw [wr64 (x := b - a) (by omega) (by omega)]
    refine ⟨fun _ => ins S a0 a1 a2, fun hbig => ⟨fun _ => hea S a0 a1 a2, fun _ => ?_⟩⟩
    refine choose_pivot S.u (by omega) (by omega) (by omega) hn fun g1 p hint K1 p0 p1 => ⟨p, hint, rfl, ?_⟩
    have S1 : Sw h g1 l := S.trans ⟨S.u.keep K1, Upd.of_keep K1 l⟩
    clear K1
    refine ⟨fun p _ g => Sw h g l ∧ a ≤ p ∧ p < b, ?_, fun _ => ?_, fun _ => ⟨S1, p0, p1⟩⟩
    · rintro p hint g ⟨S, p0, p1⟩
      refine ⟨fun g => Sw h g l, ?_, ?_⟩
      · intro g S
        refine ⟨fun x g => Sw h g l ∧ x = a, ?_, fun _ => ?_, fun _ => ⟨S, rfl⟩⟩
        · rintro x g ⟨S, rfl⟩
          refine part_u S.u (by omega) (by omega) hn p0 p1 fun g2 m q S2 m0 m1 => ⟨m, q, fun hq => ?_, fun hq => ?_⟩
          all_goals
            subst hq
            refine ⟨rfl, by decide, ?_⟩
            rw [wr64 (x := m - x) (by omega) (by omega), wr64 (x := b - m) (by omega) (by omega), wr64 (x := m + 1) (by omega) (by omega)]
            refine ⟨fun _ => ⟨fun _ => ?_, fun _ => ?_⟩, fun _ => ⟨fun _ => ?_, fun _ => ?_⟩⟩
            · exact hT _ _ _ _ _ S2.u (by omega) (by omega) (by omega) (by omega) fun g3 S3 => ⟨⟨(S.trans S2).trans S3, by omega, by omega, by omega⟩, by dsimp only; omega⟩
            · exact hT _ _ _ _ _ S2.u (by omega) (by omega) (by omega) (by omega) fun g3 S3 => ⟨⟨(S.trans S2).trans S3, by omega, by omega, by omega⟩, by dsimp only; omega⟩
            · exact hT _ _ _ _ _ S2.u (by omega) (by omega) (by omega) (by omega) fun g3 S3 => ⟨⟨(S.trans S2).trans S3, by omega, by omega, by omega⟩, by dsimp only; omega⟩
            · exact hT _ _ _ _ _ S2.u (by omega) (by omega) (by omega) (by omega) fun g3 S3 => ⟨⟨(S.trans S2).trans S3, by omega, by omega, by omega⟩, by dsimp only; omega⟩
        · rw [wr64 (x := a - 1) (by omega) (by omega)]
          refine Us.rd S.u (by omega) (by omega) fun b1 v1 => Us.rd S.u (by omega) (by omega) fun b2 v2 => less_any fun q => ⟨q, rfl, fun _ => ⟨S, rfl⟩, fun _ => ?_⟩
          exact partEq S.u (by omega) (by omega) hn p0 p1 fun g2 m S2 m0 m1 => ⟨m, rfl, ⟨S.trans S2, by omega, by omega, by omega⟩, by dsimp only; omega⟩
      · refine ⟨fun _ => partial_u S.u (by omega) (by omega) hn (by omega) fun g2 q S2 => ⟨q, rfl, fun _ => hQ g2 (S.trans S2), fun _ => S.trans S2⟩, fun _ => S⟩
    · refine reverse_u S1.u (by omega) (by omega) hn (by omega) (by omega) fun g2 S2 => ?_
      rw [wr64 (x := b - 1) (by omega) (by omega), wr64 (x := p - a) (by omega) (by omega), wr64 (x := b - 1 - (p - a)) (by omega) (by omega)]
      exact ⟨S1.trans S2, by omega, by omega⟩
  · rintro g ⟨S, a0, a1, a2⟩
    rw [wr64 (x := b - a) (by omega) (by omega)]
    refine ⟨fun _ => ins S a0 a1 a2, fun hbig => ⟨fun _ => hea S a0 a1 a2, fun _ => ?_⟩⟩
    refine choose_pivot S.u (by omega) (by omega) (by omega) hn fun g1 p hint K1 p0 p1 => ⟨p, hint, rfl, ?_⟩
    have S1 : Sw h g1 l := S.trans ⟨S.u.keep K1, Upd.of_keep K1 l⟩
    clear K1
    refine ⟨fun p _ g => Sw h g l ∧ a ≤ p ∧ p < b, ?_, fun _ => ?_, fun _ => ⟨S1, p0, p1⟩⟩
    · rintro p hint g ⟨S, p0, p1⟩
      refine ⟨fun g => Sw h g l, ?_, ?_⟩
      · intro g S
        refine ⟨fun x g => Sw h g l ∧ x = a, ?_, fun _ => ?_, fun _ => ⟨S, rfl⟩⟩
        · rintro x g ⟨S, rfl⟩
          refine part_u S.u (by omega) (by omega) hn p0 p1 fun g2 m q S2 m0 m1 => ⟨m, q, fun hq => ?_, fun hq => ?_⟩
          all_goals
            subst hq
            refine ⟨rfl, by decide, ?_⟩
            rw [wr64 (x := m - x) (by omega) (by omega), wr64 (x := b - m) (by omega) (by omega), wr64 (x := m + 1) (by omega) (by omega)]
            refine ⟨fun _ => ⟨fun _ => ?_, fun _ => ?_⟩, fun _ => ⟨fun _ => ?_, fun _ => ?_⟩⟩
            · exact hT _ _ _ _ _ S2.u (by omega) (by omega) (by omega) (by omega) fun g3 S3 => ⟨⟨(S.trans S2).trans S3, by omega, by omega, by omega⟩, by dsimp only; omega⟩
            · exact hT _ _ _ _ _ S2.u (by omega) (by omega) (by omega) (by omega) fun g3 S3 => ⟨⟨(S.trans S2).trans S3, by omega, by omega, by omega⟩, by dsimp only; omega⟩
            · exact hT _ _ _ _ _ S2.u (by omega) (by omega) (by omega) (by omega) fun g3 S3 => ⟨⟨(S.trans S2).trans S3, by omega, by omega, by omega⟩, by dsimp only; omega⟩
            · exact hT _ _ _ _ _ S2.u (by omega) (by omega) (by omega) (by omega) fun g3 S3 => ⟨⟨(S.trans S2).trans S3, by omega, by omega, by omega⟩, by dsimp only; omega⟩
        · rw [wr64 (x := a - 1) (by omega) (by omega)]
          refine Us.rd S.u (by omega) (by omega) fun b1 v1 => Us.rd S.u (by omega) (by omega) fun b2 v2 => less_any fun q => ⟨q, rfl, fun _ => ⟨S, rfl⟩, fun _ => ?_⟩
          exact partEq S.u (by omega) (by omega) hn p0 p1 fun g2 m S2 m0 m1 => ⟨m, rfl, ⟨S.trans S2, by omega, by omega, by omega⟩, by dsimp only; omega⟩
      · exact S
    · refine reverse_u S1.u (by omega) (by omega) hn (by omega) (by omega) fun g2 S2 => ?_
      rw [wr64 (x := b - 1) (by omega) (by omega), wr64 (x := p - a) (by omega) (by omega), wr64 (x := b - 1 - (p - a)) (by omega) (by omega)]
      exact ⟨S1.trans S2, by omega, by omega⟩
  · rintro g ⟨S, a0, a1, a2⟩
    rw [wr64 (x := b - a) (by omega) (by omega)]
    refine ⟨fun _ => ins S a0 a1 a2, fun hbig => ⟨fun _ => hea S a0 a1 a2, fun _ => ?_⟩⟩
    refine break_u S.u (by omega) (by omega) hn (by omega) fun g0 S0 => ?_
    replace S := S.trans S0
    clear S0
    refine choose_pivot S.u (by omega) (by omega) (by omega) hn fun g1 p hint K1 p0 p1 => ⟨p, hint, rfl, ?_⟩
    have S1 : Sw h g1 l := S.trans ⟨S.u.keep K1, Upd.of_keep K1 l⟩
    clear K1
    refine ⟨fun p _ g => Sw h g l ∧ a ≤ p ∧ p < b, ?_, fun _ => ?_, fun _ => ⟨S1, p0, p1⟩⟩
    · rintro p hint g ⟨S, p0, p1⟩
      refine ⟨fun g => Sw h g l, ?_, ?_⟩
      · intro g S
        refine ⟨fun x g => Sw h g l ∧ x = a, ?_, fun _ => ?_, fun _ => ⟨S, rfl⟩⟩
        · rintro x g ⟨S, rfl⟩
          refine part_u S.u (by omega) (by omega) hn p0 p1 fun g2 m q S2 m0 m1 => ⟨m, q, fun hq => ?_, fun hq => ?_⟩
          all_goals
            subst hq
            refine ⟨rfl, by decide, ?_⟩
            rw [wr64 (x := m - x) (by omega) (by omega), wr64 (x := b - m) (by omega) (by omega), wr64 (x := m + 1) (by omega) (by omega)]
            refine ⟨fun _ => ⟨fun _ => ?_, fun _ => ?_⟩, fun _ => ⟨fun _ => ?_, fun _ => ?_⟩⟩
            · exact hT _ _ _ _ _ S2.u (by omega) (by omega) (by omega) (by omega) fun g3 S3 => ⟨⟨(S.trans S2).trans S3, by omega, by omega, by omega⟩, by dsimp only; omega⟩
            · exact hT _ _ _ _ _ S2.u (by omega) (by omega) (by omega) (by omega) fun g3 S3 => ⟨⟨(S.trans S2).trans S3, by omega, by omega, by omega⟩, by dsimp only; omega⟩
            · exact hT _ _ _ _ _ S2.u (by omega) (by omega) (by omega) (by omega) fun g3 S3 => ⟨⟨(S.trans S2).trans S3, by omega, by omega, by omega⟩, by dsimp only; omega⟩
            · exact hT _ _ _ _ _ S2.u (by omega) (by omega) (by omega) (by omega) fun g3 S3 => ⟨⟨(S.trans S2).trans S3, by omega, by omega, by omega⟩, by dsimp only; omega⟩
        · rw [wr64 (x := a - 1) (by omega) (by omega)]
          refine Us.rd S.u (by omega) (by omega) fun b1 v1 => Us.rd S.u (by omega) (by omega) fun b2 v2 => less_any fun q => ⟨q, rfl, fun _ => ⟨S, rfl⟩, fun _ => ?_⟩
          exact partEq S.u (by omega) (by omega) hn p0 p1 fun g2 m S2 m0 m1 => ⟨m, rfl, ⟨S.trans S2, by omega, by omega, by omega⟩, by dsimp only; omega⟩
      · exact S
    · refine reverse_u S1.u (by omega) (by omega) hn (by omega) (by omega) fun g2 S2 => ?_
      rw [wr64 (x := b - 1) (by omega) (by omega), wr64 (x := p - a) (by omega) (by omega), wr64 (x := b - 1 - (p - a)) (by omega) (by omega)]
      exact ⟨S1.trans S2, by omega, by omega⟩
  · rintro g ⟨S, a0, a1, a2⟩
    rw [wr64 (x := b - a) (by omega) (by omega)]
    refine ⟨fun _ => ins S a0 a1 a2, fun hbig => ⟨fun _ => hea S a0 a1 a2, fun _ => ?_⟩⟩
    refine break_u S.u (by omega) (by omega) hn (by omega) fun g0 S0 => ?_
    replace S := S.trans S0
    clear S0
    refine choose_pivot S.u (by omega) (by omega) (by omega) hn fun g1 p hint K1 p0 p1 => ⟨p, hint, rfl, ?_⟩
    have S1 : Sw h g1 l := S.trans ⟨S.u.keep K1, Upd.of_keep K1 l⟩
    clear K1
    refine ⟨fun p _ g => Sw h g l ∧ a ≤ p ∧ p < b, ?_, fun _ => ?_, fun _ => ⟨S1, p0, p1⟩⟩
    · rintro p hint g ⟨S, p0, p1⟩
      refine ⟨fun g => Sw h g l, ?_, ?_⟩
      · intro g S
        refine ⟨fun x g => Sw h g l ∧ x = a, ?_, fun _ => ?_, fun _ => ⟨S, rfl⟩⟩
        · rintro x g ⟨S, rfl⟩
          refine part_u S.u (by omega) (by omega) hn p0 p1 fun g2 m q S2 m0 m1 => ⟨m, q, fun hq => ?_, fun hq => ?_⟩
          all_goals
            subst hq
            refine ⟨rfl, by decide, ?_⟩
            rw [wr64 (x := m - x) (by omega) (by omega), wr64 (x := b - m) (by omega) (by omega), wr64 (x := m + 1) (by omega) (by omega)]
            refine ⟨fun _ => ⟨fun _ => ?_, fun _ => ?_⟩, fun _ => ⟨fun _ => ?_, fun _ => ?_⟩⟩
            · exact hT _ _ _ _ _ S2.u (by omega) (by omega) (by omega) (by omega) fun g3 S3 => ⟨⟨(S.trans S2).trans S3, by omega, by omega, by omega⟩, by dsimp only; omega⟩
            · exact hT _ _ _ _ _ S2.u (by omega) (by omega) (by omega) (by omega) fun g3 S3 => ⟨⟨(S.trans S2).trans S3, by omega, by omega, by omega⟩, by dsimp only; omega⟩
            · exact hT _ _ _ _ _ S2.u (by omega) (by omega) (by omega) (by omega) fun g3 S3 => ⟨⟨(S.trans S2).trans S3, by omega, by omega, by omega⟩, by dsimp only; omega⟩
            · exact hT _ _ _ _ _ S2.u (by omega) (by omega) (by omega) (by omega) fun g3 S3 => ⟨⟨(S.trans S2).trans S3, by omega, by omega, by omega⟩, by dsimp only; omega⟩
        · rw [wr64 (x := a - 1) (by omega) (by omega)]
          refine Us.rd S.u (by omega) (by omega) fun b1 v1 => Us.rd S.u (by omega) (by omega) fun b2 v2 => less_any fun q => ⟨q, rfl, fun _ => ⟨S, rfl⟩, fun _ => ?_⟩
          exact partEq S.u (by omega) (by omega) hn p0 p1 fun g2 m S2 m0 m1 => ⟨m, rfl, ⟨S.trans S2, by omega, by omega, by omega⟩, by dsimp only; omega⟩
      · exact S
    · refine reverse_u S1.u (by omega) (by omega) hn (by omega) (by omega) fun g2 S2 => ?_
      rw [wr64 (x := b - 1) (by omega) (by omega), wr64 (x := p - a) (by omega) (by omega), wr64 (x := b - 1 - (p - a)) (by omega) (by omega)]
      exact ⟨S1.trans S2, by omega, by omega⟩
theorem pdq {l : Sl} (hn : l.n ≤ 60000) : ∀ (nf : Nat), SortOk l (F116.TN nf) (nf : Int)
  | 0 => fun lo hi lim h Q U h1 h2 h3 h4 hQ => absurd h4 (by omega)
  | nf + 1 => fun lo hi lim h Q U h1 h2 h3 h4 hQ => pdq_step hn (pdq hn nf) U h1 h2 h3 (by omega) hQ
/-- A list of whole numbers is sorted: it ends. -/
theorem sort_u {h : Hp} {l : Sl} {Q : Value → Hp → Prop} (U : Us h l) (hn : l.n ≤ 60000) (hQ : ∀ h', Sw h h' l → Q (.tuple ⟨[]⟩) h') : F105.T l h Q := by
  unfold F105.T
  rw [wrap_u64 (by omega) (by omega)]
  refine bits_len (by omega) fun r => ⟨r, rfl, l.n + 1, ?_⟩
  exact pdq hn (l.n + 1) 0 (l.n : Int) r h _ U (by omega) (by omega) (by omega) (by omega) hQ
end Go.Eng.Ytblghgacokoklaa
end
section

/-
  SPECS OF VERSIONS, 6: a set; what is gone; Apply.
-/
set_option linter.unusedSimpArgs false
set_option linter.unusedVariables false
set_option maxRecDepth 100000
namespace Go.Eng.Ytblghgacokoklaa
theorem VerR.one {h h' : Hp} {b vb : Nat} {es : Array MapEntry} {c : Nat} {lv : Lv} (V : VerR h vb lv) (O : One b h h') (hb : h b = some (.map es c)) : VerR h' vb lv := by
  obtain ⟨ls, xs, h1, h2, h3, h4⟩ := V
  exact ⟨ls, xs, O.keep _ _ (by rintro rfl; rw [hb] at h1; cases h1) h1, O.row hb h2, fun x hx => O.row hb (h3 x hx), h4⟩
theorem Ver.base {g h h' : Hp} {vb : Nat} {ls : Sl} {xs : List (Sl × List Tab)} (K : Keep g h) (V : Ver h h' vb ls xs) : Ver g h' vb ls xs :=
  ⟨⟨K.trans V.L.k, V.L.nl.mono K.dom, V.L.l, V.L.t, fun x hx => (V.L.n x hx).mono K.dom, V.L.d⟩, K.dom _ V.nv, V.v⟩
/-- A set of one's own; nothing is pinned. -/
structure SetA (g h : Hp) (sb vb pm cm : Nat) (ps ls : Sl) (xs : List (Sl × List Tab)) (ptrs : List ByteArray) : Prop where
  V : Ver g h vb ls xs
  ns : g sb = none
  s : h sb = some (.cells ⟨[.pointer (some ⟨vb, 0, none⟩), .map (some pm), .slice ps.a ps.n ps.c, .map (some cm)]⟩ 154 (0, 0))
  np : NewN g ps
  p : Buf h ps 1 9 (ptrV ptrs)
  m : ∃ c, h pm = some (.map #[] c)
  nc : g cm = none
  c : ∃ es c, h cm = some (.map es c) ∧ U64s es
  ne : pm ≠ cm
/-- What a set's calls may change. -/
def DA (sb cm : Nat) (ps : Sl) (k : Nat) : Prop := k = sb ∨ k = cm ∨ ps.a = some ⟨k, 0, none⟩
structure Chg (D : Nat → Prop) (h h' : Hp) : Prop where
  keep : ∀ k x, ¬ D k → h k = some x → h' k = some x
  dom : ∀ k, h' k = none → h k = none
theorem Chg.trans {D : Nat → Prop} {a b c : Hp} (x : Chg D a b) (y : Chg D b c) : Chg D a c := ⟨fun k o n e => y.keep k o n (x.keep k o n e), fun k e => x.dom k (y.dom k e)⟩
theorem Chg.of_keep {D : Nat → Prop} {a b : Hp} (k : Keep a b) : Chg D a b := ⟨fun i x _ e => k i x e, k.dom⟩
theorem Chg.one {D : Nat → Prop} {b : Nat} {h h' : Hp} (O : One b h h') (hb : D b) : Chg D h h' := ⟨fun k x n e => O.keep k x (by rintro rfl; exact n hb) e, O.dom⟩
theorem Chg.upd {D : Nat → Prop} {h h' : Hp} {s s' : Sl} (U : Upd h h' s s') (hb : ∀ k o, s.a = some ⟨k, o, none⟩ → D k) : Chg D h h' := ⟨fun k x n e => U.keep k x (fun o hs => n (hb k o hs)) e, U.dom⟩
theorem Chg.ck {D : Nat → Prop} {κ : List Nat} {h h' : Hp} (C : Chg D h h') (hD : ∀ k x, D k → h k = some x → kd x ∈ κ) : Ck κ h h' := ⟨fun k x e n => C.keep k x (fun d => n (hD k x d e)) e, C.dom⟩
theorem buf_kd {h : Hp} {s : Sl} {sz t k o : Nat} {x : Obj} {vs : List Value} (B : Buf h s sz t vs) (hs : s.a = some ⟨k, o, none⟩) (hk : h k = some x) : o = 0 ∧ kd x = t + 2 := by
  rcases B.own with ⟨ha, _⟩ | ⟨b, c, f, ha, hb, _⟩
  · rw [ha] at hs; cases hs
  · rw [ha] at hs
    simp only [Option.some.injEq, Addr.mk.injEq, and_true] at hs
    rw [hs.1, hk] at hb
    cases hb
    exact ⟨hs.2.symm, rfl⟩
section
variable {g h h' : Hp} {sb vb pm cm : Nat} {ps ls : Sl} {xs : List (Sl × List Tab)} {ptrs : List ByteArray}
theorem SetA.keep (S : SetA g h sb vb pm cm ps ls xs ptrs) (K : Keep h h') : SetA g h' sb vb pm cm ps ls xs ptrs := by
  obtain ⟨c, hc⟩ := S.m
  obtain ⟨es, c2, h2, h3⟩ := S.c
  exact ⟨S.V.keep K, S.ns, K _ _ S.s, S.np, S.p.keep K, ⟨c, K _ _ hc⟩, S.nc, ⟨es, c2, K _ _ h2, h3⟩, S.ne⟩
theorem SetA.ck {κ : List Nat} (S : SetA g h sb vb pm cm ps ls xs ptrs) (C : Ck κ h h') (K : Keep g h') (a : 108 ∉ κ) (b : 87 ∉ κ) (c : 152 ∉ κ) (d : 156 ∉ κ) (e : 11 ∉ κ) (f : 0 ∉ κ) : SetA g h' sb vb pm cm ps ls xs ptrs := by
  obtain ⟨c1, hc⟩ := S.m
  obtain ⟨es, c2, h2, h3⟩ := S.c
  exact ⟨S.V.ck C K a b c, S.ns, C.keep _ _ S.s d, S.np, C.buf e S.p, ⟨c1, C.keep _ _ hc f⟩, S.nc, ⟨es, c2, C.keep _ _ h2 f, h3⟩, S.ne⟩
theorem SetA.da (S : SetA g h sb vb pm cm ps ls xs ptrs) : ∀ k x, DA sb cm ps k → h k = some x → kd x ∈ [156, 0, 11] := by
  intro k x hd hk
  rcases hd with rfl | rfl | hp
  · rw [S.s] at hk; cases hk; simp [kd]
  · obtain ⟨es, c2, h2, h3⟩ := S.c
    rw [h2] at hk; cases hk; simp [kd]
  · rw [(buf_kd S.p hp hk).2]; decide
theorem gone_spec {vb2 : Nat} {lv2 : Lv} {Q : Value → Hp → Prop} (S : SetA g h sb vb pm cm ps ls xs ptrs) (V2 : VerR h vb2 lv2) (hs : totL (xs.map (·.2)) ≤ 60000) (h5 : xs.length ≤ 5) (hs2 : totL lv2 ≤ 60000) (h52 : lv2.length ≤ 5)
    (hQ : ∀ h' (l : Sl), One cm h h' → (∃ es c, h' cm = some (.map es c) ∧ U64s es) → Q (.slice l.a l.n l.c) h') : F85.T (some ⟨sb, 0, none⟩) (some ⟨vb2, 0, none⟩) h Q := by
  obtain ⟨es, c, hc, hu⟩ := S.c
  obtain ⟨c1, hm⟩ := S.m
  refine ⟨sb, 0, rfl, some cm, at_of S.s 3, es, c, hc, sb, 0, rfl, ?_⟩
  show ∃ p2, (h.new cm (.map #[] c)).at sb 0 = _ ∧ _
  have O1 : One cm h (h.new cm (.map #[] c)) := One.new _ (by rw [hc]; simp)
  have hsc : sb ≠ cm := ne_kd S.s hc (by simp [kd])
  have hs1 := O1.keep _ _ hsc S.s
  refine ⟨some ⟨vb, 0, none⟩, at_of hs1 0, sb, 0, rfl, some cm, at_of hs1 3, ?_⟩
  have hc1 := new_at h cm (.map #[] c)
  refine counted_spec (S.V.r.one O1 hc) (Mp.new h cm c) (fun k => ⟨Int.le_refl _, by omega⟩) hs (by rw [List.length_map]; exact h5) fun h2 M2 O2 => ?_
  have O12 := O1.trans O2
  have hs2' := O12.keep _ _ hsc S.s
  have hm2 := O12.keep _ _ S.ne hm
  refine ⟨sb, 0, rfl, some pm, at_of hs2' 1, #[], c1, hm2, fun b4 hb4 => ?_⟩
  have K3 := Keep.new hb4 (.mapIter (some pm) c1 #[] c1)
  have hi := new_at h2 b4 (.mapIter (some pm) c1 #[] c1)
  have V3 := (V2.one O12 hc).keep K3
  have M3 := Mp.keep K3 M2
  have hs3 := K3 _ _ hs2'
  have hm3 := K3 _ _ hm2
  have O3 : One cm h (h2.new b4 (.mapIter (some pm) c1 #[] c1)) := O12.trans ⟨fun k x _ e => K3 k x e, K3.dom⟩
  generalize h2.new b4 (.mapIter (some pm) c1 #[] c1) = h3 at hi V3 M3 hs3 hm3 O3 ⊢
  clear K3 hs2' hm2 M2
  refine ⟨fun hh => hh = h3, fun _ => 0, rfl, ?_⟩
  intro hh e
  have e' := e.symm
  subst e'
  refine ⟨b4, some pm, c1, #[], c1, #[], c1, rfl, hi, hm3, rfl, fun e he => by simp at he, fun _ => ?_⟩
  obtain ⟨ls2, xs2, v1, v2, v3, rfl⟩ := V3
  have hn2 : ls2.n = xs2.length := by have := v2.1; rw [slV_length, List.length_map] at this; omega
  rw [List.length_map] at h52
  refine ⟨vb2, 0, rfl, ls2, at_of v1 0, fun l1 n1 h4 => ∃ P R vs, xs2 = P ++ R ∧ n1 = (P.length : Int) ∧ Buf h4 l1 1 55 (uvs vs) ∧ NewN h3 l1 ∧ Keep h3 h4 ∧ vs.length ≤ totL (P.map (·.2)), fun _ n1 _ => xs2.length - n1.toNat, ⟨[], xs2, [], rfl, rfl, Buf.nil _ _ _, .inl rfl, Keep.refl _, Nat.zero_le _⟩, ?_⟩
  rintro l1 n1 h4 ⟨P, R, vs, rfl, rfl, B4, N4, K4, hv4⟩
  rw [List.length_append] at hn2 h52
  have htot : totL (P.map (·.2)) + totL (R.map (·.2)) ≤ 60000 := by
    unfold totL at hs2 ⊢
    rw [List.map_append, List.map_append, List.sum_append] at hs2
    exact hs2
  refine ⟨fun hlt => ?_, fun hge => ?_⟩
  · rcases R with _ | ⟨x, R⟩
    · exact absurd hlt (by simp at hn2; omega)
    rw [List.length_cons] at hn2 h52
    obtain ⟨_, b1, o1, ha1, hat1⟩ := rows_rd (K4.row v2) (i := P.length) (x := x) (by simp)
    have htx := v3 x (by simp)
    have hxn : x.1.n = x.2.length := by have := htx.1; rw [tabV_len] at this; omega
    have hxt : totL ((x :: R).map (·.2)) = x.2.length + totL (R.map (·.2)) := by simp [totL]
    refine ⟨b1, o1, ha1, ⟨by omega, hlt⟩, x.1, by rw [Int.toNat_natCast]; exact hat1, fun l3 n2 h5 => ∃ A B vs, x.2 = A ++ B ∧ n2 = (A.length : Int) ∧ Buf h5 l3 1 55 (uvs vs) ∧ NewN h3 l3 ∧ Keep h3 h5 ∧ vs.length ≤ totL (P.map (·.2)) + A.length, fun _ n2 _ => x.2.length - n2.toNat, ⟨[], x.2, vs, rfl, rfl, B4, N4, K4, by simpa using hv4⟩, ?_⟩
    rintro l3 n2 h5 ⟨A, B, vs5, eAB, rfl, B5, N5, K5, hv5⟩
    refine ⟨fun hlt1 => ?_, fun hge1 => ?_⟩
    · rcases B with _ | ⟨t, B⟩
      · exact absurd hlt1 (by rw [hxn, eAB]; simp)
      rw [eAB] at htx
      have eL : x.2.length = A.length + (B.length + 1) := by rw [eAB, List.length_append, List.length_cons]
      refine tab_rd (K5.row htx) rfl fun b2 o2 => ?_
      refine ⟨sb, 0, rfl, some cm, at_of (K5 _ _ hs3) 3, ?_⟩
      refine Mp.get (Mp.keep K5 M3) t.num fun es4 c4 => ⟨fun _ => ?_, fun _ => ?_⟩
      · have h5n : l3.n = vs5.length := by have := B5.len; rw [uvs_len] at this; omega
        refine append_buf B5 rfl rfl (by omega) fun l4 h6 B6 hl6 U6 => ?_
        obtain ⟨K6, N6⟩ := N5.upd K5 U6
        rw [next_i (n := 70000) (by omega) (by omega)]
        refine ⟨⟨A ++ [t], B, vs5 ++ [t.num], by rw [eAB]; simp, by simp, by unfold uvs at B6 ⊢; rw [List.map_append]; exact B6, N6, K6, by simp only [List.length_append, List.length_singleton]; omega⟩, by (try dsimp only); rw [eL]; omega⟩
      · rw [next_i (n := 70000) (by omega) (by omega)]
        refine ⟨⟨A ++ [t], B, vs5, by rw [eAB]; simp, by simp, B5, N5, K5, by simp only [List.length_append, List.length_singleton]; omega⟩, by (try dsimp only); rw [eL]; omega⟩
    · have hB : B = [] := List.eq_nil_of_length_eq_zero (by have := congrArg List.length eAB; rw [List.length_append] at this; omega)
      subst hB
      rw [List.append_nil] at eAB
      rw [next_i (n := 100) (by omega) (by omega)]
      refine ⟨⟨P ++ [x], R, vs5, by simp, by simp, B5, N5, K5, ?_⟩, by (try dsimp only); rw [List.length_append, List.length_cons]; omega⟩
      have : totL ((P ++ [x]).map (·.2)) = totL (P.map (·.2)) + x.2.length := by simp [totL]
      rw [this, eAB]; exact hv5
  · have h4n : l1.n = vs.length := by have := B4.len; rw [uvs_len] at this; omega
    refine sort_u ⟨vs, B4⟩ (by omega) fun h7 S7 => ?_
    obtain ⟨K7, N7⟩ := N4.upd K4 S7.up
    obtain ⟨es7, c7, e7, u7, _⟩ := Mp.keep K7 M3
    exact hQ h7 l1 (O3.trans ⟨fun k x _ e => K7 k x e, K7.dom⟩) ⟨es7, c7, e7, u7⟩
end
end Go.Eng.Ytblghgacokoklaa
end
section

/-
  SPECS OF VERSIONS, 7: Apply; New.
-/
set_option linter.unusedSimpArgs false
set_option linter.unusedVariables false
set_option maxRecDepth 100000
namespace Go.Eng.Ytblghgacokoklaa
theorem ptrV_length (l : List ByteArray) : (ptrV l).length = l.length := List.length_map _
theorem ptr_one (l : List ByteArray) : ∀ v ∈ ptrV l, Value.oneCell' v = true := fun v hv => by
  unfold ptrV at hv
  obtain ⟨s, _, rfl⟩ := List.mem_map.1 hv
  rfl
theorem apply_spec {g h : Hp} {sb vb pm cm : Nat} {ps ls l l1 l2 : Sl} {xs : List (Sl × List Tab)} {ptrs : List ByteArray} {e : Edit} {a b c : Int} {Q : Value → Hp → Prop}
    (S : SetA g h sb vb pm cm ps ls xs ptrs) (E : EdAt g e l l1 l2) (hp : ptrs.length = xs.length) (h1 : 1 ≤ xs.length) (h5 : xs.length ≤ 5) (hs : totL (xs.map (·.2)) + e.inn.length ≤ 50000) (ho : e.out.length ≤ 50000)
    (hQ : ∀ h' c (r : Sl) vb' ls' xs' ptrs', Chg (DA sb cm ps) h h' → SetA g h' sb vb' pm cm ps ls' xs' ptrs' → Res (xs.map (·.2)) e c (xs'.map (·.2)) → (c = 0 → ptrs' = e.ptr) → (c ≠ 0 → xs' = xs ∧ ptrs' = ptrs) → Q (.tuple ⟨[.slice r.a r.n r.c, .int .i64 c]⟩) h') : F54.T (some ⟨sb, 0, none⟩) a b c l l1 l2 h Q := by
  have Eh := E.keep S.V.L.k
  have hl2 : l2.n = e.ptr.length := by have := E.ptr.1; rw [ptrV_length] at this; omega
  have hln := S.V.L.len
  refine ⟨sb, 0, rfl, some ⟨vb, 0, none⟩, at_of S.s 0, vb, 0, rfl, ls, at_of S.V.v 0, fun hlen => ?_, fun hlen => ?_⟩
  · have hpl : e.ptr.length = (xs.map (·.2)).length := by rw [List.length_map]; omega
    refine ⟨sb, 0, rfl, some ⟨vb, 0, none⟩, at_of S.s 0, ?_⟩
    refine copied_ver S.V.r (by rw [List.length_map]; exact h5) (by omega) fun h1 vb1 ls1 xs1 V1 e1 => ⟨some ⟨vb1, 0, none⟩, rfl, ?_⟩
    have hx1l : xs1.length = xs.length := by have := congrArg List.length e1; simpa using this
    refine out_spec V1 Eh.out (by rw [e1]; omega) (by omega) fun h2 xs2 V2 C2 e2 => ⟨_, rfl, fun hc => ?_, fun hc => ?_⟩
    · rw [e1] at hc e2
      have so := outM_sum e.out (xs.map (·.2))
      have hx2l : xs2.length = xs.length := by have := congrArg List.length e2; rw [List.length_map, so.2.1, List.length_map] at this; exact this
      refine in_spec V2 Eh.inn (by rw [e2]; omega) (by omega) (by omega) fun h3 c3 xs3 V3 C3 r3 => ⟨c3, rfl, fun hc3 => ?_, fun hc3 => ?_⟩
      · subst hc3
        have S3 := S.keep V3.L.k
        have V3g := V3.base S.V.L.k
        have hR : Res (xs.map (·.2)) e 0 (xs3.map (·.2)) := by
          unfold Res
          rw [if_pos hpl, if_pos hc]
          unfold InR at r3
          rw [e2] at r3
          exact r3
        refine ⟨sb, 0, rfl, some ⟨vb, 0, none⟩, at_of S3.s 0, sb, 0, rfl, canW_new S3.s (by simp), sb, 0, rfl, ?_⟩
        have C4 : Ck [156] h3 (h3.wr sb 0 [.pointer (some ⟨vb1, 0, none⟩)]) := Ck.wr S3.s
        have K4 : Keep g (h3.wr sb 0 [.pointer (some ⟨vb1, 0, none⟩)]) := V3g.L.k.wr S.ns _ _
        have s4 := wr_at (o := 0) (vs := [.pointer (some ⟨vb1, 0, none⟩)]) S3.s
        have Cg4 : Chg (DA sb cm ps) h (h3.wr sb 0 [.pointer (some ⟨vb1, 0, none⟩)]) := by
          refine (Chg.of_keep V3.L.k).trans ⟨fun k x n ek => ?_, C4.dom⟩
          unfold Hp.wr
          rw [if_neg (fun hk => n (.inl hk))]; exact ek
        have V4 := V3g.ck C4 K4 (by decide) (by decide) (by decide)
        have Vo4 := S3.V.ck C4 K4 (by decide) (by decide) (by decide)
        have p4 := C4.buf (by decide) S3.p
        obtain ⟨cp, hcp⟩ := S3.m
        have m4 := C4.keep _ _ hcp (by simp [kd])
        obtain ⟨es, ce, hce, hue⟩ := S3.c
        have c4 := C4.keep _ _ hce (by simp [kd])
        clear C4
        generalize h3.wr sb 0 [.pointer (some ⟨vb1, 0, none⟩)] = h4 at K4 s4 Cg4 V4 Vo4 p4 m4 c4 ⊢
        have hpn : ps.n = ptrs.length := by have := p4.len; rw [ptrV_length] at this; omega
        have hmin : Nat.min l2.n ps.n = l2.n := Nat.min_eq_left (by omega)
        refine ⟨ps, at_of s4 2, ptrV e.ptr, ?_⟩
        rw [hmin, Nat.mul_one]
        obtain ⟨bp, hbp⟩ := buf_b p4 (by rw [ptrV_length]; omega)
        obtain ⟨w5, U5, B5⟩ := bufWr' (A := []) (U := ptrV ptrs) (V := ptrV e.ptr) (B := []) (by rw [List.nil_append, List.append_nil]; exact p4) (by rw [ptrV_length, ptrV_length]; omega) hbp
        simp only [List.nil_append, List.append_nil, List.length_nil] at w5 U5 B5
        rw [← hbp] at w5 U5 B5
        refine ⟨K4.row E.ptr, ptr_one _, w5, ?_⟩
        have C5 : Ck [11] h4 (h4.wrA ps.a (ptrV e.ptr)) := Ck.of_upd p4 U5
        have K5 := (S.np.upd K4 U5).1
        have S5 : SetA g (h4.wrA ps.a (ptrV e.ptr)) sb vb1 pm cm ps ls1 xs3 e.ptr := ⟨V4.ck C5 K5 (by decide) (by decide) (by decide), S.ns, C5.keep _ _ s4 (show 156 ∉ [11] by decide), S.np, B5, ⟨cp, C5.keep _ _ m4 (show 0 ∉ [11] by decide)⟩, S.nc, ⟨es, ce, C5.keep _ _ c4 (show 0 ∉ [11] by decide), hue⟩, S.ne⟩
        have Vo5 := Vo4.ck C5 K5 (by decide) (by decide) (by decide)
        have Cg5 : Chg (DA sb cm ps) h (h4.wrA ps.a (ptrV e.ptr)) := Cg4.trans (Chg.upd U5 fun k o hk => .inr (.inr (by rw [hbp] at hk ⊢; simp only [Option.some.injEq, Addr.mk.injEq, and_true] at hk; rw [hk.1])))
        obtain ⟨_, l2', hS, hT2, hl2', _⟩ := hR.ok
        have t3 : totL (xs3.map (·.2)) ≤ 60000 := by rw [hS.totL]; omega
        have n3 : xs3.length = xs.length := by have := hS.1; rw [List.length_map, hl2', List.length_map] at this; exact this
        refine gone_spec S5 Vo5.r t3 (by omega) (by omega) (by rw [List.length_map]; exact h5) fun h6 r O6 c6 => ⟨r, rfl, ?_⟩
        obtain ⟨es5, ce5, hce5, _⟩ := S5.c
        have K6 := K5.one O6 S.nc
        have S6 : SetA g h6 sb vb1 pm cm ps ls1 xs3 e.ptr := by
          obtain ⟨cp5, hcp5⟩ := S5.m
          have C6 := O6.ck hce5
          exact ⟨S5.V.ck C6 K6 (by simp [kd]) (by simp [kd]) (by simp [kd]), S.ns, O6.keep _ _ (ne_kd S5.s hce5 (by simp [kd])) S5.s, S.np, C6.buf (by simp [kd]) S5.p, ⟨cp5, O6.keep _ _ S.ne hcp5⟩, S.nc, c6, S.ne⟩
        exact hQ h6 0 r vb1 ls1 xs3 e.ptr (Cg5.trans (Chg.one O6 (.inr (.inl rfl)))) S6 hR (fun _ => rfl) (fun h0 => absurd rfl h0)
      · refine hQ h3 c3 ⟨none, 0, 0⟩ vb ls xs ptrs (Chg.of_keep V3.L.k) (S.keep V3.L.k) ?_ (fun h0 => absurd h0 hc3) (fun _ => ⟨rfl, rfl⟩)
        unfold Res
        rw [if_pos hpl, if_pos hc]
        unfold InR at r3
        rw [e2] at r3
        split
        · next h0 =>
          rw [if_pos h0] at r3
          exact r3.imp id fun k => absurd k.1 hc3
        · next h0 => rw [if_neg h0] at r3; exact r3
    · rw [e1] at hc
      rw [e1]
      refine hQ h2 _ ⟨none, 0, 0⟩ vb ls xs ptrs (Chg.of_keep V2.L.k) (S.keep V2.L.k) ?_ (fun h0 => absurd h0 hc) (fun _ => ⟨rfl, rfl⟩)
      unfold Res
      rw [if_pos hpl, if_neg hc]
  · refine hQ h 133 ⟨none, 0, 0⟩ vb ls xs ptrs (Chg.of_keep (Keep.refl h)) S ?_ (fun h0 => absurd h0 (by decide)) (fun _ => ⟨rfl, rfl⟩)
    unfold Res
    rw [if_neg (by rw [List.length_map]; omega)]
theorem new_spec {h : Hp} {n : Int} {k : Nat} {Q : Value → Hp → Prop} (hk : n = (k : Int)) (k1 : 1 ≤ k) (k5 : k ≤ 5)
    (hQ : ∀ h' sb vb pm cm ps ls xs, SetA h h' sb vb pm cm ps ls xs (List.replicate k ⟨#[]⟩) → xs.map (·.2) = List.replicate k [] → Q (.pointer (some ⟨sb, 0, none⟩)) h') : F52.T n h Q := by
  subst hk
  have hm : iMin (iMax (k : Int) 1) 5 = (k : Int) := by
    unfold iMin iMax
    by_cases h1 : (k : Int) < 1
    · omega
    · rw [if_neg h1]
      by_cases h5 : 5 < (k : Int)
      · omega
      · rw [if_neg h5]
  unfold F52.T
  rw [hm]
  simp only [Int.toNat_natCast]
  refine ⟨⟨by omega, by omega, by omega⟩, ⟨by omega, by omega, by omega⟩, ⟨by omega, by omega, by omega⟩, fun b hb => ⟨⟨by omega, by omega, by omega⟩, ⟨by omega, by omega, by omega⟩, fun b1 hb1 => ⟨⟨by omega, by omega, by omega⟩, fun b2 hb2 => ⟨⟨by omega, by omega, by omega⟩, ⟨by omega, by omega, by omega⟩, fun b3 hb3 b4 hb4 b5 hb5 => ?_⟩⟩⟩⟩
  have K0 := Keep.new hb (.cells (Builtin.zeroCells (List.toArray [.slice none 0 0]) k) 106 (0, 0))
  have B0 := buf_make h b k 106 [.slice none 0 0] (by decide)
  rw [zerosV_one] at B0
  generalize h.new b (.cells (Builtin.zeroCells (List.toArray [.slice none 0 0]) k) 106 (0, 0)) = g0 at *
  have K1 := Keep.new hb1 (.cells ⟨[.slice (some ⟨b, 0, none⟩) k k]⟩ 150 (0, 0))
  have x1 := new_at g0 b1 (.cells ⟨[.slice (some ⟨b, 0, none⟩) k k]⟩ 150 (0, 0))
  generalize g0.new b1 (.cells ⟨[.slice (some ⟨b, 0, none⟩) k k]⟩ 150 (0, 0)) = g1 at *
  have K2 := Keep.new hb2 (.map #[] 0)
  have x2 := new_at g1 b2 (.map #[] 0)
  generalize g1.new b2 (.map #[] 0) = g2 at *
  have K3 := Keep.new hb3 (.cells (Builtin.zeroCells (List.toArray [.string (ByteArray.mk #[])]) k) 9 (0, 0))
  have B3 := buf_make g2 b3 k 9 [.string (ByteArray.mk #[])] (by decide)
  rw [zerosV_one] at B3
  generalize g2.new b3 (.cells (Builtin.zeroCells (List.toArray [.string (ByteArray.mk #[])]) k) 9 (0, 0)) = g3 at *
  have K4 := Keep.new hb4 (.map #[] 0)
  have x4 := new_at g3 b4 (.map #[] 0)
  generalize g3.new b4 (.map #[] 0) = g4 at *
  have K5 := Keep.new hb5 (.cells ⟨[.pointer (some ⟨b1, 0, none⟩), .map (some b2), .slice (some ⟨b3, 0, none⟩) k k, .map (some b4)]⟩ 154 (0, 0))
  have x5 := new_at g4 b5 (.cells ⟨[.pointer (some ⟨b1, 0, none⟩), .map (some b2), .slice (some ⟨b3, 0, none⟩) k k, .map (some b4)]⟩ 154 (0, 0))
  generalize g4.new b5 (.cells ⟨[.pointer (some ⟨b1, 0, none⟩), .map (some b2), .slice (some ⟨b3, 0, none⟩) k k, .map (some b4)]⟩ 154 (0, 0)) = g5 at *
  have K15 := ((K2.trans K3).trans K4).trans K5
  have Kall := (K0.trans K1).trans K15
  have d1 := K0.dom
  have d2 := (K0.trans K1).dom
  have d3 := ((K0.trans K1).trans K2).dom
  have d4 := (((K0.trans K1).trans K2).trans K3).dom
  have d5 := ((((K0.trans K1).trans K2).trans K3).trans K4).dom
  have hmem : ∀ x ∈ List.replicate k ((⟨none, 0, 0⟩ : Sl), ([] : List Tab)), x = ((⟨none, 0, 0⟩ : Sl), ([] : List Tab)) := fun x hx => (List.mem_replicate.1 hx).2
  refine hQ g5 b5 b1 b2 b4 ⟨some ⟨b3, 0, none⟩, k, k⟩ ⟨some ⟨b, 0, none⟩, k, k⟩ (List.replicate k (⟨none, 0, 0⟩, [])) ⟨⟨⟨Kall, .inr ⟨b, rfl, hb⟩, ?_, fun x hx => by rw [hmem x hx]; exact Buf.nil _ _ _, fun x hx => by rw [hmem x hx]; exact .inl rfl, fun i j x y hx _ _ => by rw [hmem x (List.mem_of_getElem? hx)]; exact off_nil (.inl rfl)⟩, d1 _ hb1, K15 _ _ x1⟩, d5 _ hb5, x5, .inr ⟨b3, rfl, d3 _ hb3⟩, ?_, ⟨0, ((K3.trans K4).trans K5) _ _ x2⟩, d4 _ hb4, ⟨#[], 0, K5 _ _ x4, fun e he => by simp at he⟩, ?_⟩ (by simp)
  · have : slV ((List.replicate k ((⟨none, 0, 0⟩ : Sl), ([] : List Tab))).map (·.1)) = List.replicate k (.slice none 0 0) := by simp [slV]
    rw [this]
    exact (B0.keep K1).keep K15
  · have : ptrV (List.replicate k (⟨#[]⟩ : ByteArray)) = List.replicate k (.string ⟨#[]⟩) := by simp [ptrV]
    rw [this]
    exact B3.keep (K4.trans K5)
  · exact ne_of (K3 _ _ x2) hb4
end Go.Eng.Ytblghgacokoklaa
end
section

/-
  SPECS OF VERSIONS, 8: what a set tells; the edit that makes it whole.
-/
set_option linter.unusedSimpArgs false
set_option linter.unusedVariables false
set_option maxRecDepth 100000
namespace Go.Eng.Ytblghgacokoklaa
theorem row_one {h : Hp} {s : Sl} {t : Nat} {vs : List Value} (B : Buf h s 1 t vs) : h.row s.a s.n vs := by have := B.row; rwa [Nat.mul_one] at this
theorem clone_spec {h : Hp} {l : Sl} {v : List ByteArray} {Q : Value → Hp → Prop} (B : Buf h l 1 9 (ptrV v)) (hs : v.length ≤ 1000000000) (hQ : ∀ h' r, Keep h h' → Buf h' r 1 9 (ptrV v) → NewN h r → Q (.slice r.a r.n r.c) h') : F88.T l h Q := by
  have hn : l.n = v.length := by have := B.len; rw [ptrV_length] at this; omega
  refine ⟨fun h0 => ?_, fun h0 b hb => ?_⟩
  · have : v = [] := List.eq_nil_of_length_eq_zero (by
      rcases B.own with ⟨_, hc⟩ | ⟨b, c, f, ha, _⟩
      · have := B.cap; omega
      · rw [h0] at ha; cases ha)
    subst this
    exact hQ h ⟨none, 0, 0⟩ (Keep.refl h) (Buf.nil _ _ _) (.inl rfl)
  · have K := Keep.new hb (.cells ⟨[]⟩ 9 (0, 0))
    have B1 : Buf (h.new b (.cells ⟨[]⟩ 9 (0, 0))) ⟨some ⟨b, 0, none⟩, 0, 0⟩ 1 9 [] := ⟨rfl, Nat.le_refl _, .inr ⟨b, ⟨[]⟩, (0, 0), rfl, new_at _ _ _, by simp, fun j _ => by simp, rfl⟩⟩
    refine ⟨ptrV v, K.row B.row, ptr_one _, append_buf B1 rfl (by rw [ptrV_length]; omega) (by dsimp only; omega) fun r h2 B2 _ U2 => ?_⟩
    obtain ⟨K2, N2⟩ := NewN.upd K (s := ⟨some ⟨b, 0, none⟩, 0, 0⟩) (.inr ⟨b, rfl, hb⟩) U2
    exact hQ h2 r K2 (by simpa using B2) N2
section
variable {g h : Hp} {sb vb pm cm : Nat} {ps ls : Sl} {xs : List (Sl × List Tab)} {ptrs : List ByteArray} {Q : Value → Hp → Prop}
theorem pointers_spec (S : SetA g h sb vb pm cm ps ls xs ptrs) (hs : ptrs.length ≤ 1000000000) (hQ : ∀ h' r, Keep h h' → Buf h' r 1 9 (ptrV ptrs) → NewN h r → Q (.slice r.a r.n r.c) h') : F61.T (some ⟨sb, 0, none⟩) h Q :=
  ⟨sb, 0, rfl, ps, at_of S.s 2, clone_spec S.p hs fun h' r K B N => ⟨r, rfl, hQ h' r K B N⟩⟩
theorem current_spec (S : SetA g h sb vb pm cm ps ls xs ptrs) (hQ : Q (.pointer (some ⟨vb, 0, none⟩)) h) : F62.T (some ⟨sb, 0, none⟩) h Q := ⟨sb, 0, rfl, some ⟨vb, 0, none⟩, at_of S.s 0, hQ⟩
theorem levels_spec (V : Ver g h vb ls xs) (hQ : Q (.int .i64 (xs.length : Int)) h) : F63.T (some ⟨vb, 0, none⟩) h Q := ⟨vb, 0, rfl, ls, at_of V.v 0, by rw [V.L.len]; exact hQ⟩
theorem tables_spec (V : Ver g h vb ls xs) {i : Nat} {x : Sl × List Tab} (hx : xs[i]? = some x) (hs : x.2.length ≤ 60000) (hQ : ∀ h' r, Keep h h' → Buf h' r 6 85 (tabV x.2) → Q (.slice r.a r.n r.c) h') : F64.T (some ⟨vb, 0, none⟩) (i : Int) h Q := by
  have hi : i < xs.length := (List.getElem?_eq_some_iff.1 hx).1
  have hl := V.L.len
  refine has_spec V.v (fun c0 c1 => ⟨true, rfl, fun _ => ?_, fun h0 => (by cases h0)⟩) (fun hc => absurd hc (by omega))
  obtain ⟨b, ha, hat⟩ := V.L.rd hx
  have T := V.L.t x (List.mem_of_getElem? hx)
  refine ⟨vb, 0, rfl, ls, at_of V.v 0, b, 0, ha, ⟨c0, c1⟩, x.1, by rw [Nat.zero_add, Int.toNat_natCast]; exact hat, tabV x.2, Buf.row T, tab_one _, ?_⟩
  refine append_buf (Buf.nil h 6 85) rfl (by rw [tabV_len, T.n]) (by have := T.n; dsimp only; omega) fun r h2 B2 _ U2 => hQ h2 r (U2.keepNil rfl) (by simpa using B2)
end
def plc (i : Int) (t : Tab) : Placed := ⟨i, t.num, t.weight, t.bytes, t.entries, t.least, t.greatest⟩
/-- All tables, level by level. -/
def wholeM : Nat → Lv → List Placed
  | _, [] => []
  | i, l :: lv => l.map (plc i) ++ wholeM (i + 1) lv
theorem wholeM_app : ∀ (i : Nat) (A : Lv) (l : List Tab), wholeM i (A ++ [l]) = wholeM i A ++ l.map (plc ((i + A.length : Nat) : Int))
  | i, [], l => by simp [wholeM]
  | i, a :: A, l => by
    rw [List.cons_append, wholeM, wholeM, wholeM_app (i + 1) A l, List.append_assoc, List.length_cons, show i + 1 + A.length = i + (A.length + 1) by omega]
theorem wholeM_len : ∀ (i : Nat) (A : Lv), (wholeM i A).length = totL A
  | i, [] => rfl
  | i, a :: A => by rw [wholeM, List.length_append, List.length_map, wholeM_len (i + 1) A]; simp [totL]
theorem inV_app (A B : List Placed) : inV (A ++ B) = inV A ++ inV B := by unfold inV; simp
theorem whole_spec {g h : Hp} {sb vb pm cm : Nat} {ps ls : Sl} {xs : List (Sl × List Tab)} {ptrs : List ByteArray} {n n1 n2 n3 : Int} {Q : Value → Hp → Prop} (S : SetA g h sb vb pm cm ps ls xs ptrs) (hp : ptrs.length ≤ 1000000000) (h5 : xs.length ≤ 5) (hs : totL (xs.map (·.2)) ≤ 60000)
    (hQ : ∀ h' l4 l5 l6, Keep h h' → EdAt h' ⟨n, n1, n2, [], wholeM 0 (xs.map (·.2)), ptrs⟩ l4 l5 l6 → Q (.agg ⟨[.int .u64 n, .int .u64 n1, .int .u64 n2, .slice l4.a l4.n l4.c, .slice l5.a l5.n l5.c, .slice l6.a l6.n l6.c]⟩) h') : F24.T (some ⟨sb, 0, none⟩) n n1 n2 n3 h Q := by
  refine pointers_spec S hp fun h1 l K1 B1 N1 => ⟨l, rfl, fun b hb => ?_⟩
  have hbh : h b = none := K1.dom b hb
  rw [new_wr]
  have eS : (setL ((⟨[Value.int .u64 0, .int .u64 0, .int .u64 0, .slice none 0 0, .slice none 0 0, .slice none 0 0]⟩ : Array Value).toList) 0 [.int .u64 n, .int .u64 n1, .int .u64 n2, .slice none 0 0, .slice none 0 0, .slice l.a l.n l.c]).toArray = ⟨[.int .u64 n, .int .u64 n1, .int .u64 n2, .slice none 0 0, .slice none 0 0, .slice l.a l.n l.c]⟩ := rfl
  rw [eS]
  refine ⟨canW_new (new_at _ _ _) (Nat.le_refl _), ?_⟩
  have K2 := Keep.new hb (.cells ⟨[.int .u64 n, .int .u64 n1, .int .u64 n2, .slice none 0 0, .slice none 0 0, .slice l.a l.n l.c]⟩ 60 (0, 0))
  have x2 := new_at h1 b (.cells ⟨[.int .u64 n, .int .u64 n1, .int .u64 n2, .slice none 0 0, .slice none 0 0, .slice l.a l.n l.c]⟩ 60 (0, 0))
  have B2 := B1.keep K2
  have K12 := K1.trans K2
  generalize h1.new b (.cells ⟨[.int .u64 n, .int .u64 n1, .int .u64 n2, .slice none 0 0, .slice none 0 0, .slice l.a l.n l.c]⟩ 60 (0, 0)) = h2 at x2 K12 B2 ⊢
  have S2 := S.keep K12
  refine current_spec S2 ⟨some ⟨vb, 0, none⟩, rfl, levels_spec S2.V ⟨_, rfl, ?_⟩⟩
  refine ⟨fun n5 h4 => ∃ P R lin, xs = P ++ R ∧ n5 = (P.length : Int) ∧ h4 b = some (.cells ⟨[.int .u64 n, .int .u64 n1, .int .u64 n2, .slice none 0 0, .slice lin.a lin.n lin.c, .slice l.a l.n l.c]⟩ 60 (0, 0)) ∧ Buf h4 lin 7 87 (inV (wholeM 0 (P.map (·.2)))) ∧ NewN h lin ∧ Keep h h4 ∧ Buf h4 l 1 9 (ptrV ptrs), fun n5 _ => xs.length - n5.toNat, ⟨[], xs, ⟨none, 0, 0⟩, rfl, rfl, x2, Buf.nil _ _ _, .inl rfl, K12, B2⟩, ?_⟩
  rintro n5 h4 ⟨P, R, lin, eP, rfl, x4, L4, N4, K4, B4⟩
  have hlx := congrArg List.length eP
  rw [List.length_append] at hlx
  refine ⟨fun hlt => ?_, fun hge => ?_⟩
  · rcases R with _ | ⟨x, R⟩
    · exact absurd hlt (by simp at hlx; omega)
    rw [List.length_cons] at hlx
    have hx : xs[P.length]? = some x := by rw [eP]; simp
    have ht2 : totL (P.map (·.2)) + x.2.length ≤ 60000 := by
      rw [eP] at hs
      unfold totL at hs ⊢
      rw [List.map_append, List.map_cons, List.map_append, List.map_cons, List.sum_append, List.sum_cons] at hs
      omega
    refine tables_spec ((S.keep K4).V) hx (by omega) fun h5 r K5 T5 => ⟨r, rfl, ?_⟩
    refine ⟨fun n6 h6 => ∃ A B lin, x.2 = A ++ B ∧ n6 = (A.length : Int) ∧ h6 b = some (.cells ⟨[.int .u64 n, .int .u64 n1, .int .u64 n2, .slice none 0 0, .slice lin.a lin.n lin.c, .slice l.a l.n l.c]⟩ 60 (0, 0)) ∧ Buf h6 lin 7 87 (inV (wholeM 0 (P.map (·.2)) ++ A.map (plc (P.length : Int)))) ∧ NewN h lin ∧ Keep h h6 ∧ Buf h6 l 1 9 (ptrV ptrs) ∧ Buf h6 r 6 85 (tabV x.2), fun n6 _ => x.2.length - n6.toNat, ⟨[], x.2, lin, rfl, rfl, K5 _ _ x4, by rw [List.map_nil, List.append_nil]; exact L4.keep K5, N4, K4.trans K5, B4.keep K5, T5⟩, ?_⟩
    rintro n6 h6 ⟨A, B, lin6, eAB, rfl, x6, L6, N6, K6, B6, T6⟩
    have hlA := congrArg List.length eAB
    rw [List.length_append] at hlA
    have hrn : r.n = x.2.length := by have := T6.len; rw [tabV_len] at this; omega
    refine ⟨fun hlt6 => ?_, fun hge6 => ?_⟩
    · rcases B with _ | ⟨t, B⟩
      · exact absurd hlt6 (by simp at hlA; omega)
      rw [List.length_cons] at hlA
      have r6 := T6.row
      rw [eAB] at r6
      refine tab_rd r6 rfl fun b1 o => ⟨lin6, at_of x6 4, ?_⟩
      have hl6 : lin6.n = totL (P.map (·.2)) + A.length := by have := L6.len; rw [inV_len, List.length_append, wholeM_len, List.length_map] at this; omega
      refine append_buf L6 rfl rfl (by omega) fun l3 h7 B7 hl7 U7 => ?_
      have C7 : Ck [89] h6 h7 := Ck.of_upd L6 U7
      obtain ⟨K7, N7⟩ := N6.upd K6 U7
      have x7 := C7.keep _ _ x6 (show 62 ∉ [89] by decide)
      refine ⟨canW_new x7 (by simp), ?_⟩
      have C8 : Ck [62] h7 (h7.wr b 4 [.slice l3.a l3.n l3.c]) := Ck.wr x7
      rw [next_i (n := 70000) (by omega) (by omega)]
      refine ⟨⟨A ++ [t], B, l3, by rw [eAB]; simp, by simp, wr_at x7, ?_, N7, K7.wr hbh _ _, C8.buf (by decide) (C7.buf (by decide) B6), C8.buf (by decide) (C7.buf (by decide) T6)⟩, by (try dsimp only); (try simp only [List.length_append, List.length_singleton]); omega⟩
      rw [List.map_append, ← List.append_assoc, inV_app]
      exact C8.buf (by decide) B7
    · have hB : B = [] := List.eq_nil_of_length_eq_zero (by omega)
      subst hB
      rw [List.append_nil] at eAB
      rw [next_i (n := 100) (by omega) (by omega)]
      refine ⟨⟨P ++ [x], R, lin6, by rw [eP]; simp, by simp, x6, ?_, N6, K6, B6⟩, by (try dsimp only); (try simp only [List.length_append, List.length_singleton]); omega⟩
      rw [List.map_append, List.map_cons, List.map_nil, wholeM_app, List.length_map, Nat.zero_add, eAB]
      exact L6
  · have hR : R = [] := List.eq_nil_of_length_eq_zero (by omega)
    subst hR
    rw [List.append_nil] at eP
    subst eP
    refine ⟨n, at_of x4 0, n1, at_of x4 1, n2, at_of x4 2, ⟨none, 0, 0⟩, at_of x4 3, lin, at_of x4 4, l, at_of x4 5, hQ h4 _ _ _ K4 ⟨⟨rfl, .inl rfl⟩, L4.row, row_one B4⟩⟩
end Go.Eng.Ytblghgacokoklaa
end
section

/-
  SPECS OF VERSIONS, 9: the document's version: the order of keys; a list that rises; numbers looked for.
-/
set_option linter.unusedSimpArgs false
set_option linter.unusedVariables false
set_option maxRecDepth 100000
namespace Go.Eng.Ytblghgacokoklaa
theorem lcmp_app : ∀ (P A B : List UInt8), lcmp (P ++ A) (P ++ B) = lcmp A B
  | [], A, B => rfl
  | p :: P, A, B => by rw [List.cons_append, List.cons_append, lcmp_cons, if_neg u8_irr, if_neg u8_irr, lcmp_app P A B]
theorem bt_get {s : ByteArray} {i : Nat} (hi : i < s.size) : bt s (i : Int) = ((s.data.toList[i]'hi).toNat : Int) := by
  unfold bt
  rw [dif_pos (show (i : Int).toNat < s.size from hi)]
  rfl
theorem less_spec {h : Hp} {s t : ByteArray} {Q : Value → Hp → Prop} (hs : s.size ≤ 9223372036854775807) (hT : Bl s t → Q (.bool true) h) (hF : ¬ Bl s t → Q (.bool false) h) : F133.T s t h Q := by
  refine ⟨fun n g => g = h ∧ ∃ (P A B : List UInt8), s.data.toList = P ++ A ∧ t.data.toList = P ++ B ∧ n = (P.length : Int), fun n _ => s.size - n.toNat, ⟨rfl, [], s.data.toList, t.data.toList, rfl, rfl, rfl⟩, ?_⟩
  rintro n g ⟨rfl, P, A, B, eA, eB, rfl⟩
  have lA := congrArg List.length eA
  have lB := congrArg List.length eB
  rw [List.length_append, Array.length_toList] at lA lB
  have sA : s.size = P.length + A.length := lA
  have sB : t.size = P.length + B.length := lB
  have hcmp : cmpI s t = lcmp A B := by rw [cmpI_eq, eA, eB, lcmp_app]
  have fin : (A = [] ∨ B = []) → par ((s.size : Int) < (t.size : Int)) (Q (.bool true) g) (Q (.bool false) g) := fun hab => by
    refine ⟨fun hlt => hT ?_, fun hge => hF ?_⟩
    · unfold Bl; rw [hcmp]
      rcases A with _ | ⟨a, A⟩
      · rcases B with _ | ⟨b, B⟩
        · simp at sA sB; omega
        · show (-1 : Int) < 0; decide
      · rcases hab with hab | hab
        · cases hab
        · subst hab; simp at sA sB; omega
    · unfold Bl; rw [hcmp]
      rcases A with _ | ⟨a, A⟩
      · rcases B with _ | ⟨b, B⟩
        · decide
        · simp at sA sB; omega
      · rcases hab with hab | hab
        · cases hab
        · subst hab; show ¬ (1 : Int) < 0; decide
  refine ⟨fun h1 => ⟨fun h2 => ?_, fun h2 => fin (.inr (List.eq_nil_of_length_eq_zero (by omega)))⟩, fun h1 => fin (.inl (List.eq_nil_of_length_eq_zero (by omega)))⟩
  rcases A with _ | ⟨a, A⟩
  · simp at sA; omega
  rcases B with _ | ⟨b, B⟩
  · simp at sB; omega
  have ga : bt s (P.length : Int) = (a.toNat : Int) := by
    rw [bt_get (by omega)]
    have : s.data.toList[P.length]? = some a := by rw [eA]; simp
    rw [List.getElem?_eq_getElem (by rw [Array.length_toList]; exact (by omega : P.length < s.size))] at this
    rw [Option.some.inj this]
  have gb : bt t (P.length : Int) = (b.toNat : Int) := by
    rw [bt_get (by omega)]
    have : t.data.toList[P.length]? = some b := by rw [eB]; simp
    rw [List.getElem?_eq_getElem (by rw [Array.length_toList]; exact (by omega : P.length < t.size))] at this
    rw [Option.some.inj this]
  rw [lcmp_cons] at hcmp
  rw [ga, gb]
  refine ⟨⟨by omega, h1⟩, ⟨by omega, h2⟩, fun he => ?_, fun hne => ⟨⟨by omega, h1⟩, ⟨by omega, h2⟩, fun hlt => hT ?_, fun hge => hF ?_⟩⟩
  · have hab : a = b := UInt8.toNat_inj.1 (by omega)
    subst hab
    rw [wrap_i64 (by omega) (by omega)]
    refine ⟨⟨rfl, P ++ [a], A, B, by rw [eA]; simp, by rw [eB]; simp, by simp⟩, by (try dsimp only); (try simp only [List.length_append, List.length_singleton, List.length_cons] at *); omega⟩
  · unfold Bl
    rw [hcmp, if_pos (show a < b from by show a.toNat < b.toNat; omega)]; decide
  · have hba : b < a := by
      rcases u8_tri a b with h | h | h
      · exact absurd (show a.toNat < b.toNat from h) (by omega)
      · exact h
      · exact absurd (by rw [h]) hne
    unfold Bl
    rw [hcmp, if_neg (u8_asym hba), if_pos hba]; decide
theorem above_spec {h : Hp} {s t : ByteArray} {Q : Value → Hp → Prop} (hs : s.size ≤ 9223372036854775807) (ht : t.size ≤ 9223372036854775807) (hT : Bl t s → Q (.bool true) h) (hF : ¬ Bl t s → Q (.bool false) h) : F108.T s t h Q := by
  unfold F108.T F118.T
  refine less_spec hs (fun h1 => ⟨true, rfl, fun _ => ⟨_, rfl, fun h0 => absurd h0 (by decide), fun _ => hF h1.asym⟩, fun h0 => (by cases h0)⟩) (fun h1 => ⟨false, rfl, fun h0 => (by cases h0), fun _ => ?_⟩)
  refine less_spec ht (fun h2 => ⟨true, rfl, fun _ => ⟨_, rfl, fun _ => hT h2, fun h0 => absurd (by decide) h0⟩, fun h0 => (by cases h0)⟩) (fun h2 => ⟨false, rfl, fun h0 => (by cases h0), fun _ => ⟨fun h0 => absurd h0 (by decide), fun _ => ⟨fun h0 => absurd h0 (by decide), fun _ => ⟨_, rfl, fun h0 => absurd h0 (by decide), fun _ => hF h2⟩⟩⟩⟩)
/-- A number looked for in all levels. -/
theorem anywhere_spec {h : Hp} {ls : Sl} {xs : List (Sl × List Tab)} {num : Int} {Q : Value → Hp → Prop} (hr : h.row ls.a (ls.n * 1) (slV (xs.map (·.1)))) (ht : ∀ x ∈ xs, h.row x.1.a (x.1.n * 6) (tabV x.2)) (hs : totL (xs.map (·.2)) ≤ 60000) (h5 : xs.length ≤ 5)
    (hT : num ∈ nums (xs.map (·.2)) → Q (.bool true) h) (hF : num ∉ nums (xs.map (·.2)) → Q (.bool false) h) : F107.T ls num h Q := by
  have hn : ls.n = xs.length := by have := hr.1; rw [slV_length, List.length_map] at this; omega
  refine ⟨fun n g => g = h ∧ ∃ P R, xs = P ++ R ∧ n = (P.length : Int) ∧ num ∉ nums (P.map (·.2)), fun n _ => xs.length - n.toNat, ⟨rfl, [], xs, rfl, rfl, by simp [nums]⟩, ?_⟩
  rintro n g ⟨rfl, P, R, rfl, rfl, hP⟩
  rw [List.length_append] at hn h5
  refine ⟨fun hlt => ?_, fun hge => ?_⟩
  · rcases R with _ | ⟨x, R⟩
    · exact absurd hlt (by simp at hn; omega)
    rw [List.length_cons] at hn h5
    obtain ⟨_, b, o, ha, hat⟩ := rows_rd hr (i := P.length) (x := x) (by simp)
    have htx := ht x (by simp)
    have hxn : x.1.n = x.2.length := by have := htx.1; rw [tabV_len] at this; omega
    have hx6 : x.2.length ≤ 60000 := Nat.le_trans (totL_mem (lv := (P ++ x :: R).map (·.2)) (by simp)) hs
    refine ⟨b, o, ha, ⟨by omega, hlt⟩, x.1, by rw [Int.toNat_natCast]; exact hat, ?_⟩
    refine where_spec htx (by omega) (fun A y B e hA hy => ⟨_, rfl, fun _ => hT ?_, fun h0 => absurd (by omega) h0⟩) (fun hno => ⟨-1, rfl, fun h0 => absurd h0 (by decide), fun _ => ?_⟩)
    · rw [List.map_append, nums_app, List.map_cons, show x.2 :: R.map (·.2) = [x.2] ++ R.map (·.2) from rfl, nums_app, nums_one, e]
      simp [hy]
    · rw [next_i (n := 100) (by omega) (by omega)]
      refine ⟨⟨rfl, P ++ [x], R, by simp, by simp, ?_⟩, by (try dsimp only); (try simp only [List.length_append, List.length_singleton, List.length_cons]); omega⟩
      rw [List.map_append, nums_app, List.map_cons, List.map_nil, nums_one, List.mem_append]
      rintro (h0 | h0)
      · exact hP h0
      · obtain ⟨y, hy, e⟩ := List.mem_map.1 h0
        exact hno y hy e
  · have hR : R = [] := List.eq_nil_of_length_eq_zero (by omega)
    subst hR
    rw [List.append_nil] at hF
    exact hF hP
theorem cutF_row {h : Hp} {s : Sl} {sz k : Nat} {vs : List Value} (hr : h.row s.a (s.n * sz) vs) (hk : k ≤ s.n) : h.row (Sl.cut s sz 0 (k : Int) (s.c : Int)).a ((Sl.cut s sz 0 (k : Int) (s.c : Int)).n * sz) (vs.take (k * sz)) := by
  have h1 := row_take hr (Nat.mul_le_mul_right sz hk)
  have hn : (Sl.cut s sz 0 (k : Int) (s.c : Int)).n = k := by simp [Sl.cut]
  rw [hn, cut_a]
  exact h1
/-- One table laid into a rising list: the list that is made anew. -/
theorem rise_step {h : Hp} {l1 l : Sl} {A B P R : List Tab} {x : Tab} {n n1 : Int} {K : Sl → Hp → Prop} (B1 : TB h l1 (A ++ B)) (hr : h.row l.a (l.n * 6) (tabV (P ++ x :: R))) (h6 : A.length + B.length + 1 ≤ 60000) (e : n = (P.length : Int)) (e1 : n1 = (A.length : Int))
    (hK : ∀ h' r, Keep h h' → TB h' r (A ++ x :: B) → NewN h r → K r h') :
    Sl.okCut l1 0 n1 (l1.c : Int) ∧ ∃ vs, h.row ((Sl.cut l1 6 0 n1 (l1.c : Int)).a) (((Sl.cut l1 6 0 n1 (l1.c : Int)).n) * 6) vs ∧ (∀ v ∈ vs, Value.oneCell' v = true) ∧ appendD ⟨none, 0, 0⟩ 85 6 64 [.int .u64 0, .int .i64 0, .int .i64 0, .int .i64 0, .string (ByteArray.mk #[]), .string (ByteArray.mk #[])] ((Sl.cut l1 6 0 n1 (l1.c : Int)).n) vs h fun l2 h4 => ∃ b3 o2, (l.a : Option Addr) = some ⟨b3, o2, none⟩ ∧ ((0 : Int) ≤ n ∧ n < (l.n : Int)) ∧ ∃ n2 : Int, h4.at b3 (o2 + n.toNat * 6) = some (.int .u64 n2) ∧ ∃ n3 : Int, h4.at b3 ((o2 + n.toNat * 6) + 1) = some (.int .i64 n3) ∧ ∃ n4 : Int, h4.at b3 ((o2 + n.toNat * 6) + 2) = some (.int .i64 n4) ∧ ∃ n5 : Int, h4.at b3 ((o2 + n.toNat * 6) + 3) = some (.int .i64 n5) ∧ ∃ s2 : ByteArray, h4.at b3 ((o2 + n.toNat * 6) + 4) = some (.string s2) ∧ ∃ s3 : ByteArray, h4.at b3 ((o2 + n.toNat * 6) + 5) = some (.string s3) ∧ appendD l2 85 6 64 [.int .u64 0, .int .i64 0, .int .i64 0, .int .i64 0, .string (ByteArray.mk #[]), .string (ByteArray.mk #[])] 1 [.int .u64 n2, .int .i64 n3, .int .i64 n4, .int .i64 n5, .string s2, .string s3] h4 fun l3 h5 => Sl.okCut l1 n1 (l1.n : Int) (l1.c : Int) ∧ ∃ vs1, h5.row ((Sl.cut l1 6 n1 (l1.n : Int) (l1.c : Int)).a) (((Sl.cut l1 6 n1 (l1.n : Int) (l1.c : Int)).n) * 6) vs1 ∧ (∀ v ∈ vs1, Value.oneCell' v = true) ∧ appendD l3 85 6 64 [.int .u64 0, .int .i64 0, .int .i64 0, .int .i64 0, .string (ByteArray.mk #[]), .string (ByteArray.mk #[])] ((Sl.cut l1 6 n1 (l1.n : Int) (l1.c : Int)).n) vs1 h5 K := by
  subst e e1
  have hn := B1.n
  have hc := Buf.cap B1
  rw [List.length_append] at hn
  have r1 := cutF_row (k := A.length) (Buf.row B1) (by omega)
  have e1 : (tabV (A ++ B)).take (A.length * 6) = tabV A := by rw [tabV_app]; exact List.take_left' (tabV_len A)
  rw [e1] at r1
  have n1 : (Sl.cut l1 6 0 (A.length : Int) (l1.c : Int)).n = A.length := by unfold Sl.cut; dsimp only; omega
  have n2 : (Sl.cut l1 6 (A.length : Int) (l1.n : Int) (l1.c : Int)).n = B.length := by unfold Sl.cut; dsimp only; omega
  refine ⟨⟨by omega, by omega, by omega, by omega⟩, tabV A, r1, tab_one _, ?_⟩
  refine append_buf (Buf.nil h 6 85) rfl (by rw [tabV_len, n1]) (by rw [n1]; dsimp only; omega) fun l2 h4 B4 hl2 U4 => ?_
  have K4 := U4.keepNil rfl
  have N4 : NewN h l2 := (NewN.upd (Keep.refl h) (NewN.nil h) U4).2
  rw [List.nil_append] at B4
  rw [n1, Nat.zero_add] at hl2
  refine tab_rd (K4.row hr) rfl fun b3 o3 => ?_
  refine append_buf B4 rfl rfl (by omega) fun l3 h5 B5 hl3 U5 => ?_
  obtain ⟨K5, N5⟩ := N4.upd K4 U5
  have r2 := cut_back (k := A.length) (K5.row (Buf.row B1)) (by omega) hc
  have e2 : (tabV (A ++ B)).drop (A.length * 6) = tabV B := by rw [tabV_app]; exact List.drop_left' (tabV_len A)
  rw [e2] at r2
  refine ⟨⟨by omega, by omega, by omega, by omega⟩, tabV B, r2, tab_one _, ?_⟩
  refine append_buf B5 rfl (by rw [tabV_len, n2]) (by rw [n2]; omega) fun l4 h6 B6 hl4 U6 => ?_
  obtain ⟨K6, N6⟩ := N5.upd K5 U6
  refine hK h6 l4 K6 ?_ N6
  show Buf _ _ 6 85 _
  rw [tabV_app, tabV_cons, ← List.append_assoc]
  exact B6
theorem rise_spec {h : Hp} {l : Sl} {ts : List Tab} {Q : Value → Hp → Prop} (hr : h.row l.a (l.n * 6) (tabV ts)) (h6 : ts.length ≤ 50000) (hk : ∀ t ∈ ts, t.least.size ≤ 9223372036854775807)
    (hQ : ∀ h' (r : Sl) us, Keep h h' → TB h' r us → NewN h r → us.Perm ts → Srt us → Q (.slice r.a r.n r.c) h') : F109.T l h Q := by
  have hn : l.n = ts.length := by have := hr.1; rw [tabV_len] at this; omega
  refine ⟨fun l1 n g => ∃ P R us, ts = P ++ R ∧ n = (P.length : Int) ∧ TB g l1 us ∧ NewN h l1 ∧ Keep h g ∧ us.Perm P ∧ Srt us, fun _ n _ => ts.length - n.toNat, ⟨[], ts, [], rfl, rfl, Buf.nil _ _ _, .inl rfl, Keep.refl h, List.Perm.refl _, List.Pairwise.nil⟩, ?_⟩
  rintro l1 n g ⟨P, R, us, rfl, rfl, B1, N1, K1, hp, hs⟩
  rw [List.length_append] at hn h6
  have hul := hp.length_eq
  refine ⟨fun hlt => ?_, fun hge => ?_⟩
  · rcases R with _ | ⟨x, R⟩
    · exact absurd hlt (by simp at hn; omega)
    rw [List.length_cons] at hn h6
    have hl1 := B1.n
    have fin : ∀ {A B : List Tab} {g2 : Hp} {r : Sl}, us = A ++ B → (∀ b ∈ B, Bl x.least b.least) → (A = [] ∨ ∃ A' y, A = A' ++ [y] ∧ Le y.least x.least) → Keep h g2 → TB g2 r (A ++ x :: B) → NewN h r →
        ((∃ P' R' us, P ++ x :: R = P' ++ R' ∧ ((P.length + 1 : Nat) : Int) = (P'.length : Int) ∧ TB g2 r us ∧ NewN h r ∧ Keep h g2 ∧ us.Perm P' ∧ Srt us)) := fun {A B g2 r} eu hB hA Kg Tg Ng => by
      refine ⟨P ++ [x], R, A ++ x :: B, by simp, by simp, Tg, Ng, Kg, ?_, srt_ins (by rw [← eu]; exact hs) hA hB⟩
      refine List.Perm.trans ?_ (List.Perm.append_right [x] hp)
      rw [eu, List.append_assoc]
      exact List.Perm.append_left A (List.perm_append_comm (l₁ := [x]) (l₂ := B))
    refine ⟨fun n1 g1 => g1 = g ∧ ∃ A B, us = A ++ B ∧ n1 = (A.length : Int) ∧ ∀ b ∈ B, Bl x.least b.least, fun n1 _ => n1.toNat, ⟨rfl, us, [], by simp, by rw [hl1], fun b hb => by cases hb⟩, ?_⟩
    rintro n1 g1 ⟨rfl, A, B, eu, rfl, hB⟩
    have hAB : us.length = A.length + B.length := by rw [eu, List.length_append]
    have B1' := B1
    rw [eu] at B1'
    have step : ∀ {K : Sl → Hp → Prop}, (∀ g2 r, Keep g1 g2 → TB g2 r (A ++ x :: B) → NewN g1 r → K r g2) → _ := fun {K} hK => rise_step (K := K) B1' (K1.row hr) (by omega) (rfl : (P.length : Int) = _) (rfl : (A.length : Int) = _) hK
    refine ⟨fun hpos => ?_, fun hz => ?_⟩
    · obtain ⟨A', y, rfl⟩ := snoc_of (P := A) (by rintro rfl; exact absurd hpos (by decide))
      have hlA : (A' ++ [y]).length = A'.length + 1 := by simp
      have ew : IntKind.wrap .i64 ((((A' ++ [y]).length : Nat) : Int) - 1) = ((A'.length : Nat) : Int) := by rw [wrap_i64 (by omega) (by omega)]; omega
      have hy : us[A'.length]? = some y := by rw [eu, List.append_assoc]; simp
      have hx : (P ++ x :: R)[P.length]? = some x := by simp
      obtain ⟨b, o, ha, hi, hat⟩ := tab_at (Buf.row B1) hy
      obtain ⟨b2, o2, ha2, hi2, hat2⟩ := tab_at (K1.row hr) hx
      rw [ew]
      have hym : y ∈ P := hp.mem_iff.1 (List.mem_of_getElem? hy)
      refine ⟨b, o, ha, ⟨by omega, by omega⟩, y.least, hat 4 (by decide), b2, o2, ha2, ⟨by omega, by omega⟩, x.least, hat2 4 (by decide), ?_⟩
      refine above_spec (hk y (by simp [hym])) (hk x (by simp)) (fun hb => ⟨true, rfl, fun _ => ?_, fun h0 => (by cases h0)⟩) (fun hb => ⟨false, rfl, fun h0 => (by cases h0), fun _ => ?_⟩)
      · exact ⟨⟨rfl, A', y :: B, by rw [eu]; simp, rfl, fun b hb' => by
          rcases List.mem_cons.1 hb' with rfl | hb'
          · exact hb
          · exact hB b hb'⟩, by (try dsimp only); omega⟩
      · refine step fun g2 r Kg Tg Ng => ?_
        rw [next_i (n := 70000) (by omega) (by omega)]
        exact ⟨fin eu hB (.inr ⟨A', y, rfl, hb⟩) (K1.trans Kg) Tg (Ng.mono K1.dom), by (try dsimp only); (try simp only [List.length_append, List.length_singleton, List.length_cons]); omega⟩
    · have hA : A = [] := List.eq_nil_of_length_eq_zero (by omega)
      refine step fun g2 r Kg Tg Ng => ?_
      rw [next_i (n := 70000) (by omega) (by omega)]
      exact ⟨fin eu hB (.inl hA) (K1.trans Kg) Tg (Ng.mono K1.dom), by (try dsimp only); (try simp only [List.length_append, List.length_singleton, List.length_cons]); omega⟩
  · have hR : R = [] := List.eq_nil_of_length_eq_zero (by omega)
    subst hR
    rw [List.append_nil] at hQ
    exact hQ g l1 us K1 B1 N1 hp hs
end Go.Eng.Ytblghgacokoklaa
end
section

/-
  SPECS OF VERSIONS, 10: the document's next levels.
-/
set_option linter.unusedSimpArgs false
set_option linter.unusedVariables false
set_option maxRecDepth 100000
namespace Go.Eng.Ytblghgacokoklaa
/-! All tables are so. -/
def AllT (p : Tab → Prop) (lv : Lv) : Prop := ∀ l ∈ lv, ∀ t ∈ l, p t
theorem AllT.set {p : Tab → Prop} {lv : Lv} (H : AllT p lv) {k : Nat} {us : List Tab} (hu : ∀ t ∈ us, p t) : AllT p (lv.set k us) := fun l hl => by
  rcases List.mem_or_eq_of_mem_set hl with h | rfl
  · exact H l h
  · exact hu
theorem outM_all {p : Tab → Prop} : ∀ (ps : List Place) (lv : Lv), AllT p lv → AllT p (outM ps lv).2
  | [], lv, H => H
  | q :: ps, lv, H => by
    unfold outM
    split
    · exact H
    · split
      · exact H
      · next ts h =>
        split
        · exact H
        · next us hc => exact outM_all ps _ (H.set fun t ht => H ts (List.mem_of_getElem? h) t ((cutN_sub hc).2 t ht))
theorem inM_all {p : Tab → Prop} : ∀ (ps : List Placed) (lv : Lv), (∀ q ∈ ps, p q.tab) → AllT p lv → AllT p (inM ps lv).2
  | [], lv, _, H => H
  | q :: ps, lv, hp, H => by
    unfold inM
    split
    · exact H
    · split
      · exact H
      · next ts h =>
        split
        · exact H
        · split
          · exact H
          · refine inM_all ps _ (fun r hr => hp r (List.mem_cons_of_mem _ hr)) (H.set fun t ht => ?_)
            rcases List.mem_append.1 ht with ht | ht
            · exact H ts (List.mem_of_getElem? h) t ht
            · rw [List.mem_singleton] at ht; subst ht; exact hp q List.mem_cons_self
theorem Sorted.all {p : Tab → Prop} {lv lw : Lv} (h : Sorted lv lw) (H : AllT p lv) : AllT p lw := fun l hl t ht => by
  obtain ⟨i, hi, rfl⟩ := List.mem_iff_getElem.1 hl
  have hi' : i < lv.length := by rw [← h.1]; exact hi
  have a1 := List.getElem?_eq_getElem hi
  have b1 := List.getElem?_eq_getElem hi'
  rcases Nat.eq_zero_or_pos i with rfl | h0
  · have := h.2.1
    rw [a1, b1] at this
    simp only [Option.some.injEq] at this
    exact H _ (List.getElem_mem hi') t (by rw [← this]; exact ht)
  · exact H _ (List.getElem_mem hi') t ((h.2.2 i _ _ h0 b1 a1).1.mem_iff.1 ht)
/-- Keys of sizes that there are. -/
def kOk (t : Tab) : Prop := t.least.size ≤ 9223372036854775807 ∧ t.greatest.size ≤ 9223372036854775807
section
variable {g h h1 : Hp} {ls : Sl} {xs : List (Sl × List Tab)}
/-- A new list in a place. -/
theorem Lvs.putN (L : Lvs g h ls xs) {i : Nat} {x : Sl × List Tab} (hx : xs[i]? = some x) {s' : Sl} {us : List Tab} (K : Keep h h1) (N : NewN h s') (T : TB h1 s' us) :
    ∃ b, ls.a = some ⟨b, 0, none⟩ ∧ h1.canW b i 1 ∧ Lvs g (h1.wr b i [.slice s'.a s'.n s'.c]) ls (xs.set i (s', us)) := by
  have hi : i < xs.length := (List.getElem?_eq_some_iff.1 hx).1
  have B1 := L.l.keep K
  have K1 := L.k.trans K
  have N1 := N.mono L.k.dom
  obtain ⟨b, ha, hat, hc, hw⟩ := buf_set B1 (k := i) (by rw [slV_length, List.length_map]; exact hi)
  obtain ⟨U2, B2⟩ := hw (.slice s'.a s'.n s'.c)
  have C2 : Ck [108] h1 _ := Ck.of_upd B1 U2
  refine ⟨b, ha, hc, ⟨(L.nl.upd K1 U2).1, L.nl, ?_, ?_, ?_, ?_⟩⟩
  · have e : (slV (xs.map (·.1))).set i (.slice s'.a s'.n s'.c) = slV ((xs.set i (s', us)).map (·.1)) := by
      unfold slV; rw [List.map_set, List.map_set]
    rw [← e]; exact B2
  · intro y hy
    obtain ⟨j, hj⟩ := List.mem_iff_getElem?.1 hy
    rcases set_get hj with ⟨_, rfl, _⟩ | ⟨hne, hj⟩
    · exact C2.buf (by decide) T
    · exact C2.buf (by decide) (Buf.keep K (L.t y (List.mem_of_getElem? hj)))
  · intro y hy
    obtain ⟨j, hj⟩ := List.mem_iff_getElem?.1 hy
    rcases set_get hj with ⟨_, rfl, _⟩ | ⟨hne, hj⟩
    · exact N1
    · exact L.n y (List.mem_of_getElem? hj)
  · intro p q y z hp hq hpq
    rcases set_get hp with ⟨rfl, rfl, _⟩ | ⟨hne, hp'⟩ <;> rcases set_get hq with ⟨rfl, rfl, _⟩ | ⟨hne2, hq'⟩
    · exact absurd rfl hpq
    · exact (N.off (L.t z (List.mem_of_getElem? hq'))).2
    · exact (N.off (L.t y (List.mem_of_getElem? hp'))).1
    · exact L.d p q y z hp' hq' hpq
/-- One list more. -/
theorem Lvs.snoc (L : Lvs g h ls xs) {s : Sl} {us : List Tab} (K : Keep h h1) (N : NewN h s) (T : TB h1 s us) {K' : Sl → Hp → Prop} (hn : ls.n ≤ 1000000)
    (hK : ∀ ls' h', Lvs g h' ls' (xs ++ [(s, us)]) → Ck [108] h1 h' → K' ls' h') : appendD ls 106 1 24 [.slice none 0 0] 1 [.slice s.a s.n s.c] h1 K' := by
  refine append_buf (L.l.keep K) rfl rfl (by omega) fun ls' h' B' _ U' => ?_
  obtain ⟨K2, N2⟩ := L.nl.upd (L.k.trans K) U'
  have C2 : Ck [108] h1 h' := Ck.of_upd (L.l.keep K) U'
  refine hK ls' h' ⟨K2, N2, ?_, ?_, ?_, ?_⟩ C2
  · unfold slV at B' ⊢; rw [List.map_append, List.map_append]; exact B'
  · intro y hy
    rcases List.mem_append.1 hy with hy | hy
    · exact C2.buf (by decide) (Buf.keep K (L.t y hy))
    · rw [List.mem_singleton] at hy; subst hy; exact C2.buf (by decide) T
  · intro y hy
    rcases List.mem_append.1 hy with hy | hy
    · exact L.n y hy
    · rw [List.mem_singleton] at hy; subst hy; exact N.mono L.k.dom
  · have get : ∀ {p : Nat} {y : Sl × List Tab}, (xs ++ [(s, us)])[p]? = some y → (p < xs.length ∧ xs[p]? = some y) ∨ (p = xs.length ∧ y = (s, us)) := fun {p y} hp => by
      by_cases hl : p < xs.length
      · rw [List.getElem?_append_left hl] at hp; exact .inl ⟨hl, hp⟩
      · rw [List.getElem?_append_right (by omega)] at hp
        have : p - xs.length = 0 := by have := (List.getElem?_eq_some_iff.1 hp).1; simp at this; omega
        rw [this] at hp
        exact .inr ⟨by omega, (Option.some.inj hp).symm⟩
    intro p q y z hp hq hpq
    rcases get hp with ⟨l1, hp'⟩ | ⟨l1, rfl⟩ <;> rcases get hq with ⟨l2, hq'⟩ | ⟨l2, rfl⟩
    · exact L.d p q y z hp' hq' hpq
    · exact (N.off (L.t y (List.mem_of_getElem? hp'))).1
    · exact (N.off (L.t z (List.mem_of_getElem? hq'))).2
    · omega
end
theorem next_spec {h : Hp} {l l1 l2 l3 : Sl} {xs : List (Sl × List Tab)} {e : Edit} {a b c : Int} {Q : Value → Hp → Prop} (hr : h.row l.a (l.n * 1) (slV (xs.map (·.1)))) (ht : ∀ x ∈ xs, h.row x.1.a (x.1.n * 6) (tabV x.2)) (E : EdAt h e l1 l2 l3)
    (h1 : 1 ≤ xs.length) (h5 : xs.length ≤ 5) (hs : totL (xs.map (·.2)) + e.inn.length ≤ 50000) (ho : e.out.length ≤ 50000) (hk : AllT kOk (xs.map (·.2))) (hki : ∀ q ∈ e.inn, kOk q.tab)
    (hE : ∀ h' c, Keep h h' → c ≠ 0 → Res (xs.map (·.2)) e c (xs.map (·.2)) → Q (.tuple ⟨[.slice none 0 0, .int .i64 c]⟩) h')
    (hO : ∀ h' (r : Sl) xs', Lvs h h' r xs' → Res (xs.map (·.2)) e 0 (xs'.map (·.2)) → Q (.tuple ⟨[.slice r.a r.n r.c, .int .i64 0]⟩) h') : F86.T l a b c l1 l2 l3 h Q := by
  have hn : l.n = xs.length := by have := hr.1; rw [slV_length, List.length_map] at this; omega
  have hl3 : l3.n = e.ptr.length := by have := E.ptr.1; rw [ptrV_length] at this; omega
  have hl1 : l1.n = e.out.length := by have := E.out.1; rw [outV_len] at this; omega
  have hl2 : l2.n = e.inn.length := by have := E.inn.1; rw [inV_len] at this; omega
  refine ⟨fun l4 n3 g => ∃ P R ys, xs = P ++ R ∧ n3 = (P.length : Int) ∧ ys.map (·.2) = P.map (·.2) ∧ Lvs h g l4 ys, fun _ n3 _ => xs.length - n3.toNat, ⟨[], xs, [], rfl, rfl, rfl, Keep.refl h, .inl rfl, Buf.nil _ _ _, fun x hx => (by cases hx), fun x hx => (by cases hx), fun i j x y hx => (by cases hx)⟩, ?_⟩
  rintro l4 n3 g ⟨P, R, ys, eP, rfl, eys, L⟩
  have hlP := congrArg List.length eP
  rw [List.length_append] at hlP
  have hyl : ys.length = P.length := by have := congrArg List.length eys; simpa using this
  have hl4 := L.len
  refine ⟨fun hlt => ?_, fun hge => ?_⟩
  · rcases R with _ | ⟨x, R⟩
    · exact absurd hlt (by simp at hlP; omega)
    rw [List.length_cons] at hlP
    have hx : xs[P.length]? = some x := by rw [eP]; simp
    obtain ⟨_, b0, o0, ha0, hat0⟩ := rows_rd (L.k.row hr) hx
    have htx := ht x (List.mem_of_getElem? hx)
    have hxn : x.1.n = x.2.length := by have := htx.1; rw [tabV_len] at this; omega
    have hx6 : x.2.length ≤ 50000 := by have := totL_mem (List.mem_map_of_mem (f := fun y : Sl × List Tab => y.2) (List.mem_of_getElem? hx)); omega
    refine ⟨b0, o0, ha0, ⟨by omega, by omega⟩, x.1, by rw [Int.toNat_natCast]; exact hat0, tabV x.2, L.k.row htx, tab_one _, ?_⟩
    refine append_buf (Buf.nil g 6 85) rfl (by rw [tabV_len, hxn]) (by dsimp only; omega) fun l6 g2 B2 _ U2 => ?_
    refine L.snoc (us := x.2) (U2.keepNil rfl) (NewN.upd (Keep.refl g) (NewN.nil g) U2).2 (by rw [List.nil_append] at B2; exact B2) (by omega) fun l7 g3 L3 _ => ?_
    rw [next_i (n := 100) (by omega) (by omega)]
    exact ⟨⟨P ++ [x], R, _, by rw [eP]; simp, by simp, by rw [List.map_append, List.map_append, eys]; rfl, L3⟩, by (try dsimp only); (try simp only [List.length_append, List.length_singleton]); omega⟩
  have hR : R = [] := List.eq_nil_of_length_eq_zero (by omega)
  subst hR
  rw [List.append_nil] at eP
  subst eP
  clear hge hlP
  have K0 := L.k
  refine ⟨fun hlen => ?_, fun hlen => hE g 133 L.k (by decide) (by unfold Res; rw [if_neg (by rw [List.length_map]; omega)])⟩
  have hpl : e.ptr.length = (xs.map (·.2)).length := by rw [List.length_map]; omega
  -- out
  refine ⟨fun n4 g => ∃ P R zs, e.out = P ++ R ∧ n4 = (P.length : Int) ∧ Lvs h g l4 zs ∧ outM e.out (xs.map (·.2)) = outM R (zs.map (·.2)) ∧ totL (zs.map (·.2)) + e.inn.length ≤ 50000, fun n4 _ => e.out.length - n4.toNat, ⟨[], e.out, ys, rfl, rfl, L, by rw [eys], by rw [eys]; exact hs⟩, ?_⟩
  rintro n4 g4 ⟨P, R, zs, eP, rfl, L4, he, hs4⟩
  have hlP := congrArg List.length eP
  rw [List.length_append] at hlP
  have hz4 := L4.len
  refine ⟨fun hlt => ?_, fun hge => ?_⟩
  · rcases R with _ | ⟨p, R⟩
    · exact absurd hlt (by simp at hlP; omega)
    rw [List.length_cons] at hlP
    have E4 := E.keep L4.k
    have ro := E4.out
    rw [eP] at ro
    obtain ⟨b1, o1, ha1, hb1, c0, c1⟩ := out_rd ro
    have err : ∀ {k : Int}, k ≠ 0 → outM (p :: R) (zs.map (·.2)) = (k, zs.map (·.2)) → Q (.tuple ⟨[.slice none 0 0, .int .i64 k]⟩) g4 := fun {k} hk0 ek => hE g4 k L4.k hk0 (by unfold Res; rw [if_pos hpl, he, ek, if_neg hk0])
    refine ⟨b1, o1, ha1, ⟨by omega, hb1⟩, p.lv, c0, fun hneg => err (by decide) (by rw [outM, if_pos hneg]), fun hpos => ⟨fun hbig => err (by decide) (by rw [outM, if_neg hpos, List.getElem?_eq_none (by rw [List.length_map]; omega)]), fun hsm => ?_⟩⟩
    obtain ⟨x, hx⟩ : ∃ x, zs[p.lv.toNat]? = some x := ⟨_, List.getElem?_eq_getElem (by omega)⟩
    have hlv : (zs.map (·.2))[p.lv.toNat]? = some x.2 := by rw [List.getElem?_map, hx]; rfl
    have hx6 : x.2.length ≤ 50000 := by have := totL_mem (List.mem_of_getElem? hlv); omega
    obtain ⟨b2, ha2, hat2⟩ := L4.rd hx
    have T4 := L4.t x (List.mem_of_getElem? hx)
    have hxn := T4.n
    refine ⟨b2, 0, ha2, ⟨by omega, by omega⟩, x.1, by rw [Nat.zero_add]; exact hat2, b1, o1, ha1, ⟨by omega, hb1⟩, p.num, c1, ?_⟩
    refine where_spec (Buf.row T4) (by omega) (fun A y B exy hA hy => ⟨_, rfl, fun h0 => absurd h0 (by omega), fun _ => ?_⟩) (fun hno => ⟨-1, rfl, fun _ => err (by decide) ?_, fun h0 => absurd (by decide) h0⟩)
    · have exl : x.2.length = A.length + (B.length + 1) := by rw [exy, List.length_append, List.length_cons]
      have hcap := Buf.cap T4
      refine ⟨b2, 0, ha2, ⟨by omega, by omega⟩, x.1, by rw [Nat.zero_add]; exact hat2, ⟨by omega, by omega, by omega, by omega⟩, tabV A, ?_⟩
      have r1 := cutF_row (k := A.length) (Buf.row T4) (by omega)
      have e1 : (tabV x.2).take (A.length * 6) = tabV A := by rw [exy, tabV_app]; exact List.take_left' (tabV_len A)
      rw [e1] at r1
      have n1 : (Sl.cut x.1 6 0 (A.length : Int) (x.1.c : Int)).n = A.length := by unfold Sl.cut; dsimp only; omega
      refine ⟨r1, tab_one _, ?_⟩
      refine append_buf (Buf.nil g4 6 85) rfl (by rw [tabV_len, n1]) (by rw [n1]; dsimp only; omega) fun s5 g5 B5 hn5 U5 => ?_
      have K5 := U5.keepNil rfl
      have N5 : NewN g4 s5 := (NewN.upd (Keep.refl g4) (NewN.nil g4) U5).2
      rw [n1] at hn5
      dsimp only at hn5
      rw [next_i (n := 70000) (by omega) (by omega)]
      have r2 := cut_back (k := A.length + 1) (K5.row (Buf.row T4)) (by omega) hcap
      have e2 : (tabV x.2).drop ((A.length + 1) * 6) = tabV B := by
        rw [exy, tabV_app, tabV_cons, ← List.append_assoc]
        exact List.drop_left' (by rw [List.length_append, tabV_len]; show A.length * 6 + 6 = _; omega)
      rw [e2] at r2
      have n2 : (Sl.cut x.1 6 ((A.length + 1 : Nat) : Int) (x.1.n : Int) (x.1.c : Int)).n = B.length := by unfold Sl.cut; dsimp only; omega
      refine ⟨b2, 0, ha2, ⟨by omega, by omega⟩, x.1, by rw [Nat.zero_add]; exact K5.at hat2, ⟨by omega, by omega, by omega, by omega⟩, tabV B, r2, tab_one _, ?_⟩
      refine append_buf B5 rfl (by rw [tabV_len, n2]) (by rw [n2]; omega) fun s6 g6 B6 hn6 U6 => ?_
      obtain ⟨K6, N6⟩ := N5.upd K5 U6
      have T6 : TB g6 s6 (A ++ B) := by
        show Buf _ _ 6 85 _
        rw [tabV_app]; simpa using B6
      obtain ⟨b7, ha7, hc7, L7⟩ := L4.putN hx K6 N6 T6
      refine ⟨b7, 0, ha7, ⟨by omega, by omega⟩, by rw [Nat.zero_add]; exact hc7, ?_⟩
      rw [Nat.zero_add, next_i (n := 70000) (by omega) (by omega)]
      refine ⟨⟨P ++ [p], R, _, by rw [eP]; simp, by simp, L7, ?_, ?_⟩, by (try dsimp only); (try simp only [List.length_append, List.length_singleton]); omega⟩
      · rw [he, outM, if_neg hpos, hlv]
        dsimp only
        rw [exy, cutN_some hA hy]
        dsimp only
        rw [List.map_set]
      · rw [List.map_set]
        have := totL_set (us := A ++ B) hlv
        rw [List.length_append] at this
        dsimp only
        omega
    · rw [outM, if_neg hpos, hlv]
      dsimp only
      rw [cutN_none hno]
  have hR : R = [] := List.eq_nil_of_length_eq_zero (by omega)
  subst hR
  have he0 : outM e.out (xs.map (·.2)) = (0, zs.map (·.2)) := he
  have hk4 : AllT kOk (zs.map (·.2)) := by have := outM_all e.out _ hk; rw [he0] at this; exact this
  clear hge hlP he eP P
  -- in
  refine ⟨fun n8 g => ∃ P R ws, e.inn = P ++ R ∧ n8 = (P.length : Int) ∧ Lvs h g l4 ws ∧ inM e.inn (zs.map (·.2)) = inM R (ws.map (·.2)) ∧ totL (ws.map (·.2)) + R.length ≤ 50000, fun n8 _ => e.inn.length - n8.toNat, ⟨[], e.inn, zs, rfl, rfl, L4, rfl, hs4⟩, ?_⟩
  rintro n8 g8 ⟨P, R, ws, eP, rfl, L8, he8, hs8⟩
  have hlP := congrArg List.length eP
  rw [List.length_append] at hlP
  have hz8 := L8.len
  refine ⟨fun hlt => ?_, fun hge => ?_⟩
  · rcases R with _ | ⟨p, R⟩
    · exact absurd hlt (by simp at hlP; omega)
    rw [List.length_cons] at hlP hs8
    have E8 := E.keep L8.k
    have ri := E8.inn
    rw [eP] at ri
    have hkp := hki p (by rw [eP]; simp)
    have err : ∀ {k : Int}, k ≠ 0 → inM (p :: R) (ws.map (·.2)) = (k, ws.map (·.2)) → Q (.tuple ⟨[.slice none 0 0, .int .i64 k]⟩) g8 := fun {k} hk0 ek => hE g8 k L8.k hk0 (by unfold Res; rw [if_pos hpl, he0, if_pos rfl, he8, ek, if_neg hk0])
    obtain ⟨b1, o1, ha1, hb1, q1, d1, q2, d2, q3, d3, q4, d4, q5, d5, q6, d6, q7, d7, eqs⟩ := in_rd (K := fun _ _ n1 n2 n3 n4 n5 s s1 => n1 = p.lv ∧ n2 = p.num ∧ n3 = p.weight ∧ n4 = p.bytes ∧ n5 = p.entries ∧ s = p.least ∧ s1 = p.greatest) ri rfl fun _ _ => ⟨rfl, rfl, rfl, rfl, rfl, rfl, rfl⟩
    obtain ⟨rfl, rfl, rfl, rfl, rfl, rfl, rfl⟩ := eqs
    refine ⟨b1, o1, ha1, hb1, p.lv, d1, fun hneg => err (by decide) (by rw [inM, if_pos hneg]), fun hpos => ⟨fun hbig => err (by decide) (by rw [inM, if_neg hpos, List.getElem?_eq_none (by rw [List.length_map]; omega)]), fun hsm => ?_⟩⟩
    obtain ⟨x, hx⟩ : ∃ x, ws[p.lv.toNat]? = some x := ⟨_, List.getElem?_eq_getElem (by omega)⟩
    have hlv : (ws.map (·.2))[p.lv.toNat]? = some x.2 := by rw [List.getElem?_map, hx]; rfl
    have hx6 : x.2.length + 1 ≤ 50000 := by have := totL_mem (List.mem_of_getElem? hlv); omega
    refine ⟨b1, o1, ha1, hb1, p.num, d2, ?_⟩
    refine anywhere_spec L8.l.row (fun y hy => Buf.row (L8.t y hy)) (by omega) (by omega) (fun hmem => ⟨true, rfl, fun _ => err (by decide) ?_, fun h0 => (by cases h0)⟩) (fun hmem => ⟨false, rfl, fun h0 => (by cases h0), fun _ => ?_⟩)
    · rw [inM, if_neg hpos, hlv]
      dsimp only
      rw [if_pos hmem]
    refine ⟨b1, o1, ha1, hb1, p.least, by rw [Nat.add_assoc]; exact d6, b1, o1, ha1, hb1, p.greatest, by rw [Nat.add_assoc]; exact d7, ?_⟩
    refine above_spec hkp.1 hkp.2 (fun hbl => ⟨true, rfl, fun _ => err (by decide) ?_, fun h0 => (by cases h0)⟩) (fun hbl => ⟨false, rfl, fun h0 => (by cases h0), fun _ => ?_⟩)
    · rw [inM, if_neg hpos, hlv]
      dsimp only
      rw [if_neg hmem, if_pos (blB_t.2 hbl)]
    obtain ⟨b2, ha2, hat2⟩ := L8.rd hx
    have T8 := L8.t x (List.mem_of_getElem? hx)
    have hxn := T8.n
    refine ⟨b2, 0, ha2, ⟨by omega, by omega⟩, x.1, by rw [Nat.zero_add]; exact hat2, b1, o1, ha1, hb1, p.num, d2, p.weight, by rw [Nat.add_assoc]; exact d3, p.bytes, by rw [Nat.add_assoc]; exact d4, p.entries, by rw [Nat.add_assoc]; exact d5, p.least, by rw [Nat.add_assoc]; exact d6, p.greatest, by rw [Nat.add_assoc]; exact d7, by rw [Nat.zero_add]; exact hat2, ?_⟩
    refine append_buf T8 rfl rfl (by omega) fun l' g9 B9 hl9 U9 => ?_
    have T9 : TB g9 l' (x.2 ++ [p.tab]) := by
      show Buf _ _ 6 85 (tabV _)
      rw [tabV_app]; exact B9
    obtain ⟨b8, ha8, _, hc8, L9, _⟩ := L8.put hx U9 T9
    refine ⟨b8, 0, ha8, ⟨by omega, by omega⟩, by rw [Nat.zero_add]; exact hc8, ?_⟩
    rw [Nat.zero_add, next_i (n := 70000) (by omega) (by omega)]
    refine ⟨⟨P ++ [p], R, _, by rw [eP]; simp, by simp, L9, ?_, ?_⟩, by (try dsimp only); (try simp only [List.length_append, List.length_singleton]); omega⟩
    · rw [he8, inM, if_neg hpos, hlv]
      dsimp only
      rw [if_neg hmem, if_neg (fun hb => hbl (blB_t.1 hb)), List.map_set]
    · rw [List.map_set]
      have := totL_set (us := x.2 ++ [p.tab]) hlv
      rw [List.length_append, List.length_singleton] at this
      dsimp only
      omega
  have hR : R = [] := List.eq_nil_of_length_eq_zero (by omega)
  subst hR
  have he1 : inM e.inn (zs.map (·.2)) = (0, ws.map (·.2)) := he8
  have hk8 : AllT kOk (ws.map (·.2)) := by have := inM_all e.inn _ hki hk4; rw [he1] at this; exact this
  have hresB : (∃ i ts, 1 ≤ i ∧ (ws.map (·.2))[i]? = some ts ∧ Bad ts) → Res (xs.map (·.2)) e 132 (xs.map (·.2)) := fun hb => by
    unfold Res; rw [if_pos hpl, he0, if_pos rfl, he1, if_pos rfl]; exact .inl ⟨rfl, hb⟩
  have hresG : ∀ {lw : Lv}, Sorted (ws.map (·.2)) lw → Res (xs.map (·.2)) e 0 lw := fun {lw} hb => by
    unfold Res; rw [if_pos hpl, he0, if_pos rfl, he1, if_pos rfl]; exact .inr ⟨rfl, hb⟩
  rw [List.length_nil, Nat.add_zero] at hs8
  clear hge hlP he8 eP P he1 he0
  -- the levels sorted
  refine ⟨fun n15 g => ∃ (j : Nat) (vs : List (Sl × List Tab)), n15 = (j : Int) ∧ 1 ≤ j ∧ j ≤ ws.length ∧ Lvs h g l4 vs ∧ SortTo j (ws.map (·.2)) (vs.map (·.2)), fun n15 _ => ws.length - n15.toNat, ⟨1, ws, rfl, Nat.le_refl _, by omega, L8, rfl, fun i ts us x y => by rw [if_neg (by omega)]; rw [x] at y; exact (Option.some.inj y).symm⟩, ?_⟩
  rintro n15 g15 ⟨j, vs, rfl, j1, j2, L15, S15⟩
  have hvl := L15.len
  refine ⟨fun hlt => ?_, fun hge => hO g15 l4 vs L15 (hresG (S15.done (by rw [List.length_map]; omega)))⟩
  obtain ⟨x, hx⟩ : ∃ x, vs[j]? = some x := ⟨_, List.getElem?_eq_getElem (by omega)⟩
  have hlv2 : (vs.map (·.2))[j]? = some x.2 := by rw [List.getElem?_map, hx]; rfl
  obtain ⟨ts, hts⟩ : ∃ ts, (ws.map (·.2))[j]? = some ts := ⟨_, List.getElem?_eq_getElem (by rw [List.length_map]; omega)⟩
  have hxts : x.2 = ts := by
    have := S15.2 j ts x.2 hts hlv2
    rw [if_neg (by omega)] at this; exact this
  have hx6 : x.2.length ≤ 50000 := by rw [hxts]; exact Nat.le_trans (totL_mem (List.mem_of_getElem? hts)) hs8
  have hkx : ∀ t ∈ x.2, kOk t := fun t ht => hk8 ts (List.mem_of_getElem? hts) t (by rw [← hxts]; exact ht)
  obtain ⟨b2, ha2, hat2⟩ := L15.rd hx
  refine ⟨b2, 0, ha2, ⟨by omega, by omega⟩, x.1, by rw [Nat.zero_add, Int.toNat_natCast]; exact hat2, ?_⟩
  refine rise_spec (Buf.row (L15.t x (List.mem_of_getElem? hx))) hx6 (fun t ht => (hkx t ht).1) fun g16 r us K16 T16 N16 hp hsr => ⟨r, rfl, ?_⟩
  obtain ⟨b3, ha3, hc3, L17⟩ := L15.putN hx K16 N16 T16
  refine ⟨b3, 0, ha3, ⟨by omega, by omega⟩, by rw [Nat.zero_add, Int.toNat_natCast]; exact hc3, ?_⟩
  simp only [Nat.zero_add, Int.toNat_natCast]
  generalize (g16.wr b3 j [.slice r.a r.n r.c]) = g17 at L17 ⊢
  have hy : (vs.set j (r, us))[j]? = some (r, us) := by rw [List.getElem?_set_self (by omega)]
  obtain ⟨b4, ha4, hat4⟩ := L17.rd hy
  have T17 := L17.t _ (List.mem_of_getElem? hy)
  have hun : r.n = us.length := T17.n
  have hul := hp.length_eq
  have hku : ∀ t ∈ us, kOk t := fun t ht => hkx t (hp.mem_iff.1 ht)
  refine ⟨fun n16 g => g = g17 ∧ ∃ q : Nat, n16 = (q : Int) ∧ 1 ≤ q ∧ q ≤ us.length + 1 ∧ ∀ i a b, i + 1 < q → us[i]? = some a → us[i + 1]? = some b → Bl a.greatest b.least, fun n16 _ => us.length + 1 - n16.toNat, ⟨rfl, 1, rfl, Nat.le_refl _, by omega, fun i a b h0 => absurd h0 (by omega)⟩, ?_⟩
  rintro n16 g18 ⟨rfl, q, rfl, q1, q2, hA⟩
  refine ⟨b4, 0, ha4, ⟨by omega, by omega⟩, r, by rw [Nat.zero_add]; exact hat4, fun hq => ?_, fun hq => ?_⟩
  · obtain ⟨y, hy2⟩ : ∃ y, us[q]? = some y := ⟨_, List.getElem?_eq_getElem (by omega)⟩
    obtain ⟨z, hz⟩ : ∃ z, us[q - 1]? = some z := ⟨_, List.getElem?_eq_getElem (by omega)⟩
    obtain ⟨b5, o5, a5, l5, r5⟩ := tab_at (Buf.row T17) hy2
    obtain ⟨b6, o6, a6, l6, r6⟩ := tab_at (Buf.row T17) hz
    have ew : IntKind.wrap .i64 ((q : Int) - 1) = ((q - 1 : Nat) : Int) := by rw [wrap_i64 (by omega) (by omega)]; omega
    rw [ew]
    refine ⟨b4, 0, ha4, ⟨by omega, by omega⟩, r, by rw [Nat.zero_add]; exact hat4, b5, o5, a5, ⟨by omega, hq⟩, y.least, r5 4 (by decide), b4, 0, ha4, ⟨by omega, by omega⟩, r, by rw [Nat.zero_add]; exact hat4, b6, o6, a6, ⟨by omega, by omega⟩, z.greatest, r6 5 (by decide), ?_⟩
    refine above_spec (hku y (List.mem_of_getElem? hy2)).1 (hku z (List.mem_of_getElem? hz)).2 (fun hbl => ⟨true, rfl, fun _ => ?_, fun h0 => (by cases h0)⟩) (fun hbl => ⟨false, rfl, fun h0 => (by cases h0), fun _ => ?_⟩)
    · rw [next_i (n := 70000) (by omega) (by omega)]
      refine ⟨⟨rfl, q + 1, rfl, by omega, by omega, fun i a b hi ea eb => ?_⟩, by (try dsimp only); omega⟩
      by_cases hiq : i + 1 < q
      · exact hA i a b hiq ea eb
      · have : i = q - 1 := by omega
        subst this
        rw [Nat.sub_add_cancel q1, hy2] at eb
        rw [hz] at ea
        cases ea; cases eb
        exact hbl
    · exact hE g18 132 L17.k (by decide) (hresB ⟨j, ts, j1, hts, us, by rw [← hxts]; exact hp, hsr, q - 1, z, y, hz, by rw [Nat.sub_add_cancel q1]; exact hy2, hbl⟩)
  · rw [next_i (n := 100) (by omega) (by omega)]
    refine ⟨⟨j + 1, _, rfl, by omega, by omega, L17, ?_⟩, by (try dsimp only); omega⟩
    rw [List.map_set]
    exact S15.step j1 hlv2 ⟨hp, hsr, fun i a b ea eb => hA i a b (by have := (List.getElem?_eq_some_iff.1 eb).1; dsimp only at this; omega) ea eb⟩
end Go.Eng.Ytblghgacokoklaa
end
section

/-
  SPECS OF VERSIONS, 11: the document's set.
-/
set_option linter.unusedSimpArgs false
set_option linter.unusedVariables false
set_option maxRecDepth 100000
namespace Go.Eng.Ytblghgacokoklaa
structure SetB (g h : Hp) (sb vb : Nat) (al pi ps ls : Sl) (xs : List (Sl × List Tab)) (ptrs : List ByteArray) (N : Nat) : Prop where
  L : Lvs g h ls xs
  nv : g vb = none
  v : ∃ nm : Int, h vb = some (.cells ⟨[.int .i64 nm, .slice ls.a ls.n ls.c]⟩ 156 (0, 0))
  ns : g sb = none
  s : h sb = some (.cells ⟨[.pointer (some ⟨vb, 0, none⟩), .slice al.a al.n al.c, .slice pi.a pi.n pi.c, .slice ps.a ps.n ps.c]⟩ 159 (0, 0))
  na : NewN g al
  a : ∃ ad : List Value, ad.length = N ∧ Buf h al 1 103 ad
  ni : NewN g pi
  i : Buf h pi 1 3 (List.replicate N (.int .i64 0))
  np : NewN g ps
  p : Buf h ps 1 9 (ptrV ptrs)
section
variable {g h h' : Hp} {sb vb : Nat} {al pi ps ls : Sl} {xs : List (Sl × List Tab)} {ptrs : List ByteArray} {N : Nat} {Q : Value → Hp → Prop}
theorem SetB.ck' {κ : List Nat} (S : SetB g h sb vb al pi ps ls xs ptrs N) (C : Ck κ h h') (K : Keep g h') (a : 108 ∉ κ) (b : 87 ∉ κ) (c : 158 ∉ κ) (d : 161 ∉ κ) (e : 105 ∉ κ) (f : 5 ∉ κ) (p : Buf h' ps 1 9 (ptrV ptrs)) : SetB g h' sb vb al pi ps ls xs ptrs N := by
  obtain ⟨nm, hv⟩ := S.v
  obtain ⟨ad, h1, h2⟩ := S.a
  exact ⟨S.L.ck C K a b, S.nv, ⟨nm, C.keep _ _ hv c⟩, S.ns, C.keep _ _ S.s d, S.na, ⟨ad, h1, C.buf e h2⟩, S.ni, C.buf f S.i, S.np, p⟩
theorem SetB.keep (S : SetB g h sb vb al pi ps ls xs ptrs N) (K : Keep h h') : SetB g h' sb vb al pi ps ls xs ptrs N :=
  S.ck' (κ := []) (Ck.of_keep K) (S.L.k.trans K) (by simp) (by simp) (by simp) (by simp) (by simp) (by simp) (S.p.keep K)
theorem has_any {n : Int} {nm : Int} (hv : h vb = some (.cells ⟨[.int .i64 nm, .slice ls.a ls.n ls.c]⟩ 156 (0, 0))) (hr : h.row ls.a (ls.n * 1) (slV (xs.map (·.1)))) (ht : ∀ x ∈ xs, h.row x.1.a (x.1.n * 6) (tabV x.2)) (hs : totL (xs.map (·.2)) ≤ 60000) (h5 : xs.length ≤ 5)
    (hQ : ∀ b : Bool, Q (.bool b) h) : F110.T (some ⟨vb, 0, none⟩) n h Q :=
  ⟨vb, 0, rfl, ls, at_of hv 1, anywhere_spec hr ht hs h5 (fun _ => ⟨true, rfl, fun _ => hQ true, fun h0 => (by cases h0)⟩) (fun _ => ⟨false, rfl, fun h0 => (by cases h0), fun _ => hQ false⟩)⟩
theorem u_at {l : Sl} {vs : List Int} (B : Buf h l 1 55 (uvs vs)) {i : Nat} (hi : i < vs.length) : ∃ b, l.a = some ⟨b, 0, none⟩ ∧ h.at b i = some (.int .u64 (vs[i]'hi)) := by
  obtain ⟨b, ha, hat, _⟩ := buf_set B (k := i) (by rw [uvs_len]; exact hi)
  refine ⟨b, ha, ?_⟩
  rw [hat]; unfold uvs; rw [List.getElem?_map, List.getElem?_eq_getElem hi]; rfl
theorem uvs_one (vs : List Int) : ∀ v ∈ uvs vs, Value.oneCell' v = true := fun v hv => by
  unfold uvs at hv
  obtain ⟨s, _, rfl⟩ := List.mem_map.1 hv
  rfl
theorem lay_spec {l : Sl} {vs : List Int} {n : Int} (B : Buf h l 1 55 (uvs vs)) (hs : vs.length ≤ 60000) (hQ : ∀ h' (r : Sl) us, Keep h h' → Buf h' r 1 55 (uvs us) → NewN h r → us.length = vs.length + 1 → Q (.slice r.a r.n r.c) h') : F111.T l n h Q := by
  have hn : l.n = vs.length := by have := B.len; rw [uvs_len] at this; omega
  have hc := B.cap
  have fin : ∀ {g : Hp} {l1 : Sl} {us : List Int} {j : Nat}, Buf g l1 1 55 (uvs us) → NewN h l1 → Keep h g → us.length = j → j ≤ vs.length → appendD l1 55 1 8 [.int .u64 0] 1 [.int .u64 n] g fun l3 h3 => Sl.okCut l (j : Int) (l.n : Int) (l.c : Int) ∧ ∃ ws, h3.row ((Sl.cut l 1 (j : Int) (l.n : Int) (l.c : Int)).a) (((Sl.cut l 1 (j : Int) (l.n : Int) (l.c : Int)).n) * 1) ws ∧ (∀ v ∈ ws, Value.oneCell' v = true) ∧ appendD l3 55 1 8 [.int .u64 0] ((Sl.cut l 1 (j : Int) (l.n : Int) (l.c : Int)).n) ws h3 fun l4 h4 => Q (.slice l4.a l4.n l4.c) h4 := fun {g l1 us j} B1 N1 K1 hj hjl => by
    have hl1 : l1.n = us.length := by have := B1.len; rw [uvs_len] at this; omega
    refine append_buf B1 rfl rfl (by omega) fun l3 h3 B3 hl3 U3 => ?_
    obtain ⟨K3, N3⟩ := N1.upd K1 U3
    have r2 := cut_back (k := j) (K3.row B.row) (by omega) hc
    have e2 : (uvs vs).drop (j * 1) = uvs (vs.drop j) := by unfold uvs; rw [Nat.mul_one, List.map_drop]
    rw [e2] at r2
    have n2 : (Sl.cut l 1 (j : Int) (l.n : Int) (l.c : Int)).n = vs.length - j := by unfold Sl.cut; dsimp only; omega
    refine ⟨⟨by omega, by omega, by omega, by omega⟩, uvs (vs.drop j), r2, uvs_one _, ?_⟩
    refine append_buf B3 rfl (by rw [uvs_len, n2, List.length_drop]; omega) (by rw [n2]; omega) fun l4 h4 B4 hl4 U4 => ?_
    obtain ⟨K4, N4⟩ := N3.upd K3 U4
    exact hQ h4 l4 (us ++ [n] ++ vs.drop j) K4 (by unfold uvs at B4 ⊢; rw [List.map_append, List.map_append]; exact B4) N4 (by simp only [List.length_append, List.length_singleton, List.length_drop]; omega)
  refine ⟨fun l1 n1 g => ∃ (j : Nat) (us : List Int), n1 = (j : Int) ∧ j ≤ vs.length ∧ us.length = j ∧ Buf g l1 1 55 (uvs us) ∧ NewN h l1 ∧ Keep h g, fun _ n1 _ => vs.length - n1.toNat, ⟨0, [], rfl, Nat.zero_le _, rfl, Buf.nil _ _ _, .inl rfl, Keep.refl h⟩, ?_⟩
  rintro l1 n1 g ⟨j, us, rfl, hj, hu, B1, N1, K1⟩
  have hl1 : l1.n = us.length := by have := B1.len; rw [uvs_len] at this; omega
  refine ⟨fun hlt => ?_, fun hge => fin B1 N1 K1 hu hj⟩
  obtain ⟨b, ha, hat⟩ := u_at (B.keep K1) (i := j) (by omega)
  refine ⟨b, 0, ha, ⟨by omega, hlt⟩, _, by rw [Nat.zero_add, Int.toNat_natCast]; exact hat, fun h2 => ?_, fun h2 => fin B1 N1 K1 hu hj⟩
  refine ⟨b, 0, ha, ⟨by omega, hlt⟩, _, by rw [Nat.zero_add, Int.toNat_natCast]; exact hat, ?_⟩
  refine append_buf B1 rfl rfl (by omega) fun l2 g2 B2 hl2 U2 => ?_
  obtain ⟨K2, N2⟩ := N1.upd K1 U2
  rw [next_i (n := 70000) (by omega) (by omega)]
  exact ⟨⟨j + 1, us ++ [_], rfl, by omega, by simp; omega, by unfold uvs at B2 ⊢; rw [List.map_append]; exact B2, N2, K2⟩, by (try dsimp only); omega⟩
theorem gone_doc {vb2 : Nat} {ls2 : Sl} {ys : List (Sl × List Tab)} {nm2 : Int} (S : SetB g h sb vb al pi ps ls xs ptrs N) (hv2 : h vb2 = some (.cells ⟨[.int .i64 nm2, .slice ls2.a ls2.n ls2.c]⟩ 156 (0, 0))) (hr2 : h.row ls2.a (ls2.n * 1) (slV (ys.map (·.1)))) (ht2 : ∀ x ∈ ys, h.row x.1.a (x.1.n * 6) (tabV x.2))
    (hs : totL (xs.map (·.2)) ≤ 60000) (h5 : xs.length ≤ 5) (hs2 : totL (ys.map (·.2)) ≤ 50000) (h52 : ys.length ≤ 5) (hN : N ≤ 1000000)
    (hQ : ∀ h' (r : Sl), Keep h h' → Q (.slice r.a r.n r.c) h') : F87.T (some ⟨sb, 0, none⟩) (some ⟨vb2, 0, none⟩) h Q := by
  have hn2 : ls2.n = ys.length := by have := hr2.1; rw [slV_length, List.length_map] at this; omega
  obtain ⟨ad, hasl, hal⟩ := S.a
  have han : al.n = N := by have := hal.len; omega
  have hpin : pi.n = N := by have := S.i.len; rw [List.length_replicate] at this; omega
  obtain ⟨nm, hv⟩ := S.v
  refine ⟨fun l n g => ∃ P R vs, ys = P ++ R ∧ n = (P.length : Int) ∧ Buf g l 1 55 (uvs vs) ∧ NewN h l ∧ Keep h g ∧ vs.length ≤ totL (P.map (·.2)), fun _ n _ => ys.length - n.toNat, ⟨[], ys, [], rfl, rfl, Buf.nil _ _ _, .inl rfl, Keep.refl h, Nat.zero_le _⟩, ?_⟩
  rintro l n g1 ⟨P, R, vs, eP, rfl, B1, N1, K1, hvs⟩
  have hlP := congrArg List.length eP
  rw [List.length_append] at hlP
  refine ⟨vb2, 0, rfl, ls2, at_of (K1 _ _ hv2) 1, fun hlt => ?_, fun hge => hQ g1 l K1⟩
  rcases R with _ | ⟨x, R⟩
  · exact absurd hlt (by simp at hlP; omega)
  rw [List.length_cons] at hlP
  have hx : ys[P.length]? = some x := by rw [eP]; simp
  have htot : totL (P.map (·.2)) + x.2.length ≤ 50000 := by
    rw [eP] at hs2
    unfold totL at hs2 ⊢
    rw [List.map_append, List.map_cons, List.map_append, List.map_cons, List.sum_append, List.sum_cons] at hs2
    omega
  have htx := ht2 x (List.mem_of_getElem? hx)
  have hxn : x.1.n = x.2.length := by have := htx.1; rw [tabV_len] at this; omega
  refine ⟨fun l2 n1 g => ∃ A B vs, x.2 = A ++ B ∧ n1 = (A.length : Int) ∧ Buf g l2 1 55 (uvs vs) ∧ NewN h l2 ∧ Keep h g ∧ vs.length ≤ totL (P.map (·.2)) + A.length, fun _ n1 _ => x.2.length - n1.toNat, ⟨[], x.2, vs, rfl, rfl, B1, N1, K1, by simpa using hvs⟩, ?_⟩
  rintro l2 n1 g2 ⟨A, B, ws, eAB, rfl, B2, N2, K2, hws⟩
  have hlA := congrArg List.length eAB
  rw [List.length_append] at hlA
  obtain ⟨_, b2, o2, ha2, hat2⟩ := rows_rd (K2.row hr2) hx
  have hat2' : g2.at b2 (o2 + (P.length : Int).toNat) = some (.slice x.1.a x.1.n x.1.c) := by rw [Int.toNat_natCast]; exact hat2
  refine ⟨vb2, 0, rfl, ls2, at_of (K2 _ _ hv2) 1, b2, o2, ha2, ⟨by omega, by omega⟩, x.1, hat2', fun hlt1 => ?_, fun hge1 => ?_⟩
  · rcases B with _ | ⟨t, B⟩
    · exact absurd hlt1 (by simp at hlA; omega)
    rw [List.length_cons] at hlA
    have hta : x.2[A.length]? = some t := by rw [eAB]; simp
    obtain ⟨b3, o3, ha3, hi3, hat3⟩ := tab_at (K2.row htx) hta
    refine ⟨vb2, 0, rfl, ls2, at_of (K2 _ _ hv2) 1, b2, o2, ha2, ⟨by omega, by omega⟩, x.1, hat2', b3, o3, ha3, ⟨by omega, by omega⟩, t.num, by rw [Int.toNat_natCast]; exact hat3 0 (by decide), sb, 0, rfl, some ⟨vb, 0, none⟩, at_of (K2 _ _ S.s) 0, ?_⟩
    have step : ∀ {g3 : Hp} {l3 : Sl} {us : List Int}, Buf g3 l3 1 55 (uvs us) → NewN h l3 → Keep h g3 → us.length ≤ ws.length + 1 → (∃ A' B' vs, x.2 = A' ++ B' ∧ IntKind.wrap .i64 ((A.length : Int) + 1) = (A'.length : Int) ∧ Buf g3 l3 1 55 (uvs vs) ∧ NewN h l3 ∧ Keep h g3 ∧ vs.length ≤ totL (P.map (·.2)) + A'.length) ∧ x.2.length - (IntKind.wrap .i64 ((A.length : Int) + 1)).toNat < x.2.length - ((A.length : Int)).toNat := fun {g3 l3 us} B3 N3 K3 hu => by
      rw [next_i (n := 70000) (by omega) (by omega)]
      exact ⟨⟨A ++ [t], B, us, by rw [eAB]; simp, by simp, B3, N3, K3, by simp only [List.length_append, List.length_singleton]; omega⟩, by omega⟩
    have pin : ∀ {g3 : Hp}, Keep h g3 → ∀ q : Nat, q < N → ∃ b, pi.a = some ⟨b, 0, none⟩ ∧ g3.at b q = some (.int .i64 0) := fun {g3} K q hq => by
      obtain ⟨b, ha, hat, _⟩ := buf_set (S.i.keep K) (k := q) (by rw [List.length_replicate]; exact hq)
      exact ⟨b, ha, by rw [hat, List.getElem?_replicate, if_pos hq]⟩
    refine has_any (K2 _ _ hv) (K2.row S.L.l.row) (fun y hy => K2.row (S.L.t y hy).row) hs h5 fun b => ⟨b, rfl, fun hb => ?_, fun hb => ?_⟩
    · refine ⟨fun bb n3 g3 => bb = true ∧ n3 = 0 ∧ g3 = g2, fun _ _ _ => 0, ⟨rfl, rfl, rfl⟩, ?_, ?_⟩
      · rintro n3 g3 ⟨_, rfl, rfl⟩
        exact ⟨sb, 0, rfl, al, at_of (K2 _ _ S.s) 1, fun _ => step B2 N2 K2 (by omega), fun _ => step B2 N2 K2 (by omega)⟩
      · rintro n3 g3 ⟨h0, _⟩; cases h0
    · refine ⟨fun bb n3 g3 => bb = false ∧ (∃ q : Nat, n3 = (q : Int) ∧ q ≤ N) ∧ g3 = g2, fun _ n3 _ => N - n3.toNat, ⟨rfl, ⟨0, rfl, Nat.zero_le _⟩, rfl⟩, ?_, ?_⟩
      · rintro n3 g3 ⟨h0, _⟩; cases h0
      · rintro n3 g3 ⟨_, ⟨q, rfl, hq⟩, rfl⟩
        refine ⟨sb, 0, rfl, al, at_of (K2 _ _ S.s) 1, fun hlt3 => ?_, fun _ => ?_⟩
        · obtain ⟨bp, hap, hatp⟩ := pin K2 q (by omega)
          refine ⟨sb, 0, rfl, pi, at_of (K2 _ _ S.s) 2, bp, 0, hap, ⟨by omega, by omega⟩, 0, by rw [Nat.zero_add, Int.toNat_natCast]; exact hatp, fun h0 => absurd h0 (by decide), fun _ => ?_⟩
          rw [next_i (n := 2000000) (by omega) (by omega)]
          exact ⟨⟨rfl, ⟨q + 1, rfl, by omega⟩, rfl⟩, by (try dsimp only); omega⟩
        · refine lay_spec B2 (by omega) fun g4 r us K4 B4 N4 hu => ⟨r, rfl, ?_⟩
          exact step B4 (N4.mono K2.dom) (K2.trans K4) (by omega)
  · have hB : B = [] := List.eq_nil_of_length_eq_zero (by omega)
    subst hB
    rw [List.append_nil] at eAB
    rw [next_i (n := 100) (by omega) (by omega)]
    refine ⟨⟨P ++ [x], R, ws, by rw [eP]; simp, by simp, B2, N2, K2, ?_⟩, by (try dsimp only); (try simp only [List.length_append, List.length_singleton]); omega⟩
    have : totL ((P ++ [x]).map (·.2)) = totL (P.map (·.2)) + x.2.length := by simp [totL]
    rw [this, eAB]; exact hws
end
end Go.Eng.Ytblghgacokoklaa
end
