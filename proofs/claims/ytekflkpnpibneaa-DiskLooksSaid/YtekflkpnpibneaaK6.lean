
/-
  Proved: the law DiskLooks answers true, whatever it is handed, and what it was handed reads behind the call as it read before. No condition.
-/
import Derived.Test.YtekflkpnpibneaaK4
import Derived.Test.YtekflkpnpibneaaK2
import Derived.Test.YtekflkpnpibneaaProg
import Derived.Test.YtekflkpnpibneaaK5
import Derived.Test.YtekflkpnpibneaaRows
import Derived.WalkKit
import Derived.ProofKit
import Derived.OpenShut
import Derived.ShutString
import Derived.ChangeOld
import Derived.Below
import Derived.SizedLaws
section

set_option maxRecDepth 100000
set_option linter.unusedVariables false
open Go.Proofs
namespace Go.Eng.Ytekflkpnpibneaa
def F7.an : List (Nat × Ann) := [(506, .loop [(10, .int .i64)] []), (8100, .join [] []), (32400, .order [0, 1, 2, 3, 4, 5, 6, 7, 8, 9, 10, 11, 13, 14, 15, 16, 12, 17, 18, 19, 20, 21, 22, 23, 24, 25, 27, 28, 29, 30, 26, 31, 32, 33]), (64806, .orderL [0, 1, 2, 3, 5, 6, 7, 8, 4, 9, 10, 11, 12, 13, 14, 15, 16, 19, 20, 21, 22, 17, 18, 23, 24, 25, 26, 27] [17, 23]), (129610, .loop [(11, .int .i64)] []), (8295058, .order [0, 1, 2, 3, 4, 5, 7, 8, 9, 10, 11, 12, 6, 13, 14, 15])]
def F7.G (T10 : PT) (T11 : Sl → Sl → PT) (T12 : Int → Sl → PT) (T13 : Sl → Sl → PT) (T14 : Option Addr → PT) (T15 : Option Addr → PT) (T16 : Option Addr → Int → Sl → PT) (T17 : Option Addr → Int → Sl → PT) (T18 : Option Addr → PT) (T33 : Option Addr → Int → ByteArray → ByteArray → Sl → Int → Int → Int → Sl → PT) (T34 : Option Addr → PT) (n : Int) (l : Sl) (l1 : Sl) : PT := fun h Q =>
  T10 h fun r h1 => ∃ b : Bool, r = .bool b ∧ parB b (T11 l l1 h1 fun r1 h2 => ∃ b1 : Bool, r1 = .bool b1 ∧ parB b1 (par ((80 : Int) < (l1.n : Int)) (Q (.bool true) h2) (T12 n l h2 fun r2 h3 => ∃ p : Option Addr, ∃ b2 : Bool, parB b2 (r2 = .tuple ⟨[.pointer p, .bool true]⟩ ∧ okPtr h3 p none ∧ par ((p : Option Addr) = none) (Q (.bool true) h3) (∃ (I : Int → Hp → Prop) (m : Int → Hp → Nat), I 0 h3 ∧ (∀ n1 : Int, ∀ h4 : Hp, I n1 h4 → par (n1 < (l1.n : Int)) (∃ J : Hp → Prop, (∀ h5 : Hp, J h5 → ∃ (I1 : Int → Hp → Prop) (m1 : Int → Hp → Nat), I1 0 h5 ∧ (∀ n2 : Int, ∀ h6 : Hp, I1 n2 h6 → par (n2 < 4) ((3 : Int) ≠ 0 ∧ ∀ b3, h6 b3 = none → ∃ b4 o, (p : Option Addr) = some ⟨b4, o, none⟩ ∧ ∃ p1 : Option Addr, (h6.new b3 (.cells ⟨[.int .i64 (Int.tmod n1 3), .int .i64 n2, .int .i64 1099511627776]⟩ 3 (0, 0))).at b4 o = some (.pointer p1) ∧ ∃ b5 o1, (p : Option Addr) = some ⟨b5, o1, none⟩ ∧ ∃ p2 : Option Addr, (h6.new b3 (.cells ⟨[.int .i64 (Int.tmod n1 3), .int .i64 n2, .int .i64 1099511627776]⟩ 3 (0, 0))).at b5 (o1 + 1) = some (.pointer p2) ∧ T16 p1 n2 ⟨(some ⟨b3, 0, none⟩), 3, 3⟩ (h6.new b3 (.cells ⟨[.int .i64 (Int.tmod n1 3), .int .i64 n2, .int .i64 1099511627776]⟩ 3 (0, 0))) fun r3 h7 => ∃ l2 : Sl, r3 = .slice l2.a l2.n l2.c ∧ h7.at b5 (o1 + 1) = some (.pointer p2) ∧ T17 p2 n2 ⟨(some ⟨b3, 0, none⟩), 3, 3⟩ h7 fun r4 h8 => ∃ l3 : Sl, r4 = .slice l3.a l3.n l3.c ∧ T13 l2 l3 h8 fun r5 h9 => ∃ b6 : Bool, r5 = .bool b6 ∧ parB b6 (I1 (IntKind.wrap .i64 (n2 + 1)) h9 ∧ m1 (IntKind.wrap .i64 (n2 + 1)) h9 < m1 n2 h6) (Q (.bool false) h9)) (∃ b7 o2, (p : Option Addr) = some ⟨b7, o2, none⟩ ∧ ∃ p3 : Option Addr, h6.at b7 o2 = some (.pointer p3) ∧ ∃ b8 o3, (p : Option Addr) = some ⟨b8, o3, none⟩ ∧ ∃ p4 : Option Addr, h6.at b8 (o3 + 1) = some (.pointer p4) ∧ T16 p3 4611686018427387904 ⟨none, 0, 0⟩ h6 fun r6 h10 => ∃ l4 : Sl, r6 = .slice l4.a l4.n l4.c ∧ h10.at b8 (o3 + 1) = some (.pointer p4) ∧ T17 p4 4611686018427387904 ⟨none, 0, 0⟩ h10 fun r7 h11 => ∃ l5 : Sl, r7 = .slice l5.a l5.n l5.c ∧ T13 l4 l5 h11 fun r8 h12 => ∃ b9 : Bool, r8 = .bool b9 ∧ parB b9 (∃ b10 o4, (p : Option Addr) = some ⟨b10, o4, none⟩ ∧ ∃ p5 : Option Addr, h12.at b10 o4 = some (.pointer p5) ∧ ∃ b11 o5, (p : Option Addr) = some ⟨b11, o5, none⟩ ∧ ∃ p6 : Option Addr, h12.at b11 (o5 + 1) = some (.pointer p6) ∧ ∀ b12, h12 b12 = none → (h12.new b12 (.cells ⟨[.int .i64 (-1)]⟩ 3 (0, 0))).at b10 o4 = some (.pointer p5) ∧ (h12.new b12 (.cells ⟨[.int .i64 (-1)]⟩ 3 (0, 0))).at b11 (o5 + 1) = some (.pointer p6) ∧ T16 p5 (-1) ⟨(some ⟨b12, 0, none⟩), 1, 1⟩ (h12.new b12 (.cells ⟨[.int .i64 (-1)]⟩ 3 (0, 0))) fun r9 h13 => ∃ l6 : Sl, r9 = .slice l6.a l6.n l6.c ∧ h13.at b11 (o5 + 1) = some (.pointer p6) ∧ ∀ b13, h13 b13 = none → (h13.new b13 (.cells ⟨[.int .i64 (-1)]⟩ 3 (0, 0))).at b11 (o5 + 1) = some (.pointer p6) ∧ T17 p6 (-1) ⟨(some ⟨b13, 0, none⟩), 1, 1⟩ (h13.new b13 (.cells ⟨[.int .i64 (-1)]⟩ 3 (0, 0))) fun r10 h14 => ∃ l7 : Sl, r10 = .slice l7.a l7.n l7.c ∧ T13 l6 l7 h14 fun r11 h15 => ∃ b14 : Bool, r11 = .bool b14 ∧ parB b14 (I (IntKind.wrap .i64 (n1 + 1)) h15 ∧ m (IntKind.wrap .i64 (n1 + 1)) h15 < m n1 h4) (Q (.bool false) h15)) (Q (.bool false) h12)))) ∧ (∃ b15 o6, (l1.a : Option Addr) = some ⟨b15, o6, none⟩ ∧ ((0 : Int) ≤ n1 ∧ n1 < (l1.n : Int)) ∧ ∃ n3 : Int, h4.at b15 (o6 + n1.toNat * 8) = some (.int .i64 n3) ∧ ∃ s : ByteArray, h4.at b15 ((o6 + n1.toNat * 8) + 1) = some (.string s) ∧ ∃ s1 : ByteArray, h4.at b15 ((o6 + n1.toNat * 8) + 2) = some (.string s1) ∧ ∃ l8 : Sl, h4.at b15 ((o6 + n1.toNat * 8) + 3) = some (.slice l8.a l8.n l8.c) ∧ ∃ n4 : Int, h4.at b15 ((o6 + n1.toNat * 8) + 4) = some (.int .i64 n4) ∧ ∃ n5 : Int, h4.at b15 ((o6 + n1.toNat * 8) + 5) = some (.int .i64 n5) ∧ ∃ n6 : Int, h4.at b15 ((o6 + n1.toNat * 8) + 6) = some (.int .i64 n6) ∧ ∃ l9 : Sl, h4.at b15 ((o6 + n1.toNat * 8) + 7) = some (.slice l9.a l9.n l9.c) ∧ T33 p n3 s s1 l8 n4 n5 n6 l9 h4 fun r12 h16 => ∃ b16 : Bool, r12 = .bool b16 ∧ parB b16 (∃ b17 o7, (p : Option Addr) = some ⟨b17, o7, none⟩ ∧ ∃ p7 : Option Addr, h16.at b17 o7 = some (.pointer p7) ∧ ∃ b18 o8, (p : Option Addr) = some ⟨b18, o8, none⟩ ∧ ∃ p8 : Option Addr, h16.at b18 (o8 + 1) = some (.pointer p8) ∧ T14 p7 h16 fun r13 h17 => ∃ l10 : Sl, r13 = .slice l10.a l10.n l10.c ∧ h17.at b18 (o8 + 1) = some (.pointer p8) ∧ T15 p8 h17 fun r14 h18 => ∃ l11 : Sl, r14 = .slice l11.a l11.n l11.c ∧ T13 l10 l11 h18 fun r15 h19 => ∃ b19 : Bool, r15 = .bool b19 ∧ parB b19 (∃ b20 o9, (p : Option Addr) = some ⟨b20, o9, none⟩ ∧ ∃ p9 : Option Addr, h19.at b20 o9 = some (.pointer p9) ∧ ∃ b21 o10, (p : Option Addr) = some ⟨b21, o10, none⟩ ∧ ∃ p10 : Option Addr, h19.at b21 (o10 + 1) = some (.pointer p10) ∧ T18 p9 h19 fun r16 h20 => ∃ b22 : Bool, r16 = .bool b22 ∧ parB b22 (h20.at b21 (o10 + 1) = some (.pointer p10) ∧ T34 p10 h20 fun r17 h21 => ∃ b23 : Bool, r17 = .bool b23 ∧ parB b23 (par ((true : Bool) = true) (J h21) (Q (.bool false) h21)) (par ((true : Bool) = false) (J h21) (Q (.bool false) h21))) (h20.at b21 (o10 + 1) = some (.pointer p10) ∧ T34 p10 h20 fun r18 h22 => ∃ b24 : Bool, r18 = .bool b24 ∧ parB b24 (par ((false : Bool) = true) (J h22) (Q (.bool false) h22)) (par ((false : Bool) = false) (J h22) (Q (.bool false) h22)))) (Q (.bool false) h19)) (Q (.bool false) h16))) (Q (.bool true) h4)))) (r2 = .tuple ⟨[.pointer p, .bool false]⟩ ∧ okPtr h3 p none ∧ par ((p : Option Addr) = none) (Q (.bool false) h3) (Q (.bool false) h3)))) (Q (.bool true) h2)) (Q (.bool false) h1)
def F7.T (n : Int) (l : Sl) (l1 : Sl) : PT := F7.G F10.T F11.T F12.T F13.T F14.T F15.T F16.T F17.T F18.T F33.T F34.T n l l1
theorem F7.gen (V : Value → List Value → PT) (T10 : PT) (T11 : Sl → Sl → PT) (T12 : Int → Sl → PT) (T13 : Sl → Sl → PT) (T14 : Option Addr → PT) (T15 : Option Addr → PT) (T16 : Option Addr → Int → Sl → PT) (T17 : Option Addr → Int → Sl → PT) (T18 : Option Addr → PT) (T33 : Option Addr → Int → ByteArray → ByteArray → Sl → Int → Int → Int → Sl → PT) (T34 : Option Addr → PT) (n : Int) (l : Sl) (l1 : Sl) : denF Try.prog [] [(10, F10.W T10), (11, F11.W T11), (12, F12.W T12), (13, F13.W T13), (14, F14.W T14), (15, F15.W T15), (16, F16.W T16), (17, F17.W T17), (18, F18.W T18), (33, F33.W T33), (34, F34.W T34)] V F7.an Try.f7 [.v (.int .i64 n), .v (.slice l.a l.n l.c), .v (.slice l1.a l1.n l1.c)] = F7.G T10 T11 T12 T13 T14 T15 T16 T17 T18 T33 T34 n l l1 := by kernel_rfl
theorem F7.den (V : Value → List Value → PT) (n : Int) (l : Sl) (l1 : Sl) : denF Try.prog [] [(10, F10.V), (11, F11.V), (12, F12.V), (13, F13.V), (14, F14.V), (15, F15.V), (16, F16.V), (17, F17.V), (18, F18.V), (33, F33.V), (34, F34.V)] V F7.an Try.f7 [.v (.int .i64 n), .v (.slice l.a l.n l.c), .v (.slice l1.a l1.n l1.c)] = F7.T n l l1 := F7.gen V F10.T F11.T F12.T F13.T F14.T F15.T F16.T F17.T F18.T F33.T F34.T n l l1
def F7.W (T7 : Int → Sl → Sl → PT) (args : List Value) : PT := match args with
  | [.int .i64 n, .slice l_a l_n l_c, .slice l1_a l1_n l1_c] => T7 n ⟨l_a, l_n, l_c⟩ ⟨l1_a, l1_n, l1_c⟩
  | _ => fun _ _ => False
def F7.V : List Value → PT := F7.W F7.T
theorem F7.ok : FOk Try.prog 7 F7.V := by
  refine ⟨⟨_, Try.func7, rfl, rfl⟩, fun args => ?_⟩
  have hG : GOk Try.prog [(10, F10.V), (11, F11.V), (12, F12.V), (13, F13.V), (14, F14.V), (15, F15.V), (16, F16.V), (17, F17.V), (18, F18.V), (33, F33.V), (34, F34.V)] := GOk.cons F10.ok (GOk.cons F11.ok (GOk.cons F12.ok (GOk.cons F13.ok (GOk.cons F14.ok (GOk.cons F15.ok (GOk.cons F16.ok (GOk.cons F17.ok (GOk.cons F18.ok (GOk.cons F33.ok (GOk.cons F34.ok (GOk.nil)))))))))))
  have hV : VOk Try.prog noV := noV_ok
  unfold F7.V F7.W
  split
  · exact denF_okV hG hV Try.func7 (fun h Q hq => (F7.den _ _ _ _) ▸ hq)
  · exact fun h Q hq => hq.elim
end Go.Eng.Ytekflkpnpibneaa
end
section

/-
  SPECS OF THE DISK, 21: the law Looks.
-/
set_option linter.unusedSimpArgs false
set_option linter.unusedVariables false
set_option maxRecDepth 100000
namespace Go.Eng.Ytekflkpnpibneaa
section
variable {g h h' h1 h2 : Hp} {Q : Value → Hp → Prop} {A : PA} {B : RB} {S : Dk} {pb : Nat}
/-- Both tell what a fall would leave. -/
theorem image2 (X : PR g h pb A B S) (D : DOk S) (hcl : S.chg.length ≤ 1000000000) {dir : Int} {l : Sl} {keep : List Int} (hr : h.row l.a (l.n * 1) (keep.map fun k => Value.int .i64 k)) (hQ : ∀ h', PR g h' pb A B S → Keep h h' → Q (.bool true) h') :
    ∃ b o, (some ⟨pb, 0, none⟩ : Option Addr) = some ⟨b, o, none⟩ ∧ ∃ p1 : Option Addr, h.at b o = some (.pointer p1) ∧ ∃ b1 o1, (some ⟨pb, 0, none⟩ : Option Addr) = some ⟨b1, o1, none⟩ ∧ ∃ p2 : Option Addr, h.at b1 (o1 + 1) = some (.pointer p2) ∧ F16.T p1 dir l h fun r h1 => ∃ l1 : Sl, r = .slice l1.a l1.n l1.c ∧ h1.at b1 (o1 + 1) = some (.pointer p2) ∧ F17.T p2 dir l h1 fun r1 h2 => ∃ l2 : Sl, r1 = .slice l2.a l2.n l2.c ∧ F13.T l1 l2 h2 Q := by
  refine ⟨pb, 0, rfl, some ⟨A.db, 0, none⟩, at_of X.pbe 0, pb, 0, rfl, some ⟨B.db, 0, none⟩, at_of X.pbe 1, image_p X.P D hcl hr fun h6 r6 L6 K6 F6 e6 => ⟨r6, rfl, at_of (K6 _ _ X.pbe) 1, image_r (X.R.keep K6) D hcl (K6.row hr) fun h7 r7 L7 K7 F7 e7 => ⟨r7, rfl, sameF (F6.keep K7) F7 (e6.trans e7.symm) ?_ (by have h1 := congrArg List.length e6; have h2 := (image_ok D dir keep).1; simp only [List.length_map] at h1; omega)⟩⟩⟩
  exact hQ h7 (X.keep (K6.trans K7)) (K6.trans K7)
theorem row_ints {h : Hp} {b : Nat} (ks : List Int) (e : h b = some (.cells ⟨ks.map fun k => Value.int .i64 k⟩ 3 (0, 0))) : h.row (some ⟨b, 0, none⟩) (ks.length * 1) (ks.map fun k => Value.int .i64 k) := ⟨by simp, .inr ⟨b, 0, rfl, fun j hj => by
  rw [at_of e]
  simp⟩⟩
theorem looks_s {room : Int} {l l1 : Sl} {L : List (Sl × RawF)} {O : List OpR} (X : LA h room l L) (R1 : OA h l1 O) (hO : O.length ≤ 140737488355328) (hQ : ∀ h', Keep h h' → Q (.bool true) h') : F7.T room l l1 h Q := by
  have hlen := X.len
  unfold F7.T F7.G
  refine known_s fun h1 K1 => ⟨true, rfl, fun _ => ?_, fun e => (by cases e)⟩
  refine small_s (X.R.keep K1) (R1.keep K1) X.data (by omega) hO ⟨false, rfl, fun e => (by cases e), fun _ => hQ h1 K1⟩ (fun sL sO sn => ⟨true, rfl, fun _ => ⟨fun _ => hQ h1 K1, fun h80 => ?_⟩, fun e => (by cases e)⟩)
  refine begin_s (X.R.keep K1) X.room X.nm X.len (fun x hx => Nat.le_trans (sL x hx) (by decide)) (fun _ h3 K3 => ⟨none, true, fun _ => ⟨rfl, okPtr_none _ _, fun _ => hQ h3 (K1.trans K3), fun hne => absurd rfl hne⟩, fun e => (by cases e)⟩) (fun hnew h3 pb A B Y => ⟨some ⟨pb, 0, none⟩, true, fun _ => ⟨rfl, okPtr_none _ _, fun e => (by cases e), fun _ => ?_⟩, fun e => (by cases e)⟩)
  have D := newOk_dn hnew X.room
  rw [← fs_map] at D
  have hln := R1.len
  generalize fresh room (L.map fun x => x.2.f) = S0 at D Y
  refine ⟨fun n1 h4 => ∃ (k : Nat) (A : PA) (B : RB) (S : Dk), n1 = (k : Int) ∧ k ≤ O.length ∧ PR h1 h4 pb A B S ∧ DN k S, fun n1 _ => O.length - n1.toNat, ⟨0, A, B, _, rfl, Nat.zero_le _, Y, D⟩, ?_⟩
  rintro n1 h4 ⟨k, A', B', S, rfl, hk, Z, DZ⟩
  refine ⟨fun hlt => ?_, fun hge => hQ h4 (K1.trans Z.K)⟩
  refine ⟨fun h5 => ∃ (A : PA) (B : RB) (S : Dk), PR h1 h5 pb A B S ∧ DN (k + 1) S, ?_, ?_⟩
  · rintro h5 ⟨A2, B2, S2, Z2, D2⟩
    have hcl := nameOk_len D2 (by omega)
    refine ⟨fun n2 h6 => ∃ j : Nat, n2 = (j : Int) ∧ PR h1 h6 pb A2 B2 S2, fun n2 _ => 4 - n2.toNat, ⟨0, rfl, Z2⟩, ?_⟩
    rintro n2 h6 ⟨j, rfl, Z6⟩
    refine ⟨fun hj => ⟨by decide, fun b3 hb3 => ?_⟩, fun hj => ?_⟩
    · have Z7 := Z6.keep (Keep.new hb3 (.cells ⟨[.int .i64 (Int.tmod (k : Int) 3), .int .i64 (j : Int), .int .i64 1099511627776]⟩ 3 (0, 0)))
      refine image2 Z7 D2.ok hcl.1 (keep := [Int.tmod (k : Int) 3, (j : Int), 1099511627776]) (row_ints [Int.tmod (k : Int) 3, (j : Int), 1099511627776] (new_at _ _ _)) fun h8 Z8 _ => ⟨true, rfl, fun _ => ?_, fun e => (by cases e)⟩
      rw [inc_i (n := 1000) (by omega) (by omega)]
      exact ⟨⟨j + 1, rfl, Z8⟩, by dsimp only; omega⟩
    · refine image2 Z6 D2.ok hcl.1 (keep := []) ⟨rfl, .inl rfl⟩ fun h8 Z8 _ => ⟨true, rfl, fun _ => ?_, fun e => (by cases e)⟩
      refine ⟨pb, 0, rfl, some ⟨A2.db, 0, none⟩, at_of Z8.pbe 0, pb, 0, rfl, some ⟨B2.db, 0, none⟩, at_of Z8.pbe 1, fun b12 hb12 => ?_⟩
      have K9 := Keep.new hb12 (.cells ⟨[.int .i64 (-1)]⟩ 3 (0, 0))
      have Z9 := Z8.keep K9
      have hr9 := row_ints (h := h8.new b12 (.cells ⟨[.int .i64 (-1)]⟩ 3 (0, 0))) [-1] (new_at _ _ _)
      refine ⟨at_of Z9.pbe 0, at_of Z9.pbe 1, image_p (keep := [-1]) Z9.P D2.ok hcl.1 hr9 fun h13 r6 L6 K6 F6 e6 => ⟨r6, rfl, at_of (K6 _ _ Z9.pbe) 1, fun b13 hb13 => ?_⟩⟩
      have K10 := Keep.new hb13 (.cells ⟨[.int .i64 (-1)]⟩ 3 (0, 0))
      have Z10 := (Z9.keep K6).keep K10
      refine ⟨at_of Z10.pbe 1, image_r (keep := [-1]) Z10.R D2.ok hcl.1 (row_ints [-1] (new_at _ _ _)) fun h14 r7 L7 K7 F7 e7 => ⟨r7, rfl, sameF (F6.keep (K10.trans K7)) F7 (e6.trans e7.symm) ⟨true, rfl, fun _ => ?_, fun e => (by cases e)⟩ (by have h1 := congrArg List.length e6; have h2 := (image_ok D2.ok (-1) [-1]).1; simp only [List.length_map] at h1; omega)⟩⟩
      rw [inc_i (n := 1000) (by omega) (by omega)]
      exact ⟨⟨k + 1, A2, B2, S2, rfl, by omega, Z10.keep K7, D2⟩, by dsimp only; omega⟩
  have hget : O[k]? = some O[k] := List.getElem?_eq_getElem (by omega)
  generalize O[k] = x at hget
  have hm := List.mem_of_getElem? hget
  have R4 := (R1.keep K1).keep Z.K
  obtain ⟨b, o, ha, hr, hat⟩ := R4.at hget
  have hd := (R1.keep K1).d x hm
  have hz := R1.z x hm
  have hs := sO x hm
  refine ⟨b, o, ha, hr, x.o.kind, hat 0 (by omega), x.o.nm, hat 1 (by omega), x.o.to, hat 2 (by omega), x.d, hat 3 (by omega), x.o.a, hat 4 (by omega), x.o.b, hat 5 (by omega), x.o.c, hat 6 (by omega), x.k, hat 7 (by omega), ?_⟩
  refine does_p Z DZ (by omega) hz.1 hz.2.1 hd.1 hd.2.1 (by omega) hd.2.2 (by omega) fun h7 A2 B2 Z2 => ⟨true, rfl, fun _ => ?_, fun e => (by cases e)⟩
  have D2 : DN (k + 1) (kStep S ⟨x.o.kind, x.o.nm, x.o.to, x.o.data, x.o.a, x.o.b, x.o.c, x.o.keep⟩) := DN.step DZ hz.2.2.1 hz.2.2.2.1 hz.2.2.2.2.1
  generalize kStep S ⟨x.o.kind, x.o.nm, x.o.to, x.o.data, x.o.a, x.o.b, x.o.c, x.o.keep⟩ = S2 at Z2 D2
  refine files2 Z2 D2.ok fun h8 Z8 K8 => ⟨true, rfl, fun _ => ?_, fun e => (by cases e)⟩
  refine ⟨pb, 0, rfl, some ⟨A2.db, 0, none⟩, at_of Z8.pbe 0, pb, 0, rfl, some ⟨B2.db, 0, none⟩, at_of Z8.pbe 1, down_p Z8.P ⟨S2.down, rfl, fun ed => ⟨at_of Z8.pbe 1, fell_r Z8.R ⟨S2.down, rfl, fun _ => ⟨fun _ => ⟨_, _, _, Z8, D2⟩, fun hne => absurd rfl hne⟩, fun e => (by rw [ed] at e; cases e)⟩⟩, fun ed => ⟨at_of Z8.pbe 1, fell_r Z8.R ⟨S2.down, rfl, fun e => (by rw [ed] at e; cases e), fun _ => ⟨fun _ => ⟨_, _, _, Z8, D2⟩, fun hne => absurd rfl hne⟩⟩⟩⟩⟩
end
end Go.Eng.Ytekflkpnpibneaa
end
section
namespace Go.Proofs.Ytekflkpnpibneaa.diskLooks
open Go.ChangeShapes Go.WideShapes Go.ChangeAt Go.RowKit Go.Eng Go.Eng.Ytekflkpnpibneaa
set_option linter.unusedVariables false
theorem own : ownKnob Try.prog.godebug = none := by kernel_rfl
theorem laidOut : laidOutB Try.prog = true := by kernel_rfl
theorem walk {a1 a2 : Option Addr} {len1 cap1 len2 cap2 : Nat} {n : Int} {L : List (Sl × RawF)} {O : List OpR} {W : World} (X : LA (wh W) n ⟨a1, len1, cap1⟩ L) (R1 : OA (wh W) ⟨a2, len2, cap2⟩ O) (hO : O.length ≤ 140737488355328) :
    Calls Try.prog 7 #[.int .i64 n, .slice a1 len1 cap1, .slice a2 len2 cap2] W fun e W' => e = .returned (.bool true) ∧ Below W.heap.size W W' := by
  have hT : F7.T n ⟨a1, len1, cap1⟩ ⟨a2, len2, cap2⟩ (wh W) (fun v h' => v = .bool true ∧ Keep (wh W) h') := looks_s X R1 hO fun h' K => ⟨rfl, K⟩
  have hV : F7.V [.int .i64 n, .slice a1 len1 cap1, .slice a2 len2 cap2] (wh W) (fun v h' => v = .bool true ∧ Keep (wh W) h') := hT
  refine (F7.ok.2 _ (wh W) _ hV (fun _ => none) W (own_wh W)).mono fun e W' ⟨v, h', he, ho, hw, hv, K⟩ => ?_
  subst hv
  exact ⟨he, below_of hw ho K⟩
set_option maxRecDepth 100000 in
theorem lifted (os : Os) (started : os.Started) (H : Type) (enc : TypeId × Value → H) :
    ReturnsInHanded {} Try.checked os 7 .any (Rows.diskLooksSpec.pre6 enc Try.prog Try.f7 Rows.diskLooksRow.domain false) (Rows.diskLooksSpec.post enc Try.prog Try.f7 false true false false) := by
  refine returnsInHanded_of_change_sized (C := Try.checked) own started (by kernel_rfl) Try.func7
    (ChangeSpec.witness6 (enc := enc) (C := Try.checked) false ⟨#[], #[.int .i64 0, .slice none 0 0, .slice none 0 0], []⟩ 8 (by kernel_rfl) (by kernel_rfl) (by kernel_rfl) (by kernel_rfl)) ?_
  intro W base args ds gs before hval0 hW hcnd hsz0 _
  have hval : ∀ (j : Nat) t v, Try.f7.params[j]? = some t → args[j]? = some v → Value.okWide Try.prog W .any base t v := hval0
  have hsz : (DataW.weightsEach Try.prog (Try.f7.params.toList ++ Rows.diskLooksSpec.plain.varTypes Try.prog) (ds ++ gs)).all (· ≤ reachBytes) = true := hsz0
  have hW' := hW
  obtain ⟨p, q, hA0, hV, rfl, hfz, hnd⟩ := hW
  have hA : DataW.TrodAll enc Try.prog W 0 (fun _ => true) true Try.f7.params.toList args.toList ds p := hA0
  rw [Try.params7] at hA hval
  obtain ⟨v0, vs0, d0, ds0, p0, q0, hargs, rfl, rfl, h0, r0⟩ := trodAll_cons hA
  obtain ⟨v1, vs1, d1, ds1, p1, q1, rfl, rfl, rfl, h1, r1⟩ := trodAll_cons r0
  obtain ⟨v2, vs2, d2, ds2, p2, q2, rfl, rfl, rfl, h2, r2⟩ := trodAll_cons r1
  obtain ⟨rfl, rfl, rfl⟩ := trodAll_nil r2
  obtain rfl : args = #[v0, v1, v2] := by cases args; simp_all
  obtain ⟨rfl, rfl⟩ := trodVars_none hV
  obtain ⟨a0, rfl, rfl, rfl, w0⟩ := open_int Try.underlying3 (hval 0 3 v0 rfl rfl) h0
  obtain ⟨a1, len1, cap1, rfl⟩ := okWide_slice Try.underlying23 (hval 1 23 v1 rfl rfl)
  have k1 := h1
  have lt1 : ∀ x ∈ p1, x.block < W.heap.size := by obtain ⟨m, hm⟩ := k1; exact DataW.trod_lt m _ _ _ hm
  have wb1 : WB Try.prog 23 d1 := wb_arg (j := 1) hsz rfl rfl
  obtain ⟨a2, len2, cap2, rfl⟩ := okWide_slice Try.underlying36 (hval 2 36 v2 rfl rfl)
  have k2 := h2
  have lt2 : ∀ x ∈ p2, x.block < W.heap.size := by obtain ⟨m, hm⟩ := k2; exact DataW.trod_lt m _ _ _ hm
  have wb2 : WB Try.prog 36 d2 := wb_arg (j := 2) hsz rfl rfl
  obtain ⟨L, X⟩ : ∃ L, LA (wh W) a0 ⟨a1, len1, cap1⟩ L := by obtain ⟨m, hm⟩ := k1; exact open_files hm wb1 (by have := wf_i64 w0; unfold iI at this; omega)
  obtain ⟨O, R1, hO⟩ : ∃ O, OA (wh W) ⟨a2, len2, cap2⟩ O ∧ O.length ≤ 140737488355328 := by obtain ⟨m, hm⟩ := k2; exact open_ops hm wb2
  clear hA0 hval0 hsz0
  refine (walk X R1 hO).mono fun e W' ⟨he, bel⟩ => ?_
  subst he
  exact ⟨_, rfl, _, _, _, [], _, [], hW', trodAll_mk1 (shut_bool Try.underlying4 _), (trodAll_cons_mk (shut_int Try.underlying3 w0) (trodAll_cons_mk (Below.trod laidOut (by kernel_rfl) (of_decide_eq_true (by kernel_rfl)) k1 bel lt1) (trodAll_cons_mk (Below.trod laidOut (by kernel_rfl) (of_decide_eq_true (by kernel_rfl)) k2 bel lt2) ( trodAll_mk0)))), rfl, bel.frame _, fun h => by cases h⟩
theorem over : Rows.diskLooksRow.holds Try.pinned (OpenSpec.ofChange Rows.diskLooksSpec) :=
  OpenClaim.holds_of_wide 7 Try.f7 rfl rfl rfl rfl rfl rfl rfl ⟨rfl, rfl, rfl, rfl, rfl⟩ rfl rfl rfl rfl rfl (by kernel_rfl) Try.func7 (by kernel_rfl)
    (of_decide_eq_true (by kernel_rfl)) (by unfold Func.isWrapper; first | (rw [if_pos (by decide +kernel)]; kernel_rfl) | (rw [if_neg (by decide +kernel)]; exact ⟨rfl, rfl⟩))
    (fun os started H enc _ => lifted os started H enc)
theorem proved : Rows.DiskLooksSaid := over
#print axioms proved
end Go.Proofs.Ytekflkpnpibneaa.diskLooks
end
