
/-
  Proved: the law DiskNews answers true, whatever it is handed, and what it was handed reads behind the call as it read before. No condition.
-/
import Derived.Test.YtekflkpnpibneaaK4
import Derived.WalkKit
import Derived.Test.YtekflkpnpibneaaK3
import Derived.Test.YtekflkpnpibneaaK2
import Derived.Test.YtekflkpnpibneaaProg
import Derived.ChangeSlices
import Derived.SizedLaws
import Derived.Below
import Derived.Test.YtekflkpnpibneaaRows
import Derived.ProofKit
import Derived.OpenShut
import Derived.ShutString
import Derived.ChangeOld
section

/-
  SPECS OF THE DISK, 17: the document's two examples, run.
-/
set_option linter.unusedSimpArgs false
set_option linter.unusedVariables false
set_option maxRecDepth 100000
open Go.Proofs
namespace Go.Eng.Ytekflkpnpibneaa
def xa : ByteArray := ByteArray.mk #[97]
def xx : ByteArray := ByteArray.mk #[120]
def xy : ByteArray := ByteArray.mk #[121]
def sa0 : Dk := fresh 0 []
def sa1 : Dk := (kCreate sa0 xa).2
def sa2 : Dk := (kAppend sa1 xa [120, 121, 122]).2
def sa3 : Dk := (kSync sa2 xa).2
def sa4 : Dk := (kAppend sa3 xa [117, 118]).2
def sb1 : Dk := kFail sa0 1 2 2
def sb2 : Dk := (kCreate sb1 xx).2
def sb3 : Dk := (kAppend sb2 xx [49, 50, 51, 52, 53]).2
def sb4 : Dk := (kDelete sb3 xy).2
def sb5 : Dk := (kDelete sb4 xy).2
theorem ra1 : (kCreate sa0 xa).1 = 0 := by kernel_rfl
theorem ra2 : (kAppend sa1 xa [120, 121, 122]).1 = 0 := by kernel_rfl
theorem ra3 : (kSync sa2 xa).1 = 0 := by kernel_rfl
theorem ra4 : (kAppend sa3 xa [117, 118]).1 = 0 := by kernel_rfl
theorem ra5 : dtold sa4 sa4.now = [⟨xa, [120, 121, 122, 117, 118], 3⟩] := by kernel_rfl
theorem ra6 : kImage sa4 0 [] = [] := by kernel_rfl
theorem ra7 : kImage sa4 1 [1] = [⟨xa, [120, 121, 122, 117], 4⟩] := by kernel_rfl
theorem rb2 : (kCreate sb1 xx).1 = 0 := by kernel_rfl
theorem rb3 : (kAppend sb2 xx [49, 50, 51, 52, 53]).1 = 31 := by kernel_rfl
theorem rb4 : (kDelete sb3 xy).1 = 31 := by kernel_rfl
theorem rb5 : (kDelete sb4 xy).1 = 34 := by kernel_rfl
theorem rb6 : kRead sb5 xx = (0, [49, 50]) := by kernel_rfl
theorem rn0 : newOk 0 [] = true := by kernel_rfl
theorem da0 : DN 0 sa0 := fresh_ok ⟨Int.le_refl _, by decide⟩ (by simp) (fun f hf => by cases hf) (fun f hf => by cases hf)
theorem da1 : DN 1 sa1 := da0.create xa
theorem da2 : DN 1 sa2 := da1.append xa _
theorem da3 : DN 1 sa3 := da2.sync xa
theorem da4 : DN 1 sa4 := da3.append xa _
theorem db1 : DN 0 sb1 := da0.fail (by decide) (by decide) (by decide)
theorem db2 : DN 1 sb2 := db1.create xx
theorem db3 : DN 1 sb3 := db2.append xx _
theorem db4 : DN 2 sb4 := db3.delete xy
theorem db5 : DN 3 sb5 := db4.delete xy
section
variable {g h h' h1 h2 : Hp} {A : PA} {S : Dk} {Q : Value → Hp → Prop}
/-- The program's disk, new since g. -/
structure PN (g h : Hp) (A : PA) (S : Dk) : Prop where
  P : PD h A S
  K : Keep g h
  n : ∀ k, A.own k → g k = none
theorem PN.keep (X : PN g h A S) (K : Keep h h') : PN g h' A S := ⟨X.P.keep K, X.K.trans K, X.n⟩
theorem PN.step {A' : PA} {S' : Dk} (X : PN g h A S) (P' : PD h1 A' S') (T : Tr2 A.own A'.own h h1) : PN g h1 A' S' := ⟨P', T.base X.K X.n, T.newer X.K X.n⟩
theorem lit_append {s : ByteArray} {v : List UInt8} (X : PN g h A S) (D : DOk S) (hs : s.size ≤ 9223372036854775807) (hv : v.length ≤ 1073741824)
    (hQ : ∀ h' A', A'.db = A.db → PN g h' A' (kAppend S s v).2 → Q (.int .i64 (kAppend S s v).1) h') : ∀ b1, h b1 = none → ∃ cs t, (h.new b1 (.cells ⟨bl v⟩ 5 (0, 0))) b1 = some (.cells cs t (0, 0)) ∧ F22.T (some ⟨A.db, 0, none⟩) s ⟨(some ⟨b1, 0, none⟩), v.length, v.length⟩ ((h.new b1 (.cells ⟨bl v⟩ 5 (0, 0))).new b1 (.cells cs t (cs.size, cs.size + 1))) Q := by
  intro b1 hb
  refine ⟨_, _, new_at _ _ _, ?_⟩
  rw [new_new]
  have K := Keep.new hb (.cells ⟨bl v⟩ 5 ((⟨bl v⟩ : Array Value).size, (⟨bl v⟩ : Array Value).size + 1))
  have hx := new_at h b1 (.cells ⟨bl v⟩ 5 ((⟨bl v⟩ : Array Value).size, (⟨bl v⟩ : Array Value).size + 1))
  have X1 := X.keep K
  refine append_p X1.P D hs ⟨by rw [bl_len]; simp, Nat.le_refl _, .inr ⟨b1, _, _, rfl, hx, by simp [bl_len], fun j hj => by omega, ?_⟩⟩ (fun k hk ho => ?_) hv fun h' A' eA P' T => hQ h' A' eA (X1.step P' T)
  · show (bl v).take (bl v).length = _
    exact List.take_length
  · obtain ⟨o, ho'⟩ := hk
    simp only [Option.some.injEq, Addr.mk.injEq, and_true] at ho'
    obtain ⟨o2, e⟩ := X.P.alive ho
    rw [← ho'.1, hb] at e; cases e
theorem one_list {L : List (Sl × FileR)} {f : FileR} (e : L.map (·.2) = [f]) : ∃ d, L = [(d, f)] := by
  rcases L with _ | ⟨⟨d, x⟩, _ | ⟨y, L⟩⟩
  · cases e
  · simp at e; exact ⟨d, by rw [e]⟩
  · simp at e
theorem known_s (hQ : ∀ h', Keep h h' → Q (.bool true) h') : F10.T h Q := by
  have R0 : ∀ h : Hp, RA h ⟨none, 0, 0⟩ [] := fun h => ⟨⟨rfl, .inl rfl⟩, fun x hx => by cases hx⟩
  unfold F10.T F10.G
  refine new_p (R0 h) (by decide) (fun x hx => by cases hx) (fun hno => by rw [show newOk 0 (([] : List (Sl × RawF)).map (·.2)) = true from rn0] at hno; cases hno) (fun _ h1 A K1 n1 P1 => ⟨_, 0, rfl, okPtr_none _ _, fun he => (by cases he), fun _ => ⟨fun _ => ?_, fun hne => absurd rfl hne⟩⟩)
  have X1 : PN h h1 A sa0 := ⟨P1, K1, n1⟩
  refine down_p X1.P ⟨false, rfl, fun he => (by cases he), fun _ => ?_⟩
  refine create_p X1.P da0.ok (by decide) (by decide) fun h2 A2 e2 P2 T2 => ⟨_, rfl, fun _ => ?_, fun hne => absurd ra1 hne⟩
  have X2 : PN h h2 A2 sa1 := X1.step P2 T2
  rw [← e2]
  refine lit_append (v := [120, 121, 122]) X2 da1.ok (by decide) (by decide) fun h3 A3 e3 X3 => ⟨_, rfl, fun _ => ?_, fun hne => absurd ra2 hne⟩
  have X3 : PN h h3 A3 sa2 := X3
  rw [← e3]
  refine sync_p X3.P da2.ok (by decide) fun h4 A4 e4 P4 T4 => ⟨_, rfl, fun _ => ?_, fun hne => absurd ra3 hne⟩
  have X4 : PN h h4 A4 sa3 := X3.step P4 T4
  rw [← e4]
  refine lit_append (v := [117, 118]) X4 da3.ok (by decide) (by decide) fun h5 A5 e5 X5 => ⟨_, rfl, fun _ => ?_, fun hne => absurd ra4 hne⟩
  have X5 : PN h h5 A5 sa4 := X5
  rw [← e5]
  refine files_p X5.P da4.ok fun h6 r6 L6 K6 F6 q6 => ⟨r6, rfl, ?_⟩
  have X6 := X5.keep K6
  rw [ra5] at q6
  obtain ⟨d6, rfl⟩ := one_list q6
  have n6 := F6.len
  have bd6 := (F6.d _ (List.mem_singleton.2 rfl)).1
  obtain ⟨b6, ha6, hr6, g0, g1, g2, _⟩ := rec_at (L1 := []) F6.b
  refine ⟨fun _ => ⟨b6, 0, ha6, hr6, xa, g0, fun _ => ⟨b6, 0, ha6, hr6, d6, g1, ba [120, 121, 122, 117, 118], row1 bd6.row, fun _ => ⟨b6, 0, ha6, hr6, 3, g2, fun _ => ?_, fun hne => absurd rfl hne⟩, fun hne => absurd rfl hne⟩, fun hne => absurd rfl hne⟩, fun hne => absurd (by rw [n6]; rfl) hne⟩
  refine image_p (keep := []) X6.P da4.ok (by have := da4.c; omega) ⟨rfl, .inl rfl⟩ fun h7 r7 L7 K7 F7 q7 => ⟨r7, rfl, ?_⟩
  have X7 := X6.keep K7
  rw [ra6] at q7
  have n7 := F7.len
  have hL7 : L7 = [] := by simpa using q7
  refine ⟨fun _ b8 hb8 => ?_, fun hne => absurd (by rw [n7, hL7]; rfl) hne⟩
  have K8 := Keep.new hb8 (.cells ⟨[.int .i64 1]⟩ 3 (0, 0))
  have hx8 := new_at h7 b8 (.cells ⟨[.int .i64 1]⟩ 3 (0, 0))
  have X8 := X7.keep K8
  refine image_p (keep := [1]) X8.P da4.ok (by have := da4.c; omega) ⟨rfl, .inr ⟨b8, 0, rfl, fun j hj => ?_⟩⟩ fun h9 r9 L9 K9 F9 q9 => ⟨r9, rfl, ?_⟩
  · have : j = 0 := by (try dsimp only at hj); omega
    subst this
    exact at_of hx8 0
  have X9 := X8.keep K9
  rw [ra7] at q9
  obtain ⟨d9, rfl⟩ := one_list q9
  have n9 := F9.len
  have bd9 := (F9.d _ (List.mem_singleton.2 rfl)).1
  obtain ⟨b9, ha9, hr9, g3, g4, g5, _⟩ := rec_at (L1 := []) F9.b
  refine ⟨fun _ => ⟨b9, 0, ha9, hr9, d9, g4, ba [120, 121, 122, 117], row1 bd9.row, fun _ => ⟨b9, 0, ha9, hr9, 4, g5, fun _ => ?_, fun hne => absurd rfl hne⟩, fun hne => absurd rfl hne⟩, fun hne => absurd (by rw [n9]; rfl) hne⟩
  refine new_p (R0 h9) (by decide) (fun x hx => by cases hx) (fun hno => by rw [show newOk 0 (([] : List (Sl × RawF)).map (·.2)) = true from rn0] at hno; cases hno) (fun _ k1 C kk1 m1 y1 => ⟨_, 0, rfl, okPtr_none _ _, fun he => (by cases he), fun _ => ⟨fun _ => ?_, fun hne => absurd rfl hne⟩⟩)
  have Y1 : PN h k1 C sa0 := ⟨y1, X9.K.trans kk1, fun k hk => X9.K.dom k (m1 k hk)⟩
  refine fail_p Y1.P fun k2 y2 t2 => ?_
  have Y2 : PN h k2 C sb1 := Y1.step y2 t2
  refine create_p Y2.P db1.ok (by decide) (by decide) fun k3 C3 c3 y3 t3 => ⟨_, rfl, fun _ => ?_, fun hne => absurd rb2 hne⟩
  have Y3 : PN h k3 C3 sb2 := Y2.step y3 t3
  rw [← c3]
  refine lit_append (v := [49, 50, 51, 52, 53]) Y3 db2.ok (by decide) (by decide) fun k4 C4 c4 Y4 => ⟨_, rfl, fun _ => ?_, fun hne => absurd rb3 hne⟩
  have Y4 : PN h k4 C4 sb3 := Y4
  rw [← c4]
  refine delete_p Y4.P db3.ok (by decide) (by have := db3.c; omega) fun k5 C5 c5 y5 t5 => ⟨_, rfl, fun _ => ?_, fun hne => absurd rb4 hne⟩
  have Y5 : PN h k5 C5 sb4 := Y4.step y5 t5
  rw [← c5]
  refine delete_p Y5.P db4.ok (by decide) (by have := db4.c; omega) fun k6 C6 c6 y6 t6 => ⟨_, rfl, fun _ => ?_, fun hne => absurd rb5 hne⟩
  have Y6 : PN h k6 C6 sb5 := Y5.step y6 t6
  rw [← c6]
  refine read_p (s := xx) Y6.P db5.ok (by decide) fun k7 r7 kk7 b7 _ => ⟨r7, _, rfl, fun _ => ⟨ba [49, 50], ?_, fun _ => hQ k7 (Y6.K.trans kk7), fun hne => absurd rfl hne⟩, fun hne => absurd (by rw [rb6]) hne⟩
  rw [rb6] at b7
  exact row1 b7.row
end
end Go.Eng.Ytekflkpnpibneaa
end
section

set_option maxRecDepth 100000
set_option linter.unusedVariables false
open Go.Proofs
namespace Go.Eng.Ytekflkpnpibneaa
def F4.an : List (Nat × Ann) := [(126, .order [0, 1, 2, 3, 5, 6, 7, 8, 4, 9, 10, 11, 12, 13, 14, 15, 17, 18, 19, 20, 16, 21, 22, 23, 24, 25, 26, 27, 28, 29, 30, 31, 32])]
def F4.G (T10 : PT) (T11 : Sl → Sl → PT) (T12 : Int → Sl → PT) (T13 : Sl → Sl → PT) (T14 : Option Addr → PT) (T15 : Option Addr → PT) (T16 : Option Addr → Int → Sl → PT) (T17 : Option Addr → Int → Sl → PT) (T18 : Option Addr → PT) (n : Int) (l : Sl) : PT := fun h Q =>
  T10 h fun r h1 => ∃ b : Bool, r = .bool b ∧ parB b (T11 l ⟨none, 0, 0⟩ h1 fun r1 h2 => ∃ b1 : Bool, r1 = .bool b1 ∧ parB b1 (T12 n l h2 fun r2 h3 => ∃ p : Option Addr, ∃ b2 : Bool, parB b2 (r2 = .tuple ⟨[.pointer p, .bool true]⟩ ∧ okPtr h3 p none ∧ par ((p : Option Addr) = none) (Q (.bool true) h3) (∃ b3 o, (p : Option Addr) = some ⟨b3, o, none⟩ ∧ ∃ p1 : Option Addr, h3.at b3 o = some (.pointer p1) ∧ ∃ b4 o1, (p : Option Addr) = some ⟨b4, o1, none⟩ ∧ ∃ p2 : Option Addr, h3.at b4 (o1 + 1) = some (.pointer p2) ∧ T14 p1 h3 fun r3 h4 => ∃ l1 : Sl, r3 = .slice l1.a l1.n l1.c ∧ h4.at b4 (o1 + 1) = some (.pointer p2) ∧ T15 p2 h4 fun r4 h5 => ∃ l2 : Sl, r4 = .slice l2.a l2.n l2.c ∧ T13 l1 l2 h5 fun r5 h6 => ∃ b5 : Bool, r5 = .bool b5 ∧ parB b5 (∃ b6 o2, (p : Option Addr) = some ⟨b6, o2, none⟩ ∧ ∃ p3 : Option Addr, h6.at b6 o2 = some (.pointer p3) ∧ ∃ b7 o3, (p : Option Addr) = some ⟨b7, o3, none⟩ ∧ ∃ p4 : Option Addr, h6.at b7 (o3 + 1) = some (.pointer p4) ∧ T16 p3 0 ⟨none, 0, 0⟩ h6 fun r6 h7 => ∃ l3 : Sl, r6 = .slice l3.a l3.n l3.c ∧ h7.at b7 (o3 + 1) = some (.pointer p4) ∧ T17 p4 0 ⟨none, 0, 0⟩ h7 fun r7 h8 => ∃ l4 : Sl, r7 = .slice l4.a l4.n l4.c ∧ T13 l3 l4 h8 fun r8 h9 => ∃ b8 : Bool, r8 = .bool b8 ∧ parB b8 (∃ b9 o4, (p : Option Addr) = some ⟨b9, o4, none⟩ ∧ ∃ p5 : Option Addr, h9.at b9 o4 = some (.pointer p5) ∧ T18 p5 h9 fun r9 h10 => ∃ b10 : Bool, r9 = .bool b10 ∧ parB b10 (Q (.bool false) h10) (Q (.bool true) h10)) (Q (.bool false) h9)) (Q (.bool false) h6))) (r2 = .tuple ⟨[.pointer p, .bool false]⟩ ∧ okPtr h3 p none ∧ par ((p : Option Addr) = none) (Q (.bool false) h3) (Q (.bool false) h3))) (Q (.bool true) h2)) (Q (.bool false) h1)
def F4.T (n : Int) (l : Sl) : PT := F4.G F10.T F11.T F12.T F13.T F14.T F15.T F16.T F17.T F18.T n l
theorem F4.gen (V : Value → List Value → PT) (T10 : PT) (T11 : Sl → Sl → PT) (T12 : Int → Sl → PT) (T13 : Sl → Sl → PT) (T14 : Option Addr → PT) (T15 : Option Addr → PT) (T16 : Option Addr → Int → Sl → PT) (T17 : Option Addr → Int → Sl → PT) (T18 : Option Addr → PT) (n : Int) (l : Sl) : denF Try.prog [] [(10, F10.W T10), (11, F11.W T11), (12, F12.W T12), (13, F13.W T13), (14, F14.W T14), (15, F15.W T15), (16, F16.W T16), (17, F17.W T17), (18, F18.W T18)] V F4.an Try.f4 [.v (.int .i64 n), .v (.slice l.a l.n l.c)] = F4.G T10 T11 T12 T13 T14 T15 T16 T17 T18 n l := by kernel_rfl
theorem F4.den (V : Value → List Value → PT) (n : Int) (l : Sl) : denF Try.prog [] [(10, F10.V), (11, F11.V), (12, F12.V), (13, F13.V), (14, F14.V), (15, F15.V), (16, F16.V), (17, F17.V), (18, F18.V)] V F4.an Try.f4 [.v (.int .i64 n), .v (.slice l.a l.n l.c)] = F4.T n l := F4.gen V F10.T F11.T F12.T F13.T F14.T F15.T F16.T F17.T F18.T n l
def F4.W (T4 : Int → Sl → PT) (args : List Value) : PT := match args with
  | [.int .i64 n, .slice l_a l_n l_c] => T4 n ⟨l_a, l_n, l_c⟩
  | _ => fun _ _ => False
def F4.V : List Value → PT := F4.W F4.T
theorem F4.ok : FOk Try.prog 4 F4.V := by
  refine ⟨⟨_, Try.func4, rfl, rfl⟩, fun args => ?_⟩
  have hG : GOk Try.prog [(10, F10.V), (11, F11.V), (12, F12.V), (13, F13.V), (14, F14.V), (15, F15.V), (16, F16.V), (17, F17.V), (18, F18.V)] := GOk.cons F10.ok (GOk.cons F11.ok (GOk.cons F12.ok (GOk.cons F13.ok (GOk.cons F14.ok (GOk.cons F15.ok (GOk.cons F16.ok (GOk.cons F17.ok (GOk.cons F18.ok (GOk.nil)))))))))
  have hV : VOk Try.prog noV := noV_ok
  unfold F4.V F4.W
  split
  · exact denF_okV hG hV Try.func4 (fun h Q hq => (F4.den _ _ _) ▸ hq)
  · exact fun h Q hq => hq.elim
def F6.an : List (Nat × Ann) := [(506, .loop [(10, .int .i64)] [])]
def F6.G (T10 : PT) (T11 : Sl → Sl → PT) (T12 : Int → Sl → PT) (T33 : Option Addr → Int → ByteArray → ByteArray → Sl → Int → Int → Int → Sl → PT) (n : Int) (l : Sl) (l1 : Sl) : PT := fun h Q =>
  T10 h fun r h1 => ∃ b : Bool, r = .bool b ∧ parB b (T11 l l1 h1 fun r1 h2 => ∃ b1 : Bool, r1 = .bool b1 ∧ parB b1 (T12 n l h2 fun r2 h3 => ∃ p : Option Addr, ∃ b2 : Bool, parB b2 (r2 = .tuple ⟨[.pointer p, .bool true]⟩ ∧ okPtr h3 p none ∧ par ((p : Option Addr) = none) (Q (.bool true) h3) (∃ (I : Int → Hp → Prop) (m : Int → Hp → Nat), I 0 h3 ∧ (∀ n1 : Int, ∀ h4 : Hp, I n1 h4 → par (n1 < (l1.n : Int)) (∃ b3 o, (l1.a : Option Addr) = some ⟨b3, o, none⟩ ∧ ((0 : Int) ≤ n1 ∧ n1 < (l1.n : Int)) ∧ ∃ n2 : Int, h4.at b3 (o + n1.toNat * 8) = some (.int .i64 n2) ∧ ∃ s : ByteArray, h4.at b3 ((o + n1.toNat * 8) + 1) = some (.string s) ∧ ∃ s1 : ByteArray, h4.at b3 ((o + n1.toNat * 8) + 2) = some (.string s1) ∧ ∃ l2 : Sl, h4.at b3 ((o + n1.toNat * 8) + 3) = some (.slice l2.a l2.n l2.c) ∧ ∃ n3 : Int, h4.at b3 ((o + n1.toNat * 8) + 4) = some (.int .i64 n3) ∧ ∃ n4 : Int, h4.at b3 ((o + n1.toNat * 8) + 5) = some (.int .i64 n4) ∧ ∃ n5 : Int, h4.at b3 ((o + n1.toNat * 8) + 6) = some (.int .i64 n5) ∧ ∃ l3 : Sl, h4.at b3 ((o + n1.toNat * 8) + 7) = some (.slice l3.a l3.n l3.c) ∧ T33 p n2 s s1 l2 n3 n4 n5 l3 h4 fun r3 h5 => ∃ b4 : Bool, r3 = .bool b4 ∧ parB b4 (I (IntKind.wrap .i64 (n1 + 1)) h5 ∧ m (IntKind.wrap .i64 (n1 + 1)) h5 < m n1 h4) (Q (.bool false) h5)) (Q (.bool true) h4)))) (r2 = .tuple ⟨[.pointer p, .bool false]⟩ ∧ okPtr h3 p none ∧ par ((p : Option Addr) = none) (Q (.bool false) h3) (Q (.bool false) h3))) (Q (.bool true) h2)) (Q (.bool false) h1)
def F6.T (n : Int) (l : Sl) (l1 : Sl) : PT := F6.G F10.T F11.T F12.T F33.T n l l1
def F6.W (T6 : Int → Sl → Sl → PT) (args : List Value) : PT := match args with
  | [.int .i64 n, .slice l_a l_n l_c, .slice l1_a l1_n l1_c] => T6 n ⟨l_a, l_n, l_c⟩ ⟨l1_a, l1_n, l1_c⟩
  | _ => fun _ _ => False
def F6.V : List Value → PT := F6.W F6.T
def F8.an : List (Nat × Ann) := [(2042, .loop [(12, .int .i64)] []), (2044, .order [0, 1, 2, 3, 5, 6, 7, 8, 4, 9, 10, 11]), (8190, .order [0, 1, 2, 3, 4, 5, 6, 7, 8, 9, 10, 12, 13, 14, 15, 11, 16, 17, 18, 19, 20, 21, 22, 23, 25, 26, 27, 28, 24, 29, 30, 31, 32]), (261414, .order [0, 1, 2, 3, 4, 5, 6, 7, 8, 10, 11, 12, 13, 9, 14, 15, 16])]
def F8.G (T10 : PT) (T11 : Sl → Sl → PT) (T12 : Int → Sl → PT) (T13 : Sl → Sl → PT) (T14 : Option Addr → PT) (T15 : Option Addr → PT) (T18 : Option Addr → PT) (T20 : Option Addr → ByteArray → PT) (T32 : Option Addr → Int → Sl → PT) (T33 : Option Addr → Int → ByteArray → ByteArray → Sl → Int → Int → Int → Sl → PT) (T34 : Option Addr → PT) (T35 : Option Addr → Int → PT) (T36 : Option Addr → Int → PT) (T37 : Option Addr → Int → Sl → PT) (T38 : Option Addr → ByteArray → PT) (n : Int) (l : Sl) (l1 : Sl) (n1 : Int) : PT := fun h Q =>
  T10 h fun r h1 => ∃ b : Bool, r = .bool b ∧ parB b (T11 l l1 h1 fun r1 h2 => ∃ b1 : Bool, r1 = .bool b1 ∧ parB b1 (par ((60 : Int) < (l1.n : Int)) (Q (.bool true) h2) (T12 n l h2 fun r2 h3 => ∃ p : Option Addr, ∃ b2 : Bool, parB b2 (r2 = .tuple ⟨[.pointer p, .bool true]⟩ ∧ okPtr h3 p none ∧ par ((p : Option Addr) = none) (Q (.bool true) h3) (∃ b3 o, (p : Option Addr) = some ⟨b3, o, none⟩ ∧ ∃ p1 : Option Addr, h3.at b3 o = some (.pointer p1) ∧ T35 p1 n1 h3 fun r3 h4 => ∃ b4 o1, (p : Option Addr) = some ⟨b4, o1, none⟩ ∧ ∃ p2 : Option Addr, h4.at b4 (o1 + 1) = some (.pointer p2) ∧ T36 p2 n1 h4 fun r4 h5 => ∃ (I : Int → Hp → Prop) (m : Int → Hp → Nat), I 0 h5 ∧ (∀ n2 : Int, ∀ h6 : Hp, I n2 h6 → par (n2 < (l1.n : Int)) (∃ b5 o2, (l1.a : Option Addr) = some ⟨b5, o2, none⟩ ∧ ((0 : Int) ≤ n2 ∧ n2 < (l1.n : Int)) ∧ ∃ n3 : Int, h6.at b5 (o2 + n2.toNat * 8) = some (.int .i64 n3) ∧ ∃ s : ByteArray, h6.at b5 ((o2 + n2.toNat * 8) + 1) = some (.string s) ∧ ∃ s1 : ByteArray, h6.at b5 ((o2 + n2.toNat * 8) + 2) = some (.string s1) ∧ ∃ l2 : Sl, h6.at b5 ((o2 + n2.toNat * 8) + 3) = some (.slice l2.a l2.n l2.c) ∧ ∃ n4 : Int, h6.at b5 ((o2 + n2.toNat * 8) + 4) = some (.int .i64 n4) ∧ ∃ n5 : Int, h6.at b5 ((o2 + n2.toNat * 8) + 5) = some (.int .i64 n5) ∧ ∃ n6 : Int, h6.at b5 ((o2 + n2.toNat * 8) + 6) = some (.int .i64 n6) ∧ ∃ l3 : Sl, h6.at b5 ((o2 + n2.toNat * 8) + 7) = some (.slice l3.a l3.n l3.c) ∧ par (n3 = 10) (I (IntKind.wrap .i64 (n2 + 1)) h6 ∧ m (IntKind.wrap .i64 (n2 + 1)) h6 < m n2 h6) (par (n3 = 11) (I (IntKind.wrap .i64 (n2 + 1)) h6 ∧ m (IntKind.wrap .i64 (n2 + 1)) h6 < m n2 h6) (T33 p n3 s s1 l2 n4 n5 n6 l3 h6 fun r5 h7 => ∃ b6 : Bool, r5 = .bool b6 ∧ parB b6 (∃ b7 o3, (p : Option Addr) = some ⟨b7, o3, none⟩ ∧ ∃ p3 : Option Addr, h7.at b7 o3 = some (.pointer p3) ∧ ∃ b8 o4, (p : Option Addr) = some ⟨b8, o4, none⟩ ∧ ∃ p4 : Option Addr, h7.at b8 (o4 + 1) = some (.pointer p4) ∧ T18 p3 h7 fun r6 h8 => ∃ b9 : Bool, r6 = .bool b9 ∧ parB b9 (h8.at b8 (o4 + 1) = some (.pointer p4) ∧ T34 p4 h8 fun r7 h9 => ∃ b10 : Bool, r7 = .bool b10 ∧ parB b10 (par ((true : Bool) = true) (I (IntKind.wrap .i64 (n2 + 1)) h9 ∧ m (IntKind.wrap .i64 (n2 + 1)) h9 < m n2 h6) (Q (.bool false) h9)) (par ((true : Bool) = false) (I (IntKind.wrap .i64 (n2 + 1)) h9 ∧ m (IntKind.wrap .i64 (n2 + 1)) h9 < m n2 h6) (Q (.bool false) h9))) (h8.at b8 (o4 + 1) = some (.pointer p4) ∧ T34 p4 h8 fun r8 h10 => ∃ b11 : Bool, r8 = .bool b11 ∧ parB b11 (par ((false : Bool) = true) (I (IntKind.wrap .i64 (n2 + 1)) h10 ∧ m (IntKind.wrap .i64 (n2 + 1)) h10 < m n2 h6) (Q (.bool false) h10)) (par ((false : Bool) = false) (I (IntKind.wrap .i64 (n2 + 1)) h10 ∧ m (IntKind.wrap .i64 (n2 + 1)) h10 < m n2 h6) (Q (.bool false) h10)))) (Q (.bool false) h7)))) (∃ b12 o5, (p : Option Addr) = some ⟨b12, o5, none⟩ ∧ ∃ p5 : Option Addr, h6.at b12 o5 = some (.pointer p5) ∧ ∃ b13 o6, (p : Option Addr) = some ⟨b13, o6, none⟩ ∧ ∃ p6 : Option Addr, h6.at b13 (o6 + 1) = some (.pointer p6) ∧ T14 p5 h6 fun r9 h11 => ∃ l4 : Sl, r9 = .slice l4.a l4.n l4.c ∧ h11.at b13 (o6 + 1) = some (.pointer p6) ∧ T15 p6 h11 fun r10 h12 => ∃ l5 : Sl, r10 = .slice l5.a l5.n l5.c ∧ T13 l4 l5 h12 fun r11 h13 => ∃ b14 : Bool, r11 = .bool b14 ∧ parB b14 (∃ b15 o7, (p : Option Addr) = some ⟨b15, o7, none⟩ ∧ ∃ p7 : Option Addr, h13.at b15 o7 = some (.pointer p7) ∧ ∀ b16, h13 b16 = none → T32 p7 2 ⟨(some ⟨b16, 0, none⟩), 2, 2⟩ (h13.new b16 (.cells ⟨[.int .i64 3, .int .i64 0]⟩ 3 (0, 0))) fun r12 h14 => ∃ b17 o8, (p : Option Addr) = some ⟨b17, o8, none⟩ ∧ ∃ p8 : Option Addr, h14.at b17 (o8 + 1) = some (.pointer p8) ∧ ∀ b18, h14 b18 = none → T37 p8 2 ⟨(some ⟨b18, 0, none⟩), 2, 2⟩ (h14.new b18 (.cells ⟨[.int .i64 3, .int .i64 0]⟩ 3 (0, 0))) fun r13 h15 => ∃ b19 o9, (p : Option Addr) = some ⟨b19, o9, none⟩ ∧ ∃ p9 : Option Addr, h15.at b19 o9 = some (.pointer p9) ∧ T18 p9 h15 fun r14 h16 => ∃ b20 : Bool, r14 = .bool b20 ∧ parB b20 (Q (.bool false) h16) (∃ b21 o10, (p : Option Addr) = some ⟨b21, o10, none⟩ ∧ ∃ p10 : Option Addr, h16.at b21 o10 = some (.pointer p10) ∧ ∃ b22 o11, (p : Option Addr) = some ⟨b22, o11, none⟩ ∧ ∃ p11 : Option Addr, h16.at b22 (o11 + 1) = some (.pointer p11) ∧ T14 p10 h16 fun r15 h17 => ∃ l6 : Sl, r15 = .slice l6.a l6.n l6.c ∧ h17.at b22 (o11 + 1) = some (.pointer p11) ∧ T15 p11 h17 fun r16 h18 => ∃ l7 : Sl, r16 = .slice l7.a l7.n l7.c ∧ T13 l6 l7 h18 fun r17 h19 => ∃ b23 : Bool, r17 = .bool b23 ∧ parB b23 (∃ b24 o12, (p : Option Addr) = some ⟨b24, o12, none⟩ ∧ ∃ p12 : Option Addr, h19.at b24 o12 = some (.pointer p12) ∧ ∃ b25 o13, (p : Option Addr) = some ⟨b25, o13, none⟩ ∧ ∃ p13 : Option Addr, h19.at b25 (o13 + 1) = some (.pointer p13) ∧ T20 p12 (ByteArray.mk #[102, 114, 101, 115, 104]) h19 fun r18 h20 => ∃ n7 : Int, r18 = .int .i64 n7 ∧ h20.at b25 (o13 + 1) = some (.pointer p13) ∧ T38 p13 (ByteArray.mk #[102, 114, 101, 115, 104]) h20 fun r19 h21 => ∃ n8 : Int, r19 = .int .i64 n8 ∧ par (n7 = n8) (Q (.bool true) h21) (Q (.bool false) h21)) (Q (.bool false) h19))) (Q (.bool false) h13))))) (r2 = .tuple ⟨[.pointer p, .bool false]⟩ ∧ okPtr h3 p none ∧ par ((p : Option Addr) = none) (Q (.bool false) h3) (Q (.bool false) h3)))) (Q (.bool true) h2)) (Q (.bool false) h1)
def F8.T (n : Int) (l : Sl) (l1 : Sl) (n1 : Int) : PT := F8.G F10.T F11.T F12.T F13.T F14.T F15.T F18.T F20.T F32.T F33.T F34.T F35.T F36.T F37.T F38.T n l l1 n1
def F8.W (T8 : Int → Sl → Sl → Int → PT) (args : List Value) : PT := match args with
  | [.int .i64 n, .slice l_a l_n l_c, .slice l1_a l1_n l1_c, .int .i64 n1] => T8 n ⟨l_a, l_n, l_c⟩ ⟨l1_a, l1_n, l1_c⟩ n1
  | _ => fun _ _ => False
def F8.V : List Value → PT := F8.W F8.T
def F9.an : List (Nat × Ann) := [(250, .loop [(8, .sl), (9, .int .i64)] []), (506, .loop [(12, .int .i64)] []), (1018, .loop [(13, .int .i64)] []), (16200, .order [0, 1, 2, 3, 4, 5, 6, 7, 8, 9, 10, 11, 12, 13, 14, 15]), (32584, .order [0, 1, 2, 3, 4, 5, 6, 8, 9, 10, 11, 12, 13, 14, 7, 15, 16, 17, 18, 19, 20, 21, 22, 23, 24, 25, 27, 28, 29, 30, 31, 32, 33, 26, 34, 35, 36, 37])]
def F9.G (T10 : PT) (T11 : Sl → Sl → PT) (T12 : Int → Sl → PT) (T13 : Sl → Sl → PT) (T14 : Option Addr → PT) (T15 : Option Addr → PT) (T16 : Option Addr → Int → Sl → PT) (T17 : Option Addr → Int → Sl → PT) (T33 : Option Addr → Int → ByteArray → ByteArray → Sl → Int → Int → Int → Sl → PT) (l : Sl) (l1 : Sl) (n : Int) : PT := fun h Q =>
  T10 h fun r h1 => ∃ b : Bool, r = .bool b ∧ parB b (T11 l l1 h1 fun r1 h2 => ∃ b1 : Bool, r1 = .bool b1 ∧ parB b1 (par (n < 2) (Q (.bool true) h2) (par ((24 : Int) < n) (Q (.bool true) h2) (∃ (I : Sl → Int → Hp → Prop) (m : Sl → Int → Hp → Nat), I ⟨none, 0, 0⟩ 0 h2 ∧ (∀ l2 : Sl, ∀ n1 : Int, ∀ h3 : Hp, I l2 n1 h3 → par (n1 < n) (T12 0 l h3 fun r2 h4 => ∃ p : Option Addr, ∃ b2 : Bool, parB b2 (r2 = .tuple ⟨[.pointer p, .bool true]⟩ ∧ okPtr h4 p none ∧ par ((p : Option Addr) = none) (Q (.bool true) h4) (appendD l2 25 1 8 [.pointer none] 1 [.pointer p] h4 fun l3 h5 => I l3 (IntKind.wrap .i64 (n1 + 1)) h5 ∧ m l3 (IntKind.wrap .i64 (n1 + 1)) h5 < m l2 n1 h3)) (r2 = .tuple ⟨[.pointer p, .bool false]⟩ ∧ okPtr h4 p none ∧ par ((p : Option Addr) = none) (Q (.bool false) h4) (Q (.bool false) h4))) (∃ (I1 : Int → Hp → Prop) (m1 : Int → Hp → Nat), I1 0 h3 ∧ (∀ n2 : Int, ∀ h6 : Hp, I1 n2 h6 → par (n2 < (l1.n : Int)) ((5 : Int) ≠ 0 ∧ n ≠ 0 ∧ ∃ b3 o, (l2.a : Option Addr) = some ⟨b3, o, none⟩ ∧ ((0 : Int) ≤ (Int.tmod (IntKind.wrap .i64 ((IntKind.wrap .i64 (n2 * 7)) + (IntKind.wrap .i64 (Int.tdiv n2 5)))) n) ∧ (Int.tmod (IntKind.wrap .i64 ((IntKind.wrap .i64 (n2 * 7)) + (IntKind.wrap .i64 (Int.tdiv n2 5)))) n) < (l2.n : Int)) ∧ ∃ p1 : Option Addr, h6.at b3 (o + ((Int.tmod (IntKind.wrap .i64 ((IntKind.wrap .i64 (n2 * 7)) + (IntKind.wrap .i64 (Int.tdiv n2 5)))) n)).toNat) = some (.pointer p1) ∧ ∃ b4 o1, (l1.a : Option Addr) = some ⟨b4, o1, none⟩ ∧ ((0 : Int) ≤ n2 ∧ n2 < (l1.n : Int)) ∧ ∃ n3 : Int, h6.at b4 (o1 + n2.toNat * 8) = some (.int .i64 n3) ∧ ∃ s : ByteArray, h6.at b4 ((o1 + n2.toNat * 8) + 1) = some (.string s) ∧ ∃ s1 : ByteArray, h6.at b4 ((o1 + n2.toNat * 8) + 2) = some (.string s1) ∧ ∃ l4 : Sl, h6.at b4 ((o1 + n2.toNat * 8) + 3) = some (.slice l4.a l4.n l4.c) ∧ ∃ n4 : Int, h6.at b4 ((o1 + n2.toNat * 8) + 4) = some (.int .i64 n4) ∧ ∃ n5 : Int, h6.at b4 ((o1 + n2.toNat * 8) + 5) = some (.int .i64 n5) ∧ ∃ n6 : Int, h6.at b4 ((o1 + n2.toNat * 8) + 6) = some (.int .i64 n6) ∧ ∃ l5 : Sl, h6.at b4 ((o1 + n2.toNat * 8) + 7) = some (.slice l5.a l5.n l5.c) ∧ T33 p1 n3 s s1 l4 n4 n5 n6 l5 h6 fun r3 h7 => ∃ b5 : Bool, r3 = .bool b5 ∧ parB b5 (I1 (IntKind.wrap .i64 (n2 + 1)) h7 ∧ m1 (IntKind.wrap .i64 (n2 + 1)) h7 < m1 n2 h6) (Q (.bool false) h7)) (∃ (I2 : Int → Hp → Prop) (m2 : Int → Hp → Nat), I2 0 h6 ∧ (∀ n7 : Int, ∀ h8 : Hp, I2 n7 h8 → par (n7 < n) (∃ b6 o2, (l2.a : Option Addr) = some ⟨b6, o2, none⟩ ∧ ((0 : Int) ≤ n7 ∧ n7 < (l2.n : Int)) ∧ ∃ p2 : Option Addr, h8.at b6 (o2 + n7.toNat) = some (.pointer p2) ∧ ∃ b7 o3, (p2 : Option Addr) = some ⟨b7, o3, none⟩ ∧ ∃ p3 : Option Addr, h8.at b7 o3 = some (.pointer p3) ∧ ∃ b8 o4, (l2.a : Option Addr) = some ⟨b8, o4, none⟩ ∧ ((0 : Int) ≤ n7 ∧ n7 < (l2.n : Int)) ∧ ∃ p4 : Option Addr, h8.at b8 (o4 + n7.toNat) = some (.pointer p4) ∧ ∃ b9 o5, (p4 : Option Addr) = some ⟨b9, o5, none⟩ ∧ ∃ p5 : Option Addr, h8.at b9 (o5 + 1) = some (.pointer p5) ∧ T14 p3 h8 fun r4 h9 => ∃ l6 : Sl, r4 = .slice l6.a l6.n l6.c ∧ h9.at b8 (o4 + n7.toNat) = some (.pointer p4) ∧ h9.at b9 (o5 + 1) = some (.pointer p5) ∧ T15 p5 h9 fun r5 h10 => ∃ l7 : Sl, r5 = .slice l7.a l7.n l7.c ∧ T13 l6 l7 h10 fun r6 h11 => ∃ b10 : Bool, r6 = .bool b10 ∧ parB b10 (∃ b11 o6, (l2.a : Option Addr) = some ⟨b11, o6, none⟩ ∧ ((0 : Int) ≤ n7 ∧ n7 < (l2.n : Int)) ∧ ∃ p6 : Option Addr, h11.at b11 (o6 + n7.toNat) = some (.pointer p6) ∧ ∃ b12 o7, (p6 : Option Addr) = some ⟨b12, o7, none⟩ ∧ ∃ p7 : Option Addr, h11.at b12 o7 = some (.pointer p7) ∧ ∃ b13 o8, (l2.a : Option Addr) = some ⟨b13, o8, none⟩ ∧ ((0 : Int) ≤ n7 ∧ n7 < (l2.n : Int)) ∧ ∃ p8 : Option Addr, h11.at b13 (o8 + n7.toNat) = some (.pointer p8) ∧ ∃ b14 o9, (p8 : Option Addr) = some ⟨b14, o9, none⟩ ∧ ∃ p9 : Option Addr, h11.at b14 (o9 + 1) = some (.pointer p9) ∧ T16 p7 1 ⟨none, 0, 0⟩ h11 fun r7 h12 => ∃ l8 : Sl, r7 = .slice l8.a l8.n l8.c ∧ h12.at b13 (o8 + n7.toNat) = some (.pointer p8) ∧ h12.at b14 (o9 + 1) = some (.pointer p9) ∧ T17 p9 1 ⟨none, 0, 0⟩ h12 fun r8 h13 => ∃ l9 : Sl, r8 = .slice l9.a l9.n l9.c ∧ T13 l8 l9 h13 fun r9 h14 => ∃ b15 : Bool, r9 = .bool b15 ∧ parB b15 (I2 (IntKind.wrap .i64 (n7 + 1)) h14 ∧ m2 (IntKind.wrap .i64 (n7 + 1)) h14 < m2 n7 h8) (Q (.bool false) h14)) (Q (.bool false) h11)) (Q (.bool true) h8))))))))) (Q (.bool true) h2)) (Q (.bool false) h1)
def F9.T (l : Sl) (l1 : Sl) (n : Int) : PT := F9.G F10.T F11.T F12.T F13.T F14.T F15.T F16.T F17.T F33.T l l1 n
def F9.W (T9 : Sl → Sl → Int → PT) (args : List Value) : PT := match args with
  | [.slice l_a l_n l_c, .slice l1_a l1_n l1_c, .int .i64 n] => T9 ⟨l_a, l_n, l_c⟩ ⟨l1_a, l1_n, l1_c⟩ n
  | _ => fun _ _ => False
def F9.V : List Value → PT := F9.W F9.T
end Go.Eng.Ytekflkpnpibneaa
end
section

/-
  SPECS OF THE DISK, 18: the laws News and Plays.
-/
set_option linter.unusedSimpArgs false
set_option linter.unusedVariables false
set_option maxRecDepth 100000
namespace Go.Eng.Ytekflkpnpibneaa
theorem rawOk_all : ∀ {l : List RawF} {i : Nat} {d : Dir}, rawOk i d l = true → ∀ f ∈ l, nameOk f.nm = true ∧ (f.data.length : Int) ≤ 2147483648 ∧ 0 ≤ f.sure ∧ f.sure ≤ (f.data.length : Int)
  | [], i, d, _, f, hf => by cases hf
  | x :: l, i, d, h, f, hf => by
    have h' : (x.ok d && rawOk (i + 1) (dins d x.nm i) l) = true := h
    rw [Bool.and_eq_true] at h'
    rcases List.mem_cons.1 hf with rfl | hf
    · have := h'.1
      unfold RawF.ok at this
      simp only [Bool.and_eq_true, decide_eq_true_eq] at this
      exact ⟨this.1.1.1.1, this.1.1.2, this.1.2, this.2⟩
    · exact rawOk_all h'.2 f hf
theorem newOk_dn {room : Int} {l : List RawF} (h : newOk room l = true) (hr : room ≤ 9223372036854775807) : DN 0 (fresh room (l.map RawF.f)) := by
  unfold newOk at h
  simp only [Bool.and_eq_true, decide_eq_true_eq] at h
  have ha := rawOk_all h.1.2
  refine fresh_ok ⟨h.1.1.1, hr⟩ (by rw [List.length_map]; omega) (fun f hf => ?_) (fun f hf => ?_)
  · obtain ⟨x, hx, rfl⟩ := List.mem_map.1 hf
    exact name_size (ha x hx).1
  · obtain ⟨x, hx, rfl⟩ := List.mem_map.1 hf
    have := ha x hx
    show x.data.length ≤ _ ∧ x.sure.toNat ≤ x.data.length
    omega
theorem fs_map (L : List (Sl × RawF)) : (L.map fun x => x.2.f) = (L.map (·.2)).map RawF.f := by rw [List.map_map]; rfl
/-- What a caller hands the laws. -/
structure LA (h : Hp) (room : Int) (l : Sl) (L : List (Sl × RawF)) : Prop where
  R : RA h l L
  room : room ≤ 9223372036854775807
  nm : ∀ x ∈ L, x.2.nm.size ≤ 9223372036854775807
  len : L.length * 48 ≤ 140737488355328
  data : ∀ x ∈ L, x.2.data.length ≤ 140737488355328
section
variable {h h' h1 h2 : Hp} {Q : Value → Hp → Prop} {room : Int} {l l1 : Sl} {L : List (Sl × RawF)} {O : List OpR}
theorem oa_nil (h : Hp) : OA h ⟨none, 0, 0⟩ [] := ⟨⟨rfl, .inl rfl⟩, fun x hx => (by cases hx), fun x hx => (by cases hx)⟩
theorem news_s (X : LA h room l L) (hQ : ∀ h', Keep h h' → Q (.bool true) h') : F4.T room l h Q := by
  have hlen := X.len
  unfold F4.T F4.G
  refine known_s fun h1 K1 => ⟨true, rfl, fun _ => ?_, fun e => (by cases e)⟩
  refine small_s (X.R.keep K1) (oa_nil h1) X.data (by omega) (by decide) ⟨false, rfl, fun e => (by cases e), fun _ => hQ h1 K1⟩ (fun sL _ _ => ⟨true, rfl, fun _ => ?_, fun e => (by cases e)⟩)
  refine begin_s (X.R.keep K1) X.room X.nm X.len (fun x hx => Nat.le_trans (sL x hx) (by decide)) (fun _ h3 K3 => ⟨none, true, fun _ => ⟨rfl, okPtr_none _ _, fun _ => hQ h3 (K1.trans K3), fun hne => absurd rfl hne⟩, fun e => (by cases e)⟩) (fun hnew h3 pb A B Y => ⟨some ⟨pb, 0, none⟩, true, fun _ => ⟨rfl, okPtr_none _ _, fun e => (by cases e), fun _ => ?_⟩, fun e => (by cases e)⟩)
  have D := newOk_dn hnew X.room
  rw [← fs_map] at D
  have hcl : (fresh room (L.map fun x => x.2.f)).chg.length ≤ 1000000000 := Nat.zero_le _
  refine ⟨pb, 0, rfl, some ⟨A.db, 0, none⟩, at_of Y.pbe 0, pb, 0, rfl, some ⟨B.db, 0, none⟩, at_of Y.pbe 1, files_p Y.P D.ok fun h6 r6 L6 K6 F6 e6 => ⟨r6, rfl, at_of (K6 _ _ Y.pbe) 1, files_r (Y.R.keep K6) D.ok fun h7 r7 L7 K7 F7 e7 => ⟨r7, rfl, sameF (F6.keep K7) F7 (e6.trans e7.symm) ⟨true, rfl, fun _ => ?_, fun h => (by cases h)⟩ (by have h1 := congrArg List.length e6; have h2 := D.ok.len; unfold dtold at h1; simp only [List.length_map] at h1; omega)⟩⟩⟩
  have Y7 := Y.keep (K6.trans K7)
  refine ⟨pb, 0, rfl, some ⟨A.db, 0, none⟩, at_of Y7.pbe 0, pb, 0, rfl, some ⟨B.db, 0, none⟩, at_of Y7.pbe 1, image_p (keep := []) Y7.P D.ok hcl ⟨rfl, .inl rfl⟩ fun h8 r8 L8 K8 F8 e8 => ⟨r8, rfl, at_of (K8 _ _ Y7.pbe) 1, image_r (keep := []) (Y7.R.keep K8) D.ok hcl ⟨rfl, .inl rfl⟩ fun h9 r9 L9 K9 F9 e9 => ⟨r9, rfl, sameF (F8.keep K9) F9 (e8.trans e9.symm) ⟨true, rfl, fun _ => ?_, fun h => (by cases h)⟩ (by have h1 := congrArg List.length e8; have h2 := (image_ok D.ok 0 []).1; simp only [List.length_map] at h1; omega)⟩⟩⟩
  have Y9 := Y7.keep (K8.trans K9)
  exact ⟨pb, 0, rfl, some ⟨A.db, 0, none⟩, at_of Y9.pbe 0, down_p Y9.P ⟨false, rfl, fun e => (by cases e), fun _ => hQ h9 (K1.trans Y9.K)⟩⟩
end
end Go.Eng.Ytekflkpnpibneaa
end
section

/-
  ROWS OF THE DISK: arguments that are lists of files, of calls.
-/
set_option linter.unusedSimpArgs false
set_option linter.unusedVariables false
open Go.Proofs
namespace Go.Eng.Ytekflkpnpibneaa
open Go.ChangeShapes Go.WideShapes Go.RowKit
/-- All that a world's memory holds. -/
def wh (W : World) : Hp := fun b => W.heap[b]?
theorem own_wh (W : World) : Own (fun _ => none) (wh W) W := ⟨fun _ _ h => h, fun _ _ h => (by cases h), fun _ => .inr rfl⟩
theorem below_of {W W' : World} {h' : Hp} (hw : Wr W W') (ho : Own (fun _ => none) h' W') (K : Keep (wh W) h') : Below W.heap.size W W' := by
  refine ⟨hw.os, hw.tape, hw.output, hw.size, fun k hk => ?_⟩
  have h1 : wh W k = some W.heap[k] := by unfold wh; exact Array.getElem?_eq_getElem hk
  have h2 := ho.hh k _ (K k _ h1)
  rw [h2, Array.getElem?_eq_getElem hk]
theorem cell_at {W : World} {b o : Nat} {v : Value} (h : W.cell? ⟨b, o, none⟩ = some v) : (wh W).at b o = some v := by
  unfold World.cell? at h
  unfold Hp.at wh
  cases hb : W.heap[b]? with
  | none => rw [hb] at h; cases h
  | some x =>
    rw [hb] at h
    cases x with
    | cells c t f => simpa using h
    | _ => cases h
theorem spot_none {W : World} {a : Addr} {v : Value} (h : W.cell? (a.add 0) = some v) : a = ⟨a.block, a.off, none⟩ := by
  obtain ⟨b, o, p⟩ := a
  cases p with
  | none => rfl
  | some p =>
    exfalso
    unfold World.cell? at h
    simp only [Addr.add, if_pos] at h
    cases hb : W.heap[b]? with
    | none => rw [hb] at h; cases h
    | some x =>
      rw [hb] at h
      cases x with
      | cells c t f => simp at h
      | _ => cases h
/-- Cells from an address on are a row. -/
theorem row_of_cells {W : World} {a : Addr} {n : Nat} {vs : List Value} (hl : vs.length = n) (h : ∀ i, (hi : i < n) → W.cell? (a.add i) = vs[i]?) : (wh W).row (some a) n vs := by
  refine ⟨hl, ?_⟩
  by_cases h0 : n = 0
  · exact .inl h0
  right
  have hz := h 0 (by omega)
  rw [List.getElem?_eq_getElem (by omega)] at hz
  have ha := spot_none hz
  refine ⟨a.block, a.off, by rw [← ha], fun j hj => ?_⟩
  have hj' := h j hj
  rw [List.getElem?_eq_getElem (by omega)] at hj' ⊢
  rw [ha, addr_add] at hj'
  exact cell_at hj'
theorem flat_get {α : Type} (f : α → List Value) (n : Nat) (hf : ∀ x, (f x).length = n) : ∀ (l : List α) (i j : Nat) (hi : i < l.length), j < n → (l.flatMap f)[i * n + j]? = (f l[i])[j]?
  | [], i, j, hi, _ => by simp at hi
  | x :: l, 0, j, hi, hj => by
    simp only [List.flatMap_cons, Nat.zero_mul, Nat.zero_add, List.getElem_cons_zero]
    rw [List.getElem?_append_left (by rw [hf]; exact hj)]
  | x :: l, i + 1, j, hi, hj => by
    simp only [List.flatMap_cons, List.getElem_cons_succ]
    rw [List.getElem?_append_right (by rw [hf, Nat.add_mul]; omega), hf, show (i + 1) * n + j - n = i * n + j by rw [Nat.add_mul]; omega]
    exact flat_get f n hf l i j (by simpa using hi) hj
theorem flat_length {α : Type} (f : α → List Value) (n : Nat) (hf : ∀ x, (f x).length = n) (l : List α) : (l.flatMap f).length = l.length * n := by
  induction l with
  | nil => simp
  | cons x l ih => simp only [List.flatMap_cons, List.length_append, hf, ih, List.length_cons, Nat.add_mul]; omega
theorem add_add' (a : Addr) (m n : Nat) : (a.add m).add n = a.add (m + n) := by
  unfold Addr.add
  by_cases h1 : m = 0
  · subst h1; simp
  · by_cases h2 : n = 0
    · subst h2; simp [h1]
    · simp [h1, h2, Nat.add_assoc]
def iI (n : Int) : Prop := -9223372036854775808 ≤ n ∧ n < 9223372036854775808
theorem wf_i64 {n : Int} (h : (Lit.int .i64 n).wf = true) : iI n := by
  simp [Lit.wf, IntKind.min, IntKind.max, IntKind.signed, IntKind.bits] at h
  exact ⟨by omega, by omega⟩
theorem wf_u8 {n : Int} (h : (Lit.int .u8 n).wf = true) : 0 ≤ n ∧ n < 256 := by
  simp [Lit.wf, IntKind.min, IntKind.max, IntKind.signed, IntKind.bits] at h
  omega
theorem weights_mem_all {H : Type} {P : Program} {e : TypeId} : ∀ {E : List (DataW H)} {d : DataW H}, d ∈ E → ∀ n ∈ d.weights P e, n ∈ DataW.weightsAll P e E
  | x :: E, d, hd, n, hn => by
    simp only [DataW.weightsAll, List.mem_append]
    rcases List.mem_cons.1 hd with rfl | hd
    · exact .inl hn
    · exact .inr (weights_mem_all hd n hn)
def WB {H : Type} (P : Program) (t : TypeId) (d : DataW H) : Prop := ∀ n ∈ d.weights P t, n ≤ reachBytes
theorem reach_le {n : Nat} (h : n ≤ reachBytes) : n ≤ 140737488355328 := by have := reachBytes_lt; omega
section
variable {H : Type} {enc : TypeId × Value → H} {P : Program} {W : World} {base : Nat} {held : Bool}
theorem slice_rowsW {α : Type} {t e : TypeId} {fuel : Nat} {s : Sl} {y : DataW H × List MemPlace} (sz : Nat) (f : α → List Value) (ok : α → Prop) (hsz : 0 < sz) (ht : P.underlying t = some (.slice e)) (hc : P.cellsOf e = sz) (hf : ∀ x, (f x).length = sz)
    (each : ∀ (fuel : Nat) (cs : List Value) (z : DataW H × List MemPlace), cs.length = sz → DataW.trod enc P W base (fun _ => true) held fuel e cs = some z → WB P e z.1 → ∃ a, cs = f a ∧ ok a)
    (h : DataW.trod enc P W base (fun _ => true) held fuel t [.slice s.a s.n s.c] = some y) (hw : WB P t y.1) : ∃ l : List α, (wh W).row s.a (s.n * sz) (l.flatMap f) ∧ s.n ≤ s.c ∧ (s.a = none → s.n = 0) ∧ l.length = s.n ∧ (s.n * P.bytesOf e ≤ reachBytes) ∧ ∀ a ∈ l, ok a := by
  rcases DataW.trod_slice ht h with ⟨hcs, _⟩ | ⟨x, len, cap, elems, rest, n, _, hcs, hyy, hb, hl, hm, hlen, hel, _, _⟩
  · simp only [List.cons.injEq, Value.slice.injEq, and_true] at hcs
    obtain ⟨h1, h2, h3⟩ := hcs
    exact ⟨[], by rw [h1, h2]; exact ⟨by simp, .inl (by simp)⟩, by omega, fun _ => h2, by rw [h2]; rfl, by rw [h2]; omega, fun a ha => (by cases ha)⟩
  · simp only [List.cons.injEq, Value.slice.injEq, and_true] at hcs
    obtain ⟨h1, h2, h3⟩ := hcs
    have hwl : ∀ n ∈ (DataW.slice (elems.map (·.1)) (rest.map (·.1))).weights P t, n ≤ reachBytes := by rw [hyy] at hw; exact hw
    have hws : (DataW.slice (elems.map (·.1)) (rest.map (·.1))).weights P t = ((elems.map (·.1)).length + (rest.map (·.1)).length) * P.bytesOf e :: (DataW.weightsAll P e (elems.map (·.1)) ++ DataW.weightsAll P e (rest.map (·.1))) := by simp [DataW.weights, ht]
    have ea : ∀ i : Fin len, ∃ a : α, (∀ j, j < sz → W.cell? (x.add (i.1 * sz + j)) = (f a)[j]?) ∧ ok a := by
      rintro ⟨i, hi⟩
      have q := hel i hi
      rw [hc, List.getElem?_eq_getElem (by omega), Option.bind_eq_some_iff] at q
      obtain ⟨cs', hcs', hy⟩ := q
      obtain ⟨_, hcl, hcell⟩ := World.cells?_some hcs'
      obtain ⟨a, rfl, hok⟩ := each _ _ _ hcl hy (fun m hm => hwl m (by
        rw [hws]
        refine List.mem_cons_of_mem _ (List.mem_append_left _ (weights_mem_all (List.mem_map_of_mem (List.getElem_mem (l := elems) (n := i) (by omega))) m hm))))
      refine ⟨a, fun j hj => ?_, hok⟩
      rw [← hcell j hj, add_add']
    obtain ⟨g, hg⟩ := Classical.axiomOfChoice ea
    refine ⟨List.ofFn g, ?_, by omega, fun hn => (by rw [h1] at hn; cases hn), by rw [List.length_ofFn]; omega, ?_, fun a ha => ?_⟩
    · rw [h1, h2]
      have hll : ((List.ofFn g).flatMap f).length = len * sz := by rw [flat_length f sz hf, List.length_ofFn]
      refine row_of_cells hll fun k hk => ?_
      have hi : k / sz < len := Nat.div_lt_of_lt_mul (by rw [Nat.mul_comm]; exact hk)
      have hj : k % sz < sz := Nat.mod_lt _ hsz
      have hkk : k = k / sz * sz + k % sz := by rw [Nat.mul_comm]; exact (Nat.div_add_mod k sz).symm
      have q := (hg ⟨k / sz, hi⟩).1 (k % sz) hj
      have q2 := flat_get f sz hf (List.ofFn g) (k / sz) (k % sz) (by rw [List.length_ofFn]; exact hi) hj
      simp only at q
      rw [← hkk] at q q2
      rw [q, q2]
      simp
    · have := hwl _ (by rw [hws]; exact List.mem_cons_self)
      rw [List.length_map, List.length_map] at this
      exact Nat.le_trans (Nat.mul_le_mul_right _ (by omega)) this
    · obtain ⟨i, rfl⟩ := (List.mem_ofFn ..).1 ha
      exact (hg i).2
theorem some_at {xs : List (DataW H × List MemPlace)} {n i : Nat} (h : xs.length = n) (hi : i < n) : ∃ y, xs[i]? = some y := ⟨_, List.getElem?_eq_getElem (by omega)⟩
theorem is_slice {t e : TypeId} {fuel : Nat} {c : Value} {y : DataW H × List MemPlace} (ht : P.underlying t = some (.slice e)) (h : DataW.trod enc P W base (fun _ => true) held fuel t [c] = some y) : ∃ s : Sl, c = .slice s.a s.n s.c := by
  rcases DataW.trod_slice ht h with ⟨hcs, _⟩ | ⟨x, len, cap, elems, rest, n, _, hcs, _⟩
  · exact ⟨⟨none, 0, 0⟩, by simpa using hcs⟩
  · exact ⟨⟨some x, len, cap⟩, by simpa using hcs⟩
theorem part_wb {t : TypeId} {fs : Array Field} {xs : List (DataW H × List MemPlace)} {i : Nat} {f : Field} {y : DataW H × List MemPlace} (ht : P.underlying t = some (.struct fs)) (hw : WB P t (.agg (xs.map (·.1)))) (hf : fs[i]? = some f) (hy : xs[i]? = some y) : WB P f.type y.1 := fun n hn => hw n (by
  have e : (DataW.agg (xs.map (·.1))).weights P t = DataW.weightsEach P (fs.toList.map (·.type)) (xs.map (·.1)) := by simp [DataW.weights, ht]
  rw [e]
  exact DataW.weights_mem_each (j := i) (t := f.type) (d := y.1) (by rw [List.getElem?_map, Array.getElem?_toList, hf]; rfl) (by rw [List.getElem?_map, hy]; rfl) n hn)
end
section
variable {H : Type} {enc : TypeId × Value → H} {W : World} {base : Nat} {held : Bool}
theorem flat_one {α : Type} (g : α → Value) : ∀ l : List α, l.flatMap (fun x => [g x]) = l.map g
  | [] => rfl
  | a :: l => by rw [List.flatMap_cons, flat_one g l]; rfl
theorem c3 : Try.prog.cellsOf 3 = 1 := by kernel_rfl
theorem c5 : Try.prog.cellsOf 5 = 1 := by kernel_rfl
theorem c9 : Try.prog.cellsOf 9 = 1 := by kernel_rfl
theorem c43 : Try.prog.cellsOf 43 = 1 := by kernel_rfl
theorem c60 : Try.prog.cellsOf 60 = 3 := by kernel_rfl
theorem b5 : Try.prog.bytesOf 5 = 1 := by kernel_rfl
theorem b60 : Try.prog.bytesOf 60 = 48 := by kernel_rfl
theorem int_cell {fuel : Nat} {c : Value} {y : DataW H × List MemPlace} (h : DataW.trod enc Try.prog W base (fun _ => true) held fuel 3 [c] = some y) : ∃ n, c = .int .i64 n ∧ iI n := by
  obtain ⟨n, hn, _, hw⟩ := DataW.trod_int Try.underlying3 h
  exact ⟨n, by simpa using hn, wf_i64 hw⟩
theorem str_cell {fuel : Nat} {c : Value} {y : DataW H × List MemPlace} (h : DataW.trod enc Try.prog W base (fun _ => true) held fuel 9 [c] = some y) : ∃ s : ByteArray, c = .string s ∧ s.size ≤ 9223372036854775807 := by
  obtain ⟨s, hn, _, hw⟩ := DataW.trod_string Try.underlying9 h
  exact ⟨s, by simpa using hn, by have : maxLen = 9223372036854775807 := by decide
                                  omega⟩
theorem bytes_cell {fuel : Nat} {c : Value} {y : DataW H × List MemPlace} (h : DataW.trod enc Try.prog W base (fun _ => true) held fuel 43 [c] = some y) (hw : WB Try.prog 43 y.1) : ∃ (s : Sl) (v : List UInt8), c = .slice s.a s.n s.c ∧ (wh W).row s.a (s.n * 1) (bl v) ∧ s.n ≤ s.c ∧ (s.a = none → s.n = 0) ∧ v.length ≤ 140737488355328 := by
  obtain ⟨s, rfl⟩ := is_slice Try.underlying43 h
  obtain ⟨l, r, hc, hn, hl, hb, _⟩ := slice_rowsW 1 (fun b : UInt8 => [Value.int .u8 (b.toNat : Int)]) (fun _ => True) (by decide) Try.underlying43 c5 (fun _ => rfl) (fun fuel cs z hl h _ => by
    rcases cs with _ | ⟨a, _ | ⟨a1, cs⟩⟩
    · cases hl
    · obtain ⟨n, hn, _, hw⟩ := DataW.trod_int Try.underlying5 h
      have hb := wf_u8 hw
      refine ⟨UInt8.ofNat n.toNat, ?_, trivial⟩
      have e : ((UInt8.ofNat n.toNat).toNat : Int) = n := by
        have : (UInt8.ofNat n.toNat).toNat = n.toNat := by
          rw [UInt8.toNat_ofNat']
          omega
        rw [this]; omega
      rw [e]; exact hn
    · simp at hl) h hw
  rw [b5, Nat.mul_one] at hb
  refine ⟨s, l, rfl, ?_, hc, hn, by rw [hl]; exact reach_le hb⟩
  rw [flat_one] at r
  exact r
def okF (W : World) (x : Sl × RawF) : Prop := (wh W).row x.1.a (x.1.n * 1) (bl x.2.data) ∧ x.1.n ≤ x.1.c ∧ (x.1.a = none → x.1.n = 0) ∧ x.2.nm.size ≤ 9223372036854775807 ∧ x.2.data.length ≤ 140737488355328
theorem file_each (fuel : Nat) (cs : List Value) (z : DataW H × List MemPlace) (hl : cs.length = 3) (h : DataW.trod enc Try.prog W base (fun _ => true) held fuel 60 cs = some z) (hw : WB Try.prog 60 z.1) : ∃ x : Sl × RawF, cs = rcell x ∧ okF W x := by
  obtain ⟨xs, n, _, rfl, _, hxs, hf⟩ := DataW.trod_struct Try.underlying60 h
  rcases cs with _ | ⟨a0, _ | ⟨a1, _ | ⟨a2, _ | ⟨a3, cs⟩⟩⟩⟩
  case cons.cons.cons.nil =>
    obtain ⟨y0, h0⟩ := some_at hxs (i := 0) (by decide)
    obtain ⟨y1, h1⟩ := some_at hxs (i := 1) (by decide)
    obtain ⟨y2, h2⟩ := some_at hxs (i := 2) (by decide)
    have f0 : DataW.trod enc Try.prog W base (fun _ => true) held n 9 (([a0, a1, a2].drop 0).take (Try.prog.cellsOf 9)) = xs[0]? := hf 0 _ rfl
    have f1 : DataW.trod enc Try.prog W base (fun _ => true) held n 43 (([a0, a1, a2].drop 1).take (Try.prog.cellsOf 43)) = xs[1]? := hf 1 _ rfl
    have f2 : DataW.trod enc Try.prog W base (fun _ => true) held n 3 (([a0, a1, a2].drop 2).take (Try.prog.cellsOf 3)) = xs[2]? := hf 2 _ rfl
    rw [c9, h0] at f0
    rw [c43, h1] at f1
    rw [c3, h2] at f2
    obtain ⟨s, rfl, hs⟩ := str_cell (c := a0) f0
    obtain ⟨d, v, rfl, hr, hc, hn, hv⟩ := bytes_cell (c := a1) f1 (part_wb Try.underlying60 hw (i := 1) rfl h1)
    obtain ⟨k, rfl, _⟩ := int_cell (c := a2) f2
    exact ⟨(d, ⟨s, v, k⟩), rfl, hr, hc, hn, hs, hv⟩
  all_goals simp at hl
def okO (W : World) (x : OpR) : Prop := ((wh W).row x.d.a (x.d.n * 1) (bl x.o.data) ∧ x.d.n ≤ x.d.c ∧ (wh W).row x.k.a (x.k.n * 1) (x.o.keep.map fun k => Value.int .i64 k)) ∧ x.o.nm.size ≤ 9223372036854775807 ∧ x.o.to.size ≤ 9223372036854775807 ∧ x.o.a ≤ 9223372036854775807 ∧ x.o.b ≤ 9223372036854775807 ∧ x.o.c ≤ 9223372036854775807 ∧ x.o.data.length ≤ 140737488355328 ∧ x.o.keep.length ≤ 140737488355328
theorem open_files {fuel : Nat} {a : Option Addr} {len cap : Nat} {y : DataW H × List MemPlace} {room : Int} (h : DataW.trod enc Try.prog W base (fun _ => true) held fuel 23 [.slice a len cap] = some y) (hw : WB Try.prog 23 y.1) (hr : room ≤ 9223372036854775807) : ∃ L, LA (wh W) room ⟨a, len, cap⟩ L := by
  obtain ⟨L, r, _, _, hl, hb, k⟩ := slice_rowsW (s := ⟨a, len, cap⟩) 3 rcell (okF W) (by decide) Try.underlying23 c60 (fun _ => rfl) file_each h hw
  rw [b60] at hb
  exact ⟨L, ⟨r, fun x hx => ⟨(k x hx).1, (k x hx).2.1, (k x hx).2.2.1⟩⟩, hr, fun x hx => (k x hx).2.2.2.1, by rw [hl]; exact reach_le hb, fun x hx => (k x hx).2.2.2.2⟩
theorem wb_arg {ts : List TypeId} {ds : List (DataW H)} (h : (DataW.weightsEach Try.prog ts ds).all (· ≤ reachBytes) = true) {j : Nat} {t : TypeId} {d : DataW H} (ht : ts[j]? = some t) (hd : ds[j]? = some d) : WB Try.prog t d := fun n hn => by
  have := List.all_eq_true.1 h _ (DataW.weights_mem_each ht hd n hn)
  simpa using this
end
end Go.Eng.Ytekflkpnpibneaa
end
section
namespace Go.Proofs.Ytekflkpnpibneaa.diskNews
open Go.ChangeShapes Go.WideShapes Go.ChangeAt Go.RowKit Go.Eng Go.Eng.Ytekflkpnpibneaa
set_option linter.unusedVariables false
theorem own : ownKnob Try.prog.godebug = none := by kernel_rfl
theorem laidOut : laidOutB Try.prog = true := by kernel_rfl
theorem walk {a1 : Option Addr} {len1 cap1 : Nat} {n : Int} {L : List (Sl × RawF)} {W : World} (X : LA (wh W) n ⟨a1, len1, cap1⟩ L) :
    Calls Try.prog 4 #[.int .i64 n, .slice a1 len1 cap1] W fun e W' => e = .returned (.bool true) ∧ Below W.heap.size W W' := by
  have hT : F4.T n ⟨a1, len1, cap1⟩ (wh W) (fun v h' => v = .bool true ∧ Keep (wh W) h') := news_s X fun h' K => ⟨rfl, K⟩
  have hV : F4.V [.int .i64 n, .slice a1 len1 cap1] (wh W) (fun v h' => v = .bool true ∧ Keep (wh W) h') := hT
  refine (F4.ok.2 _ (wh W) _ hV (fun _ => none) W (own_wh W)).mono fun e W' ⟨v, h', he, ho, hw, hv, K⟩ => ?_
  subst hv
  exact ⟨he, below_of hw ho K⟩
set_option maxRecDepth 100000 in
theorem lifted (os : Os) (started : os.Started) (H : Type) (enc : TypeId × Value → H) :
    ReturnsInHanded {} Try.checked os 4 .any (Rows.diskNewsSpec.pre6 enc Try.prog Try.f4 Rows.diskNewsRow.domain false) (Rows.diskNewsSpec.post enc Try.prog Try.f4 false true false false) := by
  refine returnsInHanded_of_change_sized (C := Try.checked) own started (by kernel_rfl) Try.func4
    (ChangeSpec.witness6 (enc := enc) (C := Try.checked) false ⟨#[], #[.int .i64 0, .slice none 0 0], []⟩ 8 (by kernel_rfl) (by kernel_rfl) (by kernel_rfl) (by kernel_rfl)) ?_
  intro W base args ds gs before hval0 hW hcnd hsz0 _
  have hval : ∀ (j : Nat) t v, Try.f4.params[j]? = some t → args[j]? = some v → Value.okWide Try.prog W .any base t v := hval0
  have hsz : (DataW.weightsEach Try.prog (Try.f4.params.toList ++ Rows.diskNewsSpec.plain.varTypes Try.prog) (ds ++ gs)).all (· ≤ reachBytes) = true := hsz0
  have hW' := hW
  obtain ⟨p, q, hA0, hV, rfl, hfz, hnd⟩ := hW
  have hA : DataW.TrodAll enc Try.prog W 0 (fun _ => true) true Try.f4.params.toList args.toList ds p := hA0
  rw [Try.params4] at hA hval
  obtain ⟨v0, vs0, d0, ds0, p0, q0, hargs, rfl, rfl, h0, r0⟩ := trodAll_cons hA
  obtain ⟨v1, vs1, d1, ds1, p1, q1, rfl, rfl, rfl, h1, r1⟩ := trodAll_cons r0
  obtain ⟨rfl, rfl, rfl⟩ := trodAll_nil r1
  obtain rfl : args = #[v0, v1] := by cases args; simp_all
  obtain ⟨rfl, rfl⟩ := trodVars_none hV
  obtain ⟨a0, rfl, rfl, rfl, w0⟩ := open_int Try.underlying3 (hval 0 3 v0 rfl rfl) h0
  obtain ⟨a1, len1, cap1, rfl⟩ := okWide_slice Try.underlying23 (hval 1 23 v1 rfl rfl)
  have k1 := h1
  have lt1 : ∀ x ∈ p1, x.block < W.heap.size := by obtain ⟨m, hm⟩ := k1; exact DataW.trod_lt m _ _ _ hm
  have wb1 : WB Try.prog 23 d1 := wb_arg (j := 1) hsz rfl rfl
  obtain ⟨L, X⟩ : ∃ L, LA (wh W) a0 ⟨a1, len1, cap1⟩ L := by obtain ⟨m, hm⟩ := k1; exact open_files hm wb1 (by have := wf_i64 w0; unfold iI at this; omega)
  clear hA0 hval0 hsz0
  refine (walk X).mono fun e W' ⟨he, bel⟩ => ?_
  subst he
  exact ⟨_, rfl, _, _, _, [], _, [], hW', trodAll_mk1 (shut_bool Try.underlying4 _), (trodAll_cons_mk (shut_int Try.underlying3 w0) (trodAll_cons_mk (Below.trod laidOut (by kernel_rfl) (of_decide_eq_true (by kernel_rfl)) k1 bel lt1) ( trodAll_mk0))), rfl, bel.frame _, fun h => by cases h⟩
theorem over : Rows.diskNewsRow.holds Try.pinned (OpenSpec.ofChange Rows.diskNewsSpec) :=
  OpenClaim.holds_of_wide 4 Try.f4 rfl rfl rfl rfl rfl rfl rfl ⟨rfl, rfl, rfl, rfl, rfl⟩ rfl rfl rfl rfl rfl (by kernel_rfl) Try.func4 (by kernel_rfl)
    (of_decide_eq_true (by kernel_rfl)) (by unfold Func.isWrapper; first | (rw [if_pos (by decide +kernel)]; kernel_rfl) | (rw [if_neg (by decide +kernel)]; exact ⟨rfl, rfl⟩))
    (fun os started H enc _ => lifted os started H enc)
theorem proved : Rows.DiskNewsSaid := over
#print axioms proved
end Go.Proofs.Ytekflkpnpibneaa.diskNews
end
