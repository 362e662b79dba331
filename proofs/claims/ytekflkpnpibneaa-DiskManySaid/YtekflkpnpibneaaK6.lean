
/-
  Proved: the law DiskMany answers true, whatever it is handed, and what it was handed reads behind the call as it read before. No condition.
-/
import Derived.Test.YtekflkpnpibneaaK5
import Derived.Test.YtekflkpnpibneaaRows
import Derived.WalkKit
import Derived.ProofKit
import Derived.OpenShut
import Derived.ShutString
import Derived.ChangeOld
import Derived.Below
import Derived.SizedLaws
section

/-
  SPECS OF THE DISK, 20: many pairs of disks beside one another; the law Many.
-/
set_option linter.unusedSimpArgs false
set_option linter.unusedVariables false
set_option maxRecDepth 100000
namespace Go.Eng.Ytekflkpnpibneaa
structure PX where
  pb : Nat
  A : PA
  B : RB
  S : Dk
def PX.own (x : PX) (k : Nat) : Prop := x.A.own k ∨ x.B.own k ∨ k = x.pb
def ptrs (X : List PX) : List Value := X.map fun x => .pointer (some ⟨x.pb, 0, none⟩)
/-- A memory without what a pair owns. -/
noncomputable def hide (h : Hp) (D : Nat → Prop) : Hp := fun k => by classical exact if D k then none else h k
theorem hide_in {h : Hp} {D : Nat → Prop} {k : Nat} (hk : D k) : hide h D k = none := by unfold hide; exact if_pos hk
theorem hide_out {h : Hp} {D : Nat → Prop} {k : Nat} (hk : ¬ D k) : hide h D k = h k := by unfold hide; exact if_neg hk
section
variable {g h h' h1 h2 : Hp} {Q : Value → Hp → Prop} {A : PA} {B : RB} {S : Dk} {pb : Nat}
theorem PR.alive (X : PR g h pb A B S) {k : Nat} (hk : PX.own ⟨pb, A, B, S⟩ k) : ∃ o, h k = some o := by
  rcases hk with hk | hk | hk
  · exact X.P.alive hk
  · exact X.R.alive hk
  · subst hk; exact ⟨_, X.pbe⟩
theorem PR.new (X : PR g h pb A B S) {k : Nat} (hk : PX.own ⟨pb, A, B, S⟩ k) : g k = none := by
  rcases hk with hk | hk | hk
  · exact X.na k hk
  · exact X.nb k hk
  · subst hk; exact X.npb
theorem PR.move (X : PR g h pb A B S) (m : ∀ k x, PX.own ⟨pb, A, B, S⟩ k → h k = some x → h' k = some x) (K : Keep g h') : PR g h' pb A B S :=
  ⟨X.P.mono fun k x hk e => m k x (.inl hk) e, X.R.mono fun k x hk e => m k x (.inr (.inl hk)) e, X.d, m _ _ (.inr (.inr rfl)) X.pbe, X.np, X.nr, K, X.na, X.nb, X.npb⟩
theorem PR.weak (X : PR h1 h pb A B S) (K : Keep g h1) : PR g h pb A B S := ⟨X.P, X.R, X.d, X.pbe, X.np, X.nr, K.trans X.K, fun k hk => K.dom k (X.na k hk), fun k hk => K.dom k (X.nb k hk), K.dom _ X.npb⟩
/-- Seen from a memory in which all stands that the pair doesn't own. -/
theorem PR.wide (X : PR g h pb A B S) : PR (hide h (PX.own ⟨pb, A, B, S⟩)) h pb A B S :=
  ⟨X.P, X.R, X.d, X.pbe, X.np, X.nr, fun k x e => by
    by_cases hk : PX.own ⟨pb, A, B, S⟩ k
    · rw [hide_in hk] at e; cases e
    · rwa [hide_out hk] at e, fun k hk => hide_in (.inl hk), fun k hk => hide_in (.inr (.inl hk)), hide_in (.inr (.inr rfl))⟩
theorem PR.under (X : PR g h pb A B S) : Keep g (hide h (PX.own ⟨pb, A, B, S⟩)) := fun k x e => by
  rw [hide_out (fun hk => by rw [X.new hk] at e; cases e)]; exact X.K k x e
/-- Pairs in a list. -/
structure MX (n : Nat) (g h : Hp) (l : Sl) (X : List PX) : Prop where
  p : ∀ x ∈ X, PR g h x.pb x.A x.B x.S
  d : ∀ x ∈ X, DN n x.S
  s : X.Pairwise fun x y => ∀ k, x.own k → ¬ y.own k
  b : Buf h l 1 25 (ptrs X)
  lo : ∀ k, inS l k → ∀ x ∈ X, ¬ x.own k
  ln : NewN g l
  K : Keep g h
theorem ptrs_len (X : List PX) : (ptrs X).length = X.length := by unfold ptrs; rw [List.length_map]
theorem MX.nil (n : Nat) (g : Hp) : MX n g g ⟨none, 0, 0⟩ [] := ⟨fun x hx => (by cases hx), fun x hx => (by cases hx), List.Pairwise.nil, Buf.nil _ _ _, fun k hk => absurd hk (inS_nil k), NewN.nil _, Keep.refl _⟩
theorem MX.len {n : Nat} {l : Sl} {X : List PX} (M : MX n g h l X) : l.n = X.length := by have := M.b.len; rw [ptrs_len] at this; omega
theorem MX.keep {n : Nat} {l : Sl} {X : List PX} (M : MX n g h l X) (K : Keep h h') : MX n g h' l X := ⟨fun x hx => (M.p x hx).keep K, M.d, M.s, M.b.keep K, M.lo, M.ln, M.K.trans K⟩
/-- One pair more. -/
theorem MX.add {n : Nat} {l l' : Sl} {X : List PX} {x : PX} (M : MX n g h l X) (P : PR h h1 x.pb x.A x.B x.S) (D : DN n x.S) (U : Upd h1 h2 l l') (B2 : Buf h2 l' 1 25 (ptrs (X ++ [x]))) : MX n g h2 l' (X ++ [x]) := by
  have hal : ∀ k, inS l k → ∃ o, h k = some o := fun k hk => by obtain ⟨c, f, e⟩ := buf_alive M.b hk; exact ⟨_, e⟩
  have lx : ∀ k, inS l k → ¬ x.own k := fun k hk hx => by obtain ⟨o, e⟩ := hal k hk; rw [P.new hx] at e; cases e
  have K2 : Keep g h2 := fun k y e => U.keep k y (fun o hl => by
    have := newN_in M.ln ⟨o, hl⟩
    rw [this] at e; cases e) (P.K k y (M.K k y e))
  have up : ∀ k y, ¬ inS l k → h1 k = some y → h2 k = some y := fun k y hk e => U.keep k y (fun o hl => hk ⟨o, hl⟩) e
  refine ⟨fun y hy => ?_, fun y hy => ?_, ?_, B2, fun k hk y hy => ?_, ?_, K2⟩
  · rcases List.mem_append.1 hy with hy | hy
    · exact ((M.p y hy).keep P.K).move (fun k z hk e => up k z (fun hl => M.lo k hl y hy hk) e) K2
    · rw [List.mem_singleton.1 hy]; exact (P.weak M.K).move (fun k z hk e => up k z (fun hl => lx k hl hk) e) K2
  · rcases List.mem_append.1 hy with hy | hy
    · exact M.d y hy
    · rw [List.mem_singleton.1 hy]; exact D
  · refine List.pairwise_append.2 ⟨M.s, List.pairwise_singleton _ _, fun y hy z hz k hk hz' => ?_⟩
    rw [List.mem_singleton.1 hz] at hz'
    obtain ⟨o, e⟩ := (M.p y hy).alive hk
    rw [P.new hz'] at e; cases e
  · rcases U.at_ with e | ⟨b, e, hb⟩
    · have hk' : inS l k := by obtain ⟨o, ho⟩ := hk; exact ⟨o, by rw [← e]; exact ho⟩
      rcases List.mem_append.1 hy with hy | hy
      · exact M.lo k hk' y hy
      · rw [List.mem_singleton.1 hy]; exact lx k hk'
    · obtain ⟨o, ho⟩ := hk
      rw [e] at ho
      simp only [Option.some.injEq, Addr.mk.injEq] at ho
      obtain ⟨rfl, _⟩ := ho
      intro hown
      rcases List.mem_append.1 hy with hy | hy
      · obtain ⟨o, e⟩ := ((M.p y hy).keep P.K).alive hown; rw [hb] at e; cases e
      · rw [List.mem_singleton.1 hy] at hown
        obtain ⟨o, e⟩ := P.alive hown; rw [hb] at e; cases e
  · exact (NewN.upd (M.K.trans P.K) M.ln U).2
theorem split_at {α : Type} : ∀ {X : List α} {i : Nat} {x : α}, X[i]? = some x → ∃ X1 X2, X = X1 ++ x :: X2 ∧ X1.length = i
  | [], i, x, h => by simp at h
  | y :: X, 0, x, h => by simp at h; subst h; exact ⟨[], X, rfl, rfl⟩
  | y :: X, i + 1, x, h => by
    simp only [List.getElem?_cons_succ] at h
    obtain ⟨X1, X2, rfl, rfl⟩ := split_at h
    exact ⟨y :: X1, X2, rfl, rfl⟩
/-- One pair has done a call. -/
theorem MX.step {n : Nat} {l : Sl} {X1 X2 : List PX} {x : PX} {A' : PA} {B' : RB} {S' : Dk} (M : MX n g h l (X1 ++ x :: X2)) (P : PR (hide h x.own) h' x.pb A' B' S') (D : DN (n + 1) S') : MX (n + 1) g h' l (X1 ++ ⟨x.pb, A', B', S'⟩ :: X2) := by
  have mx := M.p x (by simp)
  have hm : ∀ {y : PX}, y ∈ X1 ++ ⟨x.pb, A', B', S'⟩ :: X2 → y = ⟨x.pb, A', B', S'⟩ ∨ y ∈ X1 ++ x :: X2 := fun {y} hy => by
    rcases List.mem_append.1 hy with hy | hy
    · exact .inr (by simp [hy])
    · rcases List.mem_cons.1 hy with hy | hy
      · exact .inl hy
      · exact .inr (by simp [hy])
  have ep : ptrs (X1 ++ ⟨x.pb, A', B', S'⟩ :: X2) = ptrs (X1 ++ x :: X2) := by unfold ptrs; simp
  obtain ⟨s1, s2, s3⟩ := List.pairwise_append.1 M.s
  obtain ⟨s4, s5⟩ := List.pairwise_cons.1 s2
  have dx : ∀ y, y ∈ X1 ∨ y ∈ X2 → ∀ k, y.own k → ¬ x.own k := fun y hy k hk hx => by
    rcases hy with hy | hy
    · exact s3 y hy x (by simp) k hk hx
    · exact s4 y hy k hx hk
  have kp : ∀ k z, ¬ x.own k → h k = some z → h' k = some z := fun k z hk e => P.K k z (by rw [hide_out hk]; exact e)
  have K' : Keep g h' := fun k z e => P.K k z (mx.under k z e)
  have own' : ∀ {k : Nat}, PX.own ⟨x.pb, A', B', S'⟩ k → x.own k ∨ h k = none := fun {k} hk => by
    by_cases hx : x.own k
    · exact .inl hx
    · have := P.new hk
      rw [hide_out hx] at this; exact .inr this
  have dx' : ∀ y, y ∈ X1 ∨ y ∈ X2 → ∀ k, y.own k → ¬ PX.own ⟨x.pb, A', B', S'⟩ k := fun y hy k hk hx => by
    rcases own' hx with hx | hx
    · exact dx y hy k hk hx
    · obtain ⟨o, e⟩ := (M.p y (by rcases hy with hy | hy <;> simp [hy])).alive hk
      rw [hx] at e; cases e
  have other : ∀ y, y ∈ X1 ∨ y ∈ X2 → PR g h' y.pb y.A y.B y.S := fun y hy => (M.p y (by rcases hy with hy | hy <;> simp [hy])).move (fun k z hk e => kp k z (dx y hy k hk) e) K'
  refine ⟨fun y hy => ?_, fun y hy => ?_, ?_, ?_, fun k hk y hy ho => ?_, M.ln, K'⟩
  · rcases List.mem_append.1 hy with hy | hy
    · exact other y (.inl hy)
    · rcases List.mem_cons.1 hy with rfl | hy
      · exact P.weak mx.under
      · exact other y (.inr hy)
  · rcases hm hy with rfl | hy
    · exact D
    · exact (M.d y hy).mono (Nat.le_succ _)
  · refine List.pairwise_append.2 ⟨s1, List.pairwise_cons.2 ⟨fun y hy k hk hy' => dx' y (.inr hy) k hy' hk, s5⟩, fun y hy z hz => ?_⟩
    rcases List.mem_cons.1 hz with rfl | hz
    · exact dx' y (.inl hy)
    · exact s3 y hy z (by simp [hz])
  · rw [ep]
    exact buf_mono M.b fun k z hk e => kp k z (M.lo k hk x (by simp)) e
  · rcases hm hy with rfl | hy
    · rcases own' ho with hx | hx
      · exact M.lo k hk x (by simp) hx
      · obtain ⟨c, f, e⟩ := buf_alive M.b hk; rw [hx] at e; cases e
    · exact M.lo k hk y hy ho
theorem MX.at {n i : Nat} {l : Sl} {X : List PX} {x : PX} (M : MX n g h l X) (hi : X[i]? = some x) : ∃ b o, l.a = some ⟨b, o, none⟩ ∧ ((0 : Int) ≤ (i : Int) ∧ (i : Int) < (l.n : Int)) ∧ h.at b (o + ((i : Int)).toNat) = some (.pointer (some ⟨x.pb, 0, none⟩)) := by
  have hl := M.len
  have hk := (List.getElem?_eq_some_iff.1 hi).1
  obtain ⟨b, o, ha, hat⟩ := row_get M.b.row (i := i) (by omega)
  refine ⟨b, o, ha, ⟨by omega, by omega⟩, ?_⟩
  rw [Int.toNat_natCast, hat i (by omega)]
  unfold ptrs
  rw [List.getElem?_map, hi]; rfl
theorem many_s {l l1 : Sl} {n : Int} {L : List (Sl × RawF)} {O : List OpR} (X : LA h 0 l L) (R1 : OA h l1 O) (hO : O.length ≤ 140737488355328) (hQ : ∀ h', Keep h h' → Q (.bool true) h') : F9.T l l1 n h Q := by
  have hlen := X.len
  have hln := R1.len
  unfold F9.T F9.G
  refine known_s fun h1 K1 => ⟨true, rfl, fun _ => ?_, fun e => (by cases e)⟩
  refine small_s (X.R.keep K1) (R1.keep K1) X.data (by omega) hO ⟨false, rfl, fun e => (by cases e), fun _ => hQ h1 K1⟩ (fun sL sO sn => ⟨true, rfl, fun _ => ⟨fun _ => hQ h1 K1, fun h2 => ⟨fun _ => hQ h1 K1, fun h24 => ?_⟩⟩, fun e => (by cases e)⟩)
  refine ⟨fun l2 n1 h3 => ∃ (k : Nat) (Y : List PX), n1 = (k : Int) ∧ (k : Int) ≤ n ∧ Y.length = k ∧ MX 0 h1 h3 l2 Y, fun _ n1 _ => n.toNat - n1.toNat, ⟨0, [], rfl, by omega, rfl, MX.nil 0 h1⟩, ?_⟩
  rintro l2 n1 h3 ⟨k, Y, rfl, hk, hY, M⟩
  refine ⟨fun hlt => ?_, fun hge => ?_⟩
  · refine begin_s ((X.R.keep K1).keep M.K) X.room X.nm X.len (fun x hx => Nat.le_trans (sL x hx) (by decide)) (fun _ h4 K4 => ⟨none, true, fun _ => ⟨rfl, okPtr_none _ _, fun _ => hQ h4 (K1.trans (M.K.trans K4)), fun hne => absurd rfl hne⟩, fun e => (by cases e)⟩) (fun hnew h4 pb A B P => ⟨some ⟨pb, 0, none⟩, true, fun _ => ⟨rfl, okPtr_none _ _, fun e => (by cases e), fun _ => ?_⟩, fun e => (by cases e)⟩)
    have D := newOk_dn hnew X.room
    rw [← fs_map] at D
    have hml := M.len
    refine append_buf (us := [.pointer (some ⟨pb, 0, none⟩)]) (M.keep P.K).b rfl rfl (by omega) fun l3 h5 B5 _ U5 => ?_
    rw [inc_i (n := 1000) (by omega) (by omega)]
    refine ⟨⟨k + 1, Y ++ [⟨pb, A, B, _⟩], rfl, by omega, by simp [hY], M.add P D U5 (by unfold ptrs at B5 ⊢; rw [List.map_append]; exact B5)⟩, by dsimp only; omega⟩
  · have hkn : (k : Int) = n := by omega
    have hYn : (Y.length : Int) = n := by omega
    have hml := M.len
    clear hge
    have last : ∀ {m : Nat} {h6 : Hp} {Y : List PX}, MX m h1 h6 l2 Y → m ≤ 400 → (Y.length : Int) = n → ∃ (I2 : Int → Hp → Prop) (m2 : Int → Hp → Nat), I2 0 h6 ∧ (∀ n7 : Int, ∀ h8 : Hp, I2 n7 h8 → par (n7 < n) (∃ b6 o2, (l2.a : Option Addr) = some ⟨b6, o2, none⟩ ∧ ((0 : Int) ≤ n7 ∧ n7 < (l2.n : Int)) ∧ ∃ p2 : Option Addr, h8.at b6 (o2 + n7.toNat) = some (.pointer p2) ∧ ∃ b7 o3, (p2 : Option Addr) = some ⟨b7, o3, none⟩ ∧ ∃ p3 : Option Addr, h8.at b7 o3 = some (.pointer p3) ∧ ∃ b8 o4, (l2.a : Option Addr) = some ⟨b8, o4, none⟩ ∧ ((0 : Int) ≤ n7 ∧ n7 < (l2.n : Int)) ∧ ∃ p4 : Option Addr, h8.at b8 (o4 + n7.toNat) = some (.pointer p4) ∧ ∃ b9 o5, (p4 : Option Addr) = some ⟨b9, o5, none⟩ ∧ ∃ p5 : Option Addr, h8.at b9 (o5 + 1) = some (.pointer p5) ∧ F14.T p3 h8 fun r4 h9 => ∃ l6 : Sl, r4 = .slice l6.a l6.n l6.c ∧ h9.at b8 (o4 + n7.toNat) = some (.pointer p4) ∧ h9.at b9 (o5 + 1) = some (.pointer p5) ∧ F15.T p5 h9 fun r5 h10 => ∃ l7 : Sl, r5 = .slice l7.a l7.n l7.c ∧ F13.T l6 l7 h10 fun r6 h11 => ∃ b10 : Bool, r6 = .bool b10 ∧ parB b10 (∃ b11 o6, (l2.a : Option Addr) = some ⟨b11, o6, none⟩ ∧ ((0 : Int) ≤ n7 ∧ n7 < (l2.n : Int)) ∧ ∃ p6 : Option Addr, h11.at b11 (o6 + n7.toNat) = some (.pointer p6) ∧ ∃ b12 o7, (p6 : Option Addr) = some ⟨b12, o7, none⟩ ∧ ∃ p7 : Option Addr, h11.at b12 o7 = some (.pointer p7) ∧ ∃ b13 o8, (l2.a : Option Addr) = some ⟨b13, o8, none⟩ ∧ ((0 : Int) ≤ n7 ∧ n7 < (l2.n : Int)) ∧ ∃ p8 : Option Addr, h11.at b13 (o8 + n7.toNat) = some (.pointer p8) ∧ ∃ b14 o9, (p8 : Option Addr) = some ⟨b14, o9, none⟩ ∧ ∃ p9 : Option Addr, h11.at b14 (o9 + 1) = some (.pointer p9) ∧ F16.T p7 1 ⟨none, 0, 0⟩ h11 fun r7 h12 => ∃ l8 : Sl, r7 = .slice l8.a l8.n l8.c ∧ h12.at b13 (o8 + n7.toNat) = some (.pointer p8) ∧ h12.at b14 (o9 + 1) = some (.pointer p9) ∧ F17.T p9 1 ⟨none, 0, 0⟩ h12 fun r8 h13 => ∃ l9 : Sl, r8 = .slice l9.a l9.n l9.c ∧ F13.T l8 l9 h13 fun r9 h14 => ∃ b15 : Bool, r9 = .bool b15 ∧ parB b15 (I2 (IntKind.wrap .i64 (n7 + 1)) h14 ∧ m2 (IntKind.wrap .i64 (n7 + 1)) h14 < m2 n7 h8) (Q (.bool false) h14)) (Q (.bool false) h11)) (Q (.bool true) h8)) := by
      intro m h6 Y M hm hYn
      have hml := M.len
      refine ⟨fun n7 h8 => ∃ i : Nat, n7 = (i : Int) ∧ (i : Int) ≤ n ∧ MX m h1 h8 l2 Y, fun n7 _ => n.toNat - n7.toNat, ⟨0, rfl, by omega, M⟩, ?_⟩
      rintro n7 h8 ⟨i, rfl, hi, M8⟩
      refine ⟨fun hlt => ?_, fun _ => hQ h8 (K1.trans M8.K)⟩
      have hget : Y[i]? = some Y[i] := List.getElem?_eq_getElem (by omega)
      generalize Y[i] = x at hget
      have hmx := List.mem_of_getElem? hget
      have Px := M8.p x hmx
      have Dx := M8.d x hmx
      have hcl := nameOk_len Dx (by omega)
      obtain ⟨b, o, ha, hr, hat⟩ := M8.at hget
      refine ⟨b, o, ha, hr, _, hat, x.pb, 0, rfl, some ⟨x.A.db, 0, none⟩, at_of Px.pbe 0, b, o, ha, hr, _, hat, x.pb, 0, rfl, some ⟨x.B.db, 0, none⟩, at_of Px.pbe 1, files_p Px.P Dx.ok fun h9 r6 L6 K6 F6 e6 => ⟨r6, rfl, K6.at hat, at_of (K6 _ _ Px.pbe) 1, files_r (Px.R.keep K6) Dx.ok fun h10 r7 L7 K7 F7 e7 => ⟨r7, rfl, sameF (F6.keep K7) F7 (e6.trans e7.symm) ⟨true, rfl, fun _ => ?_, fun e => (by cases e)⟩ (by have h1 := congrArg List.length e6; have h2 := Dx.ok.len; unfold dtold at h1; simp only [List.length_map] at h1; omega)⟩⟩⟩
      have K8 := K6.trans K7
      have P8 := Px.keep K8
      have hat8 := K8.at hat
      refine ⟨b, o, ha, hr, _, hat8, x.pb, 0, rfl, some ⟨x.A.db, 0, none⟩, at_of P8.pbe 0, b, o, ha, hr, _, hat8, x.pb, 0, rfl, some ⟨x.B.db, 0, none⟩, at_of P8.pbe 1, image_p (keep := []) P8.P Dx.ok hcl.1 ⟨rfl, .inl rfl⟩ fun h11 r8 L8 K9 F8 e8 => ⟨r8, rfl, K9.at hat8, at_of (K9 _ _ P8.pbe) 1, image_r (keep := []) (P8.R.keep K9) Dx.ok hcl.1 ⟨rfl, .inl rfl⟩ fun h12 r9 L9 K10 F9 e9 => ⟨r9, rfl, sameF (F8.keep K10) F9 (e8.trans e9.symm) ⟨true, rfl, fun _ => ?_, fun h => (by cases h)⟩ (by have h1 := congrArg List.length e8; have h2 := (image_ok Dx.ok 1 []).1; simp only [List.length_map] at h1; omega)⟩⟩⟩
      rw [inc_i (n := 1000) (by omega) (by omega)]
      exact ⟨⟨i + 1, rfl, by omega, M8.keep (K8.trans (K9.trans K10))⟩, by dsimp only; omega⟩
    refine ⟨fun n2 h6 => ∃ (i : Nat) (Y : List PX), n2 = (i : Int) ∧ i ≤ O.length ∧ (Y.length : Int) = n ∧ MX i h1 h6 l2 Y, fun n2 _ => O.length - n2.toNat, ⟨0, Y, rfl, Nat.zero_le _, hYn, M⟩, ?_⟩
    rintro n2 h6 ⟨i, Y', rfl, hi, hYn', M6⟩
    refine ⟨fun hlt => ⟨by decide, by omega, ?_⟩, fun hge => last M6 (by omega) hYn'⟩
    have hml6 := M6.len
    have hdiv : Int.tdiv (i : Int) 5 = ((i / 5 : Nat) : Int) := rfl
    have hw : Int.tmod (IntKind.wrap .i64 ((IntKind.wrap .i64 ((i : Int) * 7)) + (IntKind.wrap .i64 (Int.tdiv (i : Int) 5)))) n = (((i * 7 + i / 5) % Y'.length : Nat) : Int) := by
      rw [hdiv, wrap_i64 (n := (i : Int) * 7) (by omega) (by omega), wrap_i64 (n := ((i / 5 : Nat) : Int)) (by omega) (by omega), wrap_i64 (by omega) (by omega), ← hYn']
      have : (i : Int) * 7 + ((i / 5 : Nat) : Int) = ((i * 7 + i / 5 : Nat) : Int) := by omega
      rw [this]
      rfl
    have hj : (i * 7 + i / 5) % Y'.length < Y'.length := Nat.mod_lt _ (by omega)
    rw [hw]
    generalize (i * 7 + i / 5) % Y'.length = j at hj
    have hgetY : Y'[j]? = some Y'[j] := List.getElem?_eq_getElem hj
    generalize Y'[j] = y at hgetY
    obtain ⟨b, o, ha, hr, hat⟩ := M6.at hgetY
    have hmy := List.mem_of_getElem? hgetY
    have Py := M6.p y hmy
    have Dy := M6.d y hmy
    have hget : O[i]? = some O[i] := List.getElem?_eq_getElem (by omega)
    generalize O[i] = x at hget
    have hm := List.mem_of_getElem? hget
    obtain ⟨b4, o1, ha4, hr4, hat4⟩ := ((R1.keep K1).keep M6.K).at hget
    have hd := ((R1.keep K1).keep Py.under).d x hm
    have hz := R1.z x hm
    have hs := sO x hm
    refine ⟨b, o, ha, hr, _, hat, b4, o1, ha4, hr4, x.o.kind, hat4 0 (by omega), x.o.nm, hat4 1 (by omega), x.o.to, hat4 2 (by omega), x.d, hat4 3 (by omega), x.o.a, hat4 4 (by omega), x.o.b, hat4 5 (by omega), x.o.c, hat4 6 (by omega), x.k, hat4 7 (by omega), ?_⟩
    refine does_p Py.wide Dy (by omega) hz.1 hz.2.1 hd.1 hd.2.1 (by omega) hd.2.2 (by omega) fun h7 A2 B2 Z2 => ⟨true, rfl, fun _ => ?_, fun e => (by cases e)⟩
    obtain ⟨X1, X2, rfl, _⟩ := split_at hgetY
    rw [inc_i (n := 1000) (by omega) (by omega)]
    exact ⟨⟨i + 1, X1 ++ ⟨y.pb, A2, B2, _⟩ :: X2, rfl, by omega, by rw [← hYn']; simp, M6.step Z2 (DN.step Dy hz.2.2.1 hz.2.2.2.1 hz.2.2.2.2.1)⟩, by dsimp only; omega⟩
end
end Go.Eng.Ytekflkpnpibneaa
end
section
namespace Go.Proofs.Ytekflkpnpibneaa.diskMany
open Go.ChangeShapes Go.WideShapes Go.ChangeAt Go.RowKit Go.Eng Go.Eng.Ytekflkpnpibneaa
set_option linter.unusedVariables false
theorem own : ownKnob Try.prog.godebug = none := by kernel_rfl
theorem laidOut : laidOutB Try.prog = true := by kernel_rfl
theorem walk {a0 a1 : Option Addr} {len0 cap0 len1 cap1 : Nat} {n : Int} {L : List (Sl × RawF)} {O : List OpR} {W : World} (X : LA (wh W) 0 ⟨a0, len0, cap0⟩ L) (R1 : OA (wh W) ⟨a1, len1, cap1⟩ O) (hO : O.length ≤ 140737488355328) :
    Calls Try.prog 9 #[.slice a0 len0 cap0, .slice a1 len1 cap1, .int .i64 n] W fun e W' => e = .returned (.bool true) ∧ Below W.heap.size W W' := by
  have hT : F9.T ⟨a0, len0, cap0⟩ ⟨a1, len1, cap1⟩ n (wh W) (fun v h' => v = .bool true ∧ Keep (wh W) h') := many_s X R1 hO fun h' K => ⟨rfl, K⟩
  have hV : F9.V [.slice a0 len0 cap0, .slice a1 len1 cap1, .int .i64 n] (wh W) (fun v h' => v = .bool true ∧ Keep (wh W) h') := hT
  refine (F9.ok.2 _ (wh W) _ hV (fun _ => none) W (own_wh W)).mono fun e W' ⟨v, h', he, ho, hw, hv, K⟩ => ?_
  subst hv
  exact ⟨he, below_of hw ho K⟩
set_option maxRecDepth 100000 in
theorem lifted (os : Os) (started : os.Started) (H : Type) (enc : TypeId × Value → H) :
    ReturnsInHanded {} Try.checked os 9 .any (Rows.diskManySpec.pre6 enc Try.prog Try.f9 Rows.diskManyRow.domain false) (Rows.diskManySpec.post enc Try.prog Try.f9 false true false false) := by
  refine returnsInHanded_of_change_sized (C := Try.checked) own started (by kernel_rfl) Try.func9
    (ChangeSpec.witness6 (enc := enc) (C := Try.checked) false ⟨#[], #[.slice none 0 0, .slice none 0 0, .int .i64 0], []⟩ 8 (by kernel_rfl) (by kernel_rfl) (by kernel_rfl) (by kernel_rfl)) ?_
  intro W base args ds gs before hval0 hW hcnd hsz0 _
  have hval : ∀ (j : Nat) t v, Try.f9.params[j]? = some t → args[j]? = some v → Value.okWide Try.prog W .any base t v := hval0
  have hsz : (DataW.weightsEach Try.prog (Try.f9.params.toList ++ Rows.diskManySpec.plain.varTypes Try.prog) (ds ++ gs)).all (· ≤ reachBytes) = true := hsz0
  have hW' := hW
  obtain ⟨p, q, hA0, hV, rfl, hfz, hnd⟩ := hW
  have hA : DataW.TrodAll enc Try.prog W 0 (fun _ => true) true Try.f9.params.toList args.toList ds p := hA0
  rw [Try.params9] at hA hval
  obtain ⟨v0, vs0, d0, ds0, p0, q0, hargs, rfl, rfl, h0, r0⟩ := trodAll_cons hA
  obtain ⟨v1, vs1, d1, ds1, p1, q1, rfl, rfl, rfl, h1, r1⟩ := trodAll_cons r0
  obtain ⟨v2, vs2, d2, ds2, p2, q2, rfl, rfl, rfl, h2, r2⟩ := trodAll_cons r1
  obtain ⟨rfl, rfl, rfl⟩ := trodAll_nil r2
  obtain rfl : args = #[v0, v1, v2] := by cases args; simp_all
  obtain ⟨rfl, rfl⟩ := trodVars_none hV
  obtain ⟨a0, len0, cap0, rfl⟩ := okWide_slice Try.underlying23 (hval 0 23 v0 rfl rfl)
  have k0 := h0
  have lt0 : ∀ x ∈ p0, x.block < W.heap.size := by obtain ⟨m, hm⟩ := k0; exact DataW.trod_lt m _ _ _ hm
  have wb0 : WB Try.prog 23 d0 := wb_arg (j := 0) hsz rfl rfl
  obtain ⟨a1, len1, cap1, rfl⟩ := okWide_slice Try.underlying36 (hval 1 36 v1 rfl rfl)
  have k1 := h1
  have lt1 : ∀ x ∈ p1, x.block < W.heap.size := by obtain ⟨m, hm⟩ := k1; exact DataW.trod_lt m _ _ _ hm
  have wb1 : WB Try.prog 36 d1 := wb_arg (j := 1) hsz rfl rfl
  obtain ⟨a2, rfl, rfl, rfl, w2⟩ := open_int Try.underlying3 (hval 2 3 v2 rfl rfl) h2
  obtain ⟨L, X⟩ : ∃ L, LA (wh W) 0 ⟨a0, len0, cap0⟩ L := by obtain ⟨m, hm⟩ := k0; exact open_files hm wb0 (by decide)
  obtain ⟨O, R1, hO⟩ : ∃ O, OA (wh W) ⟨a1, len1, cap1⟩ O ∧ O.length ≤ 140737488355328 := by obtain ⟨m, hm⟩ := k1; exact open_ops hm wb1
  clear hA0 hval0 hsz0
  refine (walk X R1 hO).mono fun e W' ⟨he, bel⟩ => ?_
  subst he
  exact ⟨_, rfl, _, _, _, [], _, [], hW', trodAll_mk1 (shut_bool Try.underlying4 _), (trodAll_cons_mk (Below.trod laidOut (by kernel_rfl) (of_decide_eq_true (by kernel_rfl)) k0 bel lt0) (trodAll_cons_mk (Below.trod laidOut (by kernel_rfl) (of_decide_eq_true (by kernel_rfl)) k1 bel lt1) (trodAll_cons_mk (shut_int Try.underlying3 w2) ( trodAll_mk0)))), rfl, bel.frame _, fun h => by cases h⟩
theorem over : Rows.diskManyRow.holds Try.pinned (OpenSpec.ofChange Rows.diskManySpec) :=
  OpenClaim.holds_of_wide 9 Try.f9 rfl rfl rfl rfl rfl rfl rfl ⟨rfl, rfl, rfl, rfl, rfl⟩ rfl rfl rfl rfl rfl (by kernel_rfl) Try.func9 (by kernel_rfl)
    (of_decide_eq_true (by kernel_rfl)) (by unfold Func.isWrapper; first | (rw [if_pos (by decide +kernel)]; kernel_rfl) | (rw [if_neg (by decide +kernel)]; exact ⟨rfl, rfl⟩))
    (fun os started H enc _ => lifted os started H enc)
theorem proved : Rows.DiskManySaid := over
#print axioms proved
end Go.Proofs.Ytekflkpnpibneaa.diskMany
end
