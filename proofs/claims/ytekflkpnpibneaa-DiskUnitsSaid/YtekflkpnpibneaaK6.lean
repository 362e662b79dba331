
/-
  Proved: the law DiskUnits answers true, whatever it is handed, and what it was handed reads behind the call as it read before. No condition.
-/
import Derived.Test.YtekflkpnpibneaaK5
import Derived.Test.YtekflkpnpibneaaRows
import Derived.WalkKit
import Derived.ProofKit
import Derived.OpenShut
import Derived.ShutString
import Derived.ChangeOld
import Derived.Below
import Derived.SizedLaws
section

/-
  SPECS OF THE DISK, 19: the laws Units and Many.
-/
set_option linter.unusedSimpArgs false
set_option linter.unusedVariables false
set_option maxRecDepth 100000
namespace Go.Eng.Ytekflkpnpibneaa
section
variable {g h h' h1 h2 : Hp} {Q : Value → Hp → Prop} {A : PA} {B : RB} {S : Dk} {pb : Nat}
/-- Both tell their files. -/
theorem files2 (X : PR g h pb A B S) (D : DOk S) (hQ : ∀ h', PR g h' pb A B S → Keep h h' → Q (.bool true) h') :
    ∃ b o, (some ⟨pb, 0, none⟩ : Option Addr) = some ⟨b, o, none⟩ ∧ ∃ p1 : Option Addr, h.at b o = some (.pointer p1) ∧ ∃ b1 o1, (some ⟨pb, 0, none⟩ : Option Addr) = some ⟨b1, o1, none⟩ ∧ ∃ p2 : Option Addr, h.at b1 (o1 + 1) = some (.pointer p2) ∧ F14.T p1 h fun r h1 => ∃ l : Sl, r = .slice l.a l.n l.c ∧ h1.at b1 (o1 + 1) = some (.pointer p2) ∧ F15.T p2 h1 fun r1 h2 => ∃ l1 : Sl, r1 = .slice l1.a l1.n l1.c ∧ F13.T l l1 h2 Q := by
  refine ⟨pb, 0, rfl, some ⟨A.db, 0, none⟩, at_of X.pbe 0, pb, 0, rfl, some ⟨B.db, 0, none⟩, at_of X.pbe 1, files_p X.P D fun h6 r6 L6 K6 F6 e6 => ⟨r6, rfl, at_of (K6 _ _ X.pbe) 1, files_r (X.R.keep K6) D fun h7 r7 L7 K7 F7 e7 => ⟨r7, rfl, sameF (F6.keep K7) F7 (e6.trans e7.symm) ?_ (by have h1 := congrArg List.length e6; have h2 := D.len; unfold dtold at h1; simp only [List.length_map] at h1; omega)⟩⟩⟩
  exact hQ h7 (X.keep (K6.trans K7)) (K6.trans K7)
theorem nameOk_len {n : Nat} {S : Dk} (D : DN n S) (hn : n ≤ 100000000) : S.chg.length ≤ 1000000000 ∧ S.fl.length ≤ 1000000000 := by have := D.c; have := D.f; omega
theorem units_s {room n1 : Int} {l l1 : Sl} {L : List (Sl × RawF)} {O : List OpR} (X : LA h room l L) (R1 : OA h l1 O) (hO : O.length ≤ 140737488355328) (hn1 : n1 ≤ 9223372036854775807) (hQ : ∀ h', Keep h h' → Q (.bool true) h') : F8.T room l l1 n1 h Q := by
  have hlen := X.len
  unfold F8.T F8.G
  refine known_s fun h1 K1 => ⟨true, rfl, fun _ => ?_, fun e => (by cases e)⟩
  refine small_s (X.R.keep K1) (R1.keep K1) X.data (by omega) hO ⟨false, rfl, fun e => (by cases e), fun _ => hQ h1 K1⟩ (fun sL sO sn => ⟨true, rfl, fun _ => ⟨fun _ => hQ h1 K1, fun h60 => ?_⟩, fun e => (by cases e)⟩)
  refine begin_s (X.R.keep K1) X.room X.nm X.len (fun x hx => Nat.le_trans (sL x hx) (by decide)) (fun _ h3 K3 => ⟨none, true, fun _ => ⟨rfl, okPtr_none _ _, fun _ => hQ h3 (K1.trans K3), fun hne => absurd rfl hne⟩, fun e => (by cases e)⟩) (fun hnew h3 pb A B Y => ⟨some ⟨pb, 0, none⟩, true, fun _ => ⟨rfl, okPtr_none _ _, fun e => (by cases e), fun _ => ?_⟩, fun e => (by cases e)⟩)
  have D := newOk_dn hnew X.room
  rw [← fs_map] at D
  have hln := R1.len
  generalize fresh room (L.map fun x => x.2.f) = S0 at D Y
  refine ⟨pb, 0, rfl, some ⟨A.db, 0, none⟩, at_of Y.pbe 0, arm_p Y.P fun h4 P4 T4 => ?_⟩
  obtain ⟨R4, c4⟩ := Y.step rfl P4 T4
  refine ⟨pb, 0, rfl, some ⟨B.db, 0, none⟩, at_of (T4.keep _ _ Y.np Y.pbe) 1, arm_r R4 fun h5 R5 T5 => ?_⟩
  have Y5 := (c4 rfl R5 T5).1
  refine ⟨fun n2 h6 => ∃ (k : Nat) (A : PA) (B : RB) (S : Dk), n2 = (k : Int) ∧ k ≤ O.length ∧ PR h1 h6 pb A B S ∧ DN k S, fun n2 _ => O.length - n2.toNat, ⟨0, A, B, _, rfl, Nat.zero_le _, Y5, D.arm hn1⟩, ?_⟩
  rintro n2 h6 ⟨k, A', B', S, rfl, hk, Z, DZ⟩
  refine ⟨fun hlt => ?_, fun hge => ?_⟩
  · have hget : O[k]? = some O[k] := List.getElem?_eq_getElem (by omega)
    generalize O[k] = x at hget
    have hm := List.mem_of_getElem? hget
    have R4 := (R1.keep K1).keep Z.K
    obtain ⟨b, o, ha, hr, hat⟩ := R4.at hget
    have hd := (R1.keep K1).d x hm
    have hz := R1.z x hm
    have hs := sO x hm
    refine ⟨b, o, ha, hr, x.o.kind, hat 0 (by omega), x.o.nm, hat 1 (by omega), x.o.to, hat 2 (by omega), x.d, hat 3 (by omega), x.o.a, hat 4 (by omega), x.o.b, hat 5 (by omega), x.o.c, hat 6 (by omega), x.k, hat 7 (by omega), ?_⟩
    rw [inc_i (n := 1000) (by omega) (by omega)]
    have hnext : ∀ h7, (∃ (A : PA) (B : RB) (S : Dk), PR h1 h7 pb A B S ∧ DN (k + 1) S) → (∃ (k_1 : Nat) (A : PA) (B : RB) (S : Dk), ((k : Int) + 1) = (k_1 : Int) ∧ k_1 ≤ O.length ∧ PR h1 h7 pb A B S ∧ DN k_1 S) ∧ O.length - ((k : Int) + 1).toNat < O.length - (k : Int).toNat := fun h7 ⟨A, B, S, e1, e2⟩ => ⟨⟨k + 1, A, B, S, by omega, by omega, e1, e2⟩, by omega⟩
    refine ⟨fun _ => hnext h6 ⟨_, _, _, Z, DZ.mono (Nat.le_succ _)⟩, fun _ => ⟨fun _ => hnext h6 ⟨_, _, _, Z, DZ.mono (Nat.le_succ _)⟩, fun _ => ?_⟩⟩
    refine does_p Z DZ (by omega) hz.1 hz.2.1 hd.1 hd.2.1 (by omega) hd.2.2 (by omega) fun h7 A2 B2 Z2 => ⟨true, rfl, fun _ => ?_, fun e => (by cases e)⟩
    have D2 : DN (k + 1) (kStep S ⟨x.o.kind, x.o.nm, x.o.to, x.o.data, x.o.a, x.o.b, x.o.c, x.o.keep⟩) := DN.step DZ hz.2.2.1 hz.2.2.2.1 hz.2.2.2.2.1
    generalize kStep S ⟨x.o.kind, x.o.nm, x.o.to, x.o.data, x.o.a, x.o.b, x.o.c, x.o.keep⟩ = S2 at Z2 D2
    refine ⟨pb, 0, rfl, some ⟨A2.db, 0, none⟩, at_of Z2.pbe 0, pb, 0, rfl, some ⟨B2.db, 0, none⟩, at_of Z2.pbe 1, down_p Z2.P ⟨S2.down, rfl, fun ed => ⟨at_of Z2.pbe 1, fell_r Z2.R ⟨S2.down, rfl, fun _ => ⟨fun _ => hnext h7 ⟨_, _, _, Z2, D2⟩, fun hne => absurd rfl hne⟩, fun e => (by rw [ed] at e; cases e)⟩⟩, fun ed => ⟨at_of Z2.pbe 1, fell_r Z2.R ⟨S2.down, rfl, fun e => (by rw [ed] at e; cases e), fun _ => ⟨fun _ => hnext h7 ⟨_, _, _, Z2, D2⟩, fun hne => absurd rfl hne⟩⟩⟩⟩⟩
  · refine files2 Z DZ.ok fun h7 Z7 K7 => ⟨true, rfl, fun _ => ?_, fun e => (by cases e)⟩
    have hcl := nameOk_len DZ (by omega)
    refine ⟨pb, 0, rfl, some ⟨A'.db, 0, none⟩, at_of Z7.pbe 0, fun b16 hb16 => ?_⟩
    have K8 := Keep.new hb16 (.cells ⟨[.int .i64 3, .int .i64 0]⟩ 3 (0, 0))
    have Z8 := Z7.keep K8
    have row2 : ∀ (hh : Hp) (bb : Nat), hh bb = some (.cells ⟨[.int .i64 3, .int .i64 0]⟩ 3 (0, 0)) → hh.row (some ⟨bb, 0, none⟩) (2 * 1) ([3, 0].map fun k => Value.int .i64 k) := fun hh bb e => ⟨rfl, .inr ⟨bb, 0, rfl, fun j hj => by
      have : j = 0 ∨ j = 1 := by omega
      rcases this with rfl | rfl
      · exact at_of e 0
      · exact at_of e 1⟩⟩
    refine fall_p (keep := [3, 0]) Z8.P DZ.ok hcl.1 (row2 _ _ (new_at _ _ _)) fun h9 A3 eA P3 T3 => ?_
    obtain ⟨R3, c3⟩ := Z8.step eA P3 T3
    have p9 := T3.keep _ _ Z8.np Z8.pbe
    refine ⟨pb, 0, rfl, some ⟨B'.db, 0, none⟩, at_of p9 1, fun b18 hb18 => ?_⟩
    have K9 := Keep.new hb18 (.cells ⟨[.int .i64 3, .int .i64 0]⟩ 3 (0, 0))
    have P3' := P3.keep K9
    have c3' : ∀ {h2 : Hp} {B4 : RB}, B4.db = B'.db → RD h2 B4 (kFall S 2 [3, 0]) → Tr2 B'.own B4.own (h9.new b18 (.cells ⟨[.int .i64 3, .int .i64 0]⟩ 3 (0, 0))) h2 → PR h1 h2 pb A3 B4 (kFall S 2 [3, 0]) := by
      intro h2 B4 e r t
      exact (Z8.step eA P3' (T3.trKeep K9)).2 e r t |>.1
    refine fall_r (keep := [3, 0]) (R3.keep K9) DZ.ok hcl.1 (row2 _ _ (new_at _ _ _)) fun h10 B3 eB R3 T3 => ?_
    have Z10 := c3' eB R3 T3
    have D10 : DN (k + 1) (kFall S 2 [3, 0]) := (DN.fall DZ _ _).mono (Nat.le_succ _)
    have e10 : (kFall S 2 [3, 0]).down = false := rfl
    generalize kFall S 2 [3, 0] = S3 at Z10 D10 e10
    have hcl3 := nameOk_len D10 (by omega)
    refine ⟨pb, 0, rfl, some ⟨A3.db, 0, none⟩, at_of Z10.pbe 0, down_p Z10.P ⟨S3.down, rfl, fun e => (by rw [e10] at e; cases e), fun _ => ?_⟩⟩
    refine files2 Z10 D10.ok fun h11 Z11 K11 => ⟨true, rfl, fun _ => ?_, fun e => (by cases e)⟩
    refine ⟨pb, 0, rfl, some ⟨A3.db, 0, none⟩, at_of Z11.pbe 0, pb, 0, rfl, some ⟨B3.db, 0, none⟩, at_of Z11.pbe 1, create_p Z11.P D10.ok (by decide) hcl3.1 fun h12 A4 eA4 P4 T4 => ⟨_, rfl, ?_⟩⟩
    obtain ⟨R4, c4⟩ := Z11.step eA4 P4 T4
    refine ⟨at_of (T4.keep _ _ Z11.np Z11.pbe) 1, create_r R4 D10.ok hcl3.1 hcl3.2 fun h13 B4 eB4 R5 T5 => ⟨_, rfl, fun _ => ?_, fun hne => absurd rfl hne⟩⟩
    exact hQ h13 (K1.trans (c4 eB4 R5 T5).1.K)
end
end Go.Eng.Ytekflkpnpibneaa
end
section
namespace Go.Proofs.Ytekflkpnpibneaa.diskUnits
open Go.ChangeShapes Go.WideShapes Go.ChangeAt Go.RowKit Go.Eng Go.Eng.Ytekflkpnpibneaa
set_option linter.unusedVariables false
theorem own : ownKnob Try.prog.godebug = none := by kernel_rfl
theorem laidOut : laidOutB Try.prog = true := by kernel_rfl
theorem walk {a1 a2 : Option Addr} {len1 cap1 len2 cap2 : Nat} {n u : Int} {L : List (Sl × RawF)} {O : List OpR} {W : World} (X : LA (wh W) n ⟨a1, len1, cap1⟩ L) (R1 : OA (wh W) ⟨a2, len2, cap2⟩ O) (hO : O.length ≤ 140737488355328) (hn : u ≤ 9223372036854775807) :
    Calls Try.prog 8 #[.int .i64 n, .slice a1 len1 cap1, .slice a2 len2 cap2, .int .i64 u] W fun e W' => e = .returned (.bool true) ∧ Below W.heap.size W W' := by
  have hT : F8.T n ⟨a1, len1, cap1⟩ ⟨a2, len2, cap2⟩ u (wh W) (fun v h' => v = .bool true ∧ Keep (wh W) h') := units_s X R1 hO hn fun h' K => ⟨rfl, K⟩
  have hV : F8.V [.int .i64 n, .slice a1 len1 cap1, .slice a2 len2 cap2, .int .i64 u] (wh W) (fun v h' => v = .bool true ∧ Keep (wh W) h') := hT
  refine (F8.ok.2 _ (wh W) _ hV (fun _ => none) W (own_wh W)).mono fun e W' ⟨v, h', he, ho, hw, hv, K⟩ => ?_
  subst hv
  exact ⟨he, below_of hw ho K⟩
set_option maxRecDepth 100000 in
theorem lifted (os : Os) (started : os.Started) (H : Type) (enc : TypeId × Value → H) :
    ReturnsInHanded {} Try.checked os 8 .any (Rows.diskUnitsSpec.pre6 enc Try.prog Try.f8 Rows.diskUnitsRow.domain false) (Rows.diskUnitsSpec.post enc Try.prog Try.f8 false true false false) := by
  refine returnsInHanded_of_change_sized (C := Try.checked) own started (by kernel_rfl) Try.func8
    (ChangeSpec.witness6 (enc := enc) (C := Try.checked) false ⟨#[], #[.int .i64 0, .slice none 0 0, .slice none 0 0, .int .i64 0], []⟩ 8 (by kernel_rfl) (by kernel_rfl) (by kernel_rfl) (by kernel_rfl)) ?_
  intro W base args ds gs before hval0 hW hcnd hsz0 _
  have hval : ∀ (j : Nat) t v, Try.f8.params[j]? = some t → args[j]? = some v → Value.okWide Try.prog W .any base t v := hval0
  have hsz : (DataW.weightsEach Try.prog (Try.f8.params.toList ++ Rows.diskUnitsSpec.plain.varTypes Try.prog) (ds ++ gs)).all (· ≤ reachBytes) = true := hsz0
  have hW' := hW
  obtain ⟨p, q, hA0, hV, rfl, hfz, hnd⟩ := hW
  have hA : DataW.TrodAll enc Try.prog W 0 (fun _ => true) true Try.f8.params.toList args.toList ds p := hA0
  rw [Try.params8] at hA hval
  obtain ⟨v0, vs0, d0, ds0, p0, q0, hargs, rfl, rfl, h0, r0⟩ := trodAll_cons hA
  obtain ⟨v1, vs1, d1, ds1, p1, q1, rfl, rfl, rfl, h1, r1⟩ := trodAll_cons r0
  obtain ⟨v2, vs2, d2, ds2, p2, q2, rfl, rfl, rfl, h2, r2⟩ := trodAll_cons r1
  obtain ⟨v3, vs3, d3, ds3, p3, q3, rfl, rfl, rfl, h3, r3⟩ := trodAll_cons r2
  obtain ⟨rfl, rfl, rfl⟩ := trodAll_nil r3
  obtain rfl : args = #[v0, v1, v2, v3] := by cases args; simp_all
  obtain ⟨rfl, rfl⟩ := trodVars_none hV
  obtain ⟨a0, rfl, rfl, rfl, w0⟩ := open_int Try.underlying3 (hval 0 3 v0 rfl rfl) h0
  obtain ⟨a1, len1, cap1, rfl⟩ := okWide_slice Try.underlying23 (hval 1 23 v1 rfl rfl)
  have k1 := h1
  have lt1 : ∀ x ∈ p1, x.block < W.heap.size := by obtain ⟨m, hm⟩ := k1; exact DataW.trod_lt m _ _ _ hm
  have wb1 : WB Try.prog 23 d1 := wb_arg (j := 1) hsz rfl rfl
  obtain ⟨a2, len2, cap2, rfl⟩ := okWide_slice Try.underlying36 (hval 2 36 v2 rfl rfl)
  have k2 := h2
  have lt2 : ∀ x ∈ p2, x.block < W.heap.size := by obtain ⟨m, hm⟩ := k2; exact DataW.trod_lt m _ _ _ hm
  have wb2 : WB Try.prog 36 d2 := wb_arg (j := 2) hsz rfl rfl
  obtain ⟨a3, rfl, rfl, rfl, w3⟩ := open_int Try.underlying3 (hval 3 3 v3 rfl rfl) h3
  obtain ⟨L, X⟩ : ∃ L, LA (wh W) a0 ⟨a1, len1, cap1⟩ L := by obtain ⟨m, hm⟩ := k1; exact open_files hm wb1 (by have := wf_i64 w0; unfold iI at this; omega)
  obtain ⟨O, R1, hO⟩ : ∃ O, OA (wh W) ⟨a2, len2, cap2⟩ O ∧ O.length ≤ 140737488355328 := by obtain ⟨m, hm⟩ := k2; exact open_ops hm wb2
  have hn : a3 ≤ 9223372036854775807 := by have := wf_i64 w3; unfold iI at this; omega
  clear hA0 hval0 hsz0
  refine (walk X R1 hO hn).mono fun e W' ⟨he, bel⟩ => ?_
  subst he
  exact ⟨_, rfl, _, _, _, [], _, [], hW', trodAll_mk1 (shut_bool Try.underlying4 _), (trodAll_cons_mk (shut_int Try.underlying3 w0) (trodAll_cons_mk (Below.trod laidOut (by kernel_rfl) (of_decide_eq_true (by kernel_rfl)) k1 bel lt1) (trodAll_cons_mk (Below.trod laidOut (by kernel_rfl) (of_decide_eq_true (by kernel_rfl)) k2 bel lt2) (trodAll_cons_mk (shut_int Try.underlying3 w3) ( trodAll_mk0))))), rfl, bel.frame _, fun h => by cases h⟩
theorem over : Rows.diskUnitsRow.holds Try.pinned (OpenSpec.ofChange Rows.diskUnitsSpec) :=
  OpenClaim.holds_of_wide 8 Try.f8 rfl rfl rfl rfl rfl rfl rfl ⟨rfl, rfl, rfl, rfl, rfl⟩ rfl rfl rfl rfl rfl (by kernel_rfl) Try.func8 (by kernel_rfl)
    (of_decide_eq_true (by kernel_rfl)) (by unfold Func.isWrapper; first | (rw [if_pos (by decide +kernel)]; kernel_rfl) | (rw [if_neg (by decide +kernel)]; exact ⟨rfl, rfl⟩))
    (fun os started H enc _ => lifted os started H enc)
theorem proved : Rows.DiskUnitsSaid := over
#print axioms proved
end Go.Proofs.Ytekflkpnpibneaa.diskUnits
end
