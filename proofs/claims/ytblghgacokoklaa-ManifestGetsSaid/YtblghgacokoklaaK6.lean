/-
  Proved: the law ManifestGets answers true, whatever the list of records, and what it was handed reads behind the call as it read before. No condition.
-/
import Derived.Test.YtblghgacokoklaaRows
import Derived.Test.YtblghgacokoklaaK5
import Derived.WalkKit
import Derived.ProofKit
import Derived.OpenShut
import Derived.ShutString
import Derived.ChangeOld
import Derived.Below
import Derived.SizedLaws
section
namespace Go.Proofs.Ytblghgacokoklaa.manifestGets
open Go.ChangeShapes Go.WideShapes Go.ChangeAt Go.RowKit Go.Eng Go.Eng.Ytblghgacokoklaa
set_option linter.unusedVariables false
theorem own : ownKnob Try.prog.godebug = none := by kernel_rfl
theorem laidOut : laidOutB Try.prog = true := by kernel_rfl
theorem walk {a0 : Option Addr} {len0 cap0 : Nat} {W : World} {ss : List Sl} {recs : List (List Int)} (hrow : (wh W).row a0 len0 (slV ss)) (hc0 : len0 ≤ cap0) (R : Eng.Ytblghgacokoklaa.Rows (wh W) ss recs) (hcaps : ∀ s ∈ ss, s.n ≤ s.c) (hok : ∀ r ∈ recs, ∀ c ∈ r, 0 ≤ c ∧ c < 256) (hsm : ∀ s ∈ ss, s.n ≤ 9223372036854775807) :
    Calls Try.prog 4 #[.slice a0 len0 cap0] W fun e W' => e = .returned (.bool true) ∧ Below W.heap.size W W' := by
  have hT : F4.T ⟨a0, len0, cap0⟩ (wh W) (fun v h' => v = .bool true ∧ Keep (wh W) h') := gets_spec (l := ⟨a0, len0, cap0⟩) hrow hc0 R hcaps hok hsm fun h' K => ⟨rfl, K⟩
  have hV : F4.V [.slice a0 len0 cap0] (wh W) (fun v h' => v = .bool true ∧ Keep (wh W) h') := hT
  refine (F4.ok.2 [.slice a0 len0 cap0] (wh W) _ hV (fun _ => none) W (own_wh W)).mono fun e W' ⟨v, h', he, ho, hw, hv, K⟩ => ?_
  subst hv
  exact ⟨he, below_of hw ho K⟩
set_option maxRecDepth 100000 in
theorem lifted (os : Os) (started : os.Started) (H : Type) (enc : TypeId × Value → H) :
    ReturnsInHanded {} Try.checked os 4 .any (Rows.manifestGetsSpec.pre6 enc Try.prog Try.f4 Rows.manifestGetsRow.domain false) (Rows.manifestGetsSpec.post enc Try.prog Try.f4 false true false false) := by
  refine returnsInHanded_of_change_sized (C := Try.checked) own started (by kernel_rfl) Try.func4
    (ChangeSpec.witness6 (enc := enc) (C := Try.checked) false ⟨#[], #[.slice none 0 0], []⟩ 8 (by kernel_rfl) (by kernel_rfl) (by kernel_rfl) (by kernel_rfl)) ?_
  intro W base args ds gs before hval0 hW hcnd hsz0 _
  have hval : ∀ (j : Nat) t v, Try.f4.params[j]? = some t → args[j]? = some v → Value.okWide Try.prog W .any base t v := hval0
  have hW' := hW
  obtain ⟨p, q, hA0, hV, rfl, hfz, hnd⟩ := hW
  have hA : DataW.TrodAll enc Try.prog W 0 (fun _ => true) true Try.f4.params.toList args.toList ds p := hA0
  rw [Try.params4] at hA hval
  obtain ⟨v0, vs0, d0, ds0, p0, q0, hargs, rfl, rfl, h0, r0⟩ := trodAll_cons hA
  obtain ⟨rfl, rfl, rfl⟩ := trodAll_nil r0
  obtain rfl : args = #[v0] := by cases args; simp_all
  obtain ⟨rfl, rfl⟩ := trodVars_none hV
  obtain ⟨a0, len0, cap0, rfl⟩ := okWide_slice Try.underlying23 (hval 0 23 v0 rfl rfl)
  have k0 := h0
  have lt0 : ∀ x ∈ p0, x.block < W.heap.size := by obtain ⟨m, hm⟩ := k0; exact DataW.trod_lt m _ _ _ hm
  obtain ⟨hc0, ss, recs, hrow, R, hcaps, hsm, hok⟩ := open_rows Try.underlying23 Try.underlying25 Try.underlying5 (by kernel_rfl) (by kernel_rfl) h0
  clear hA0 hval0 hsz0
  refine (walk hrow hc0 R hcaps hok hsm).mono fun e W' ⟨he, bel⟩ => ?_
  subst he
  exact ⟨_, rfl, _, _, _, [], _, [], hW', trodAll_mk1 (shut_bool Try.underlying4 _), (trodAll_cons_mk (Below.trod laidOut (by kernel_rfl) (of_decide_eq_true (by kernel_rfl)) k0 bel lt0) trodAll_mk0), rfl, bel.frame _, fun h => by cases h⟩
theorem over : Rows.manifestGetsRow.holds Try.pinned (OpenSpec.ofChange Rows.manifestGetsSpec) :=
  OpenClaim.holds_of_wide 4 Try.f4 rfl rfl rfl rfl rfl rfl rfl ⟨rfl, rfl, rfl, rfl, rfl⟩ rfl rfl rfl rfl rfl (by kernel_rfl) Try.func4 (by kernel_rfl)
    (of_decide_eq_true (by kernel_rfl)) (by unfold Func.isWrapper; first | (rw [if_pos (by decide +kernel)]; kernel_rfl) | (rw [if_neg (by decide +kernel)]; exact ⟨rfl, rfl⟩))
    (fun os started H enc _ => lifted os started H enc)
theorem proved : Rows.ManifestGetsSaid := over
#print axioms proved
end Go.Proofs.Ytblghgacokoklaa.manifestGets
end
