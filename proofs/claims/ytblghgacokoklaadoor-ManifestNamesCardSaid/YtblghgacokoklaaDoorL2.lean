/-
  Proved: the law ManifestNames answers true, whatever the kind, the number, the name and the bytes, and what it was handed reads behind the call as it read before; the card ties what the package's table holds at the start to the program's text. No other condition.
-/
import Derived.Test.YtblghgacokoklaaDoorRows
import Derived.Test.YtblghgacokoklaaDoorCards
import Derived.Test.YtblghgacokoklaaDoorTie
import Derived.Test.YtblghgacokoklaaDoorD8
import Derived.Test.YtblghgacokoklaaDoorTR0
import Derived.WalkKit
import Derived.ProofKit
import Derived.OpenShut
import Derived.ShutString
import Derived.ChangeOld
import Derived.ChangeMaps5
import Derived.Below
import Derived.SizedLaws
import Derived.LaidMore
import Derived.Stop.Joined
import Derived.SevenTiedAt
namespace Go.Proofs.YtblghgacokoklaaDoor.manifestNames
open Go.ChangeShapes Go.WideShapes Go.ChangeAt Go.RowKit Go.Eng Go.Eng.YtblghgacokoklaaDoor
set_option linter.unusedVariables false
set_option maxRecDepth 100000
theorem own : ownKnob Tryd.prog.godebug = none := by kernel_rfl
theorem laidOut : laidOutB Tryd.prog = true := by kernel_rfl
theorem gNib : Tryd.prog.globalNamed "scree/codec.nibbles" = some 0 := by kernel_rfl
theorem tNib : (Tryd.prog.globals[0]?).map (·.type) = some 198 := by kernel_rfl
theorem cNib : Tryd.prog.cellsOf 198 = 16 := by kernel_rfl
theorem c32 : Tryd.prog.cellsOf 133 = 1 := by kernel_rfl
theorem datum : Rows.laid_scree_codec_nibbles (H := Unit) = .agg (nibL.map fun n : Nat => .lit (.int .u32 (n : Int))) := rfl
/-- The table lies in the first block. -/
theorem tab_of_laid {W : World} (h : laidMetH Tryd.prog [("scree/codec.nibbles", Rows.laid_scree_codec_nibbles)] W) : Tab (wh W) := by
  rw [MakeChecks.laidMetH_plain _ _ _ (by kernel_rfl)] at h
  obtain ⟨ps, ⟨g0, t0, cs0, f0, p0, q0, hg0, ht0, hv0, hd0, _, _⟩, _⟩ := h
  obtain rfl := Option.some.inj (gNib.symm.trans hg0)
  obtain rfl := Option.some.inj (tNib.symm.trans ht0)
  obtain ⟨xs, m, rfl, hx, hlen, hn, hel⟩ := DataW.trod_array Tryd.underlying198 hd0
  rw [cNib] at hlen
  rw [datum] at hx
  simp only [Prod.mk.injEq, DataW.agg.injEq] at hx
  intro i hi
  have h1 := hel i hi
  rw [c32, Nat.mul_one, List.getElem?_eq_getElem (by omega)] at h1
  have hil : i < cs0.toList.length := by omega
  have e1 : (cs0.toList.drop i).take 1 = [cs0.toList[i]] := by
    rw [List.drop_eq_getElem_cons hil]; rfl
  rw [e1] at h1
  obtain ⟨n, e2, e3, _⟩ := DataW.trod_int Tryd.underlying133 h1
  have e4 : (xs.map (·.1))[i]? = some (.lit (.int .u32 ((nib i : Nat) : Int))) := by
    rw [← hx.1, List.getElem?_map, nib_tab i hi]; rfl
  rw [List.getElem?_map, List.getElem?_eq_getElem (by omega)] at e4
  simp only [Option.map_some, Option.some.injEq] at e4
  rw [e3] at e4
  simp only [DataW.lit.injEq, Lit.int.injEq, true_and] at e4
  subst e4
  refine cell_at ?_
  rw [World.var?_cell hg0 hv0 i, ← Array.getElem?_toList, List.getElem?_eq_getElem hil]
  simp only [List.cons.injEq, and_true] at e2
  rw [e2]
theorem door_met (os : Os) (args : Array Value) : laidMetH Tryd.prog [("scree/codec.nibbles", Rows.laid_scree_codec_nibbles)] ((World.doorLaid Tryd.prog 14 os).forCall (fun _ _ => 0) ⟨#[], args, []⟩).memory :=
  laidMetH_of_parts3 (fuel := 8) (laidMet_of_run' 8 (by kernel_rfl) (by kernel_rfl)) (by kernel_rfl) (by kernel_rfl)
theorem walk {W : World} {k : Int} {m : Nat} {s : ByteArray} {l : Sl} {r : List Int} (T : Tab (wh W)) (hm : m < 18446744073709551616) (hr : (wh W).row l.a l.n (bv r)) (hc : l.n ≤ l.c) (hok : okB8 r) (hs : r.length + 700 ≤ 140737488355328) (hsz : s.size + 20 ≤ 140737488355328) :
    Calls Tryd.prog 3 #[.int .u8 k, .int .u64 (m : Int), .string s, .slice l.a l.n l.c] W fun e W' => e = .returned (.bool true) ∧ Below W.heap.size W W' := by
  have hT : F3.T k (m : Int) s l (wh W) (fun v h' => v = .bool true ∧ Keep (wh W) h') := names_spec T hm hr hc hok hs hsz fun h' K => ⟨rfl, K⟩
  have hV : F3.V [.int .u8 k, .int .u64 (m : Int), .string s, .slice l.a l.n l.c] (wh W) (fun v h' => v = .bool true ∧ Keep (wh W) h') := hT
  refine (F3.ok.2 [.int .u8 k, .int .u64 (m : Int), .string s, .slice l.a l.n l.c] (wh W) _ hV (fun _ => none) W (own_wh W)).mono fun e W' ⟨v, h', he, ho, hw, hv, K⟩ => ?_
  subst hv
  exact ⟨he, below_of hw ho K⟩
theorem lifted (os : Os) (started : os.Started) (H : Type) (enc : TypeId × Value → H) :
    ReturnsInHanded {} Tryd.checked os 3 .any (fun w args => (Rows.manifestNamesSpec.pre enc Tryd.prog Tryd.f3 [] false w args ∧ laidMetH Tryd.prog [("scree/codec.nibbles", Rows.laid_scree_codec_nibbles)] w) ∧ sizedMet enc Tryd.prog Tryd.f3 (OpenSpec.ofChange Rows.manifestNamesSpec) false w args)
      (Rows.manifestNamesSpec.post enc Tryd.prog Tryd.f3 false true false false) := by
  refine returnsInHanded_of_change_and (C := Tryd.checked) (X := fun w _ => laidMetH Tryd.prog [("scree/codec.nibbles", Rows.laid_scree_codec_nibbles)] w) (fun _ _ _ hh h => h.of_heap hh) own started (by kernel_rfl) Tryd.func3
    (ChangeSpec.witness_shaped (enc := enc) (C := Tryd.checked) (os := os) (X := fun w _ => laidMetH Tryd.prog [("scree/codec.nibbles", Rows.laid_scree_codec_nibbles)] w) false (World.doorLaid Tryd.prog 14 os) #[.int .u8 0, .int .u64 0, .string ⟨#[]⟩, .slice none 0 0] 8 rfl (World.shaped_of_RefB (by kernel_rfl) (by kernel_rfl)) (by kernel_rfl) (by kernel_rfl) (by kernel_rfl) (door_met os _)) ?_
  intro W base args ds gs before hval0 hW _ hsz0 hL _
  have hval : ∀ (j : Nat) t v, Tryd.f3.params[j]? = some t → args[j]? = some v → Value.okWide Tryd.prog W .any base t v := hval0
  have hW' := hW
  obtain ⟨p, q, hA0, hV, rfl, hfz, hnd⟩ := hW
  have hA : DataW.TrodAll enc Tryd.prog W 0 (fun _ => true) true Tryd.f3.params.toList args.toList ds p := hA0
  rw [Tryd.params3] at hA hval hsz0
  obtain ⟨v0, vs0, d0, ds0, p0, q0, hargs, rfl, rfl, h0, r0⟩ := trodAll_cons hA
  obtain ⟨v1, vs1, d1, ds1, p1, q1, rfl, rfl, rfl, h1, r1⟩ := trodAll_cons r0
  obtain ⟨v2, vs2, d2, ds2, p2, q2, rfl, rfl, rfl, h2, r2⟩ := trodAll_cons r1
  obtain ⟨v3, vs3, d3, ds3, p3, q3, rfl, rfl, rfl, h3, r3⟩ := trodAll_cons r2
  obtain ⟨rfl, rfl, rfl⟩ := trodAll_nil r3
  obtain rfl : args = #[v0, v1, v2, v3] := by cases args; simp_all
  obtain ⟨rfl, rfl⟩ := trodVars_none hV
  obtain ⟨k, rfl, rfl, rfl, w0⟩ := open_int Tryd.underlying5 (hval 0 5 v0 rfl rfl) h0
  obtain ⟨n, rfl, rfl, rfl, w1⟩ := open_int Tryd.underlying22 (hval 1 22 v1 rfl rfl) h1
  obtain ⟨s, rfl, rfl, rfl, hs⟩ := Go.ChangeMaps.open_string Tryd.underlying9 (hval 2 9 v2 rfl rfl) h2
  obtain ⟨a0, len0, cap0, rfl⟩ := okWide_slice Tryd.underlying23 (hval 3 23 v3 rfl rfl)
  have k3 := h3
  have lt3 : ∀ x ∈ p3, x.block < W.heap.size := by obtain ⟨m, hm⟩ := k3; exact DataW.trod_lt m _ _ _ hm
  have hss := sized_string (j := 2) hsz0 rfl rfl
  obtain ⟨fuel, hf⟩ := h3
  obtain ⟨r, hrow, hcap, _, hok⟩ := open_bytes (s := ⟨a0, len0, cap0⟩) Tryd.underlying23 Tryd.underlying5 (by kernel_rfl) hf
  have hlen : len0 ≤ reachBytes := by
    rcases DataW.trod_slice Tryd.underlying23 hf with ⟨hcs, _⟩ | ⟨x, l, c, elems, rest, n', _, hcs, hx, hb, hl, hm, hlen, hel, _, _⟩
    · simp [Value.cells] at hcs; omega
    · simp [Value.cells] at hcs
      obtain ⟨rfl, rfl, rfl⟩ := hcs
      simp only [Prod.mk.injEq] at hx
      obtain ⟨rfl, _⟩ := hx
      have := sized_slice (j := 3) hsz0 rfl rfl Tryd.underlying23
      have hb5 : Tryd.checked.prog.bytesOf 5 = 1 := by kernel_rfl
      rw [hb5, Nat.mul_one] at this
      simp at this
      omega
  have hrl : r.length = len0 := by have := hrow.1; rw [bv_length] at this; exact this
  have hR : reachBytes = 140737488351232 := by decide
  obtain ⟨m, rfl⟩ : ∃ m : Nat, n = (m : Int) := ⟨n.toNat, by
    have : 0 ≤ n := by simp [Lit.wf, IntKind.min, IntKind.max, IntKind.signed, IntKind.bits] at w1; omega
    omega⟩
  have hm : m < 18446744073709551616 := by simp [Lit.wf, IntKind.min, IntKind.max, IntKind.signed, IntKind.bits] at w1; omega
  have hsb : s.size ≤ reachBytes := by
    have e : s.size = s.data.toList.length := by rw [Array.length_toList]; rfl
    rw [e]; exact hss
  clear hA0 hval0 hsz0
  refine (walk (l := ⟨a0, len0, cap0⟩) (tab_of_laid hL) hm hrow hcap hok (by omega) (by omega)).mono fun e W' ⟨he, bel⟩ => ?_
  subst he
  exact ⟨_, rfl, _, _, _, [], _, [], hW', trodAll_mk1 (shut_bool Tryd.underlying4 _),
    (trodAll_cons_mk (shut_int Tryd.underlying5 w0) (trodAll_cons_mk (shut_int Tryd.underlying22 w1) (trodAll_cons_mk (Below.trod laidOut (by kernel_rfl) (of_decide_eq_true (by kernel_rfl)) h2 bel (fun x hx => by cases hx)) (trodAll_cons_mk (Below.trod laidOut (by kernel_rfl) (of_decide_eq_true (by kernel_rfl)) k3 bel lt3) trodAll_mk0)))), rfl, bel.frame _, fun h => by cases h⟩
theorem over : Rows.ManifestNamesSaid :=
  OpenClaim.holds_of_wide 3 Tryd.f3 rfl rfl rfl rfl rfl rfl rfl ⟨rfl, rfl, rfl, rfl, rfl⟩ rfl rfl rfl rfl rfl (by kernel_rfl) Tryd.func3 (by kernel_rfl)
    (of_decide_eq_true (by kernel_rfl)) (by unfold Func.isWrapper; first | (rw [if_pos (by decide +kernel)]; kernel_rfl) | (rw [if_neg (by decide +kernel)]; exact ⟨rfl, rfl⟩))
    (fun os started H enc _ => lifted os started H enc)
theorem proved : Rows.ManifestNamesCardSaid :=
  Claim7.holds_tied_plain_at .later [] [.data] true (true, "7bfe45f4d7d1248fbb256a9a881accb087cc8ebbb082f31669a99a686b5bfe16") false
    over (fun _ h => by cases h) (by kernel_rfl) (fun _ h => by cases h) manifestNames_row_tie rfl ⟨rfl, rfl⟩ (by kernel_rfl) rfl
    (fun f fn hf hfn => by
      obtain rfl : f = 3 := Option.some.inj ((show Tryd.prog.funcNamed "scree/screelaw14.ManifestNames" = some 3 by kernel_rfl).symm.trans hf) |>.symm
      obtain rfl : fn = Tryd.f3 := (Option.some.inj (Tryd.func3.symm.trans hfn)).symm
      exact ⟨by kernel_rfl, fun j t ht => by
        rw [Tryd.params3] at ht
        have hm : t ∈ [5, 22, 9, 23] := by simpa using Array.mem_of_getElem? ht
        have hall : ([5, 22, 9, 23].all fun u => !Tryd.prog.wantsStandIn u) = true := by kernel_rfl
        exact (show Tryd.prog.wantsStandIn t = false by simpa using List.all_eq_true.1 hall t hm)⟩)
    (by kernel_rfl)
#print axioms proved
end Go.Proofs.YtblghgacokoklaaDoor.manifestNames
