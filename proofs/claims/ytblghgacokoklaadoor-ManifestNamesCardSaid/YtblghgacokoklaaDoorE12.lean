/-
  THE ENGINE, 13: one operation; a list of operations; code; a call.
-/
import Derived.Test.YtblghgacokoklaaDoorE11
set_option linter.unusedSimpArgs false
set_option linter.unusedVariables false
namespace Go.Eng

/-! ### 1. Calls -/
structure Own (fr h : Hp) (w : World) : Prop where
  hh : ∀ b o, h b = some o → w.heap[b]? = some o
  ff : ∀ b o, fr b = some o → w.heap[b]? = some o
  dj : ∀ b, h b = none ∨ fr b = none
/-- What a function does, for whoever calls it. -/
def Impl (P : Program) (f : Nat) (args : List Value) (T : PT) : Prop :=
  ∀ h Q, T h Q → ∀ fr w, Own fr h w → Calls P f args.toArray w fun e w' => ∃ v h', e = .returned v ∧ Own fr h' w' ∧ Wr w w' ∧ Q v h'
/-- A function with a body. -/
def Enters (P : Program) (f : Nat) : Prop := ∃ fn, P.funcs[f]? = some fn ∧ fn.body.isNone = false ∧ (fn.name == "runtime.NumGoroutine") = false
def GOk (P : Program) (G : List (Nat × (List Value → PT))) : Prop := ∀ f T, lkG G f = some T → Enters P f ∧ ∀ args, Impl P f args (T args)
/-- Function values that are not known by the text. -/
def VOk (P : Program) (V : Value → List Value → PT) : Prop :=
  ∀ v args h Q, V v args h Q → ∃ f first cap, v = .func (.func f) first cap ∧ Enters P f ∧ ∃ T, Impl P f (first.toList ++ (args ++ cap.toList)) T ∧ T h Q
theorem run_callFunc {P : Program} {f : Nat} (hf : Enters P f) (args : Array Value) (w : World) : (callFunc f args).run P w = .ok (.enter f args) w := by
  obtain ⟨fn, h1, h2, h3⟩ := hf
  unfold callFunc
  simp only [Sem.run_bind, run_program, Result.andThen_ok, h1, h2, h3, Bool.false_eq_true, if_false, Sem.run_pure]

section
variable {P : Program} {lo : List Nat} {G : List (Nat × (List Value → PT))} {V : Value → List Value → PT} {fr : Hp} {g : Nat → Nat} {L : List LE} {h : Hp} {w : World} {K : KO}

theorem exAll_spec : ∀ {ks : List Kd} {K : List Value → Prop}, exAll ks K → ∃ vs, K vs
  | [], _, hk => ⟨[], hk⟩
  | k :: ks, K, hk => by
    obtain ⟨v, _, hr⟩ := ex1_spec hk
    obtain ⟨vs, hK⟩ := exAll_spec hr
    exact ⟨_, hK⟩
theorem exTup_spec : ∀ {ts : List Nat} {K : List Value → Prop}, exTup P ts K → ∃ vs, K vs
  | [], _, hk => ⟨[], hk⟩
  | t :: ts, K, hk => by
    obtain ⟨vs, hr⟩ := exAll_spec hk
    obtain ⟨ws, hK⟩ := exTup_spec hr
    exact ⟨_, hK⟩
theorem exVal_spec {t : Nat} {v : Value} {K : AV → Prop} (hk : exVal P t v K) : ∃ x, (∀ g, AV.is g x v) ∧ K x := by
  unfold exVal at hk
  cases hd : under P t <;> rw [hd] at hk <;> dsimp only at hk
  case bool =>
    obtain ⟨b, rfl, hk⟩ := hk
    cases b with
    | true => exact ⟨.v _, fun _ => rfl, hk.1 rfl⟩
    | false => exact ⟨.v _, fun _ => rfl, hk.2 rfl⟩
  case tuple ts =>
    cases hts : ts.toList with
    | nil => rw [hts] at hk; exact ⟨.v _, fun _ => rfl, hk⟩
    | cons t0 ts0 =>
      rw [hts] at hk
      obtain ⟨vs, rfl, hK⟩ := exTup_spec hk
      exact ⟨.v _, fun _ => rfl, hK⟩
  all_goals
    obtain ⟨vs, rfl, hK⟩ := exAll_spec hk
    exact ⟨.v _, fun _ => rfl, hK⟩
/-- The boxes of the call's own, as somebody else's. -/
def boxes (g : Nat → Nat) (L : List LE) (w : World) (fr : Hp) : Hp := fun b => match fr b with
  | some o => some o
  | none => open Classical in if ∃ e ∈ L, g e.l = b then w.heap[b]? else none
theorem HO.own (H : HO fr g L h w) : Own (boxes g L w fr) h w := by
  refine ⟨H.hh, fun b o hb => ?_, fun b => ?_⟩
  · unfold boxes at hb
    cases hf : fr b with
    | some x => rw [hf] at hb; rw [← hb]; exact H.ff b x hf
    | none =>
      rw [hf] at hb
      dsimp only at hb
      split at hb
      · exact hb
      · cases hb
  · cases hh : h b with
    | none => exact .inl rfl
    | some o =>
      refine .inr ?_
      have hf : fr b = none := (H.dj b).resolve_left (by rw [hh]; simp)
      unfold boxes
      rw [hf]
      dsimp only
      rw [if_neg]
      rintro ⟨e, he, rfl⟩
      obtain ⟨cs, q⟩ := H.ll e he
      rw [q.nh] at hh; cases hh
theorem HO.back (H : HO fr g L h w) {h' : Hp} {w' : World} (O : Own (boxes g L w fr) h' w') : HO fr g L h' w' := by
  have hbox : ∀ e ∈ L, ∀ cs, LEok fr g h w e cs → boxes g L w fr (g e.l) = some (.cells cs e.t (0, 0)) := by
    intro e he cs q
    unfold boxes
    rw [q.nf]
    dsimp only
    rw [if_pos ⟨e, he, rfl⟩]
    exact q.at_
  refine ⟨O.hh, fun b o hb => O.ff b o (by unfold boxes; rw [hb]), fun b => ?_, fun e he => ?_, H.uq⟩
  · rcases O.dj b with h1 | h1
    · exact .inl h1
    · refine .inr ?_
      unfold boxes at h1
      cases hf : fr b with
      | none => rfl
      | some o => rw [hf] at h1; cases h1
  · obtain ⟨cs, q⟩ := H.ll e he
    have hb := hbox e he cs q
    exact ⟨cs, ⟨O.ff _ _ hb, q.sz, q.is_, q.pl, (O.dj _).resolve_right (by rw [hb]; simp), q.nf⟩⟩
theorem impl_out (H : HO fr g L h w) {f t : Nat} {args : List Value} {T : PT} (hT : T h fun v h' => exVal P t v fun x => K x L h') (hI : Impl P f args T) :
    Calls P f args.toArray w fun e w' => ∃ v, e = .returned v ∧ Out fr g L w (.ok v w') K := by
  refine (hI h _ hT _ w H.own).mono ?_
  rintro e w' ⟨v, h', rfl, O, hw, hq⟩
  obtain ⟨x, hx, hK⟩ := exVal_spec hq
  exact ⟨v, rfl, x, L, h', v, w', rfl, hx g, HO.back H O, hw, Kp.refl L, hK⟩
theorem minmax_ok {mx : Bool} : ∀ {xs : List AV} {vs : List Value} {x : AV} {v : Value}, dMinMax mx x xs L h K → x.is g v → inStep g xs vs → HO fr g L h w →
    Out fr g L w ((vs.foldlM (if mx then Builtin.max2 else Builtin.min2) v).run P w) K
  | [], vs, x, v, hk, hx, hs, H => by
    have : vs = [] := List.eq_nil_of_length_eq_zero hs.1
    subst this
    exact Out.here H (x := x) (by simp) hx hk
  | y :: ys, [], x, v, hk, hx, hs, H => by have := hs.1; cases this
  | y :: ys, u :: us, x, v, hk, hx, hs, H => by
    have hy : y.is g u := hs.2 0 (by simp)
    have hst : inStep g ys us := ⟨by simpa using hs.1, fun i hi => hs.2 (i + 1) (by simpa using hi)⟩
    rw [List.foldlM_cons]
    unfold dMinMax at hk
    cases x with
    | v xv =>
      have hxe : v = xv := hx
      subst hxe
      cases v with
      | int k a =>
        cases y with
        | v yv =>
          have hye : u = yv := hy
          subst hye
          cases u with
          | int k' b =>
            dsimp only at hk
            by_cases hkk : k = k'
            · subst hkk
              rw [decide_eq_true rfl] at hk
              dsimp only at hk
              have h1 : ((if mx then Builtin.max2 else Builtin.min2) (.int k a) (.int k b)).run P w = .ok (.int k (mmI mx a b)) w := by
                cases mx <;> simp [Builtin.max2, Builtin.min2, iMax, iMin, mmI]
              rw [Sem.run_bind, h1, Result.andThen_ok]
              exact minmax_ok hk rfl hst H
            · rw [decide_eq_false hkk] at hk; exact False.elim hk
          | _ => exact False.elim hk
        | _ => exact False.elim hk
      | string a =>
        cases y with
        | v yv =>
          have hye : u = yv := hy
          subst hye
          cases u with
          | string b =>
            dsimp only at hk
            have h1 : ((if mx then Builtin.max2 else Builtin.min2) (.string a) (.string b)).run P w = .ok (.string (mmS mx a b)) w := by
              cases mx <;> simp only [Builtin.max2, Builtin.min2, mmS, sMax, sMin, Op.stringOp, asBool, if_true, Bool.false_eq_true, if_false, Sem.run_bind, Sem.run_pure, Result.andThen_ok]
              all_goals (congr 2; first | rfl | (cases Op.bytesLess a.toList b.toList <;> rfl))
            rw [Sem.run_bind, h1, Result.andThen_ok]
            exact minmax_ok hk rfl hst H
          | _ => exact False.elim hk
        | _ => exact False.elim hk
      | _ => exact False.elim hk
    | _ => exact False.elim hk
end
end Go.Eng
