/-
  TEXTS OF MINE, JOINED: E12 E13 E14 F0 F1 E15 F2 F3 F4 F5 F6 F7.
-/
import Derived.Test.YtblghgacokoklaaDoorK0
import Derived.Orders
section
/-
  THE ENGINE, 13: one operation; a list of operations; code; a call.
-/
set_option linter.unusedSimpArgs false
set_option linter.unusedVariables false
namespace Go.Eng

/-! ### 1. Calls -/
structure Own (fr h : Hp) (w : World) : Prop where
  hh : ∀ b o, h b = some o → w.heap[b]? = some o
  ff : ∀ b o, fr b = some o → w.heap[b]? = some o
  dj : ∀ b, h b = none ∨ fr b = none
/-- What a function does, for whoever calls it. -/
def Impl (P : Program) (f : Nat) (args : List Value) (T : PT) : Prop :=
  ∀ h Q, T h Q → ∀ fr w, Own fr h w → Calls P f args.toArray w fun e w' => ∃ v h', e = .returned v ∧ Own fr h' w' ∧ Wr w w' ∧ Q v h'
/-- A function with a body. -/
def Enters (P : Program) (f : Nat) : Prop := ∃ fn, P.funcs[f]? = some fn ∧ fn.body.isNone = false ∧ (fn.name == "runtime.NumGoroutine") = false
def GOk (P : Program) (G : List (Nat × (List Value → PT))) : Prop := ∀ f T, lkG G f = some T → Enters P f ∧ ∀ args, Impl P f args (T args)
/-- Function values that are not known by the text. -/
def VOk (P : Program) (V : Value → List Value → PT) : Prop :=
  ∀ v args h Q, V v args h Q → ∃ f first cap, v = .func (.func f) first cap ∧ Enters P f ∧ ∃ T, Impl P f (first.toList ++ (args ++ cap.toList)) T ∧ T h Q
theorem run_callFunc {P : Program} {f : Nat} (hf : Enters P f) (args : Array Value) (w : World) : (callFunc f args).run P w = .ok (.enter f args) w := by
  obtain ⟨fn, h1, h2, h3⟩ := hf
  unfold callFunc
  simp only [Sem.run_bind, run_program, Result.andThen_ok, h1, h2, h3, Bool.false_eq_true, if_false, Sem.run_pure]

section
variable {P : Program} {lo : List Nat} {G : List (Nat × (List Value → PT))} {V : Value → List Value → PT} {fr : Hp} {g : Nat → Nat} {L : List LE} {h : Hp} {w : World} {K : KO}

theorem exAll_spec : ∀ {ks : List Kd} {K : List Value → Prop}, exAll ks K → ∃ vs, K vs
  | [], _, hk => ⟨[], hk⟩
  | k :: ks, K, hk => by
    obtain ⟨v, _, hr⟩ := ex1_spec hk
    obtain ⟨vs, hK⟩ := exAll_spec hr
    exact ⟨_, hK⟩
theorem exTup_spec : ∀ {ts : List Nat} {K : List Value → Prop}, exTup P ts K → ∃ vs, K vs
  | [], _, hk => ⟨[], hk⟩
  | t :: ts, K, hk => by
    obtain ⟨vs, hr⟩ := exAll_spec hk
    obtain ⟨ws, hK⟩ := exTup_spec hr
    exact ⟨_, hK⟩
theorem exVal_spec {t : Nat} {v : Value} {K : AV → Prop} (hk : exVal P t v K) : ∃ x, (∀ g, AV.is g x v) ∧ K x := by
  unfold exVal at hk
  cases hd : under P t <;> rw [hd] at hk <;> dsimp only at hk
  case bool =>
    obtain ⟨b, rfl, hk⟩ := hk
    cases b with
    | true => exact ⟨.v _, fun _ => rfl, hk.1 rfl⟩
    | false => exact ⟨.v _, fun _ => rfl, hk.2 rfl⟩
  case tuple ts =>
    cases hts : ts.toList with
    | nil => rw [hts] at hk; exact ⟨.v _, fun _ => rfl, hk⟩
    | cons t0 ts0 =>
      rw [hts] at hk
      obtain ⟨vs, rfl, hK⟩ := exTup_spec hk
      exact ⟨.v _, fun _ => rfl, hK⟩
  all_goals
    obtain ⟨vs, rfl, hK⟩ := exAll_spec hk
    exact ⟨.v _, fun _ => rfl, hK⟩
/-- The boxes of the call's own, as somebody else's. -/
def boxes (g : Nat → Nat) (L : List LE) (w : World) (fr : Hp) : Hp := fun b => match fr b with
  | some o => some o
  | none => open Classical in if ∃ e ∈ L, g e.l = b then w.heap[b]? else none
theorem HO.own (H : HO fr g L h w) : Own (boxes g L w fr) h w := by
  refine ⟨H.hh, fun b o hb => ?_, fun b => ?_⟩
  · unfold boxes at hb
    cases hf : fr b with
    | some x => rw [hf] at hb; rw [← hb]; exact H.ff b x hf
    | none =>
      rw [hf] at hb
      dsimp only at hb
      split at hb
      · exact hb
      · cases hb
  · cases hh : h b with
    | none => exact .inl rfl
    | some o =>
      refine .inr ?_
      have hf : fr b = none := (H.dj b).resolve_left (by rw [hh]; simp)
      unfold boxes
      rw [hf]
      dsimp only
      rw [if_neg]
      rintro ⟨e, he, rfl⟩
      obtain ⟨cs, q⟩ := H.ll e he
      rw [q.nh] at hh; cases hh
theorem HO.back (H : HO fr g L h w) {h' : Hp} {w' : World} (O : Own (boxes g L w fr) h' w') : HO fr g L h' w' := by
  have hbox : ∀ e ∈ L, ∀ cs, LEok fr g h w e cs → boxes g L w fr (g e.l) = some (.cells cs e.t (0, 0)) := by
    intro e he cs q
    unfold boxes
    rw [q.nf]
    dsimp only
    rw [if_pos ⟨e, he, rfl⟩]
    exact q.at_
  refine ⟨O.hh, fun b o hb => O.ff b o (by unfold boxes; rw [hb]), fun b => ?_, fun e he => ?_, H.uq⟩
  · rcases O.dj b with h1 | h1
    · exact .inl h1
    · refine .inr ?_
      unfold boxes at h1
      cases hf : fr b with
      | none => rfl
      | some o => rw [hf] at h1; cases h1
  · obtain ⟨cs, q⟩ := H.ll e he
    have hb := hbox e he cs q
    exact ⟨cs, ⟨O.ff _ _ hb, q.sz, q.is_, q.pl, (O.dj _).resolve_right (by rw [hb]; simp), q.nf⟩⟩
theorem impl_out (H : HO fr g L h w) {f t : Nat} {args : List Value} {T : PT} (hT : T h fun v h' => exVal P t v fun x => K x L h') (hI : Impl P f args T) :
    Calls P f args.toArray w fun e w' => ∃ v, e = .returned v ∧ Out fr g L w (.ok v w') K := by
  refine (hI h _ hT _ w H.own).mono ?_
  rintro e w' ⟨v, h', rfl, O, hw, hq⟩
  obtain ⟨x, hx, hK⟩ := exVal_spec hq
  exact ⟨v, rfl, x, L, h', v, w', rfl, hx g, HO.back H O, hw, Kp.refl L, hK⟩
theorem minmax_ok {mx : Bool} : ∀ {xs : List AV} {vs : List Value} {x : AV} {v : Value}, dMinMax mx x xs L h K → x.is g v → inStep g xs vs → HO fr g L h w →
    Out fr g L w ((vs.foldlM (if mx then Builtin.max2 else Builtin.min2) v).run P w) K
  | [], vs, x, v, hk, hx, hs, H => by
    have : vs = [] := List.eq_nil_of_length_eq_zero hs.1
    subst this
    exact Out.here H (x := x) (by simp) hx hk
  | y :: ys, [], x, v, hk, hx, hs, H => by have := hs.1; cases this
  | y :: ys, u :: us, x, v, hk, hx, hs, H => by
    have hy : y.is g u := hs.2 0 (by simp)
    have hst : inStep g ys us := ⟨by simpa using hs.1, fun i hi => hs.2 (i + 1) (by simpa using hi)⟩
    rw [List.foldlM_cons]
    unfold dMinMax at hk
    cases x with
    | v xv =>
      have hxe : v = xv := hx
      subst hxe
      cases v with
      | int k a =>
        cases y with
        | v yv =>
          have hye : u = yv := hy
          subst hye
          cases u with
          | int k' b =>
            dsimp only at hk
            by_cases hkk : k = k'
            · subst hkk
              rw [decide_eq_true rfl] at hk
              dsimp only at hk
              have h1 : ((if mx then Builtin.max2 else Builtin.min2) (.int k a) (.int k b)).run P w = .ok (.int k (mmI mx a b)) w := by
                cases mx <;> simp [Builtin.max2, Builtin.min2, iMax, iMin, mmI]
              rw [Sem.run_bind, h1, Result.andThen_ok]
              exact minmax_ok hk rfl hst H
            · rw [decide_eq_false hkk] at hk; exact False.elim hk
          | _ => exact False.elim hk
        | _ => exact False.elim hk
      | string a =>
        cases y with
        | v yv =>
          have hye : u = yv := hy
          subst hye
          cases u with
          | string b =>
            dsimp only at hk
            have h1 : ((if mx then Builtin.max2 else Builtin.min2) (.string a) (.string b)).run P w = .ok (.string (mmS mx a b)) w := by
              cases mx <;> simp only [Builtin.max2, Builtin.min2, mmS, sMax, sMin, Op.stringOp, asBool, if_true, Bool.false_eq_true, if_false, Sem.run_bind, Sem.run_pure, Result.andThen_ok]
              all_goals (congr 2; first | rfl | (cases Op.bytesLess a.toList b.toList <;> rfl))
            rw [Sem.run_bind, h1, Result.andThen_ok]
            exact minmax_ok hk rfl hst H
          | _ => exact False.elim hk
        | _ => exact False.elim hk
      | _ => exact False.elim hk
    | _ => exact False.elim hk
end
end Go.Eng
end
section
/-
  THE ENGINE, 14: one operation is what it denotes; lists of operations.
-/
set_option linter.unusedSimpArgs false
set_option linter.unusedVariables false
namespace Go.Eng

/-- What stays between two points of a call: W: slots (and boxes) that may have been written. -/
structure Tr (W : List Nat) (g : Nat → Nat) (L : List LE) (a : Act) (w : World) (g' : Nat → Nat) (L' : List LE) (a' : Act) (w' : World) : Prop where
  wr : Wr w w'
  kp : Kp L L'
  gg : ∀ l, memN l W = false → g' l = g l
  un : ∀ i, memN i W = false → a'.tmps.getD i undef = a.tmps.getD i undef
  sz : a'.tmps.size = a.tmps.size
theorem Tr.refl (W : List Nat) (g : Nat → Nat) (L : List LE) (a : Act) (w : World) : Tr W g L a w g L a w := ⟨Wr.refl w, Kp.refl L, fun _ _ => rfl, fun _ _ => rfl, rfl⟩
theorem Tr.trans {W : List Nat} {g g1 g2 : Nat → Nat} {L L1 L2 : List LE} {a a1 a2 : Act} {w w1 w2 : World} (h : Tr W g L a w g1 L1 a1 w1) (k : Tr W g1 L1 a1 w1 g2 L2 a2 w2) : Tr W g L a w g2 L2 a2 w2 :=
  ⟨h.wr.trans k.wr, h.kp.trans k.kp, fun l hl => (k.gg l hl).trans (h.gg l hl), fun i hi => (k.un i hi).trans (h.un i hi), k.sz.trans h.sz⟩
theorem Tr.mono {W W' : List Nat} {g g1 : Nat → Nat} {L L1 : List LE} {a a1 : Act} {w w1 : World} (h : Tr W g L a w g1 L1 a1 w1) (hW : ∀ i, memN i W' = false → memN i W = false) : Tr W' g L a w g1 L1 a1 w1 :=
  ⟨h.wr, h.kp, fun l hl => h.gg l (hW l hl), fun i hi => h.un i (hW i hi), h.sz⟩
def Rel (W : List Nat) (fr : Hp) (g : Nat → Nat) (L : List LE) (a : Act) (w : World) (K : KS) : Act → World → Prop := fun a' w' =>
  ∃ g' A' L' h', FO g' A' a' ∧ HO fr g' L' h' w' ∧ Tr W g L a w g' L' a' w' ∧ K A' L' h'
def dW (d : Option Nat) : List Nat := match d with | some d => [d] | none => []
theorem put_size (a : Act) (d : Option Nat) (v : Value) : (a.put d v).tmps.size = a.tmps.size := by
  cases d with
  | none => rfl
  | some d => show (a.tmps.setIfInBounds d v).size = _; simp
theorem put_un (a : Act) (d : Option Nat) (v : Value) (i : Nat) (hi : memN i (dW d) = false) : (a.put d v).tmps.getD i undef = a.tmps.getD i undef := by
  cases d with
  | none => rfl
  | some d =>
    have hne : d ≠ i := fun e => by subst e; simp [dW, memN] at hi
    show (a.tmps.setIfInBounds d v).getD i undef = _
    simp [Array.getElem?_setIfInBounds_ne hne]
section
variable {P : Program} {lo : List Nat} {G : List (Nat × (List Value → PT))} {V : Value → List Value → PT} {fr : Hp} {g : Nat → Nat} {A : Env} {L : List LE} {h : Hp} {w : World} {a : Act} {o : Oper} {K1 : KS} {Q : Exit → Act → World → Prop}

theorem put_rel (F : FO g A a) {x : AV} {v : Value} {L' : List LE} {h' : Hp} {w' : World} (hx : x.is g v) (H' : HO fr g L' h' w') (hw : Wr w w') (hkp : Kp L L') (hk : K1 (putD A o.dst x) L' h') :
    Rel (dW o.dst) fr g L a w K1 (a.put o.dst v) w' :=
  ⟨g, _, L', h', F.put o.dst hx, H', ⟨hw, hkp, fun _ _ => rfl, fun i hi => put_un a o.dst v i hi, put_size a o.dst v⟩, hk⟩
theorem killA_no (hm : makes o.op = false) : killA lo o.dst o.op A = A := by unfold killA; rw [hm]
theorem fin_out (F : FO g A a) (hm : makes o.op = false) {s : Sem Value} (hrun : (execOp a.eval o).run P w = (s.run P w).andThen fun v w' => .ok (.value v) w')
    (hout : Out fr g L w (s.run P w) fun x L' h' => K1 (putD (killA lo o.dst o.op A) o.dst x) L' h') : o.wp P a w (Rel (dW o.dst) fr g L a w K1) Q := by
  obtain ⟨x, L', h', v, w', hr, hx, H', hw, hkp, hk⟩ := hout
  unfold Oper.wp
  rw [hrun, hr]
  rw [killA_no hm] at hk
  exact put_rel F hx H' hw hkp hk
theorem fin_outN (F : FO g A a) (hm : makes o.op = true) {s : Sem Value} (hrun : (execOp a.eval o).run P w = (s.run P w).andThen fun v w' => .ok (.value v) w')
    (hout : OutN lo fr g L w o.dst (s.run P w) fun x L' h' => K1 (putD (killA lo o.dst o.op A) o.dst x) L' h') : o.wp P a w (Rel (dW o.dst) fr g L a w K1) Q := by
  obtain ⟨x, L', h', v, w', g', hr, hx, H', hw, hkp, hk, hg⟩ := hout
  unfold Oper.wp
  rw [hrun, hr]
  show Rel (dW o.dst) fr g L a w K1 (a.put o.dst v) w'
  rcases hg with ⟨rfl, hno⟩ | ⟨l, b, hd, hl, rfl⟩
  · have hA : killA lo o.dst o.op A = A := by
      unfold killA; rw [hm]
      cases hd : o.dst with
      | none => rfl
      | some d => dsimp only; rw [hno d hd]
    rw [hA] at hk
    exact put_rel F hx H' hw hkp hk
  · have hA : killA lo o.dst o.op A = killE [l] A := by
      unfold killA; rw [hm, hd]; dsimp only; rw [hl]
    rw [hA] at hk
    refine ⟨updG g l b, _, L', h', (F.killA l b).put o.dst hx, H', ⟨hw, hkp, fun l' hl' => ?_, fun i hi => put_un a o.dst v i hi, put_size a o.dst v⟩, hk⟩
    have : l' ≠ l := fun e => by subst e; rw [hd] at hl'; simp [dW, memN] at hl'
    simp [updG, this]
theorem mapEv_step (F : FO g A a) : ∀ (xs : List Operand), inStep g (mapEv A xs) (xs.map a.eval)
  | [] => ⟨rfl, fun i hi => by simp [mapEv] at hi⟩
  | x :: xs => by
    obtain ⟨h1, h2⟩ := mapEv_step F xs
    refine ⟨by simp [mapEv, h1], fun i hi => ?_⟩
    cases i with
    | zero => exact ev_is F x
    | succ i => exact h2 i (by simpa [mapEv] using hi)
theorem partsEv_is (F : FO g A a) : ∀ (xs : List (Nat × Operand)), partsIs g (partsEv A xs) (xs.map fun (i, x) => (i, a.eval x))
  | [] => trivial
  | (i, x) :: xs => ⟨rfl, ev_is F x, partsEv_is F xs⟩
theorem optEv_is (F : FO g A a) (x : Option Operand) : optIs g (optEv A x) (x.map a.eval) := by
  cases x with
  | none => trivial
  | some x => exact ev_is F x
theorem getAll_vals {xs : List AV} {us : List Value} {K : List Value → Prop} (hk : getAll xs K) (hs : inStep g xs us) : K us := by
  obtain ⟨vs, hl, hat, hpl, hK⟩ := getAll_spec hk
  have := lists_eq hpl hs.1 hl hs.2 (hat g)
  rw [this]; exact hK
theorem run_v {s : Sem Value} : ((do pure (Next.value (← s)) : Sem Next).run P w) = (s.run P w).andThen fun v w' => .ok (.value v) w' := by
  simp only [Sem.run_bind, Sem.run_pure]
theorem call_fin (F : FO g A a) (hm : makes o.op = false) {f : Nat} {args : List Value}
    (hrun : (execOp a.eval o).run P w = .ok (.enter f args.toArray) w)
    (hc : Calls P f args.toArray w fun e w' => ∃ v, e = .returned v ∧ Out fr g L w (.ok v w') fun x L' h' => K1 (putD (killA lo o.dst o.op A) o.dst x) L' h') : o.wp P a w (Rel (dW o.dst) fr g L a w K1) Q := by
  unfold Oper.wp
  rw [hrun]
  refine hc.mono ?_
  rintro e w' ⟨v, rfl, x, L', h', v', w1, hr, hx, H', hw, hkp, hk⟩
  simp only [Result.ok.injEq] at hr
  obtain ⟨rfl, rfl⟩ := hr
  rw [killA_no hm] at hk
  exact put_rel F hx H' hw hkp hk
theorem builtin_ok (hG : GOk P G) (H : HO fr g L h w) (F : FO g A a) {b : Builtin} {args : Array Operand} {ts : Array Nat} (ho : o.op = .call { callee := .builtin b, args := args, argTypes := ts })
    (hk : dBuiltin P b ts.toList (mapEv A args.toList) L h fun x L' h' => K1 (putD (killA lo o.dst o.op A) o.dst x) L' h') : o.wp P a w (Rel (dW o.dst) fr g L a w K1) Q := by
  have hm : makes o.op = false := by rw [ho]; rfl
  have hst := mapEv_step F args.toList
  have hres : ∀ (s : Sem Value), (builtin b ts o.type (args.map fun | .const _ => true | _ => false) (args.map a.eval)).run P w = (s.run P w).andThen (fun v w' => .ok (.value v) w') →
      (execOp a.eval o).run P w = (s.run P w).andThen fun v w' => .ok (.value v) w' := by
    intro s hs
    unfold execOp
    rw [ho]
    simp only [resolve, Sem.run_bind, Sem.run_pure, Result.andThen_ok, invoke]
    exact hs
  have hargs : (args.map a.eval) = (args.toList.map a.eval).toArray := by apply Array.ext'; simp
  unfold dBuiltin at hk
  cases b <;> try exact False.elim hk
  case len =>
    dsimp only at hk
    match hts : ts.toList, hxs : args.toList with
    | [t], [x] =>
      rw [hts, hxs] at hk
      refine fin_out (lo := lo) F hm (hres (Builtin.len_ #[t] o.type #[a.eval x]) ?_) (len_ok H hk (ev_is F x))
      rw [hargs, hxs, ← Array.toArray_toList (xs := ts), hts]
      simp only [builtin]
      exact run_v
    | [], _ => rw [hts] at hk; exact False.elim hk
    | _ :: _ :: _, _ => rw [hts] at hk; exact False.elim hk
    | [t], [] => rw [hts, hxs] at hk; exact False.elim hk
    | [t], _ :: _ :: _ => rw [hts, hxs] at hk; exact False.elim hk
  case cap =>
    dsimp only at hk
    match hts : ts.toList, hxs : args.toList with
    | [t], [x] =>
      rw [hts, hxs] at hk
      refine fin_out (lo := lo) F hm (hres (Builtin.cap_ #[t] o.type #[a.eval x]) ?_) (cap_ok H hk (ev_is F x))
      rw [hargs, hxs, ← Array.toArray_toList (xs := ts), hts]
      simp only [builtin]
      exact run_v
    | [], _ => rw [hts] at hk; exact False.elim hk
    | _ :: _ :: _, _ => rw [hts] at hk; exact False.elim hk
    | [t], [] => rw [hts, hxs] at hk; exact False.elim hk
    | [t], _ :: _ :: _ => rw [hts, hxs] at hk; exact False.elim hk
  case append =>
    dsimp only at hk
    match hts : ts.toList, hxs : args.toList with
    | [t, u], [x, y] =>
      rw [hts, hxs] at hk
      simp only [mapEv] at hk
      have hk' : (∀ k, under P u ≠ .int k) ∧ hasUnder P u = true ∧ dAppend P t (ev A x) (ev A y) L h (fun x L' h' => K1 (putD (killA lo o.dst o.op A) o.dst x) L' h') := by
        cases hu : under P u <;> rw [hu] at hk <;> first
          | exact False.elim hk
          | (have hq := grd_spec hk; exact ⟨fun k e => (by cases e), hq.1, hq.2⟩)
      obtain ⟨hni, hhu, hk⟩ := hk'
      refine fin_out (lo := lo) F hm (hres (Builtin.append_ #[t, u] o.type #[a.eval x, a.eval y]) ?_) (append_ok H hni hhu hk (ev_is F x) (ev_is F y))
      rw [hargs, hxs, ← Array.toArray_toList (xs := ts), hts]
      simp only [builtin]
      exact run_v
    | [], _ => rw [hts] at hk; exact False.elim hk
    | [_], _ => rw [hts] at hk; exact False.elim hk
    | _ :: _ :: _ :: _, _ => rw [hts] at hk; exact False.elim hk
    | [_, _], [] => rw [hts, hxs] at hk; exact False.elim hk
    | [_, _], [_] => rw [hts, hxs] at hk; exact False.elim hk
    | [_, _], _ :: _ :: _ :: _ => rw [hts, hxs] at hk; exact False.elim hk
  case copy =>
    dsimp only at hk
    match hts : ts.toList, hxs : args.toList with
    | [t, u], [x, y] =>
      rw [hts, hxs] at hk
      simp only [mapEv] at hk
      refine fin_out (lo := lo) F hm (hres (Builtin.copy_ #[t, u] o.type #[a.eval x, a.eval y]) ?_) (copy_ok H hk (ev_is F x) (ev_is F y))
      rw [hargs, hxs, ← Array.toArray_toList (xs := ts), hts]
      simp only [builtin]
      exact run_v
    | [], _ => rw [hts] at hk; exact False.elim hk
    | [_], _ => rw [hts] at hk; exact False.elim hk
    | _ :: _ :: _ :: _, _ => rw [hts] at hk; exact False.elim hk
    | [_, _], [] => rw [hts, hxs] at hk; exact False.elim hk
    | [_, _], [_] => rw [hts, hxs] at hk; exact False.elim hk
    | [_, _], _ :: _ :: _ :: _ => rw [hts, hxs] at hk; exact False.elim hk
  case min =>
    dsimp only at hk
    match hxs : args.toList with
    | [] => rw [hxs] at hk; exact False.elim hk
    | x :: xs =>
      rw [hxs] at hk hst
      have hst' : inStep g (mapEv A xs) (xs.map a.eval) := mapEv_step F xs
      refine fin_out (lo := lo) F hm (hres (Builtin.min_ ts o.type (args.map a.eval)) ?_) ?_
      · simp only [builtin]; exact run_v
      · have := minmax_ok (P := P) (mx := false) hk (ev_is F x) hst' H
        simp only [Bool.false_eq_true, if_false] at this
        unfold Builtin.min_
        rw [hargs, hxs]
        exact this
  case max =>
    dsimp only at hk
    match hxs : args.toList with
    | [] => rw [hxs] at hk; exact False.elim hk
    | x :: xs =>
      rw [hxs] at hk hst
      have hst' : inStep g (mapEv A xs) (xs.map a.eval) := mapEv_step F xs
      refine fin_out (lo := lo) F hm (hres (Builtin.max_ ts o.type (args.map a.eval)) ?_) ?_
      · simp only [builtin]; exact run_v
      · have := minmax_ok (P := P) (mx := true) hk (ev_is F x) hst' H
        simp only [if_true] at this
        unfold Builtin.max_
        rw [hargs, hxs]
        exact this
theorem dcall_ok (hG : GOk P G) (hV : VOk P V) (H : HO fr g L h w) (F : FO g A a) {f : Operand} {args : Array Operand} {ts : Array Nat} (ho : o.op = .call { callee := .value f, args := args, argTypes := ts })
    (hk : dCall P G V (ev A f) (args.toList.map a.eval) o.type L h fun x L' h' => K1 (putD (killA lo o.dst o.op A) o.dst x) L' h') : o.wp P a w (Rel (dW o.dst) fr g L a w K1) Q := by
  have hm : makes o.op = false := by rw [ho]; rfl
  have hargs : (args.map a.eval) = (args.toList.map a.eval).toArray := by apply Array.ext'; simp
  have hf := ev_is F f
  have run : ∀ (fn : Nat) (first cap : Array Value), a.eval f = .func (.func fn) first cap → Enters P fn → (execOp a.eval o).run P w = .ok (.enter fn (first.toList ++ (args.toList.map a.eval ++ cap.toList)).toArray) w := by
    intro fn first cap he hen
    unfold execOp
    rw [ho]
    simp only [resolve, he, Deferred.ofValue, Sem.run_bind, Sem.run_pure, Result.andThen_ok, invoke]
    rw [run_callFunc hen]
    congr 2
    apply Array.ext'
    simp
  unfold dCall at hk
  cases hfa : ev A f with
  | v fv =>
    rw [hfa] at hk hf
    have hfe : a.eval f = fv := hf
    cases fv with
    | func fn first cap =>
      cases fn with
      | func gn =>
        obtain ⟨first⟩ := first
        obtain ⟨cap⟩ := cap
        dsimp only at hk
        cases hl : lkG G gn with
        | none => rw [hl] at hk; exact False.elim hk
        | some T =>
          rw [hl] at hk
          dsimp only at hk
          obtain ⟨hen, hI⟩ := hG gn T hl
          exact call_fin F hm (run gn _ _ hfe hen) (impl_out H hk (hI _))
      | _ => exact False.elim hk
    | _ => exact False.elim hk
  | f fv =>
    rw [hfa] at hk hf
    have hfe : a.eval f = fv := hf
    obtain ⟨gn, first, cap, hfv, hen, T, hI, hT⟩ := hV _ _ _ _ hk
    exact call_fin F hm (run gn _ _ (hfe.trans hfv) hen) (impl_out H hT hI)
  | _ => rw [hfa] at hk; exact False.elim hk
/-- ONE OPERATION IS WHAT IT DENOTES. -/
theorem op_ok (hG : GOk P G) (hV : VOk P V) (H : HO fr g L h w) (F : FO g A a)
    (hk : opD P lo G V o.dst o.type o.op A L h fun x L' h' => K1 (putD (killA lo o.dst o.op A) o.dst x) L' h') : o.wp P a w (Rel (dW o.dst) fr g L a w K1) Q := by
  have exv : ∀ {s : Sem Value}, execOp a.eval o = (do pure (Next.value (← s)) : Sem Next) → (execOp a.eval o).run P w = (s.run P w).andThen fun v w' => .ok (.value v) w' := by
    intro s hs; rw [hs]; exact run_v
  cases ho : o.op with
  | move x =>
    rw [ho] at hk
    have hm : makes o.op = false := by rw [ho]; rfl
    refine fin_out (lo := lo) (s := pure (a.eval x)) F hm (exv (by unfold execOp; rw [ho]; rfl)) ?_
    rw [ho]
    exact Out.here H (by simp) (ev_is F x) hk
  | assign x =>
    rw [ho] at hk
    have hm : makes o.op = false := by rw [ho]; rfl
    refine fin_out (lo := lo) (s := pure (a.eval x)) F hm (exv (by unfold execOp; rw [ho]; rfl)) ?_
    rw [ho]
    exact Out.here H (by simp) (ev_is F x) hk
  | pick c x y =>
    rw [ho] at hk
    have hm : makes o.op = false := by rw [ho]; rfl
    have hc := ev_is F c
    unfold opD at hk
    dsimp only at hk
    cases hca : ev A c with
    | v cv =>
      rw [hca] at hk hc
      have hce : a.eval c = cv := hc
      cases cv with
      | bool b =>
        refine fin_out (lo := lo) (s := pure (if b then a.eval x else a.eval y)) F hm ?_ ?_
        · unfold execOp
          rw [ho]
          simp only [hce, asBool, Sem.run_bind, Sem.run_pure, Result.andThen_ok]
        · rw [ho]
          cases b with
          | true => exact Out.here H (by simp) (ev_is F x) hk
          | false => exact Out.here H (by simp) (ev_is F y) hk
      | _ => exact False.elim hk
    | _ => rw [hca] at hk; exact False.elim hk
  | alloc t =>
    rw [ho] at hk
    exact fin_outN F (by rw [ho]; rfl) (exv (s := Instr.alloc t true (.tuple #[])) (by unfold execOp; rw [ho])) (by rw [ho]; exact alloc_ok H hk)
  | box t x =>
    rw [ho] at hk
    exact fin_outN F (by rw [ho]; rfl) (exv (s := Instr.box t (a.eval x)) (by unfold execOp; rw [ho])) (by rw [ho]; exact box_ok H hk (ev_is F x))
  | build t ps =>
    rw [ho] at hk
    refine fin_out (lo := lo) F (by rw [ho]; rfl) (exv (s := Instr.build t (ps.map fun (i, x) => (i, a.eval x))) (by unfold execOp; rw [ho])) ?_
    rw [ho]
    refine build_ok H hk ?_
    rw [Array.toList_map]; exact partsEv_is F ps.toList
  | buildSlice t n ps =>
    rw [ho] at hk
    refine fin_outN (lo := lo) F (by rw [ho]; rfl) (exv (s := Instr.buildSlice t n (ps.map fun (i, x) => (i, a.eval x))) (by unfold execOp; rw [ho])) ?_
    rw [ho]
    refine buildSlice_ok H hk ?_
    rw [Array.toList_map]; exact partsEv_is F ps.toList
  | load t x =>
    rw [ho] at hk
    exact fin_out (lo := lo) F (by rw [ho]; rfl) (exv (s := Instr.loadAt t (a.eval x)) (by unfold execOp; rw [ho])) (by rw [ho]; exact load_ok H hk (ev_is F x))
  | store t x y =>
    rw [ho] at hk
    have hm : makes o.op = false := by rw [ho]; rfl
    obtain ⟨L', h', w', hr, H', hw, hkp, hk⟩ := store_ok (K := fun z L' h' => K1 (putD (killA lo o.dst (.store t x y) A) o.dst z) L' h') H hk (ev_is F x) (ev_is F y)
    have hrun : (execOp a.eval o).run P w = .ok .skip w' := by
      unfold execOp
      rw [ho]
      simp only [Sem.run_bind, hr, Result.andThen_ok, Sem.run_pure]
    unfold Oper.wp
    rw [hrun]
    rw [← ho, killA_no hm] at hk
    exact put_rel (x := .v undef) F rfl H' hw hkp hk
  | nilCheck x =>
    rw [ho] at hk
    have hm : makes o.op = false := by rw [ho]; rfl
    have hx := ev_is F x
    unfold opD dNil at hk
    dsimp only at hk
    have key : ∀ v : Value, a.eval x = v → (∀ p, v = .pointer p → p ≠ none) → (∃ ad, v = .pointer (some ad)) → (execOp a.eval o).run P w = .ok (.value v) w := by
      rintro v he _ ⟨ad, rfl⟩
      unfold execOp
      rw [ho]
      simp [he]
    cases hxa : ev A x with
    | p b q =>
      rw [hxa] at hk hx
      have he : a.eval x = .pointer (some ⟨b, q, none⟩) := hx
      refine fin_out (lo := lo) (s := pure (.pointer (some ⟨b, q, none⟩))) F hm (by rw [key _ he (fun p e => by cases e; simp) ⟨_, rfl⟩]; simp) ?_
      rw [ho]
      exact Out.here H (x := .p b q) (v := .pointer (some ⟨b, q, none⟩)) (by simp) rfl hk
    | loc l q =>
      rw [hxa] at hk hx
      have he : a.eval x = .pointer (some ⟨g l, q, none⟩) := hx
      refine fin_out (lo := lo) (s := pure (.pointer (some ⟨g l, q, none⟩))) F hm (by rw [key _ he (fun p e => by cases e; simp) ⟨_, rfl⟩]; simp) ?_
      rw [ho]
      exact Out.here H (x := .loc l q) (v := .pointer (some ⟨g l, q, none⟩)) (by simp) rfl hk
    | v xv =>
      rw [hxa] at hk hx
      have he : a.eval x = xv := hx
      cases xv with
      | pointer p =>
        obtain ⟨b, q, rfl, hk⟩ := hk
        refine fin_out (lo := lo) (s := pure (.pointer (some ⟨b, q, none⟩))) F hm (by rw [key _ he (fun p e => by cases e; simp) ⟨_, rfl⟩]; simp) ?_
        rw [ho]
        exact Out.here H (x := .p b q) (v := .pointer (some ⟨b, q, none⟩)) (by simp) rfl hk
      | _ => exact False.elim hk
    | _ => rw [hxa] at hk; exact False.elim hk
  | binOp op t x y yt =>
    rw [ho] at hk
    exact fin_out (lo := lo) F (by rw [ho]; rfl) (exv (s := (do eqGuard op t x y (a.eval x) (a.eval y); binOp op t (a.eval x) (a.eval y))) (by unfold execOp; rw [ho])) (by rw [ho]; exact bin_ok H hk (ev_is F x) (ev_is F y) x y)
  | unOp op t x =>
    rw [ho] at hk
    exact fin_out (lo := lo) F (by rw [ho]; rfl) (exv (s := Op.unary op (a.eval x)) (by unfold execOp; rw [ho])) (by rw [ho]; exact un_ok H hk (ev_is F x))
  | convert s t x =>
    rw [ho] at hk
    exact fin_out (lo := lo) F (by rw [ho]; rfl) (exv (s := convert s t (a.eval x)) (by unfold execOp; rw [ho])) (by rw [ho]; exact conv_ok H hk (ev_is F x))
  | makeSlice t l c =>
    rw [ho] at hk
    exact fin_out (lo := lo) F (by rw [ho]; rfl) (exv (s := Instr.makeSlice t (a.eval l) (a.eval c)) (by unfold execOp; rw [ho])) (by rw [ho]; exact make_ok H hk (ev_is F l) (ev_is F c))
  | makeMap t r =>
    rw [ho] at hk
    refine fin_out (lo := lo) F (by rw [ho]; rfl) (exv (s := Instr.makeMap t (r.map a.eval)) (by unfold execOp; rw [ho])) ?_
    rw [ho]
    cases r with
    | none =>
      have hk : ∀ b, h b = none → K1 (putD (killA lo o.dst (.makeMap t none) A) o.dst (.v (.map (some b)))) L (h.new b (.map #[] 0)) := hk
      exact ⟨.v (.map (some w.heap.size)), L, _, _, { w with heap := w.heap.push (.map #[] 0) }, by simp [Instr.makeMap, newObj, Sem.run], rfl, HO.new_heap H (New.push w (.map #[] 0) w.drawn), (New.push w (.map #[] 0) w.drawn).wr, Kp.refl L, hk _ (H.none_h (Nat.le_refl _))⟩
    | some x => exact False.elim hk
  | slice t x l u m =>
    rw [ho] at hk
    exact fin_out (lo := lo) F (by rw [ho]; rfl) (exv (s := Instr.sliceAt t (a.eval x) (l.map a.eval) (u.map a.eval) (m.map a.eval)) (by unfold execOp; rw [ho])) (by rw [ho]; exact slice_ok H hk (ev_is F x) (optEv_is F l) (optEv_is F u) (optEv_is F m))
  | fieldAddr s x f =>
    rw [ho] at hk
    exact fin_out (lo := lo) F (by rw [ho]; rfl) (exv (s := Instr.fieldAt s (a.eval x) f) (by unfold execOp; rw [ho])) (by rw [ho]; exact field_ok H hk (ev_is F x))
  | indexAddr t x i =>
    rw [ho] at hk
    exact fin_out (lo := lo) F (by rw [ho]; rfl) (exv (s := Instr.indexAt t (a.eval x) (a.eval i)) (by unfold execOp; rw [ho])) (by rw [ho]; exact indexA_ok H hk (ev_is F x) (ev_is F i))
  | index t x i =>
    rw [ho] at hk
    exact fin_out (lo := lo) F (by rw [ho]; rfl) (exv (s := Instr.index t (a.eval x) (a.eval i)) (by unfold execOp; rw [ho])) (by rw [ho]; exact index_ok H hk (ev_is F x) (ev_is F i))
  | extract x i =>
    rw [ho] at hk
    exact fin_out (lo := lo) F (by rw [ho]; rfl) (exv (s := Instr.extract (a.eval x) i) (by unfold execOp; rw [ho])) (by rw [ho]; exact extract_ok H hk (ev_is F x))
  | makeFunc fn first cap =>
    rw [ho] at hk
    have hk := getAll_vals (getAll_vals hk (mapEv_step F first.toList)) (mapEv_step F cap.toList)
    refine fin_out (lo := lo) (s := Instr.makeFunc fn (first.map a.eval) (cap.map a.eval)) F (by rw [ho]; rfl) (exv (by unfold execOp; rw [ho])) ?_
    rw [ho]
    refine Out.here H (x := .v _) ?_ rfl hk
    simp only [Instr.makeFunc, Sem.run_pure]
    congr 2
    · apply Array.ext'; simp
    · apply Array.ext'; simp
  | call c =>
    rw [ho] at hk
    obtain ⟨callee, args, ts⟩ := c
    cases callee with
    | builtin b => exact builtin_ok hG H F ho (by rw [ho]; exact hk)
    | value f => exact dcall_ok hG hV H F ho (by rw [ho]; exact getAll_vals hk (mapEv_step F args.toList))
    | invoke r m => exact False.elim hk
  | _ => rw [ho] at hk; exact False.elim hk
end
end Go.Eng
end
section
/-
  THE ENGINE, 15: lists of operations, code, calls: what is denoted comes about.
-/
set_option linter.unusedSimpArgs false
set_option linter.unusedVariables false
namespace Go.Eng
section
variable {P : Program} {lo : List Nat} {G : List (Nat × (List Value → PT))} {V : Value → List Value → PT} {fr : Hp} {g : Nat → Nat} {A : Env} {L : List LE} {h : Hp} {w : World} {a : Act} {Q : Exit → Act → World → Prop}

theorem memN_append {i : Nat} {l k : List Nat} : memN i (l ++ k) = (memN i l || memN i k) := by
  induction l with
  | nil => rfl
  | cons j l ih => simp [memN, ih, Bool.or_assoc]
theorem Rel.mono {W : List Nat} {K K' : KS} (hk : ∀ A L h, K A L h → K' A L h) {a' : Act} {w' : World} (hr : Rel W fr g L a w K a' w') : Rel W fr g L a w K' a' w' :=
  let ⟨g', A', L', h', F, H, T, k⟩ := hr; ⟨g', A', L', h', F, H, T, hk _ _ _ k⟩
def boolOf : Value → Option Bool
  | .bool b => some b
  | _ => none
theorem yielded_eq {ops : Array Oper} {j d : Nat} (hd : dstOf ops.toList j = some d) {v : Value} (hv : a.tmps.getD d undef = v) : yielded ops a.tmps j = boolOf v := by
  unfold dstOf at hd
  have ho : (ops[j]?).bind (·.dst) = some d := by
    rw [← Array.getElem?_toList]
    cases hj : ops.toList[j]? with
    | none => rw [hj] at hd; cases hd
    | some o => rw [hj] at hd; exact hd
  unfold yielded
  rw [ho]
  simp only [Option.bind_some]
  cases ht : a.tmps[d]? with
  | none =>
    have : v = undef := by rw [← hv]; simp [ht]
    rw [this]; rfl
  | some x =>
    have : v = x := by rw [← hv]; simp [ht]
    rw [this]
    cases x <;> rfl
theorem step_ok (hG : GOk P G) (hV : VOk P V) (H : HO fr g L h w) (F : FO g A a) {ops : Array Oper} {o : Oper} {K : KS} (hk : stepD P lo G V ops.toList o A L h K) :
    if Region.wanted o (yielded ops a.tmps) then o.wp P a w (Rel (dW o.dst) fr g L a w K) Q else Rel (dW o.dst) fr g L a w K (a.put o.dst undef) w := by
  have skip : K (putD A o.dst (.v undef)) L h → Rel (dW o.dst) fr g L a w K (a.put o.dst undef) w := fun hk => put_rel (x := .v undef) F rfl H (Wr.refl w) (Kp.refl L) hk
  unfold stepD at hk
  cases hg : o.guard with
  | none =>
    rw [hg] at hk
    have hw : Region.wanted o (yielded ops a.tmps) = true := by simp [Region.wanted, hg]
    rw [if_pos hw]
    exact op_ok hG hV H F hk
  | some gw =>
    obtain ⟨j, want⟩ := gw
    rw [hg] at hk
    dsimp only at hk
    cases hd : dstOf ops.toList j with
    | none => rw [hd] at hk; exact False.elim hk
    | some d =>
      rw [hd] at hk
      dsimp only at hk
      have hat := F.at_ d
      have hwanted : ∀ r : Option Bool, yielded ops a.tmps j = r → Region.wanted o (yielded ops a.tmps) = (r == some want) := by
        intro r hr; simp [Region.wanted, hg, hr]
      cases hA : getE A d with
      | v x =>
        rw [hA] at hk hat
        have hy := yielded_eq hd hat
        cases x with
        | bool b =>
          simp only [boolOf] at hy
          have hw := hwanted _ hy
          cases b <;> cases want <;> simp only at hk hw
          · rw [if_pos (by rw [hw]; rfl)]; exact op_ok hG hV H F hk
          · rw [if_neg (by rw [hw]; decide)]; exact skip hk
          · rw [if_neg (by rw [hw]; decide)]; exact skip hk
          · rw [if_pos (by rw [hw]; rfl)]; exact op_ok hG hV H F hk
        | tuple vs =>
          have hw := hwanted _ hy
          rw [if_neg (by rw [hw]; simp [boolOf])]
          exact skip hk
        | _ => exact False.elim hk
      | _ => rw [hA] at hk; exact False.elim hk
theorem dW_sub {o : Oper} {l : List Oper} (ho : o ∈ l) : ∀ i, memN i (opWrites l) = false → memN i (dW o.dst) = false := by
  induction l with
  | nil => cases ho
  | cons x l ih =>
    intro i hi
    have step : (∀ d, x.dst = some d → i ≠ d) ∧ memN i (opWrites l) = false := by
      unfold opWrites at hi
      cases hx : x.dst with
      | none => rw [hx] at hi; exact ⟨fun d h => (by cases h), hi⟩
      | some d =>
        rw [hx] at hi
        simp only [memN, Bool.or_eq_false_iff, beq_eq_false_iff_ne] at hi
        exact ⟨fun d' h => (by cases h; exact hi.1), hi.2⟩
    rcases List.mem_cons.1 ho with rfl | ho
    · unfold dW
      cases hx : o.dst with
      | none => rfl
      | some d => simp [memN, step.1 d hx]
    · exact ih ho i step.2
theorem ops_ok (hG : GOk P G) (hV : VOk P V) {ops : Array Oper} {K : KS} {K0 : Act → World → Prop} (hQ : ∀ a w, K0 a w → Q .normal a w) : ∀ (l : List Oper) (W : List Nat), (∀ i, memN i W = false → memN i (opWrites l) = false) → ∀ (g : Nat → Nat) (A : Env) (L : List LE) (h : Hp) (a : Act) (w : World), HO fr g L h w → FO g A a →
    denOps P lo G V ops.toList l A L h K → (∀ a' w', Rel W fr g L a w K a' w' → K0 a' w') → wpList P ops Q l a w
  | [], W, _, g, A, L, h, a, w, H, F, hk, hK0 => hQ _ _ (hK0 _ _ ⟨g, A, L, h, F, H, Tr.refl _ _ _ _ _, hk⟩)
  | o :: l, W, hW, g, A, L, h, a, w, H, F, hk, hK0 => by
    have hs := step_ok (Q := Q) hG hV H F hk
    have next : ∀ a' w', Rel (dW o.dst) fr g L a w (fun A' L' h' => denOps P lo G V ops.toList l A' L' h' K) a' w' → wpList P ops Q l a' w' := by
      rintro a' w' ⟨g', A', L', h', F', H', T, hk'⟩
      have hWo : ∀ i, memN i W = false → memN i (dW o.dst) = false := fun i hi => dW_sub (l := o :: l) List.mem_cons_self i (hW i hi)
      refine ops_ok hG hV hQ l W (fun i hi => ?_) g' A' L' h' a' w' H' F' hk' (fun a'' w'' hr => hK0 _ _ ?_)
      · have := hW i hi
        unfold opWrites at this
        cases ho : o.dst with
        | none => rw [ho] at this; exact this
        | some d => rw [ho] at this; simp only [memN, Bool.or_eq_false_iff] at this; exact this.2
      · obtain ⟨g2, A2, L2, h2, F2, H2, T2, k2⟩ := hr
        exact ⟨g2, A2, L2, h2, F2, H2, (T.mono hWo).trans T2, k2⟩
    refine wpList_step fun K' hK' => ?_
    split
    · rename_i hw
      rw [if_pos hw] at hs
      exact Oper.wp_mono' (fun a' w' hr => hK' _ _ (next a' w' hr)) hs
    · rename_i hw
      rw [if_neg hw] at hs
      exact hK' _ _ (next _ _ hs)
where Oper.wp_mono' {o : Oper} {a : Act} {w : World} {K K' : Act → World → Prop} (h : ∀ a w, K a w → K' a w) (hh : o.wp P a w K Q) : o.wp P a w K' Q := Oper.wp_mono h hh

/-! ### 2. What is live, and what comes back -/
theorem appK_spec : ∀ {ks : List Kd} {β : Type} {f : Fun ks β} {xs : List AV} {K : β → Prop}, appK ks f xs K → ∃ vs : List Value, vs.length = xs.length ∧ xs.length = ks.length ∧ (∀ g, inStep g xs vs) ∧ (∀ x ∈ xs, x.plain = true) ∧ True := by
  intro ks
  induction ks with
  | nil =>
    intro β f xs K hk
    cases xs with
    | nil => exact ⟨[], rfl, rfl, fun g => ⟨rfl, fun i hi => by simp at hi⟩, fun x hx => (by simp at hx), trivial⟩
    | cons x xs => exact False.elim hk
  | cons k ks ih =>
    intro β f xs K hk
    cases xs with
    | nil => cases k <;> exact False.elim hk
    | cons x xs =>
      have step : ∀ (v : Value) (y : k.T), (∀ g, x.is g v) → x.plain = true → appK ks (f y) xs K → ∃ vs : List Value, vs.length = (x :: xs).length ∧ (x :: xs).length = (k :: ks).length ∧ (∀ g, inStep g (x :: xs) vs) ∧ (∀ z ∈ x :: xs, z.plain = true) ∧ True := by
        intro v y hv hp hr
        obtain ⟨vs, hl, hxl, hst, hpl, _⟩ := ih hr
        refine ⟨v :: vs, by simp [hl], by simp [hxl], fun g => ⟨by simp [hl], fun i hi => ?_⟩, fun z hz => ?_, trivial⟩
        · cases i with
          | zero => exact hv g
          | succ i => exact (hst g).2 i (by simpa using hi)
        · rcases List.mem_cons.1 hz with rfl | hz
          · exact hp
          · exact hpl z hz
      cases k with
      | int ik =>
        cases x with
        | v xv => cases xv with
          | int ik' n =>
            simp only [appK] at hk
            by_cases he : ik = ik'
            · rw [decide_eq_true he] at hk; exact step _ n (fun _ => rfl) rfl hk
            · rw [decide_eq_false he] at hk; exact False.elim hk
          | _ => exact False.elim hk
        | _ => exact False.elim hk
      | bool =>
        cases x with
        | v xv => cases xv with
          | bool b => exact step _ b (fun _ => rfl) rfl hk
          | _ => exact False.elim hk
        | _ => exact False.elim hk
      | str =>
        cases x with
        | v xv => cases xv with
          | string s => exact step _ s (fun _ => rfl) rfl hk
          | _ => exact False.elim hk
        | _ => exact False.elim hk
      | sl =>
        cases x with
        | v xv => cases xv with
          | slice a n c => exact step _ ⟨a, n, c⟩ (fun _ => rfl) rfl hk
          | _ => exact False.elim hk
        | _ => exact False.elim hk
      | ptr =>
        cases x with
        | v xv => cases xv with
          | pointer p => exact step _ p (fun _ => rfl) rfl hk
          | _ => exact False.elim hk
        | p b o => exact step _ (some ⟨b, o, none⟩) (fun _ => rfl) rfl hk
        | _ => exact False.elim hk
      | map =>
        cases x with
        | v xv => cases xv with
          | map m => exact step _ m (fun _ => rfl) rfl hk
          | _ => exact False.elim hk
        | _ => exact False.elim hk
      | raw =>
        cases x with
        | f v => exact step _ v (fun _ => rfl) rfl hk
        | _ => exact False.elim hk
end
end Go.Eng
end
section
/-
  THE ENGINE, 17: what only reads: it yields the same wherever it comes.
-/
set_option linter.unusedSimpArgs false
set_option linter.unusedVariables false
namespace Go.Eng
section
variable {P : Program}

/-- It never yields. -/
def Dead {α : Type} (P : Program) (s : Sem α) : Prop := ∀ w v w', s.run P w ≠ .ok v w'
/-- It yields one and the same whatever the world, or never yields. -/
def Flat {α : Type} (P : Program) (s : Sem α) : Prop := (∃ v, ∀ w, s.run P w = .ok v w) ∨ Dead P s
theorem Flat.pure {α : Type} (a : α) : Flat P (pure a : Sem α) := .inl ⟨a, fun w => rfl⟩
theorem Dead.halt {α : Type} (x : Halt) : Dead P (Sem.halt x : Sem α) := fun w v w' e => by simp at e
theorem Flat.halt {α : Type} (x : Halt) : Flat P (Sem.halt x : Sem α) := .inr (Dead.halt x)
theorem Dead.bind {α β : Type} {s : Sem α} {f : α → Sem β} (hf : ∀ a, Dead P (f a)) : Dead P (s >>= f) := by
  intro w v w' e
  simp only [Sem.run_bind] at e
  cases hr : s.run P w with
  | ok a w1 => rw [hr] at e; exact hf a _ _ _ e
  | halt x w1 => rw [hr] at e; simp at e
theorem Flat.bind {α β : Type} {s : Sem α} {f : α → Sem β} (hs : Flat P s) (hf : ∀ a, Flat P (f a)) : Flat P (s >>= f) := by
  rcases hs with ⟨v, hv⟩ | hh
  · rcases hf v with ⟨u, hu⟩ | hh
    · exact .inl ⟨u, fun w => by simp only [Sem.run_bind, hv, Result.andThen_ok, hu]⟩
    · refine .inr fun w v' w' e => ?_
      simp only [Sem.run_bind, hv, Result.andThen_ok] at e
      exact hh _ _ _ e
  · refine .inr fun w v' w' e => ?_
    simp only [Sem.run_bind] at e
    cases hr : s.run P w with
    | ok a w1 => exact hh _ _ _ hr
    | halt x w1 => rw [hr] at e; simp at e
theorem Flat.program : Flat P program := .inl ⟨P, fun w => by simp only [run_program]⟩
theorem Flat.stuck {α : Type} (x : String) : Flat P (stuck x : Sem α) := Flat.halt _
theorem Flat.unsupported {α : Type} (x : Unsupported) : Flat P (unsupported x : Sem α) := Flat.halt _
theorem Flat.underlying (t : TypeId) : Flat P (underlying t) := by
  unfold Go.underlying
  refine Flat.bind Flat.program fun p => ?_
  split
  · exact Flat.pure _
  · exact Flat.stuck _
theorem Flat.typeInfo (t : TypeId) : Flat P (typeInfo t) := by
  unfold Go.typeInfo
  refine Flat.bind Flat.program fun p => ?_
  split
  · exact Flat.pure _
  · exact Flat.stuck _
theorem Flat.sizeOf (t : TypeId) : Flat P (sizeOf t) := by
  unfold Go.sizeOf
  exact Flat.bind (Flat.typeInfo t) fun _ => Flat.pure _
theorem Dead.runtimePanic {α : Type} (e : RuntimeError) : Dead P (runtimePanic e : Sem α) := by
  unfold Go.runtimePanic
  refine Dead.bind fun p => ?_
  cases e <;> first
    | exact Dead.halt _
    | exact Dead.bind fun _ => Dead.bind fun _ => Dead.halt _
theorem Flat.runtimePanic {α : Type} (e : RuntimeError) : Flat P (runtimePanic e : Sem α) := .inr (Dead.runtimePanic e)
theorem Flat.boundsPanic {α : Type} (k : IntKind) (x y : Int) (c : BoundsCode) : Flat P (boundsPanic k x y c : Sem α) := by
  refine .inr ?_
  unfold Go.boundsPanic
  repeat' first
    | exact Dead.runtimePanic _
    | refine Dead.bind fun _ => ?_
    | split
theorem Flat.asIntOf (v : Value) : Flat P (asIntOf v) := by
  unfold Go.asIntOf
  split <;> first | exact Flat.pure _ | exact Flat.unsupported _ | exact Flat.stuck _
theorem Flat.asBool (v : Value) : Flat P (asBool v) := by
  unfold Go.asBool
  split <;> first | exact Flat.pure _ | exact Flat.stuck _
theorem Flat.sureAddr (v : Value) : Flat P (Instr.sureAddr v) := by
  unfold Instr.sureAddr
  split <;> first | exact Flat.pure _ | exact Flat.stuck _
theorem Flat.asAddr (v : Value) : Flat P (asAddr v) := by
  unfold Go.asAddr
  split <;> first | exact Flat.pure _ | exact Flat.stuck _ | exact Flat.runtimePanic _
theorem Flat.indexAt (t : TypeId) (x i : Value) : Flat P (Instr.indexAt t x i) := by
  unfold Instr.indexAt
  repeat' first
    | exact Flat.pure _
    | exact Flat.stuck _
    | exact Flat.unsupported _
    | exact Flat.boundsPanic _ _ _ _
    | exact Flat.sizeOf _
    | exact Flat.underlying _
    | exact Flat.asIntOf _
    | exact Flat.sureAddr _
    | refine Flat.bind ?_ fun _ => ?_
    | split
    | (dsimp only; split)
theorem Flat.sliceBound (x : Value) (y : Nat) (c : BoundsCode) : Flat P (Instr.sliceBound x y c) := by
  unfold Instr.sliceBound
  repeat' first
    | exact Flat.pure _
    | exact Flat.boundsPanic _ _ _ _
    | exact Flat.asIntOf _
    | refine Flat.bind ?_ fun _ => ?_
    | split
    | (dsimp only; split)
theorem Flat.sliceBounds (b : Bool) (n c : Nat) (x y z : Option Value) : Flat P (Instr.sliceBounds b n c x y z) := by
  unfold Instr.sliceBounds
  repeat' first
    | exact Flat.pure _
    | exact Flat.stuck _
    | exact Flat.sliceBound _ _ _
    | refine Flat.bind ?_ fun _ => ?_
    | split
    | (dsimp only; split)
theorem Flat.sliceAt (t : TypeId) (x : Value) (l u m : Option Value) : Flat P (Instr.sliceAt t x l u m) := by
  unfold Instr.sliceAt Instr.slice
  repeat' first
    | exact Flat.pure _
    | exact Flat.stuck _
    | exact Flat.sizeOf _
    | exact Flat.underlying _
    | exact Flat.sureAddr _
    | exact Flat.asAddr _
    | exact Flat.sliceBounds _ _ _ _ _ _
    | refine Flat.bind ?_ fun _ => ?_
    | split
    | (dsimp only; split)
theorem Flat.ite {α : Type} {c : Prop} [Decidable c] {x y : Sem α} (hx : Flat P x) (hy : Flat P y) : Flat P (if c then x else y) := by split <;> assumption
theorem Flat.intArith (op : BinOp) (k : IntKind) (x y : Int) : Flat P (Op.intArith op k x y) := by
  unfold Op.intArith
  cases op <;> first | exact Flat.pure _ | exact Flat.stuck _
theorem Flat.intBits (op : BinOp) (k : IntKind) (x y : Int) : Flat P (Op.intBits op k x y) := by
  unfold Op.intBits
  cases op <;> first | exact Flat.pure _ | exact Flat.stuck _
theorem Flat.intDiv (op : BinOp) (k : IntKind) (x y : Int) : Flat P (Op.intDiv op k x y) := by
  unfold Op.intDiv
  cases op <;> exact Flat.ite (Flat.runtimePanic _) (by first | exact Flat.pure _ | exact Flat.stuck _)
theorem Flat.intCmp (op : BinOp) (x y : Int) : Flat P (Op.intCmp op x y) := by
  unfold Op.intCmp
  cases op <;> first | exact Flat.pure _ | exact Flat.stuck _
theorem Flat.shift (op : BinOp) (k : IntKind) (x : Int) (yk : IntKind) (y : Int) : Flat P (Op.shift op k x yk y) := by
  unfold Op.shift
  cases op <;> exact Flat.ite (Flat.runtimePanic _) (by first | exact Flat.pure _ | exact Flat.stuck _)
theorem Flat.stringOp (op : BinOp) (x y : ByteArray) : Flat P (Op.stringOp op x y) := by
  unfold Op.stringOp
  cases op <;> first | exact Flat.pure _ | exact Flat.stuck _ | exact Flat.ite (Flat.unsupported _) (Flat.pure _)
theorem Flat.unary (op : UnOp) (x : Value) : Flat P (Op.unary op x) := by
  unfold Op.unary
  split <;> first | exact Flat.pure _ | exact Flat.stuck _ | exact Flat.unsupported _ | exact Flat.intArith _ _ _ _ | exact Flat.intBits _ _ _ _
theorem Flat.binInt (op : BinOp) (t : TypeId) (k k' : IntKind) (a b : Int) : Flat P (binOp op t (.int k a) (.int k' b)) := by
  have h1 : ∀ s : Sem Value, Flat P s → Flat P (if k ≠ k' then Go.stuck "BinOp: operands of different kinds" else s) := fun s hs => Flat.ite (Flat.stuck _) hs
  cases op <;> simp only [binOp] <;> first | exact h1 _ (Flat.intArith _ _ _ _) | exact h1 _ (Flat.intDiv _ _ _ _) | exact h1 _ (Flat.intBits _ _ _ _) | exact h1 _ (Flat.intCmp _ _ _) | exact Flat.shift _ _ _ _ _
theorem Flat.binStr (op : BinOp) (t : TypeId) (a b : ByteArray) : Flat P (binOp op t (.string a) (.string b)) := by
  cases op <;> simp only [binOp] <;> exact Flat.stringOp _ _ _
theorem Flat.eqGuard (op : BinOp) (t : TypeId) (x y : Operand) (a b : Value) (ha : (∃ k n k' m, a = .int k n ∧ b = .int k' m) ∨ ∃ s u, a = .string s ∧ b = .string u) : Flat P (eqGuard op t x y a b) := by
  unfold Go.eqGuard
  rcases ha with ⟨k, n, k', m, rfl, rfl⟩ | ⟨s, u, rfl, rfl⟩ <;> cases op <;> exact Flat.pure _
theorem Flat.extract (x : Value) (i : Nat) : Flat P (Instr.extract x i) := by
  unfold Instr.extract
  repeat' first
    | exact Flat.pure _
    | exact Flat.stuck _
    | split
theorem Flat.fieldAt {s f : Nat} (h : (fieldOff P s f).isSome = true) (x : Value) : Flat P (Instr.fieldAt s x f) := by
  unfold fieldOff at h
  cases hd : under P s with
  | struct fs =>
    rw [hd] at h
    simp only at h
    cases hf : fs[f]? with
    | none => rw [hf] at h; cases h
    | some fl =>
      rw [hf] at h
      simp only at h
      have hc : P.cellsOf fl.type ≠ 0 := by intro e; rw [e] at h; cases h
      have hi : hasInfo P fl.type = true := by
        cases hi : hasInfo P fl.type with
        | true => rfl
        | false => rw [hi] at h; revert h; cases P.cellsOf fl.type <;> simp
      have hu := under_some hd (by simp)
      have key : ∀ ad : Addr, ∃ v, ∀ w, (Instr.fieldAt s (.pointer (some ad)) f).run P w = .ok v w := fun ad => by
        refine ⟨.pointer (some (ad.add fl.offset)), fun w => ?_⟩
        simp [Instr.fieldAt, run_underlying hu, hf, Instr.sureAddr, fieldPlace, run_sizeOf' hi, hc]
      have dead : (∀ ad, x ≠ .pointer (some ad)) → Dead P (Instr.fieldAt s x f) := by
        intro hx w v w' e
        have hs : ∀ v w', (Instr.sureAddr x).run P w ≠ .ok v w' := by
          intro v w' e
          unfold Instr.sureAddr at e
          split at e
          · exact hx _ rfl
          · simp [Go.stuck] at e
        unfold Instr.fieldAt at e
        simp only [Sem.run_bind, run_underlying hu, Result.andThen_ok, hf] at e
        cases hr : (Instr.sureAddr x).run P w with
        | ok v1 w1 => exact hs _ _ hr
        | halt y w1 => rw [hr] at e; simp at e
      cases x with
      | pointer p => cases p with
        | some ad => exact .inl (key ad)
        | none => exact .inr (dead fun ad e => by simp at e)
      | _ => exact .inr (dead fun ad e => by simp at e)
  | _ => rw [hd] at h; cases h
theorem Flat.convInt {s t : TypeId} (hs : intT P s = true) (ht : intT P t = true) (k : IntKind) (n : Int) : Flat P (convert s t (.int k n)) := by
  unfold intT at hs ht
  cases hds : under P s <;> rw [hds] at hs <;> first | exact absurd hs Bool.false_ne_true | skip
  cases hdt : under P t <;> rw [hdt] at ht <;> first | exact absurd ht Bool.false_ne_true | skip
  have h1 := under_some hds (by simp)
  have h2 := under_some hdt (by simp)
  unfold convert
  rename_i k1 k2
  exact .inl ⟨.int k2 (k2.wrap n), fun w => by simp only [Sem.run_bind, run_underlying h1, run_underlying h2, Result.andThen_ok, Conv.intToInt, Sem.run_pure]⟩
theorem Flat.len {t : TypeId} (ht : lenT P t = true) (r : TypeId) (x : Value) : Flat P (Builtin.len_ #[t] r #[x]) := by
  unfold lenT at ht
  have hu : ∃ d, P.underlying t = some d ∧ (d = .string ∨ ∃ e, d = .slice e) := by
    cases hd : under P t <;> rw [hd] at ht <;> first
      | exact absurd ht Bool.false_ne_true
      | exact ⟨_, under_some hd (by simp), .inl rfl⟩
      | exact ⟨_, under_some hd (by simp), .inr ⟨_, rfl⟩⟩
  obtain ⟨d, hd, hc⟩ := hu
  rcases hc with rfl | ⟨e, rfl⟩ <;> cases x <;> first
    | exact .inl ⟨_, fun w => by simp [Builtin.len_, run_underlying hd]; rfl⟩
    | exact .inr fun w v w' e => by simp [Builtin.len_, run_underlying hd, Go.stuck] at e

/-- The least, the greatest: the same whatever the world. -/
theorem minmax_flat {mx : Bool} {g : Nat → Nat} {L : List LE} {h : Hp} {K : KO} : ∀ {xs : List AV} {vs : List Value} {x : AV} {v : Value}, dMinMax mx x xs L h K → x.is g v → inStep g xs vs →
    ∃ v', ∀ w, (vs.foldlM (if mx then Builtin.max2 else Builtin.min2) v).run P w = .ok v' w
  | [], vs, x, v, hk, hx, hs => by
    have : vs = [] := List.eq_nil_of_length_eq_zero hs.1
    subst this
    exact ⟨v, fun w => by simp⟩
  | y :: ys, [], x, v, hk, hx, hs => by have := hs.1; cases this
  | y :: ys, u :: us, x, v, hk, hx, hs => by
    have hy : y.is g u := hs.2 0 (by simp)
    have hst : inStep g ys us := ⟨by simpa using hs.1, fun i hi => hs.2 (i + 1) (by simpa using hi)⟩
    rw [List.foldlM_cons]
    unfold dMinMax at hk
    cases x with
    | v xv =>
      have hxe : v = xv := hx
      subst hxe
      cases v with
      | int k a =>
        cases y with
        | v yv =>
          have hye : u = yv := hy
          subst hye
          cases u with
          | int k' b =>
            dsimp only at hk
            by_cases hkk : k = k'
            · subst hkk
              rw [decide_eq_true rfl] at hk
              dsimp only at hk
              have h1 : ∀ w, ((if mx then Builtin.max2 else Builtin.min2) (.int k a) (.int k b)).run P w = .ok (.int k (mmI mx a b)) w := by
                intro w
                cases mx <;> simp [Builtin.max2, Builtin.min2, iMax, iMin, mmI]
              obtain ⟨v', hv⟩ := minmax_flat hk (v := .int k (mmI mx a b)) rfl hst
              exact ⟨v', fun w => by rw [Sem.run_bind, h1, Result.andThen_ok]; exact hv w⟩
            · rw [decide_eq_false hkk] at hk; exact False.elim hk
          | _ => exact False.elim hk
        | _ => exact False.elim hk
      | string a =>
        cases y with
        | v yv =>
          have hye : u = yv := hy
          subst hye
          cases u with
          | string b =>
            dsimp only at hk
            have h1 : ∀ w, ((if mx then Builtin.max2 else Builtin.min2) (.string a) (.string b)).run P w = .ok (.string (mmS mx a b)) w := by
              intro w
              cases mx <;> simp only [Builtin.max2, Builtin.min2, mmS, sMax, sMin, Op.stringOp, asBool, if_true, Bool.false_eq_true, if_false, Sem.run_bind, Sem.run_pure, Result.andThen_ok]
              all_goals (congr 2; first | rfl | (cases Op.bytesLess a.toList b.toList <;> rfl))
            obtain ⟨v', hv⟩ := minmax_flat hk (v := .string (mmS mx a b)) rfl hst
            exact ⟨v', fun w => by rw [Sem.run_bind, h1, Result.andThen_ok]; exact hv w⟩
          | _ => exact False.elim hk
        | _ => exact False.elim hk
      | _ => exact False.elim hk
    | _ => exact False.elim hk
/-- What only reads (and no memory) yields the same whatever the world. -/
theorem quiet_flat {lo : List Nat} {G : List (Nat × (List Value → PT))} {V : Value → List Value → PT} {g : Nat → Nat} {A : Env} {L : List LE} {h : Hp} {a : Act} {o : Oper} {K : KO} (F : FO g A a) (hq : quietB P o.op = true) (hl : isRead P o.op = false)
    (hk : opD P lo G V o.dst o.type o.op A L h K) : (∃ v, ∀ w, (execOp a.eval o).run P w = .ok (.value v) w) ∨ Dead P (execOp a.eval o) := by
  have fin : ∀ {s : Sem Value}, execOp a.eval o = (do pure (Next.value (← s)) : Sem Next) → Flat P s → (∃ v, ∀ w, (execOp a.eval o).run P w = .ok (.value v) w) ∨ Dead P (execOp a.eval o) := by
    intro s hs hf
    rw [hs]
    rcases hf with ⟨v, hv⟩ | hd
    · exact .inl ⟨v, fun w => by simp only [Sem.run_bind, hv, Result.andThen_ok, Sem.run_pure]⟩
    · refine .inr fun w v w' e => ?_
      simp only [Sem.run_bind] at e
      cases hr : s.run P w with
      | ok v1 w1 => exact hd _ _ _ hr
      | halt y w1 => rw [hr] at e; simp at e
  cases ho : o.op with
  | move x => exact fin (s := pure (a.eval x)) (by unfold execOp; rw [ho]; rfl) (Flat.pure _)
  | pick c x y =>
    refine fin (s := do pure (if ← asBool (a.eval c) then a.eval x else a.eval y)) (by unfold execOp; rw [ho]; simp) (Flat.bind (Flat.asBool _) fun _ => Flat.pure _)
  | extract x i => exact fin (s := Instr.extract (a.eval x) i) (by unfold execOp; rw [ho]) (Flat.extract _ _)
  | fieldAddr s x f => rw [ho] at hq; exact fin (s := Instr.fieldAt s (a.eval x) f) (by unfold execOp; rw [ho]) (Flat.fieldAt hq _)
  | indexAddr t x i => exact fin (s := Instr.indexAt t (a.eval x) (a.eval i)) (by unfold execOp; rw [ho]) (Flat.indexAt _ _ _)
  | slice t x l u m => exact fin (s := Instr.sliceAt t (a.eval x) (l.map a.eval) (u.map a.eval) (m.map a.eval)) (by unfold execOp; rw [ho]) (Flat.sliceAt _ _ _ _ _)
  | unOp op t x => exact fin (s := Op.unary op (a.eval x)) (by unfold execOp; rw [ho]) (Flat.unary _ _)
  | binOp op t x y yt =>
    rw [ho] at hk hq
    refine fin (s := (do eqGuard op t x y (a.eval x) (a.eval y); binOp op t (a.eval x) (a.eval y))) (by unfold execOp; rw [ho]) ?_
    have hx := ev_is F x
    have hy := ev_is F y
    replace hk : dBin P op t (ev A x) (ev A y) L h K := hk
    have no : ∀ v u, ¬ dEq P op t v u L h K := by
      intro v u hk
      unfold dEq at hk
      have hq' : pureT P t = true := hq
      unfold pureT at hq'
      cases hd : under P t <;> rw [hd] at hk hq' <;> first | exact hk | simp at hq'
    unfold dBin at hk
    have third : ∀ z : AV, (z.get fun v => (ev A y).get fun u => dEq P op t v u L h K) → False := by
      intro z hz
      obtain ⟨v, _, hz, _⟩ := AV.get_plain hz
      obtain ⟨u, _, hz, _⟩ := AV.get_plain hz
      exact no _ _ hz
    split at hk
    · rename_i k n hxa
      split at hk
      · rename_i k' m hya
        rw [hxa] at hx; rw [hya] at hy
        have hx : a.eval x = .int k n := hx
        have hy : a.eval y = .int k' m := hy
        rw [hx, hy]
        exact Flat.bind (Flat.eqGuard _ _ _ _ _ _ (.inl ⟨_, _, _, _, rfl, rfl⟩)) fun _ => Flat.binInt _ _ _ _ _ _
      · exact hk.elim
    · rename_i s hxa
      split at hk
      · rename_i u hya
        rw [hxa] at hx; rw [hya] at hy
        have hx : a.eval x = .string s := hx
        have hy : a.eval y = .string u := hy
        rw [hx, hy]
        exact Flat.bind (Flat.eqGuard _ _ _ _ _ _ (.inr ⟨_, _, rfl, rfl⟩)) fun _ => Flat.binStr _ _ _ _
      · exact hk.elim
    · exact (third _ hk).elim
  | convert s t x =>
    rw [ho] at hk hq hl
    have hq' : intT P s = true ∧ intT P t = true := by
      have h1 : (intT P s && intT P t || bytesT P s && strT P t) = true := hq
      have h2 : (bytesT P s && strT P t) = false := hl
      rw [h2, Bool.or_false, Bool.and_eq_true] at h1
      exact h1
    refine fin (s := convert s t (a.eval x)) (by unfold execOp; rw [ho]) ?_
    have hx := ev_is F x
    replace hk : dConv P s t (ev A x) L h K := hk
    unfold dConv at hk
    have ht := hq'.2
    unfold intT at ht
    cases hd : under P t <;> rw [hd] at hk ht <;> first | exact absurd ht Bool.false_ne_true | skip
    dsimp only at hk
    split at hk
    · rename_i k n hxa
      rw [hxa] at hx
      have hx : a.eval x = .int k n := hx
      rw [hx]
      exact Flat.convInt hq'.1 hq'.2 _ _
    · exact hk.elim
  | nilCheck x =>
    rw [ho] at hk
    have hx := ev_is F x
    have key : ∀ v, a.eval x = v → (∃ ad, v = .pointer (some ad)) → (∃ v, ∀ w, (execOp a.eval o).run P w = .ok (.value v) w) ∨ Dead P (execOp a.eval o) := by
      rintro v he ⟨ad, rfl⟩
      refine .inl ⟨.pointer (some ad), fun w => ?_⟩
      unfold execOp
      rw [ho]
      simp [he]
    replace hk : dNil (ev A x) L h K := hk
    unfold dNil at hk
    split at hk
    · rename_i b q hxa; rw [hxa] at hx; exact key _ hx ⟨_, rfl⟩
    · rename_i l q hxa; rw [hxa] at hx; exact key _ hx ⟨_, rfl⟩
    · rename_i p hxa
      rw [hxa] at hx
      obtain ⟨b, q, rfl, _⟩ := hk
      exact key _ hx ⟨_, rfl⟩
    · exact hk.elim
  | call c =>
    rw [ho] at hq
    obtain ⟨callee, args, ts⟩ := c
    cases callee with
    | builtin b =>
      cases b <;> first | exact absurd hq Bool.false_ne_true | skip
      case min =>
        rw [ho] at hk
        replace hk : dBuiltin P .min ts.toList (mapEv A args.toList) L h K := hk
        unfold dBuiltin at hk
        dsimp only at hk
        match hxs : args.toList with
        | [] => rw [hxs] at hk; exact False.elim hk
        | x :: xs =>
          rw [hxs] at hk
          have hst' : inStep g (mapEv A xs) (xs.map a.eval) := mapEv_step F xs
          obtain ⟨v', hv⟩ := minmax_flat (P := P) (mx := false) hk (ev_is F x) hst'
          simp only [Bool.false_eq_true, if_false] at hv
          have hargs : (args.map a.eval).toList = a.eval x :: xs.map a.eval := by simp [hxs]
          have hrun : ∀ w, (execOp a.eval o).run P w = ((Builtin.min_ ts o.type (args.map a.eval)).run P w).andThen fun v w' => .ok (.value v) w' := by
            intro w
            unfold execOp
            rw [ho]
            simp only [resolve, Sem.run_bind, Sem.run_pure, Result.andThen_ok, invoke]
            simp only [builtin]
            exact run_v
          refine .inl ⟨v', fun w => ?_⟩
          have h2 : (Builtin.min_ ts o.type (args.map a.eval)).run P w = .ok v' w := by
            unfold Builtin.min_
            rw [hargs]
            exact hv w
          rw [hrun, h2]; rfl
      case max =>
        rw [ho] at hk
        replace hk : dBuiltin P .max ts.toList (mapEv A args.toList) L h K := hk
        unfold dBuiltin at hk
        dsimp only at hk
        match hxs : args.toList with
        | [] => rw [hxs] at hk; exact False.elim hk
        | x :: xs =>
          rw [hxs] at hk
          have hst' : inStep g (mapEv A xs) (xs.map a.eval) := mapEv_step F xs
          obtain ⟨v', hv⟩ := minmax_flat (P := P) (mx := true) hk (ev_is F x) hst'
          simp only [if_true] at hv
          have hargs : (args.map a.eval).toList = a.eval x :: xs.map a.eval := by simp [hxs]
          have hrun : ∀ w, (execOp a.eval o).run P w = ((Builtin.max_ ts o.type (args.map a.eval)).run P w).andThen fun v w' => .ok (.value v) w' := by
            intro w
            unfold execOp
            rw [ho]
            simp only [resolve, Sem.run_bind, Sem.run_pure, Result.andThen_ok, invoke]
            simp only [builtin]
            exact run_v
          refine .inl ⟨v', fun w => ?_⟩
          have h2 : (Builtin.max_ ts o.type (args.map a.eval)).run P w = .ok v' w := by
            unfold Builtin.max_
            rw [hargs]
            exact hv w
          rw [hrun, h2]; rfl
      simp only [quietB] at hq
      split at hq
      · rename_i t hts
        rw [ho] at hk
        replace hk : dBuiltin P .len ts.toList (mapEv A args.toList) L h K := hk
        unfold dBuiltin at hk
        dsimp only at hk
        rw [hts] at hk
        match hxs : args.toList with
        | [] => rw [hxs] at hk; exact False.elim hk
        | _ :: _ :: _ => rw [hxs] at hk; exact False.elim hk
        | [x] =>
          have hargs : (args.map a.eval) = #[a.eval x] := by apply Array.ext'; simp [hxs]
          have hts' : ts = #[t] := by apply Array.ext'; simp [hts]
          have hrun : ∀ w, (execOp a.eval o).run P w = ((Builtin.len_ #[t] o.type #[a.eval x]).run P w).andThen fun v w' => .ok (.value v) w' := by
            intro w
            unfold execOp
            rw [ho]
            simp only [resolve, Sem.run_bind, Sem.run_pure, Result.andThen_ok, invoke]
            rw [hargs, hts']
            simp only [builtin]
            exact run_v
          rcases Flat.len (P := P) hq o.type (a.eval x) with ⟨v, hv⟩ | hd
          · exact .inl ⟨v, fun w => by rw [hrun, hv]; rfl⟩
          · refine .inr fun w v w' e => ?_
            rw [hrun] at e
            cases hr : (Builtin.len_ #[t] o.type #[a.eval x]).run P w with
            | ok v1 w1 => exact hd _ _ _ hr
            | halt y w1 => rw [hr] at e; simp at e
      · cases hq
    | _ => exact absurd hq Bool.false_ne_true
  | load t x => rw [ho] at hl; exact absurd hl (by simp [isRead, isLoad])
  | _ => rw [ho] at hq; exact absurd hq Bool.false_ne_true
end
end Go.Eng
end
section
/-
  THE ENGINE, 18: a region whose order is drawn comes to what it comes to in one order.
-/
set_option linter.unusedSimpArgs false
set_option linter.unusedVariables false
namespace Go.Eng
section
variable {P : Program} {ops : Array Oper} {Q : Exit → Act → World → Prop} {Φ : Act → World → Prop}

def Yat (P : Program) (ops : Array Oper) (o : Oper) (v : Value) (a : Act) (w : World) : Prop :=
  (Region.wanted o (yielded ops a.tmps) = true ∧ (execOp a.eval o).run P w = .ok (.value v) w) ∨ (Region.wanted o (yielded ops a.tmps) = false ∧ v = undef)
def Chk (P : Program) (ops : Array Oper) (y : Nat) (a : Act) (w : World) : Prop := ∃ o v, ops[y]? = some o ∧ Yat P ops o v a w ∧ a.put o.dst v = a
def eff (P : Program) (ops : Array Oper) (Q : Exit → Act → World → Prop) (o : Oper) (K : Act → World → Prop) (a : Act) (w : World) : Prop :=
  if Region.wanted o (yielded ops a.tmps) then o.wp P a w K Q else K (a.put o.dst undef) w
abbrev Nd := Nat × Bool × List Nat
def runP (P : Program) (ops : Array Oper) (Q : Exit → Act → World → Prop) (Φ : Act → World → Prop) : List Nd → Act → World → Prop
  | [], a, w => Φ a w
  | (i, true, _) :: R, a, w => ∃ o v, ops[i]? = some o ∧ Yat P ops o v a w ∧ runP P ops Q Φ R (a.put o.dst v) w
  | (i, false, c) :: R, a, w => ∃ o, ops[i]? = some o ∧ eff P ops Q o (fun a' w' => (∀ y ∈ c, Chk P ops y a' w') ∧ runP P ops Q Φ R a' w') a w

/-- What x leaves is not seen by y. -/
def Ind (ops : Array Oper) (x y : Nat) : Prop := ∀ ox oy, ops[x]? = some ox → ops[y]? = some oy → ∀ d, ox.dst = some d → d ∉ oy.looksAt ops ∧ oy.dst ≠ some d
theorem Yat.put {o : Oper} (hs : ∀ cs b, o.op ≠ .select cs b) {v : Value} {a : Act} {w : World} {dst : Option Tmp} {u : Value} (h : ∀ d, dst = some d → d ∉ o.looksAt ops) : Yat P ops o v (a.put dst u) w ↔ Yat P ops o v a w := by
  unfold Yat
  rw [execOp_put o hs a dst u h, wanted_put o a dst u h]
theorem eff_mono {o : Oper} {K K' : Act → World → Prop} {a : Act} {w : World} (h : ∀ a w, K a w → K' a w) (hh : eff P ops Q o K a w) : eff P ops Q o K' a w := by
  unfold eff at *
  split
  · rename_i hw; rw [if_pos hw] at hh; exact Oper.wp_mono h hh
  · rename_i hw; rw [if_neg hw] at hh; exact h _ _ hh
theorem eff_put (hQ : ∀ c a w, ¬ Q (.panic c) a w) {oj : Oper} (hsj : ∀ cs b, oj.op ≠ .select cs b) {dx : Option Tmp} {v : Value} (h1 : ∀ d, dx = some d → d ∉ oj.looksAt ops) (h2 : ∀ d, dx = some d → oj.dst ≠ some d)
    {K : Act → World → Prop} {a : Act} {w : World} (hout : ∀ a w, ¬ Q .outgrown a w ∨ True) (h : eff P ops Q oj K (a.put dx v) w) : eff P ops Q oj (fun b w' => K (b.put dx v) w') a w := by
  unfold eff at *
  rw [wanted_put oj a dx v h1] at h
  split
  · rename_i hw
    rw [if_pos hw] at h
    unfold Oper.wp at *
    rw [execOp_put oj hsj a dx v h1] at h
    generalize (execOp a.eval oj).run P w = r at *
    cases r with
    | ok n w' =>
      cases n <;> simp only [Oper.upon] at h ⊢
      case value u => rw [← Act.put_comm a v u h2]; exact h
      case skip => rw [← Act.put_comm a v undef h2]; exact h
      case defer d =>
        rw [← Act.put_comm _ v undef h2, ← Act.put_defers]
        exact h
      case enter f args =>
        refine Calls.mono h fun e w'' he => ?_
        cases e with
        | returned u => exact (show K ((a.put oj.dst u).put dx v) w'' from by rw [← Act.put_comm a v u h2]; exact he)
        | panicked c => exact (hQ _ _ _ he).elim
        | outgrown => exact he
      case row row args => exact Rows.mono h fun u w'' he => by rw [← Act.put_comm a v u h2]; exact he
    | halt x w' =>
      cases x <;> simp only [Oper.upon] at h ⊢
      case panic u => exact (hQ _ _ _ h).elim
  · rename_i hw
    rw [if_neg hw] at h
    rw [← Act.put_comm a v undef h2]; exact h
theorem put_put (a : Act) (d : Option Tmp) (v u : Value) : (a.put d v).put d u = a.put d u := by
  cases d with
  | none => rfl
  | some d => simp [Act.put]
theorem put_fix {b : Act} {dx dy : Option Tmp} {v u : Value} (hne : ∀ d, dx = some d → dy ≠ some d) (h : (b.put dx v).put dy u = b.put dx v) : b.put dy u = b := by
  cases dy with
  | none => rfl
  | some e =>
    cases dx with
    | none => exact h
    | some d =>
      have hde : d ≠ e := fun q => hne d rfl (by rw [q])
      have ht : (b.tmps.setIfInBounds d v).setIfInBounds e u = b.tmps.setIfInBounds d v := congrArg Act.tmps h
      have : b.tmps.setIfInBounds e u = b.tmps := by
        apply Array.ext_getElem?
        intro i
        have hi : ((b.tmps.setIfInBounds d v).setIfInBounds e u)[i]? = (b.tmps.setIfInBounds d v)[i]? := by rw [ht]
        by_cases hei : e = i
        · subst hei
          rw [Array.getElem?_setIfInBounds_ne hde] at hi
          rw [Array.getElem?_setIfInBounds] at hi ⊢
          simpa using hi
        · rw [Array.getElem?_setIfInBounds_ne hei]
      show ({ b with tmps := b.tmps.setIfInBounds e u } : Act) = b
      rw [this]
theorem Chk.back {x y : Nat} {ox : Oper} (hx : ops[x]? = some ox) (hsel : ∀ (j : Nat) (o : Oper) cs b, ops[j]? = some o → o.op ≠ .select cs b) (hi : Ind ops x y) {b : Act} {v : Value} {w : World} (h : Chk P ops y (b.put ox.dst v) w) : Chk P ops y b w := by
  obtain ⟨o, u, ho, hy, hp⟩ := h
  exact ⟨o, u, ho, (Yat.put (hsel y o · · ho) (fun d hd => (hi ox o hx ho d hd).1)).1 hy, put_fix (fun d hd => (hi ox o hx ho d hd).2) hp⟩

theorem swap_q {x i : Nat} {cx ci : List Nat} {R : List Nd} {a : Act} {w : World} (hsel : ∀ (j : Nat) (o : Oper) cs b, ops[j]? = some o → o.op ≠ .select cs b) (h1 : Ind ops x i) (h2 : Ind ops i x)
    (h : runP P ops Q Φ ((x, true, cx) :: (i, true, ci) :: R) a w) : runP P ops Q Φ ((i, true, ci) :: (x, true, cx) :: R) a w := by
  obtain ⟨ox, v, hx, hy, oi, u, hi, hz, hr⟩ := h
  refine ⟨oi, u, hi, (Yat.put (hsel i oi · · hi) (fun d hd => (h1 ox oi hx hi d hd).1)).1 hz, ox, v, hx, (Yat.put (hsel x ox · · hx) (fun d hd => (h2 oi ox hi hx d hd).1)).2 hy, ?_⟩
  rw [← Act.put_comm a v u (fun d hd => (h1 ox oi hx hi d hd).2)]
  exact hr
theorem swap_e (hQ : ∀ c a w, ¬ Q (.panic c) a w) {x i : Nat} {cx ci : List Nat} {R : List Nd} {a : Act} {w : World} (hsel : ∀ (j : Nat) (o : Oper) cs b, ops[j]? = some o → o.op ≠ .select cs b) (h1 : Ind ops x i) (hown : ∀ ox, ops[x]? = some ox → ∀ d, ox.dst = some d → d ∉ ox.looksAt ops) (hxc : ∀ y ∈ ci, Ind ops x y)
    (h : runP P ops Q Φ ((x, true, cx) :: (i, false, x :: ci) :: R) a w) : runP P ops Q Φ ((i, false, ci) :: (x, true, cx) :: R) a w := by
  obtain ⟨ox, v, hx, hy, oi, hi, he⟩ := h
  refine ⟨oi, hi, ?_⟩
  have he' := eff_put hQ (hsel i oi · · hi) (fun d hd => (h1 ox oi hx hi d hd).1) (fun d hd => (h1 ox oi hx hi d hd).2) (fun _ _ => .inr trivial) he
  refine eff_mono (fun b w' hb => ?_) he'
  obtain ⟨hc, hr⟩ := hb
  refine ⟨fun y hyc => (hc y (List.mem_cons_of_mem _ hyc)).back hx hsel (hxc y hyc), ?_⟩
  obtain ⟨o, u, ho, hyu, hp⟩ := hc x List.mem_cons_self
  rw [hx] at ho
  cases ho
  rw [put_put] at hp
  exact ⟨ox, u, hx, (Yat.put (hsel x ox · · hx) (fun d hd => hown ox hx d hd)).1 hyu, by rw [hp]; exact hr⟩

/-! ### One of them first -/
def Fit (ops : Array Oper) (n1 n : Nd) : Prop := n1.2.1 = true ∧ Ind ops n1.1 n.1 ∧ Ind ops n.1 n1.1 ∧ (n.2.1 = true ∨ n1.1 ∈ n.2.2)
theorem pull (hQ : ∀ c a w, ¬ Q (.panic c) a w) (hsel : ∀ (j : Nat) (o : Oper) cs b, ops[j]? = some o → o.op ≠ .select cs b) {i : Nat} {q : Bool} {R2 : List Nd} :
    ∀ (R1 : List Nd) (c c' : List Nat) (a : Act) (w : World), (∀ x ∈ R1, Fit ops x (i, q, c)) → (∀ x ∈ R1, ∀ ox, ops[x.1]? = some ox → ∀ d, ox.dst = some d → d ∉ ox.looksAt ops) → R1.Pairwise (fun y x => Ind ops x.1 y.1) → (∀ y ∈ c', y ∈ c) → (∀ y ∈ c', ∀ x ∈ R1, Ind ops x.1 y) →
      runP P ops Q Φ (R1 ++ (i, q, c) :: R2) a w → runP P ops Q Φ ((i, q, c') :: (R1 ++ R2)) a w
  | [], c, c', a, w, _, _, _, hsub, _, h => by
    cases q with
    | true => exact h
    | false =>
      obtain ⟨o, ho, he⟩ := h
      exact ⟨o, ho, eff_mono (fun a w hk => ⟨fun y hy => hk.1 y (hsub y hy), hk.2⟩) he⟩
  | (x, qx, cx) :: R1, c, c', a, w, hfit, hown, hpw, hsub, hind, h => by
    obtain ⟨hqx, hx1, hx2, hx3⟩ := hfit _ List.mem_cons_self
    have hqx : qx = true := hqx
    subst hqx
    obtain ⟨hp1, hp2⟩ := List.pairwise_cons.1 hpw
    obtain ⟨ox, v, hox, hy, hr⟩ := h
    cases q with
    | true =>
      have ih := pull hQ hsel R1 c c' (a.put ox.dst v) w (fun z hz => hfit z (List.mem_cons_of_mem _ hz)) (fun z hz => hown z (List.mem_cons_of_mem _ hz)) hp2 hsub (fun y hyc z hz => hind y hyc z (List.mem_cons_of_mem _ hz)) hr
      exact swap_q hsel hx1 hx2 ⟨ox, v, hox, hy, ih⟩
    | false =>
      have hxc : x ∈ c := hx3.resolve_left (by simp)
      have ih := pull hQ hsel R1 c (x :: c') (a.put ox.dst v) w (fun z hz => hfit z (List.mem_cons_of_mem _ hz)) (fun z hz => hown z (List.mem_cons_of_mem _ hz)) hp2
        (fun y hyc => by
          rcases List.mem_cons.1 hyc with rfl | hyc
          · exact hxc
          · exact hsub y hyc)
        (fun y hyc z hz => by
          rcases List.mem_cons.1 hyc with rfl | hyc
          · exact hp1 z hz
          · exact hind y hyc z (List.mem_cons_of_mem _ hz)) hr
      exact swap_e hQ hsel hx1 (fun o ho => hown _ List.mem_cons_self o ho) (fun y hyc => hind y hyc _ List.mem_cons_self) ⟨ox, v, hox, hy, ih⟩

/-! ### What must come before -/
inductive Anc (ops : Array Oper) : Nat → Nat → Prop
  | edge {e i : Nat} {o : Oper} : ops[i]? = some o → e ∈ edgesOf o → Anc ops e i
  | step {x e i : Nat} {o : Oper} : ops[i]? = some o → e ∈ edgesOf o → Anc ops x e → Anc ops x i
def Down (ops : Array Oper) (listed : Array Bool) : Prop := ∀ j o, ops[j]? = some o → listed.getD j false = true → ∀ e ∈ edgesOf o, listed.getD e false = true
theorem Anc.listed {listed : Array Bool} (hd : Down ops listed) {x i : Nat} (h : Anc ops x i) (hi : ∀ o, ops[i]? = some o → ∀ e ∈ edgesOf o, listed.getD e false = true) : listed.getD x false = true := by
  induction h with
  | edge ho he => exact hi _ ho _ he
  | step ho he _ ih => exact ih fun o' ho' e' he' => hd _ o' ho' (hi _ ho _ he) e' he'
theorem addAll_mem : ∀ {xs l : List Nat} {x : Nat}, x ∈ addAll l xs → x ∈ l ∨ x ∈ xs
  | [], l, x, h => .inl h
  | y :: ys, l, x, h => by
    unfold addAll at h
    cases hm : memN y l with
    | true =>
      rw [hm] at h
      rcases addAll_mem h with h | h
      · exact .inl h
      · exact .inr (List.mem_cons_of_mem _ h)
    | false =>
      rw [hm] at h
      rcases addAll_mem h with h | h
      · rcases List.mem_cons.1 h with rfl | h
        · exact .inr List.mem_cons_self
        · exact .inl h
      · exact .inr (List.mem_cons_of_mem _ h)
theorem ancOf_mem {tab : List (List Nat)} : ∀ {es l : List Nat} {x : Nat}, x ∈ ancOf tab l es → x ∈ l ∨ ∃ e ∈ es, x = e ∨ x ∈ (tab[e]?).getD []
  | [], l, x, h => .inl h
  | e :: es, l, x, h => by
    unfold ancOf at h
    rcases ancOf_mem h with h | ⟨e', he', h⟩
    · rcases addAll_mem h with h | h
      · exact .inl h
      · rcases List.mem_cons.1 h with rfl | h
        · exact .inr ⟨_, List.mem_cons_self, .inl rfl⟩
        · exact .inr ⟨e, List.mem_cons_self, .inr h⟩
    · exact .inr ⟨e', List.mem_cons_of_mem _ he', h⟩
theorem ancTab_ok : ∀ (os done : List Oper) (tab : List (List Nat)), tab.length = done.length → (done ++ os).toArray = ops → (∀ i x, x ∈ (tab[i]?).getD [] → Anc ops x i) → ∀ i x, x ∈ ((ancTab tab os)[i]?).getD [] → Anc ops x i
  | [], done, tab, _, _, h => h
  | o :: os, done, tab, hl, hops, h => by
    unfold ancTab
    refine ancTab_ok os (done ++ [o]) _ (by simp [hl]) (by simpa using hops) fun i x hx => ?_
    by_cases hi : i < tab.length
    · rw [List.getElem?_append_left hi] at hx
      exact h i x hx
    · rw [List.getElem?_append_right (by omega)] at hx
      have hi0 : i = tab.length := by
        apply Classical.byContradiction
        intro hne
        rw [List.getElem?_eq_none (by simp; omega)] at hx
        cases hx
      subst hi0
      have hoi : ops[tab.length]? = some o := by rw [← hops]; simp [hl]
      simp only [Nat.sub_self, List.getElem?_cons_zero, Option.getD_some] at hx
      rcases ancOf_mem hx with hx | ⟨e, he, hx⟩
      · cases hx
      · rcases hx with rfl | hx
        · exact .edge hoi he
        · exact .step hoi he (h e x hx)
theorem notAnc_false {i x : Nat} (h : notAnc (ancTab [] ops.toList) i x = false) : Anc ops x i := by
  unfold notAnc at h
  have : memN x (((ancTab [] ops.toList)[i]?).getD []) = true := by simpa using h
  exact ancTab_ok ops.toList [] [] rfl (by simp) (fun i x hx => by simp at hx) i x (memN_iff.1 this)

structure Good (ops : Array Oper) (R : List Nd) : Prop where
  pw : R.Pairwise (fun n1 n => (Anc ops n1.1 n.1 ∨ Fit ops n1 n) ∧ (n.2.1 = true → Ind ops n.1 n1.1) ∧ ∀ o, ops[n1.1]? = some o → n.1 ∉ edgesOf o)
  self : ∀ n ∈ R, ∃ o, ops[n.1]? = some o ∧ n.1 ∉ edgesOf o ∧ (∀ e ∈ edgesOf o, e < ops.size) ∧ (n.2.1 = true → ∀ d, o.dst = some d → d ∉ o.looksAt ops)
  nd : (R.map (·.1)).Nodup
theorem Good.sub {R R' : List Nd} (h : Good ops R) (hs : R'.Sublist R) : Good ops R' :=
  ⟨h.pw.sublist hs, fun n hn => h.self n (hs.subset hn), h.nd.sublist (hs.map _)⟩
theorem any_of_run (hΦ : ∀ a w, Φ a w → Q .normal a w) (hQ : ∀ c a w, ¬ Q (.panic c) a w) (hsel : ∀ (j : Nat) (o : Oper) cs b, ops[j]? = some o → o.op ≠ .select cs b) :
    ∀ (fuel : Nat) (R : List Nd) (listed : Array Bool) (a : Act) (w : World), R.length = fuel → listed.size = ops.size → (∀ j, listed.getD j true = false ↔ j ∈ R.map (·.1)) → Down ops listed → Good ops R → runP P ops Q Φ R a w → wpAny P .any ops Q fuel listed a w
  | 0, R, listed, a, w, hl, hsz, hun, hd, hg, h => by
    have : R = [] := List.eq_nil_of_length_eq_zero hl
    subst this
    refine ⟨?_, hΦ _ _ h⟩
    cases hr : Region.ready .any ops listed with
    | nil => rfl
    | cons j l =>
      have hj : j ∈ Region.ready .any ops listed := by rw [hr]; exact List.mem_cons_self
      have := (hun j).1 (mem_ready.1 hj).1
      simp at this
  | fuel + 1, R, listed, a, w, hl, hsz, hun, hd, hg, h => by
    have edge_bind : ∀ (o : Oper) (e : Edge), e ∈ o.after → Region.binds .any e = true → e.on ∈ edgesOf o := by
      intro o e he hb
      unfold edgesOf
      exact List.mem_map.2 ⟨e, List.mem_filter.2 ⟨Array.mem_toList_iff.2 he, hb⟩, rfl⟩
    have bind_edge : ∀ (o : Oper) (k : Nat), k ∈ edgesOf o → ∃ e ∈ o.after, Region.binds .any e = true ∧ e.on = k := by
      intro o k hk
      unfold edgesOf at hk
      obtain ⟨e, he, rfl⟩ := List.mem_map.1 hk
      obtain ⟨h1, h2⟩ := List.mem_filter.1 he
      exact ⟨e, Array.mem_toList_iff.1 h1, h2, rfl⟩
    refine ⟨fun h0 => ?_, fun i hi => ?_⟩
    · exfalso
      match R, hl with
      | n :: R', _ =>
        obtain ⟨o, ho, hself, hlt, _⟩ := hg.self n List.mem_cons_self
        have hnr : n.1 ∈ Region.ready .any ops listed := by
          refine mem_ready.2 ⟨(hun n.1).2 (by simp), o, ho, fun e he hb => ?_⟩
          apply Classical.byContradiction
          intro hne
          have heo := edge_bind o e he hb
          have hes : e.on < listed.size := by rw [hsz]; exact hlt _ heo
          have heu : listed.getD e.on true = false := by
            simp only [Array.getD, hes, dif_pos] at hne ⊢
            simpa using hne
          have hmem := (hun e.on).1 heu
          rcases List.mem_cons.1 hmem with h1 | h1
          · have h1 : e.on = n.1 := h1
            rw [h1] at heo; exact hself heo
          · obtain ⟨n2, hn2, he2⟩ := List.mem_map.1 h1
            have he2 : n2.1 = e.on := he2
            exact ((List.pairwise_cons.1 hg.pw).1 n2 hn2).2.2 o ho (by rw [he2]; exact heo)
        rw [h0] at hnr; cases hnr
    · obtain ⟨hiu, o, ho, hall⟩ := mem_ready.1 hi
      obtain ⟨n, hn, hni⟩ := List.mem_map.1 ((hun i).1 hiu)
      obtain ⟨R1, R2, rfl⟩ := List.append_of_mem hn
      obtain ⟨i', q, c⟩ := n
      have hni : i' = i := hni
      subst hni
      have hdeps : ∀ o', ops[i']? = some o' → ∀ e ∈ edgesOf o', listed.getD e false = true := by
        intro o' ho' e he
        rw [ho] at ho'
        cases ho'
        obtain ⟨e', he', hb, rfl⟩ := bind_edge o e he
        exact hall e' he' hb
      have in_size : ∀ j, j ∈ (R1 ++ (i', q, c) :: R2).map (·.1) → listed.getD j false = false := by
        intro j hj
        have h1 := (hun j).2 hj
        by_cases hjs : j < listed.size
        · simp only [Array.getD, hjs, dif_pos] at h1 ⊢; exact h1
        · simp [Array.getD, hjs] at h1
      have hpw := List.pairwise_append.1 hg.pw
      have hrun := pull hQ hsel (Q := Q) R1 c [] a w
        (fun x hx => by
          rcases (hpw.2.2 x hx _ List.mem_cons_self).1 with ha | hf
          · exfalso
            have h1 := ha.listed hd hdeps
            rw [in_size x.1 (List.mem_map.2 ⟨x, List.mem_append_left _ hx, rfl⟩)] at h1
            cases h1
          · exact hf)
        (fun x hx ox hox d hdd => by
          obtain ⟨o2, ho2, _, _, hs⟩ := hg.self x (List.mem_append_left _ hx)
          rw [hox] at ho2
          cases ho2
          rcases (hpw.2.2 x hx _ List.mem_cons_self).1 with ha | hf
          · exfalso
            have h1 := ha.listed hd hdeps
            rw [in_size x.1 (List.mem_map.2 ⟨x, List.mem_append_left _ hx, rfl⟩)] at h1
            cases h1
          · exact hs hf.1 d hdd)
        (hpw.1.imp_of_mem fun {y x} hy hx h => h.2.1 (by
          rcases (hpw.2.2 x hx _ List.mem_cons_self).1 with ha | hf
          · exfalso
            have h1 := ha.listed hd hdeps
            rw [in_size x.1 (List.mem_map.2 ⟨x, List.mem_append_left _ hx, rfl⟩)] at h1
            cases h1
          · exact hf.1)) (fun y hy => (by cases hy)) (fun y hy => (by cases hy)) h
      have hnd := hg.nd
      rw [List.map_append, List.map_cons] at hnd
      have hni1 : i' ∉ (R1 ++ R2).map (·.1) := by
        rw [List.map_append]
        rw [List.nodup_append] at hnd
        obtain ⟨_, h2, h3⟩ := hnd
        intro hmem
        rcases List.mem_append.1 hmem with h1 | h1
        · exact h3 _ h1 _ List.mem_cons_self rfl
        · exact (List.nodup_cons.1 h2).1 h1
      have hsub : (R1 ++ R2).Sublist (R1 ++ (i', q, c) :: R2) := List.Sublist.append_left (List.sublist_cons_self _ _) _
      have next : ∀ a' w', runP P ops Q Φ (R1 ++ R2) a' w' → wpAny P .any ops Q fuel (listed.setIfInBounds i' true) a' w' := by
        intro a' w' hr
        refine any_of_run hΦ hQ hsel fuel (R1 ++ R2) _ a' w' (by simp at hl ⊢; omega) (by simp [hsz]) (fun j => ?_) (fun j oj hoj hlj e he => ?_) (hg.sub hsub) hr
        · by_cases hij : i' = j
          · subst hij
            refine ⟨fun hh => ?_, fun hh => absurd hh hni1⟩
            by_cases his : i' < listed.size
            · simp [his] at hh
            · simp [his] at hh
          · rw [getD_set_ne true hij, hun j]
            simp only [List.map_append, List.map_cons, List.mem_append, List.mem_cons]
            constructor
            · rintro (h1 | h1 | h1)
              · exact .inl h1
              · exact absurd h1.symm hij
              · exact .inr h1
            · rintro (h1 | h1)
              · exact .inl h1
              · exact .inr (.inr h1)
        · by_cases hij : i' = j
          · subst hij
            exact getD_set_true (hdeps oj hoj e he)
          · rw [getD_set_ne false hij] at hlj
            exact getD_set_true (hd j oj hoj hlj e he)
      cases q with
      | true =>
        obtain ⟨o', v, ho', hy, hr⟩ := hrun
        rw [ho] at ho'
        cases ho'
        unfold wpOp
        rw [ho]
        dsimp only
        rcases hy with ⟨hw, hv⟩ | ⟨hw, rfl⟩
        · rw [if_pos hw]
          refine .inl ?_
          unfold Oper.wp
          rw [hv]
          exact next _ _ hr
        · rw [if_neg (by rw [hw]; simp)]
          exact next _ _ hr
      | false =>
        obtain ⟨o', ho', he⟩ := hrun
        rw [ho] at ho'
        cases ho'
        have he' := eff_mono (fun a' w' hk => next a' w' hk.2) he
        unfold eff at he'
        unfold wpOp
        rw [ho]
        dsimp only
        split
        · rename_i hw; rw [if_pos hw] at he'; exact .inl he'
        · rename_i hw; rw [if_neg hw] at he'; exact he'

end
end Go.Eng
end
section
/-
  THE ENGINE, 16: where ways meet, loops, code, a whole call.
-/
set_option linter.unusedSimpArgs false
set_option linter.unusedVariables false
namespace Go.Eng
section
variable {P : Program} {lo : List Nat} {G : List (Nat × (List Value → PT))} {V : Value → List Value → PT} {fr : Hp} {g : Nat → Nat} {A : Env} {L : List LE} {h : Hp} {w : World} {a : Act} {Q : Exit → Act → World → Prop}

/-- Said as values of their kinds, cells say what they said. -/
def Says (xs ys : List AV) : Prop := ys.length = xs.length ∧ (∀ y ∈ ys, y.plain = true) ∧ ∀ g us, inStep g xs us → inStep g ys us
theorem Says.cons {x y : AV} {xs ys : List AV} (hy : y.plain = true) (hxy : ∀ g u, x.is g u → y.is g u) (h : Says xs ys) : Says (x :: xs) (y :: ys) := by
  refine ⟨by simp [h.1], fun z hz => ?_, fun g us hs => ?_⟩
  · rcases List.mem_cons.1 hz with rfl | hz
    · exact hy
    · exact h.2.1 z hz
  · cases us with
    | nil => have := hs.1; simp at this
    | cons u us =>
      have ht : inStep g xs us := ⟨by simpa using hs.1, fun i hi => hs.2 (i + 1) (by simpa using hi)⟩
      obtain ⟨h1, h2⟩ := h.2.2 g us ht
      refine ⟨by simp [h1], fun i hi => ?_⟩
      cases i with
      | zero => exact hxy g u (hs.2 0 (by simp))
      | succ i => exact h2 i (by simpa using hi)
/-- One cell as a value of its kind. -/
theorem appK_cons {k : Kd} {ks : List Kd} {β : Type} {f : Fun (k :: ks) β} {x : AV} {xs : List AV} {K : β → Prop} (hk : appK (k :: ks) f (x :: xs) K) :
    ∃ y : k.T, (k.av y).plain = true ∧ (∀ g u, x.is g u → (k.av y).is g u) ∧ appK ks (f y) xs K ∧ ∀ {γ : Type} (f' : Fun (k :: ks) γ) (K' : γ → Prop), appK (k :: ks) f' (x :: xs) K' ↔ appK ks (f' y) xs K' := by
  cases k with
  | int ik =>
    cases x with
    | v xv => cases xv with
      | int ik' n =>
        simp only [appK] at hk
        by_cases he : ik = ik'
        · subst he
          rw [decide_eq_true rfl] at hk
          exact ⟨n, rfl, fun g u hu => hu, hk, fun f' K' => by simp only [appK, decide_true]⟩
        · rw [decide_eq_false he] at hk; exact False.elim hk
      | _ => exact False.elim hk
    | _ => exact False.elim hk
  | bool =>
    cases x with
    | v xv => cases xv with
      | bool b => exact ⟨b, rfl, fun g u hu => hu, hk, fun f' K' => Iff.rfl⟩
      | _ => exact False.elim hk
    | _ => exact False.elim hk
  | str =>
    cases x with
    | v xv => cases xv with
      | string s => exact ⟨s, rfl, fun g u hu => hu, hk, fun f' K' => Iff.rfl⟩
      | _ => exact False.elim hk
    | _ => exact False.elim hk
  | sl =>
    cases x with
    | v xv => cases xv with
      | slice a n c => exact ⟨⟨a, n, c⟩, rfl, fun g u hu => hu, hk, fun f' K' => Iff.rfl⟩
      | _ => exact False.elim hk
    | _ => exact False.elim hk
  | ptr =>
    cases x with
    | v xv => cases xv with
      | pointer p => exact ⟨p, rfl, fun g u hu => hu, hk, fun f' K' => Iff.rfl⟩
      | _ => exact False.elim hk
    | p b o => exact ⟨some ⟨b, o, none⟩, rfl, fun g u hu => hu, hk, fun f' K' => Iff.rfl⟩
    | _ => exact False.elim hk
  | map =>
    cases x with
    | v xv => cases xv with
      | map m => exact ⟨m, rfl, fun g u hu => hu, hk, fun f' K' => Iff.rfl⟩
      | _ => exact False.elim hk
    | _ => exact False.elim hk
  | raw =>
    cases x with
    | f v => exact ⟨v, rfl, fun g u hu => hu, hk, fun f' K' => Iff.rfl⟩
    | _ => exact False.elim hk
theorem appK_len : ∀ {ks : List Kd} {β : Type} {f : Fun ks β} {xs : List AV} {K : β → Prop}, appK ks f xs K → xs.length = ks.length
  | [], _, _, [], _, _ => rfl
  | [], _, _, _ :: _, _, hk => False.elim hk
  | k :: ks, _, _, [], _, hk => by cases k <;> exact False.elim hk
  | k :: ks, _, _, x :: xs, _, hk => by
    obtain ⟨y, _, _, hr, _⟩ := appK_cons hk
    have := appK_len hr
    simp [this]
theorem all1_at {k : Kd} {ks : List Kd} {β : Type} {f : Fun (k :: ks) β} {Φ : List AV → β → Prop} (h : all1 (k :: ks) f Φ) (x : k.T) : all1 ks (f x) fun vs a => Φ (k.av x :: vs) a := by
  cases k with
  | bool => cases x with
    | true => exact h.1
    | false => exact h.2
  | _ => exact h x
theorem all2_at {k : Kd} {ks : List Kd} {β γ : Type} {f : Fun (k :: ks) β} {m : Fun (k :: ks) γ} {Φ : List AV → β → γ → Prop} (h : all2 (k :: ks) f m Φ) (x : k.T) : all2 ks (f x) (m x) fun vs a b => Φ (k.av x :: vs) a b := by
  cases k with
  | bool => cases x with
    | true => exact h.1
    | false => exact h.2
  | _ => exact h x
theorem join_says : ∀ {ks : List Kd} {β : Type} {f : Fun ks β} {xs : List AV} {K : β → Prop} {Φ : List AV → β → Prop}, appK ks f xs K → all1 ks f Φ → ∃ ys j, Says xs ys ∧ K j ∧ Φ ys j
  | [], _, f, [], _, _, hk, ha => ⟨[], f, ⟨rfl, fun y hy => (by simp at hy), fun g us h => h⟩, hk, ha⟩
  | [], _, _, _ :: _, _, _, hk, _ => False.elim hk
  | k :: ks, _, _, [], _, _, hk, _ => by cases k <;> exact False.elim hk
  | k :: ks, _, f, x :: xs, K, Φ, hk, ha => by
    obtain ⟨y, hp, hxy, hr, _⟩ := appK_cons hk
    obtain ⟨ys, j, hs, hK, hΦ⟩ := join_says hr (all1_at ha y)
    exact ⟨k.av y :: ys, j, Says.cons hp hxy hs, hK, hΦ⟩
theorem loop_says : ∀ {ks : List Kd} {β γ : Type} {f : Fun ks β} {m : Fun ks γ} {xs : List AV} {K : β → Prop} {K' : γ → Prop} {Φ : List AV → β → γ → Prop}, appK ks f xs K → appK ks m xs K' → all2 ks f m Φ → ∃ ys i u, Says xs ys ∧ K i ∧ K' u ∧ Φ ys i u
  | [], _, _, f, m, [], _, _, _, hk, hm, ha => ⟨[], f, m, ⟨rfl, fun y hy => (by simp at hy), fun g us h => h⟩, hk, hm, ha⟩
  | [], _, _, _, _, _ :: _, _, _, _, hk, _, _ => False.elim hk
  | k :: ks, _, _, _, _, [], _, _, _, hk, _, _ => by cases k <;> exact False.elim hk
  | k :: ks, _, _, f, m, x :: xs, K, K', Φ, hk, hm, ha => by
    obtain ⟨y, hp, hxy, hr, hiff⟩ := appK_cons hk
    obtain ⟨ys, i, u, hs, hK, hK', hΦ⟩ := loop_says hr ((hiff m K').1 hm) (all2_at ha y)
    exact ⟨k.av y :: ys, i, u, Says.cons hp hxy hs, hK, hK', hΦ⟩
theorem appK_any : ∀ {ks : List Kd} {β γ : Type} {f : Fun ks β} {m : Fun ks γ} {xs : List AV} {K : β → Prop}, appK ks f xs K → appK ks m xs (fun _ => True)
  | [], _, _, f, m, [], _, hk => trivial
  | [], _, _, _, _, _ :: _, _, hk => False.elim hk
  | k :: ks, _, _, _, _, [], _, hk => by cases k <;> exact False.elim hk
  | k :: ks, _, _, f, m, x :: xs, K, hk => by
    obtain ⟨y, hp, hxy, hr, hiff⟩ := appK_cons hk
    exact (hiff m _).2 (appK_any hr)

/-! ### The frame again -/
theorem forget_look (W : List Nat) : ∀ (l : List (Nat × AV)) (i : Nat), look (forgetL W l) i = if memN i W then .unk else (look l i).kill W
  | [], i => by simp only [forgetL, look]; split <;> rfl
  | (j, x) :: l, i => by
    simp only [forgetL]
    cases hm : memN j W with
    | true =>
      simp only [look, forget_look W l i]
      cases he : Nat.beq j i with
      | true => have := Nat.eq_of_beq_eq_true he; subst this; simp [hm]
      | false => rfl
    | false =>
      simp only [look, forget_look W l i]
      cases he : Nat.beq j i with
      | true => have := Nat.eq_of_beq_eq_true he; subst this; simp [hm]
      | false => rfl
theorem forget_get (W : List Nat) (A : Env) (i : Nat) : getE (forgetE W A) i = if memN i W then .unk else (getE A i).kill W := by
  show (match Nat.blt i A.n with | true => look (forgetL W A.l) i | false => .unk) = if memN i W then .unk else (match Nat.blt i A.n with | true => look A.l i | false => AV.unk).kill W
  cases Nat.blt i A.n with
  | true => exact forget_look W A.l i
  | false => show AV.unk = if memN i W = true then AV.unk else AV.unk; split <;> rfl
theorem kill_is {W : List Nat} {g g' : Nat → Nat} (hg : ∀ l, memN l W = false → g' l = g l) {x : AV} {v : Value} (h : x.is g v) : (x.kill W).is g' v := by
  cases x with
  | loc l o =>
    show AV.is _ (match memN l W with | true => .unk | false => .loc l o) v
    cases hm : memN l W with
    | true => trivial
    | false => show v = _; rw [show v = .pointer (some ⟨g l, o, none⟩) from h, hg l hm]
  | sl l n =>
    show AV.is _ (match memN l W with | true => .unk | false => .sl l n) v
    cases hm : memN l W with
    | true => trivial
    | false => show v = _; rw [show v = .slice (some ⟨g l, 0, none⟩) n n from h, hg l hm]
  | _ => exact h
theorem FO.forget {W : List Nat} {g' : Nat → Nat} {A' : Env} {a' : Act} (F : FO g A a) (F' : FO g' A' a') (hg : ∀ l, memN l W = false → g' l = g l) (hu : ∀ i, memN i W = false → a'.tmps.getD i undef = a.tmps.getD i undef) (hsz : a'.tmps.size = a.tmps.size) : FO g' (forgetE W A) a' := by
  refine ⟨F.len.trans hsz.symm, fun i => ?_, F'.df⟩
  rw [forget_get]
  cases hm : memN i W with
  | true => trivial
  | false =>
    rw [hu i hm]
    exact kill_is hg (F.at_ i)
theorem liveV_length (A : Env) (vs : List (Nat × Kd)) : (liveV A vs).length = vs.length := by
  induction vs with
  | nil => rfl
  | cons v vs ih => obtain ⟨i, k⟩ := v; simp [liveV, ih]
theorem FO.putSame {B : Env} (F : FO g B a) {i : Nat} {y : AV} (hy : y.is g (a.tmps.getD i undef)) : FO g (putE B i y) a := by
  refine ⟨F.len, fun j => ?_, F.df⟩
  rw [getE_put]
  by_cases hij : i = j ∧ i < B.n
  · rw [if_pos hij, ← hij.1]; exact hy
  · rw [if_neg hij]; exact F.at_ j
theorem FO.backV : ∀ (vs : List (Nat × Kd)) (ys : List AV) {B : Env}, FO g B a → (∀ j v, vs[j]? = some v → j < ys.length → (getN ys j).is g (a.tmps.getD v.1 undef)) → FO g (Go.Eng.backV B vs ys) a
  | [], ys, B, F, _ => by simpa [Go.Eng.backV] using F
  | (i, k) :: vs, [], B, F, _ => by simpa [Go.Eng.backV] using F
  | (i, k) :: vs, y :: ys, B, F, hh => by
    simp only [Go.Eng.backV]
    refine FO.backV vs ys (F.putSame (hh 0 (i, k) rfl (by simp))) (fun j v hv hj => ?_)
    exact hh (j + 1) v (by simpa using hv) (by simpa using hj)
theorem liveV_step {A' : Env} (F : FO g A' a) : ∀ vs : List (Nat × Kd), inStep g (liveV A' vs) (vs.map fun v => a.tmps.getD v.1 undef)
  | [] => ⟨rfl, fun i hi => by simp [liveV] at hi⟩
  | (i, k) :: vs => by
    obtain ⟨h1, h2⟩ := liveV_step F vs
    refine ⟨by simp [liveV_length], fun j hj => ?_⟩
    cases j with
    | zero => exact F.at_ i
    | succ j => exact h2 j (by simpa [liveV] using hj)
theorem inStep.append {xs ys : List AV} {us ws : List Value} (h : inStep g xs us) (k : inStep g ys ws) : inStep g (xs ++ ys) (us ++ ws) := by
  refine ⟨by simp [h.1, k.1], fun i hi => ?_⟩
  rw [getN_eq, List.getD_eq_getElem?_getD]
  by_cases hl : i < xs.length
  · rw [List.getElem?_append_left hl, List.getElem?_append_left (by rw [h.1]; exact hl)]
    have := h.2 i hl
    rwa [getN_eq, List.getD_eq_getElem?_getD] at this
  · rw [List.getElem?_append_right (by omega), List.getElem?_append_right (by rw [h.1]; omega), h.1]
    have := k.2 (i - xs.length) (by simp at hi; omega)
    rwa [getN_eq, List.getD_eq_getElem?_getD] at this
theorem inStep.take {xs : List AV} {us : List Value} (h : inStep g xs us) (n : Nat) : inStep g (xs.take n) (us.take n) := by
  refine ⟨by simp [h.1], fun i hi => ?_⟩
  have h2 : i < n ∧ i < xs.length := by simp at hi; omega
  have := h.2 i h2.2
  rw [getN_eq, List.getD_eq_getElem?_getD] at this ⊢
  rw [List.getElem?_take, List.getElem?_take]
  simpa [h2.1] using this
theorem inStep.drop {xs : List AV} {us : List Value} (h : inStep g xs us) (n : Nat) : inStep g (xs.drop n) (us.drop n) := by
  refine ⟨by simp [h.1], fun i hi => ?_⟩
  have h2 : n + i < xs.length := by simp at hi; omega
  have := h.2 (n + i) h2
  rw [getN_eq, List.getD_eq_getElem?_getD] at this ⊢
  rw [List.getElem?_drop, List.getElem?_drop]
  exact this
/-- The boxes that are live: each is there, and its cells. -/
theorem liveL_step {L' : List LE} (H : HO fr g L' h w) : ∀ (ls : List (Nat × List Kd)), okL L' ls = true → ∃ us, inStep g (liveL L' ls) us ∧
    (∀ zs, inStep g zs us → (∀ z ∈ zs, z.plain = true) → ∀ (M : List LE), (∀ e ∈ M, ¬ e.l ∈ ls.map (·.1) → ∃ cs, LEok fr g h w e cs) → M.Pairwise (fun e e' => e.l ≠ e'.l ∧ g e.l ≠ g e'.l) →
      (∀ e ∈ M, ∀ e' ∈ L', e'.l = e.l → e'.t = e.t) → distinct (ls.map (·.1)) = true → (∀ e ∈ backL M ls zs, ∃ cs, LEok fr g h w e cs) ∧ (backL M ls zs).Pairwise (fun e e' => e.l ≠ e'.l ∧ g e.l ≠ g e'.l))
  | [], _ => ⟨[], ⟨rfl, fun i hi => by simp [liveL] at hi⟩, fun zs _ _ M hM hu _ _ => ⟨fun e he => hM e (by simpa [backL] using he) (by simp), by simpa [backL] using hu⟩⟩
  | (l, ks) :: ls, hok => by
    simp only [okL, Bool.and_eq_true] at hok
    obtain ⟨hl, hok⟩ := hok
    cases hf : findL L' l with
    | none => rw [hf] at hl; cases hl
    | some e =>
      rw [hf] at hl
      simp only [Bool.and_eq_true, beq_iff_eq] at hl
      obtain ⟨hm, hcl⟩ := hl
      obtain ⟨hmem, rfl⟩ := findL_mem hf
      obtain ⟨cs, q⟩ := H.ll e hmem
      obtain ⟨us, hus, hback⟩ := liveL_step H ls hok
      have hcs : inStep g e.cs cs.toList := by
        refine ⟨by simp [q.sz], fun i hi => ?_⟩
        have := q.is_ i hi
        simpa [List.getD_eq_getElem?_getD] using this
      refine ⟨cs.toList ++ us, ?_, ?_⟩
      · simp only [liveL, hf]
        exact inStep.append hcs hus
      · intro zs hzs hzp M hM hu ht hd
        simp only [List.map_cons, distinct, Bool.and_eq_true, Bool.not_eq_true'] at hd
        obtain ⟨hdl, hd⟩ := hd
        have hnl : ¬ e.l ∈ ls.map (·.1) := fun hin => by rw [memN_iff.2 hin] at hdl; cases hdl
        simp only [backL]
        have hz1 : inStep g (zs.take ks.length) cs.toList := by
          have := inStep.take hzs ks.length
          rwa [List.take_left' (by simp [q.sz, hcl])] at this
        have hz2 : inStep g (zs.drop ks.length) us := by
          have := inStep.drop hzs ks.length
          rwa [List.drop_left' (by simp [q.sz, hcl])] at this
        refine hback _ hz2 (fun z hz => hzp z (List.mem_of_mem_drop hz)) _ (fun x hx hxn => ?_) (updL_uq hu) (fun x hx e' he' hel => ?_) hd
        · rcases mem_updL hu hx with ⟨h1, h2⟩ | ⟨e0, h1, h2, rfl⟩
          · exact hM x h1 (by simp only [List.map_cons, List.mem_cons, not_or]; exact ⟨h2, hxn⟩)
          · have het : e.t = e0.t := ht e0 h1 e hmem h2.symm
            refine ⟨cs, ⟨by rw [h2, ← het]; exact q.at_, by have := hz1.1; simp at this ⊢; omega, fun i hi => ?_, fun z hz => hzp z (List.mem_of_mem_take hz), by rw [h2]; exact q.nh, by rw [h2]; exact q.nf⟩⟩
            have := hz1.2 i hi
            simpa [List.getD_eq_getElem?_getD] using this
        · rcases mem_updL hu hx with ⟨h1, h2⟩ | ⟨e0, h1, h2, rfl⟩
          · exact ht x h1 e' he' hel
          · exact ht e0 h1 e' he' hel
theorem freezeL_mem {ls : List (Nat × List Kd)} {L : List LE} {e : LE} (he : e ∈ L) (hn : e.m = false ∨ ¬ e.l ∈ ls.map (·.1)) : (⟨e.l, false, e.t, e.cs⟩ : LE) ∈ freezeL ls L := by
  induction L with
  | nil => cases he
  | cons x L ih =>
    simp only [freezeL]
    rcases List.mem_cons.1 he with rfl | he
    · have : (e.m && memN e.l (ls.map (·.1))) = false := by
        rcases hn with h1 | h1
        · rw [h1]; rfl
        · cases hm : memN e.l (ls.map (·.1)) with
          | true => exact absurd (memN_iff.1 hm) h1
          | false => simp
      rw [this]
      exact List.mem_cons_self
    · exact List.mem_cons_of_mem _ (ih he)
theorem freezeL_of {ls : List (Nat × List Kd)} {L : List LE} {x : LE} (hx : x ∈ freezeL ls L) : ∃ e ∈ L, e.l = x.l ∧ e.t = x.t ∧ e.cs = x.cs ∧ (x.m = true → e.m = true) := by
  induction L with
  | nil => simp [freezeL] at hx
  | cons y L ih =>
    simp only [freezeL] at hx
    rcases List.mem_cons.1 hx with rfl | hx
    · exact ⟨y, List.mem_cons_self, rfl, rfl, rfl, fun h => by simp at h; exact h.1⟩
    · obtain ⟨e, h1, h2⟩ := ih hx
      exact ⟨e, List.mem_cons_of_mem _ h1, h2⟩
theorem freezeL_ls (ls : List (Nat × List Kd)) (L : List LE) : (freezeL ls L).map (·.l) = L.map (·.l) := by
  induction L with
  | nil => rfl
  | cons y L ih => simp [freezeL, ih]
theorem pw_of_ls {g : Nat → Nat} {M L : List LE} (hl : M.map (·.l) = L.map (·.l)) (hu : L.Pairwise (fun e e' => e.l ≠ e'.l ∧ g e.l ≠ g e'.l)) : M.Pairwise (fun e e' => e.l ≠ e'.l ∧ g e.l ≠ g e'.l) := by
  have h1 : (L.map (·.l)).Pairwise (fun a b => a ≠ b ∧ g a ≠ g b) := List.pairwise_map.2 hu
  rw [← hl] at h1
  exact List.pairwise_map.1 h1
theorem LEok.same {e e' : LE} {cs : Array Value} (q : LEok fr g h w e cs) (hl : e.l = e'.l) (ht : e.t = e'.t) (hc : e.cs = e'.cs) : LEok fr g h w e' cs :=
  ⟨by rw [← hl, ← ht]; exact q.at_, by rw [← hc]; exact q.sz, by rw [← hc]; exact q.is_, by rw [← hc]; exact q.pl, by rw [← hl]; exact q.nh, by rw [← hl]; exact q.nf⟩
theorem HO.freeze (ls : List (Nat × List Kd)) (H : HO fr g L h w) : HO fr g (freezeL ls L) h w := by
  refine ⟨H.hh, H.ff, H.dj, fun x hx => ?_, pw_of_ls (freezeL_ls ls L) H.uq⟩
  obtain ⟨e, he, h1, h2, h3, _⟩ := freezeL_of hx
  obtain ⟨cs, q⟩ := H.ll e he
  exact ⟨cs, q.same h1 h2 h3⟩
theorem backL_ls : ∀ (ls : List (Nat × List Kd)) (zs : List AV) (M : List LE), (backL M ls zs).map (·.l) = M.map (·.l)
  | [], _, _ => rfl
  | (l, ks) :: ls, zs, M => by simp only [backL]; rw [backL_ls ls, updL_map]
theorem backL_keep : ∀ (ls : List (Nat × List Kd)) (zs : List AV) (M : List LE) (e : LE), e ∈ M → ¬ e.l ∈ ls.map (·.1) → e ∈ backL M ls zs
  | [], _, _, e, he, _ => he
  | (l, ks) :: ls, zs, M, e, he, hn => by
    simp only [List.map_cons, List.mem_cons, not_or] at hn
    exact backL_keep ls _ _ e (updL_other he hn.1) hn.2
theorem okL_named : ∀ {ls : List (Nat × List Kd)} {L : List LE}, okL L ls = true → ∀ l ∈ ls.map (·.1), ∃ e, findL L l = some e ∧ e.m = true
  | [], _, _, l, hl => by cases hl
  | (l0, ks) :: ls, L, hok, l, hl => by
    simp only [okL, Bool.and_eq_true] at hok
    rcases List.mem_cons.1 hl with hl0 | hl
    · have hl0 : l = l0 := hl0
      subst hl0
      cases hf : findL L l with
      | none => rw [hf] at hok; cases hok.1
      | some e => rw [hf] at hok; simp only [Bool.and_eq_true] at hok; exact ⟨e, rfl, hok.1.1⟩
    · exact okL_named hok.2 l hl
theorem sameT_spec : ∀ {ls : List (Nat × List Kd)} {L L' : List LE}, sameT L L' ls = true → ∀ l ∈ ls.map (·.1), ∀ e e', findL L l = some e → findL L' l = some e' → e.t = e'.t
  | [], _, _, _, l, hl => by cases hl
  | (l0, ks) :: ls, L, L', hs, l, hl => by
    simp only [sameT, Bool.and_eq_true] at hs
    intro e e' he he'
    rcases List.mem_cons.1 hl with rfl | hl
    · rw [he, he'] at hs; simpa using hs.1
    · exact sameT_spec hs.2 l hl e e' he he'
theorem sameT_refl : ∀ {ls : List (Nat × List Kd)} {L : List LE}, okL L ls = true → sameT L L ls = true
  | [], _, _ => rfl
  | (l0, ks) :: ls, L, hok => by
    simp only [okL, Bool.and_eq_true] at hok
    simp only [sameT, Bool.and_eq_true]
    refine ⟨?_, sameT_refl hok.2⟩
    cases hf : findL L l0 with
    | none => rw [hf] at hok; cases hok.1
    | some e => simp
theorem findL_of_mem {g : Nat → Nat} {L : List LE} (hu : L.Pairwise (fun e e' => e.l ≠ e'.l ∧ g e.l ≠ g e'.l)) {e : LE} (he : e ∈ L) : findL L e.l = some e := by
  cases hf : findL L e.l with
  | none => exact absurd rfl (findL_none hf e he)
  | some x =>
    obtain ⟨h1, h2⟩ := findL_mem hf
    rw [uq_eq hu x h1 e he h2]
/-- WHERE WAYS MEET: the frame and the boxes are taken up again. -/
theorem rejoin {W : List Nat} {vs : List (Nat × Kd)} {ls : List (Nat × List Kd)} {g' : Nat → Nat} {A' : Env} {L' M : List LE} {h' : Hp} {a' : Act} {w' : World} {ys : List AV}
    (F : FO g A a) (H : HO fr g L h w) (F' : FO g' A' a') (H' : HO fr g' L' h' w') (T : Tr W g (freezeL ls L) a w g' L' a' w')
    (hok : okL L ls = true) (hok' : okL L' ls = true) (hst : sameT L L' ls = true) (hd : distinct (ls.map (·.1)) = true)
    (hM : M = L ∨ M = freezeL ls L) (hs : Says (liveV A' vs ++ liveL L' ls) ys) :
    FO g' (Go.Eng.backV (Go.Eng.forgetE W A) vs ys) a' ∧ HO fr g' (backL M ls (ys.drop vs.length)) h' w' ∧ Tr W g M a w g' (backL M ls (ys.drop vs.length)) a' w' := by
  obtain ⟨us, hus, hback⟩ := liveL_step H' ls hok'
  have hall := hs.2.2 g' _ (inStep.append (liveV_step F' vs) hus)
  have hlv : (vs.map fun v => a'.tmps.getD v.1 undef).length = vs.length := by simp
  have hMe : ∀ e ∈ M, ∃ e0 ∈ L, e0.l = e.l ∧ e0.t = e.t ∧ e0.cs = e.cs ∧ (e.m = true → e0.m = true) := by
    rcases hM with rfl | rfl
    · exact fun e he => ⟨e, he, rfl, rfl, rfl, fun h => h⟩
    · exact fun e he => freezeL_of he
  have hMl : M.map (·.l) = L.map (·.l) := by
    rcases hM with rfl | rfl
    · rfl
    · exact freezeL_ls ls L
  have named_m : ∀ e0 ∈ L, e0.l ∈ ls.map (·.1) → e0.m = true := by
    intro e0 he0 hn
    obtain ⟨x, hf, hm⟩ := okL_named hok _ hn
    have := findL_of_mem H.uq he0
    rw [hf] at this
    cases this
    exact hm
  have kept : ∀ e0 ∈ L, ¬ e0.l ∈ ls.map (·.1) → (⟨e0.l, false, e0.t, e0.cs⟩ : LE) ∈ L' := fun e0 he0 hn => T.kp _ (freezeL_mem he0 (.inr hn)) rfl
  have inL' : ∀ e0 ∈ L, ∃ e' ∈ L', e'.l = e0.l := by
    intro e0 he0
    by_cases hn : e0.l ∈ ls.map (·.1)
    · obtain ⟨x, hf, _⟩ := okL_named hok' _ hn
      exact ⟨x, (findL_mem hf).1, (findL_mem hf).2⟩
    · exact ⟨_, kept e0 he0 hn, rfl⟩
  have huM : M.Pairwise (fun e e' => e.l ≠ e'.l ∧ g' e.l ≠ g' e'.l) := by
    refine pw_of_ls hMl ?_
    refine H.uq.imp_of_mem ?_
    intro x y hx hy hxy
    refine ⟨hxy.1, ?_⟩
    obtain ⟨x', hx', hxl⟩ := inL' x hx
    obtain ⟨y', hy', hyl⟩ := inL' y hy
    have := uq_ne H'.uq x' hx' y' hy' (by rw [hxl, hyl]; exact hxy.1)
    rwa [hxl, hyl] at this
  obtain ⟨hll, huq⟩ := hback (ys.drop vs.length) (by have := inStep.drop hall vs.length; rwa [List.drop_left' (by simp [liveV_length])] at this) (fun z hz => hs.2.1 z (List.mem_of_mem_drop hz)) M
    (fun e he hn => by
      obtain ⟨e0, he0, h1, h2, h3, _⟩ := hMe e he
      obtain ⟨cs, q⟩ := H'.ll _ (kept e0 he0 (by rw [h1]; exact hn))
      exact ⟨cs, q.same h1 h2 h3⟩) huM
    (fun e he e' he' hel => by
      obtain ⟨e0, he0, h1, h2, h3, _⟩ := hMe e he
      by_cases hn : e.l ∈ ls.map (·.1)
      · have f1 := findL_of_mem H.uq he0
        have f2 := findL_of_mem H'.uq he'
        rw [h1] at f1
        rw [hel] at f2
        rw [← h2, sameT_spec hst _ hn _ _ f1 f2]
      · have hk := kept e0 he0 (by rw [h1]; exact hn)
        have := uq_eq H'.uq e' he' _ hk (by rw [hel, h1])
        rw [this, h2]) hd
  refine ⟨FO.backV vs ys (FO.forget F F' T.gg T.un T.sz) (fun j v hv hj => ?_), ⟨H'.hh, H'.ff, H'.dj, hll, huq⟩, ⟨T.wr, fun e he hm => ?_, T.gg, T.un, T.sz⟩⟩
  · have := hall.2 j hj
    rw [List.getD_eq_getElem?_getD, List.getElem?_append_left (by rw [hlv]; exact (List.getElem?_eq_some_iff.1 hv).1)] at this
    simpa [hv] using this
  · refine backL_keep ls _ M e he (fun hn => ?_)
    rcases hM with rfl | rfl
    · rw [named_m e he hn] at hm; cases hm
    · have : ∀ (L : List LE), (∀ e0 ∈ L, e0.l ∈ ls.map (·.1) → e0.m = true) → ∀ e ∈ freezeL ls L, e.l ∈ ls.map (·.1) → e.m = true := by
        intro L hL
        induction L with
        | nil => intro e he; simp [freezeL] at he
        | cons y L ih =>
          intro e he hn
          simp only [freezeL] at he
          rcases List.mem_cons.1 he with rfl | he
          · simp only at hn ⊢
            rw [hL y List.mem_cons_self hn, memN_iff.2 hn]; rfl
          · exact ih (fun e0 he0 => hL e0 (List.mem_cons_of_mem _ he0)) e he hn
      rw [this L named_m e he hn] at hm; cases hm
theorem thaw_ls (L0 L : List LE) : (thaw L0 L).map (·.l) = L.map (·.l) := by
  induction L with
  | nil => rfl
  | cons y L ih =>
    simp only [thaw, List.map_cons, ih]
    congr 1
    cases findL L0 y.l <;> rfl
theorem thaw_of {L0 L : List LE} {x : LE} (hx : x ∈ thaw L0 L) : ∃ e ∈ L, e.l = x.l ∧ e.t = x.t ∧ e.cs = x.cs := by
  induction L with
  | nil => simp [thaw] at hx
  | cons y L ih =>
    simp only [thaw] at hx
    rcases List.mem_cons.1 hx with rfl | hx
    · refine ⟨y, List.mem_cons_self, ?_⟩
      cases findL L0 y.l <;> exact ⟨rfl, rfl, rfl⟩
    · obtain ⟨e, h1, h2⟩ := ih hx
      exact ⟨e, List.mem_cons_of_mem _ h1, h2⟩
theorem thaw_mem {L0 L : List LE} {e0 e : LE} (he : e ∈ L) (hf : findL L0 e.l = some e0) : (⟨e.l, e0.m, e.t, e.cs⟩ : LE) ∈ thaw L0 L := by
  induction L with
  | nil => cases he
  | cons y L ih =>
    simp only [thaw]
    rcases List.mem_cons.1 he with rfl | he
    · rw [hf]; exact List.mem_cons_self
    · exact List.mem_cons_of_mem _ (ih he)
theorem HO.thaw (L0 : List LE) (H : HO fr g L h w) : HO fr g (Go.Eng.thaw L0 L) h w := by
  refine ⟨H.hh, H.ff, H.dj, fun x hx => ?_, pw_of_ls (thaw_ls L0 L) H.uq⟩
  obtain ⟨e, he, h1, h2, h3⟩ := thaw_of hx
  obtain ⟨cs, q⟩ := H.ll e he
  exact ⟨cs, q.same h1 h2 h3⟩
theorem Kp.thaw {ls : List (Nat × List Kd)} {L' : List LE} (H : HO fr g L h w) (hk : Kp (freezeL ls L) L') : Kp L (Go.Eng.thaw L L') := by
  intro e he hm
  have h1 : (⟨e.l, false, e.t, e.cs⟩ : LE) ∈ L' := hk _ (freezeL_mem he (.inl hm)) rfl
  have h2 := thaw_mem (L0 := L) (e0 := e) h1 (findL_of_mem H.uq he)
  exact h2
end
end Go.Eng
end
section
/-
  THE ENGINE, 19: a region whose order is drawn is what it denotes.
-/
set_option linter.unusedSimpArgs false
set_option linter.unusedVariables false
namespace Go.Eng
section
variable {P : Program} {lo : List Nat} {G : List (Nat × (List Value → PT))} {V : Value → List Value → PT} {fr : Hp} {ops : Array Oper}

/-! ### What is loaded from a block that stays -/
def OnlyB {α : Type} (b : Nat) : Sem α → Prop
  | .pure _ => True
  | .load _ ad k => ad.block = b ∧ ∀ v, OnlyB b (k v)
  | .program k => ∀ p, OnlyB b (k p)
  | .mark _ k => OnlyB b k
  | .halt _ => True
  | _ => False
theorem OnlyB.bind {α β : Type} {b : Nat} {s : Sem α} {f : α → Sem β} (hs : OnlyB b s) (hf : ∀ a, OnlyB b (f a)) : OnlyB b (s >>= f) := by
  show OnlyB b (s.bind f)
  induction s with
  | pure a => exact hf a
  | load m ad k ih => exact ⟨hs.1, fun v => ih v (hs.2 v)⟩
  | program k ih => exact fun p => ih p (hs p)
  | mark m k ih => exact ih hs
  | halt x => trivial
  | _ => exact hs.elim
theorem OnlyB.run {α : Type} {b : Nat} {s : Sem α} (hs : OnlyB b s) {w w' w1 : World} {v : α} {c : Array Value} {t : TypeId} {f : Nat × Nat} (h1 : w.heap[b]? = some (.cells c t f)) (h2 : w'.heap[b]? = some (.cells c t f)) (hr : s.run P w = .ok v w1) : s.run P w' = .ok v w' := by
  induction s with
  | pure a => simp only [Sem.run] at hr ⊢; cases hr; rfl
  | load m ad k ih =>
    obtain ⟨rfl, hk⟩ := hs
    have hc : w'.cell? ad = w.cell? ad := by simp only [World.cell?, h1, h2]
    simp only [Sem.run] at hr ⊢
    rw [hc]
    cases hcell : w.cell? ad with
    | some u => rw [hcell] at hr; exact ih u (hk u) hr
    | none =>
      rw [hcell] at hr
      simp only [World.farLoad, h1] at hr
      cases hr
  | program k ih => simp only [Sem.run] at hr ⊢; exact ih P (hs P) hr
  | mark m k ih => simp only [Sem.run] at hr ⊢; exact ih hs hr
  | halt x => simp only [Sem.run] at hr; cases hr
  | _ => exact hs.elim
theorem OnlyB.underlying (b : Nat) (t : TypeId) : OnlyB b (underlying t) := by
  unfold Go.underlying
  refine OnlyB.bind (fun p => trivial) fun p => ?_
  split <;> trivial
theorem OnlyB.sizeOf (b : Nat) (t : TypeId) : OnlyB b (sizeOf t) := by
  unfold Go.sizeOf Go.typeInfo
  refine OnlyB.bind (OnlyB.bind (fun p => trivial) fun p => ?_) fun _ => trivial
  split <;> trivial
theorem OnlyB.load (b o : Nat) : OnlyB b (load ⟨b, o, none⟩) := ⟨rfl, fun v => trivial⟩
theorem OnlyB.from (b o : Nat) : ∀ (n i : Nat) (acc : Array Value), OnlyB b (loadCellsFrom ⟨b, o, none⟩ i n acc)
  | 0, i, acc => trivial
  | n + 1, i, acc => by
    unfold loadCellsFrom
    refine OnlyB.bind ?_ fun v => OnlyB.from b o n (i + 1) _
    rw [addr_add]
    exact OnlyB.load b (o + i)
theorem OnlyB.loadAt (b o : Nat) (t : TypeId) : OnlyB b (Instr.loadAt t (.pointer (some ⟨b, o, none⟩))) := by
  show OnlyB b (loadVar t ⟨b, o, none⟩)
  unfold loadVar isAgg
  refine OnlyB.bind (OnlyB.bind (OnlyB.underlying b t) fun d => ?_) fun c => ?_
  · split <;> trivial
  · split
    · exact OnlyB.bind (OnlyB.sizeOf b t) fun n => OnlyB.bind (OnlyB.from b o n 0 #[]) fun _ => trivial
    · exact OnlyB.load b o

/-! ### Steps -/
theorem stepD_cases {ops : Array Oper} {g : Nat → Nat} {A : Env} {L : List LE} {h : Hp} {a : Act} {o : Oper} {K : KS} (F : FO g A a) (hk : stepD P lo G V ops.toList o A L h K) :
    (Region.wanted o (yielded ops a.tmps) = true ∧ opD P lo G V o.dst o.type o.op A L h fun x L' h' => K (putD (killA lo o.dst o.op A) o.dst x) L' h') ∨
    (Region.wanted o (yielded ops a.tmps) = false ∧ K (putD A o.dst (.v undef)) L h) := by
  unfold stepD at hk
  cases hg : o.guard with
  | none => rw [hg] at hk; exact .inl ⟨by simp [Region.wanted, hg], hk⟩
  | some gw =>
    obtain ⟨j, want⟩ := gw
    rw [hg] at hk
    dsimp only at hk
    cases hd : dstOf ops.toList j with
    | none => rw [hd] at hk; exact False.elim hk
    | some d =>
      rw [hd] at hk
      dsimp only at hk
      have hat := F.at_ d
      have hwanted : ∀ r : Option Bool, yielded ops a.tmps j = r → Region.wanted o (yielded ops a.tmps) = (r == some want) := by
        intro r hr; simp [Region.wanted, hg, hr]
      cases hA : getE A d with
      | v x =>
        rw [hA] at hk hat
        have hy := yielded_eq hd hat
        cases x with
        | bool b =>
          simp only [boolOf] at hy
          have hw := hwanted _ hy
          cases b <;> cases want <;> simp only at hk hw
          · exact .inl ⟨by rw [hw]; rfl, hk⟩
          · exact .inr ⟨by rw [hw]; rfl, hk⟩
          · exact .inr ⟨by rw [hw]; rfl, hk⟩
          · exact .inl ⟨by rw [hw]; rfl, hk⟩
        | tuple vs =>
          have hw := hwanted _ hy
          exact .inr ⟨by rw [hw]; rfl, hk⟩
        | _ => exact False.elim hk
      | _ => rw [hA] at hk; exact False.elim hk
/-- A load at a box's or a block's address leaves the world as it is. -/
theorem exec_load {g : Nat → Nat} {A : Env} {L : List LE} {h : Hp} {a : Act} {w : World} {o : Oper} {t : Nat} {ad : Operand} (ho : o.op = .load t ad) {K : KO} (F : FO g A a) (H : HO fr g L h w) (hk : opD P lo G V o.dst o.type o.op A L h K) :
    ∃ x v, (execOp a.eval o).run P w = .ok (.value v) w ∧ x.is g v ∧ K x L h := by
  rw [ho] at hk
  obtain ⟨x, v, hr, hx, hK⟩ := load_okQ H (K := K) hk (ev_is F ad)
  refine ⟨x, v, ?_, hx, hK⟩
  unfold execOp
  rw [ho]
  simp only [Sem.run_bind, hr, Result.andThen_ok, Sem.run_pure]
/-- A string of bytes that are read. -/
theorem conv_row {h : Hp} {w : World} (hh : ∀ b o, h b = some o → w.heap[b]? = some o) {src dst e : TypeId} (hus : P.underlying src = some (.slice e)) (hue : P.underlying e = some (.int .u8)) (hut : P.underlying dst = some .string) {a : Option Addr} {n c : Nat} {s : ByteArray} (hr : h.row a n (bytesV s)) :
    (convert src dst (.slice a n c)).run P w = .ok (.string s) w := by
  obtain ⟨hl, hrow⟩ := hr
  rw [bytesV_length] at hl
  subst hl
  have sn : strOfNums (s.data.toList.map fun b => (b.toNat : Int)) = s := by
    unfold strOfNums
    apply ByteArray.ext
    apply Array.ext'
    simp only [List.map_map]
    have : ((fun n : Int => UInt8.ofNat n.toNat) ∘ fun b : UInt8 => (b.toNat : Int)) = id := by funext b; simp
    rw [this]
    simp
  rcases hrow with h0 | ⟨b, o, rfl, hat⟩
  · have hse : s = ByteArray.empty := by
      apply ByteArray.ext
      apply Array.ext'
      have : s.data.toList.length = 0 := by rw [Array.length_toList]; exact h0
      rw [List.eq_nil_of_length_eq_zero this]
      rfl
    cases a with
    | none => rw [hse]; exact run_convert_bytes_nil w src e hus hue _ _ dst hut
    | some ad =>
      have hr := run_convert_bytes_string w src dst e (some ad) s.size c hus hue hut
      rw [hr, h0, hse]
      simp [Conv.bytesToString, loadCells, loadCellsFrom]
  · have := run_convert_bytes_arg (P := P) w src e hus hue b o s.size c (s.data.toList.map fun b => (b.toNat : Int)) (by rw [List.length_map, Array.length_toList]; rfl)
      (fun i hi => by
        have h1 := hat i hi
        have hil : i < s.data.toList.length := by rw [Array.length_toList]; exact hi
        have h2 : (bytesV s)[i]? = some (.int .u8 ((s.data.toList.map fun b => (b.toNat : Int)).getD i 0)) := by
          simp [bytesV, List.getD_eq_getElem?_getD, List.getElem?_eq_getElem hil]
        rw [h2] at h1
        exact cell_of hh h1) dst hut
    rw [sn] at this
    exact this
theorem isConv_spec {o : Op} (hl : isConv P o = true) : ∃ s t y e, o = .convert s t y ∧ P.underlying s = some (.slice e) ∧ P.underlying e = some (.int .u8) ∧ P.underlying t = some .string := by
  cases o with
  | convert s t y =>
    have h1 : bytesT P s = true ∧ strT P t = true := by simpa [isConv] using hl
    obtain ⟨h1, h2⟩ := h1
    unfold bytesT at h1
    unfold strT at h2
    cases hs : under P s <;> rw [hs] at h1 <;> first | exact absurd h1 Bool.false_ne_true | skip
    rename_i e
    dsimp only at h1
    cases he : under P e <;> rw [he] at h1 <;> first | exact absurd h1 Bool.false_ne_true | skip
    rename_i k
    cases k <;> first | exact absurd h1 Bool.false_ne_true | skip
    cases ht : under P t <;> rw [ht] at h2 <;> first | exact absurd h2 Bool.false_ne_true | skip
    exact ⟨s, t, y, e, rfl, under_some hs (by simp), under_some he (by simp), under_some ht (by simp)⟩
  | _ => exact absurd hl Bool.false_ne_true
theorem exec_conv {g : Nat → Nat} {A : Env} {L : List LE} {h : Hp} {a : Act} {w : World} {o : Oper} (hc : isConv P o.op = true) {K : KO} (F : FO g A a) (H : HO fr g L h w) (hk : opD P lo G V o.dst o.type o.op A L h K) :
    ∃ x v, (execOp a.eval o).run P w = .ok (.value v) w ∧ x.is g v ∧ K x L h := by
  obtain ⟨s, t, y, e, ho, hus, hue, hut⟩ := isConv_spec hc
  rw [ho] at hk
  replace hk : dConv P s t (ev A y) L h K := hk
  have hy := ev_is F y
  have u1 : under P t = .string := by unfold under; rw [hut]; rfl
  have u2 : under P s = .slice e := by unfold under; rw [hus]; rfl
  have u3 : under P e = .int .u8 := by unfold under; rw [hue]; rfl
  unfold dConv at hk
  rw [u1, u2] at hk
  dsimp only at hk
  split at hk
  · exact hk.elim
  · rename_i A0 n c hA
    rw [u3] at hk
    dsimp only at hk
    obtain ⟨bs, hr, hk⟩ := hk
    rw [hA] at hy
    have hy : a.eval y = .slice A0 n c := hy
    refine ⟨.v (.string bs), .string bs, ?_, rfl, hk⟩
    unfold execOp
    rw [ho]
    simp only [Sem.run_bind, hy, conv_row H.hh hus hue hut hr, Result.andThen_ok, Sem.run_pure]
  · exact hk.elim
theorem makes_quiet {o : Op} (h : quietB P o = true) : makes o = false := by cases o <;> first | rfl | (exact absurd h Bool.false_ne_true)
/-- What only reads, once. -/
theorem quiet_step (hG : GOk P G) (hV : VOk P V) {g : Nat → Nat} {A : Env} {L : List LE} {h : Hp} {a : Act} {w : World} {o : Oper} {K : KS} (F : FO g A a) (H : HO fr g L h w) (hq : quietO P o = true) (hk : stepD P lo G V ops.toList o A L h K) :
    ∃ v, Yat P ops o v a w ∧ (isRead P o.op = false → ∀ w', Yat P ops o v a w') ∧ Rel (dW o.dst) fr g L a w K (a.put o.dst v) w := by
  unfold quietO at hq
  rw [Bool.and_eq_true] at hq
  rcases stepD_cases F hk with ⟨hw, ho⟩ | ⟨hw, hk⟩
  · by_cases hl : isLoad o.op = true
    · have : ∃ t ad, o.op = .load t ad := by
        cases hop : o.op <;> rw [hop] at hl <;> first | exact ⟨_, _, rfl⟩ | exact absurd hl Bool.false_ne_true
      obtain ⟨t, ad, hop⟩ := this
      obtain ⟨x, v, hr, hx, hK⟩ := exec_load hop F H ho
      rw [killA_no (makes_quiet hq.2)] at hK
      exact ⟨v, .inl ⟨hw, hr⟩, fun e => (by unfold isRead at e; rw [hl] at e; cases e), put_rel F hx H (Wr.refl w) (Kp.refl L) hK⟩
    · have hl1 : isLoad o.op = false := by simpa using hl
      by_cases hcv : isConv P o.op = true
      · obtain ⟨x, v, hr, hx, hK⟩ := exec_conv hcv F H ho
        rw [killA_no (makes_quiet hq.2)] at hK
        exact ⟨v, .inl ⟨hw, hr⟩, fun e => (by unfold isRead at e; rw [hcv, Bool.or_true] at e; cases e), put_rel F hx H (Wr.refl w) (Kp.refl L) hK⟩
      have hl : isRead P o.op = false := by unfold isRead; rw [hl1]; simpa using hcv
      have hwp := op_ok (Q := fun _ _ _ => False) hG hV H F ho
      rcases quiet_flat F hq.2 hl ho with ⟨v, hv⟩ | hd
      · refine ⟨v, .inl ⟨hw, hv w⟩, fun _ w' => .inl ⟨hw, hv w'⟩, ?_⟩
        unfold Oper.wp at hwp
        rw [hv w] at hwp
        exact hwp
      · exfalso
        unfold Oper.wp at hwp
        cases hr : (execOp a.eval o).run P w with
        | ok v w' => exact hd _ _ _ hr
        | halt x w' => rw [hr] at hwp; cases x <;> exact hwp
  · exact ⟨undef, .inr ⟨hw, rfl⟩, fun _ w' => .inr ⟨hw, rfl⟩, put_rel (x := .v undef) F rfl H (Wr.refl w) (Kp.refl L) hk⟩

/-- Read, and still so. -/
def Live (P : Program) (ops : Array Oper) (x : Nat) (a : Act) (w : World) : Prop :=
  ∃ o v, ops[x]? = some o ∧ a.put o.dst v = a ∧ Yat P ops o v a w ∧ (isRead P o.op = false → ∀ w', Yat P ops o v a w')
theorem Live.chk {x : Nat} {a : Act} {w : World} (h : Live P ops x a w) : Chk P ops x a w := let ⟨o, v, h1, h2, h3, _⟩ := h; ⟨o, v, h1, h3, h2⟩
theorem Live.put {x : Nat} (hsel : ∀ (j : Nat) (o : Oper) cs b, ops[j]? = some o → o.op ≠ .select cs b) {i : Nat} {oi : Oper} (hi : ops[i]? = some oi) (hix : Ind ops i x) {a : Act} {w : World} {u : Value} (h : Live P ops x a w) : Live P ops x (a.put oi.dst u) w := by
  obtain ⟨o, v, h1, h2, h3, h4⟩ := h
  have hl : ∀ d, oi.dst = some d → d ∉ o.looksAt ops := fun d hd => (hix oi o hi h1 d hd).1
  refine ⟨o, v, h1, ?_, (Yat.put (hsel x o · · h1) hl).2 h3, fun e w' => (Yat.put (hsel x o · · h1) hl).2 (h4 e w')⟩
  rw [Act.put_comm a u v (fun d hd => (hix oi o hi h1 d hd).2), h2]
theorem put_of {a a' : Act} {d : Option Tmp} (h : ∀ i, memN i (dW d) = false → a'.tmps.getD i undef = a.tmps.getD i undef) (hs : a'.tmps.size = a.tmps.size) (hd : a'.defers = a.defers) : ∃ u, a' = a.put d u := by
  obtain ⟨t', d'⟩ := a'
  obtain ⟨t, d0⟩ := a
  simp only at h hs hd
  subst hd
  have ext : ∀ t2 : Array Value, t'.size = t2.size → (∀ i, i < t'.size → t'.getD i undef = t2.getD i undef) → t' = t2 := by
    intro t2 hsz hh
    apply Array.ext hsz
    intro i h1 h2
    have := hh i h1
    simpa [Array.getD, h1, h2] using this
  cases d with
  | none =>
    refine ⟨undef, ?_⟩
    rw [show t' = t from ext t hs fun i _ => h i rfl]
    rfl
  | some d =>
    refine ⟨t'.getD d undef, ?_⟩
    show _ = (⟨t.setIfInBounds d (t'.getD d undef), _⟩ : Act)
    congr 1
    refine ext _ (by simp [hs]) fun i hi => ?_
    by_cases hdi : d = i
    · subst hdi
      have : d < t.size := hs ▸ hi
      simp [this]
    · rw [h i (by simp [dW, memN, Ne.symm hdi])]
      simp [Array.getElem?_setIfInBounds_ne hdi]
/-! ### What is looked at again -/
theorem rowsAt_spec {h : Hp} {b o : Nat} : ∀ {vs : List Value} {j : Nat} {p : Prop}, rowsAt h b o j vs p → (∀ i v, vs[i]? = some v → h.at b (o + j + i) = some v) ∧ p
  | [], j, p, hk => ⟨fun i v e => by simp at e, hk⟩
  | v :: vs, j, p, hk => by
    obtain ⟨h1, h2⟩ := hk
    obtain ⟨h3, h4⟩ := rowsAt_spec h2
    refine ⟨fun i u e => ?_, h4⟩
    cases i with
    | zero => simp at e; subst e; rw [addo_eq] at h1; exact h1
    | succ i => have := h3 i u (by simpa using e); rwa [show o + (j + 1) + i = o + j + (i + 1) by omega] at this
theorem stillAt_spec {h : Hp} {w : World} (hh : ∀ b o, h b = some o → w.heap[b]? = some o) {b o t : Nat} {x : AV} {p : Prop} (hi : hasInfo P t = true) (hu : hasUnder P t = true) (hk : stillAt P h b o t x p) :
    (∃ v, x = .v v ∧ (Instr.loadAt t (.pointer (some ⟨b, o, none⟩))).run P w = .ok v w) ∧ p := by
  unfold stillAt at hk
  cases ha : isAggB P t with
  | true =>
    rw [ha] at hk
    dsimp only at hk
    split at hk
    · rename_i vs
      obtain ⟨hl, hk⟩ := grd_spec hk
      obtain ⟨hat, hp⟩ := rowsAt_spec hk
      have hl : vs.length = P.cellsOf t := by simpa [stillAt.lenB'] using hl
      refine ⟨⟨_, rfl, ?_⟩, hp⟩
      have := run_loadVar' hi hu hl (fun i v hv => cell_of (w := w) hh (by simpa using hat i v hv)) (.inl ha)
      unfold Instr.loadAt
      simp only [Instr.sureAddr, Sem.run_bind, Sem.run_pure, Result.andThen_ok, this, mkv_agg ha]
    · exact hk.elim
  | false =>
    rw [ha] at hk
    dsimp only at hk
    split at hk
    · rename_i v
      refine ⟨⟨v, rfl, ?_⟩, hk.2⟩
      unfold Instr.loadAt loadVar
      simp only [Instr.sureAddr, Sem.run_bind, Sem.run_pure, Result.andThen_ok, run_isAgg hu, ha, Bool.false_eq_true, if_false]
      exact run_load1 (cell_of hh hk.1)
    · exact hk.elim
/-- What is known of a load that is looked at again. -/
def Again (P : Program) (L : List LE) (no : List Nat) (A : Env) (w : World) (x : Oper) : Prop :=
  (∃ t ad, x.op = .load t ad ∧ ((∃ b o d v, ev A ad = .p b o ∧ x.dst = some d ∧ getE A d = .v v ∧ (Instr.loadAt t (.pointer (some ⟨b, o, none⟩))).run P w = .ok v w) ∨ ∃ l off e, ev A ad = .loc l off ∧ findL L l = some e ∧ memN l no = false)) ∨
  ∃ s t y u d v, x.op = .convert s t y ∧ ev A y = .v u ∧ x.dst = some d ∧ getE A d = .v v ∧ (convert s t u).run P w = .ok v w
theorem reLoad_spec {L : List LE} {no : List Nat} {A : Env} {h : Hp} {w : World} (hh : ∀ b o, h b = some o → w.heap[b]? = some o) {x : Oper} (hl : isRead P x.op = true) {p : Prop} (hk : reLoad P L no A h x p) : Again P L no A w x ∧ p := by
  by_cases hcv : isConv P x.op = true
  · obtain ⟨s, t, y, e, hop, hus, hue, hut⟩ := isConv_spec hcv
    unfold reLoad at hk
    rw [hop] at hk
    dsimp only at hk
    split at hk
    · rename_i A0 n c hA
      split at hk
      · rename_i d hd
        split at hk
        · rename_i bs hg
          exact ⟨.inr ⟨s, t, y, _, d, _, hop, hA, hd, hg, conv_row hh hus hue hut hk.1⟩, hk.2⟩
        · exact hk.elim
      · exact hk.elim
    · exact hk.elim
  have hl : isLoad x.op = true := by unfold isRead at hl; simpa [hcv] using hl
  have : ∃ t ad, x.op = .load t ad := by
    cases hop : x.op <;> rw [hop] at hl <;> first | exact ⟨_, _, rfl⟩ | exact absurd hl Bool.false_ne_true
  obtain ⟨t, ad, hop⟩ := this
  unfold reLoad at hk
  rw [hop] at hk
  dsimp only at hk
  split at hk
  · rename_i b o hA
    split at hk
    · rename_i d hd
      have hq := grd_spec hk
      clear hk
      obtain ⟨hb, hk⟩ := hq
      rw [Bool.and_eq_true] at hb
      obtain ⟨⟨v, hv, hr⟩, hp⟩ := stillAt_spec hh hb.1 hb.2 hk
      exact ⟨.inl ⟨t, ad, hop, .inl ⟨b, o, d, v, hA, hd, hv, hr⟩⟩, hp⟩
    · exact hk.elim
  · rename_i l off hA
    split at hk
    · rename_i e hf
      split at hk
      · exact hk.elim
      · rename_i hm
        exact ⟨.inl ⟨t, ad, hop, .inr ⟨l, off, e, hA, hf, hm⟩⟩, hk⟩
    · exact hk.elim
  · exact hk.elim
theorem reOne_spec {L : List LE} {no : List Nat} {g : Nat → Nat} {A : Env} {h : Hp} {a : Act} {w : World} (F : FO g A a) (hh : ∀ b o, h b = some o → w.heap[b]? = some o) {x : Oper} {p : Prop} (hk : reOne P ops.toList L no A h x p) :
    (isRead P x.op = true → Region.wanted x (yielded ops a.tmps) = true → Again P L no A w x) ∧ p := by
  unfold reOne at hk
  split at hk
  · rename_i hl
    exact ⟨fun e => (by rw [hl] at e; cases e), hk⟩
  · rename_i hl
    split at hk
    · obtain ⟨h1, h2⟩ := reLoad_spec hh hl hk
      exact ⟨fun _ _ => h1, h2⟩
    · rename_i j want hg
      split at hk
      · rename_i d hd
        have hat := F.at_ d
        have hwanted : ∀ r : Option Bool, yielded ops a.tmps j = r → Region.wanted x (yielded ops a.tmps) = (r == some want) := by
          intro r hr; simp [Region.wanted, hg, hr]
        split at hk
        · rename_i b hA
          rw [hA] at hat
          have hw := hwanted _ (yielded_eq hd hat)
          simp only [boolOf] at hw
          cases b <;> cases want <;> simp only at hk hw
          · obtain ⟨h1, h2⟩ := reLoad_spec hh hl hk; exact ⟨fun _ _ => h1, h2⟩
          · exact ⟨fun _ e => (by rw [hw] at e; exact absurd e (by decide)), hk⟩
          · exact ⟨fun _ e => (by rw [hw] at e; exact absurd e (by decide)), hk⟩
          · obtain ⟨h1, h2⟩ := reLoad_spec hh hl hk; exact ⟨fun _ _ => h1, h2⟩
        · rename_i vs hA
          rw [hA] at hat
          have hw := hwanted _ (yielded_eq hd hat)
          exact ⟨fun _ e => (by rw [hw] at e; simp [boolOf] at e), hk⟩
        · exact hk.elim
      · exact hk.elim
theorem reAll_spec {L : List LE} {no : List Nat} {g : Nat → Nat} {A : Env} {h : Hp} {a : Act} {w : World} (F : FO g A a) (hh : ∀ b o, h b = some o → w.heap[b]? = some o) : ∀ {l : List Nat} {p : Prop}, reAll P ops.toList L no A h l p →
    (∀ i ∈ l, ∃ x, ops[i]? = some x ∧ (isRead P x.op = true → Region.wanted x (yielded ops a.tmps) = true → Again P L no A w x)) ∧ p
  | [], p, hk => ⟨fun i hi => (by cases hi), hk⟩
  | i :: l, p, hk => by
    unfold reAll at hk
    rw [Array.getElem?_toList] at hk
    cases hx : ops[i]? with
    | none => rw [hx] at hk; exact hk.elim
    | some x =>
      rw [hx] at hk
      obtain ⟨h1, h2⟩ := reOne_spec F hh hk
      obtain ⟨h3, h4⟩ := reAll_spec F hh h2
      refine ⟨fun k hkm => ?_, h4⟩
      rcases List.mem_cons.1 hkm with rfl | hkm
      · exact ⟨x, hx, h1⟩
      · exact h3 k hkm
/-- Behind what acts: what has been read may be read still. -/
theorem Live.past {x i : Nat} {oi : Oper} (hsel : ∀ (j : Nat) (o : Oper) cs b, ops[j]? = some o → o.op ≠ .select cs b) (hi : ops[i]? = some oi) (hix : Ind ops i x) {g g' : Nat → Nat} {A A' : Env} {L L' : List LE} {h h' : Hp} {a a' : Act} {w w' : World} {keep : List Nat}
    (F : FO g A a) (H : HO fr g L h w) (F' : FO g' A' a') (H' : HO fr g' L' h' w') (T : Tr (dW oi.dst) g (freezeL (keepLs keep) L) a w g' L' a' w')
    (hl : Live P ops x a w) (hag : ∃ o, ops[x]? = some o ∧ (isRead P o.op = true → Region.wanted o (yielded ops a'.tmps) = true → Again P L (dsts oi.dst ++ keep) A' w' o)) : Live P ops x a' w' := by
  obtain ⟨u, rfl⟩ := put_of T.un T.sz (F'.df.trans F.df.symm)
  obtain ⟨o, v, h1, h2, h3, h4⟩ := Live.put hsel hi hix (u := u) hl
  obtain ⟨o', ho', hag⟩ := hag
  rw [h1] at ho'
  cases ho'
  cases hlo : isRead P o.op with
  | false => exact ⟨o, v, h1, h2, h4 hlo w', fun e w2 => h4 e w2⟩
  | true =>
    rcases h3 with ⟨hw, hr⟩ | ⟨hw, rfl⟩
    · rcases hag hlo hw with ⟨t, ad, hop, hc⟩ | ⟨s, t, y, u1, d, val, hop, hA, hd, hv, hload⟩
      rotate_left
      · have hev := ev_is F' y
        rw [hA] at hev
        have hev : (a.put oi.dst u).eval y = u1 := hev
        have hdv := F'.at_ d
        rw [hv] at hdv
        have hdv : (a.put oi.dst u).tmps.getD d undef = val := hdv
        have hrun : (execOp (a.put oi.dst u).eval o).run P w' = .ok (.value val) w' := by
          unfold execOp
          rw [hop]
          simp only [Sem.run_bind, hev, hload, Result.andThen_ok, Sem.run_pure]
        refine ⟨o, val, h1, ?_, .inl ⟨hw, hrun⟩, fun e => (by rw [hlo] at e; cases e)⟩
        rw [hd]
        show ({ (a.put oi.dst u) with tmps := (a.put oi.dst u).tmps.setIfInBounds d val } : Act) = _
        have : (a.put oi.dst u).tmps.setIfInBounds d val = (a.put oi.dst u).tmps := by
          apply Array.ext_getElem?
          intro k
          by_cases hdk : d = k
          · subst hdk
            by_cases hds : d < (a.put oi.dst u).tmps.size
            · rw [← hdv]; simp [hds]
            · simp [hds]
          · rw [Array.getElem?_setIfInBounds_ne hdk]
        rw [this]
      have hrun : ∀ w2 v2, (Instr.loadAt t ((a.put oi.dst u).eval ad)).run P w2 = .ok v2 w2 → (execOp (a.put oi.dst u).eval o).run P w2 = .ok (.value v2) w2 := by
        intro w2 v2 e
        unfold execOp
        rw [hop]
        simp only [Sem.run_bind, e, Result.andThen_ok, Sem.run_pure]
      have hback : ∃ w3, (Instr.loadAt t ((a.put oi.dst u).eval ad)).run P w = .ok v w3 := by
        unfold execOp at hr
        rw [hop] at hr
        simp only [Sem.run_bind] at hr
        cases he : (Instr.loadAt t ((a.put oi.dst u).eval ad)).run P w with
        | ok v3 w3 => rw [he] at hr; simp at hr; exact ⟨w3, by rw [hr.1]⟩
        | halt y w3 => rw [he] at hr; simp at hr
      have hev := ev_is F' ad
      rcases hc with ⟨b, q, d, val, hA, hd, hv, hload⟩ | ⟨l, off, e, hA, hf, hno⟩
      · rw [hA] at hev
        have hev : (a.put oi.dst u).eval ad = .pointer (some ⟨b, q, none⟩) := hev
        rw [hev] at hrun
        have hdv := F'.at_ d
        rw [hv] at hdv
        have hdv : (a.put oi.dst u).tmps.getD d undef = val := hdv
        refine ⟨o, val, h1, ?_, .inl ⟨hw, hrun w' val hload⟩, fun e => (by rw [hlo] at e; cases e)⟩
        rw [hd]
        show ({ (a.put oi.dst u) with tmps := (a.put oi.dst u).tmps.setIfInBounds d val } : Act) = _
        have : (a.put oi.dst u).tmps.setIfInBounds d val = (a.put oi.dst u).tmps := by
          apply Array.ext_getElem?
          intro k
          by_cases hdk : d = k
          · subst hdk
            by_cases hds : d < (a.put oi.dst u).tmps.size
            · rw [← hdv]; simp [hds]
            · simp [hds]
          · rw [Array.getElem?_setIfInBounds_ne hdk]
        rw [this]
      · rw [hA] at hev
        have hev : (a.put oi.dst u).eval ad = .pointer (some ⟨g' l, off, none⟩) := hev
        obtain ⟨w3, hback⟩ := hback
        rw [hev] at hrun hback
        have hno1 : memN l (dsts oi.dst) = false := memN_l hno
        have hno2 : memN l keep = false := memN_r hno
        have hgl : g' l = g l := T.gg l hno1
        obtain ⟨hem, hel⟩ := findL_mem hf
        have hem' : (⟨e.l, false, e.t, e.cs⟩ : LE) ∈ L' := T.kp _ (freezeL_mem hem (.inr (by
          intro hmem
          have : e.l ∈ keep := by simpa [keepLs] using hmem
          rw [hel] at this
          rw [memN_iff.2 this] at hno2; cases hno2))) rfl
        obtain ⟨cs, q⟩ := H.ll e hem
        obtain ⟨cs', q'⟩ := H'.ll _ hem'
        have hcs : cs' = cs := by
          apply Array.ext (by rw [q.sz, q'.sz])
          intro k hk1 hk2
          have hk3 : k < e.cs.length := by rw [← q.sz]; exact hk2
          have e1 := q.is_ k hk3
          have e2 := q'.is_ k hk3
          have hp : (getN e.cs k).plain = true := by rw [getN_eq, List.getElem?_eq_getElem hk3]; exact q.pl _ (List.getElem_mem _)
          have := is_unique hp e1 (AV.is_plain (g' := g) hp e2)
          simp only [Array.getD, hk1, hk2, dif_pos] at this
          exact this.symm
        have hb1 : w.heap[g l]? = some (.cells cs e.t (0, 0)) := by rw [← hel]; exact q.at_
        have hb2 : w'.heap[g l]? = some (.cells cs e.t (0, 0)) := by rw [← hgl, ← hel, ← hcs]; exact q'.at_
        rw [hgl] at hback hrun
        refine ⟨o, v, h1, h2, .inl ⟨hw, hrun w' v (OnlyB.run (OnlyB.loadAt _ _ t) hb1 hb2 hback)⟩, fun e => (by rw [hlo] at e; cases e)⟩
    · exact ⟨o, undef, h1, h2, .inr ⟨hw, rfl⟩, fun e => (by rw [hlo] at e; cases e)⟩
where
  memN_l {i : Nat} {l k : List Nat} (h : memN i (l ++ k) = false) : memN i l = false := by rw [memN_append] at h; simp at h; exact h.1
  memN_r {i : Nat} {l k : List Nat} (h : memN i (l ++ k) = false) : memN i k = false := by rw [memN_append] at h; simp at h; exact h.2
end
end Go.Eng
end
section
/-
  THE ENGINE, 20: a region whose order is drawn, whole.
-/
set_option linter.unusedSimpArgs false
set_option linter.unusedVariables false
namespace Go.Eng
section
variable {P : Program} {lo : List Nat} {G : List (Nat × (List Value → PT))} {V : Value → List Value → PT} {fr : Hp} {ops : Array Oper}

def nodesOf (P : Program) (ops : Array Oper) (tab : List (List Nat)) : List Nat → List Nat → List Nd
  | [], _ => []
  | i :: rest, done => match ops[i]? with
    | none => []
    | some o => match quietO P o with
      | true => (i, true, []) :: nodesOf P ops tab rest (done ++ [i])
      | false => (i, false, done.filter (notAnc tab i)) :: nodesOf P ops tab rest (done.filter (notAnc tab i))

/-- What i leaves is not seen by x; or i acts, and x comes before it. -/
def PI (P : Program) (ops : Array Oper) (tab : List (List Nat)) (x i : Nat) : Prop := (notAnc tab i x = false ∧ ∀ o, ops[i]? = some o → quietO P o = false) ∨ Ind ops i x
theorem denP_run (hG : GOk P G) (hV : VOk P V) (hsel : ∀ (j : Nat) (o : Oper) cs b, ops[j]? = some o → o.op ≠ .select cs b) (hown : ∀ (x : Nat) (o : Oper), ops[x]? = some o → quietO P o = true → ∀ d, o.dst = some d → d ∉ o.looksAt ops)
    {tab : List (List Nat)} {K : KS} {K0 : Act → World → Prop} : ∀ (l done : List Nat), done.Pairwise (fun _ _ => True) → l.Pairwise (PI P ops tab) → (∀ x ∈ done, ∀ i ∈ l, PI P ops tab x i) →
      ∀ (g : Nat → Nat) (A : Env) (L : List LE) (h : Hp) (a : Act) (w : World), HO fr g L h w → FO g A a → (∀ x ∈ done, Live P ops x a w) →
      denP P lo G V ops tab l done A L h K → (∀ a' w', Rel (opWrites ops.toList) fr g L a w K a' w' → K0 a' w') →
      runP P ops (fun e a w => match e with | .normal => K0 a w | _ => False) K0 (nodesOf P ops tab l done) a w
  | [], done, _, _, _, g, A, L, h, a, w, H, F, hlive, hk, hK0 => hK0 _ _ ⟨g, A, L, h, F, H, Tr.refl _ _ _ _ _, hk⟩
  | i :: rest, done, hdn, hpw, hdl, g, A, L, h, a, w, H, F, hlive, hk, hK0 => by
    unfold denP at hk
    unfold nodesOf
    obtain ⟨hp1, hp2⟩ := List.pairwise_cons.1 hpw
    cases hi : ops[i]? with
    | none => rw [hi] at hk; exact hk.elim
    | some o =>
      rw [hi] at hk
      dsimp only at hk ⊢
      have hmem : o ∈ ops.toList := by
        rw [← Array.getElem?_toList] at hi
        exact List.mem_of_getElem? hi
      have hWo : ∀ k, memN k (opWrites ops.toList) = false → memN k (dW o.dst) = false := dW_sub hmem
      cases hq : quietO P o with
      | true =>
        rw [hq] at hk
        dsimp only at hk ⊢
        obtain ⟨v, hy, hfl, g1, A1, L1, h1, F1, H1, T1, hk1⟩ := quiet_step hG hV F H hq hk
        refine ⟨o, v, hi, hy, ?_⟩
        refine denP_run hG hV hsel hown rest (done ++ [i]) (List.pairwise_of_forall fun _ _ => trivial) hp2 (fun x hx k hkr => ?_) g1 A1 L1 h1 _ w H1 F1 (fun x hx => ?_) hk1 (fun a' w' hr => hK0 a' w' ?_)
        · rcases List.mem_append.1 hx with hx | hx
          · exact hdl x hx k (List.mem_cons_of_mem _ hkr)
          · simp only [List.mem_singleton] at hx; subst hx; exact hp1 k hkr
        · rcases List.mem_append.1 hx with hx | hx
          · have hix : Ind ops i x := by
              rcases hdl x hx i List.mem_cons_self with h | h
              · have := h.2 o hi; rw [hq] at this; cases this
              · exact h
            exact Live.put hsel hi hix (hlive x hx)
          · simp only [List.mem_singleton] at hx
            subst hx
            have ho := hown x o hi hq
            exact ⟨o, v, hi, put_put _ _ _ _, (Yat.put (hsel x o · · hi) ho).2 hy, fun e w' => (Yat.put (hsel x o · · hi) ho).2 (hfl e w')⟩
        · obtain ⟨g2, A2, L2, h2, F2, H2, T2, k2⟩ := hr
          exact ⟨g2, A2, L2, h2, F2, H2, (T1.mono hWo).trans T2, k2⟩
      | false =>
        rw [hq] at hk
        dsimp only at hk ⊢
        have hs := step_ok (Q := fun e a w => match e with | .normal => K0 a w | _ => False) hG hV (H.freeze (keepLs (keepOf o A))) F hk
        refine ⟨o, hi, ?_⟩
        have next : ∀ a' w', Rel (dW o.dst) fr g (freezeL (keepLs (keepOf o A)) L) a w (fun A' L' h' => reAll P ops.toList L (dsts o.dst ++ keepOf o A) A' h' (done.filter (notAnc tab i)) (denP P lo G V ops tab rest (done.filter (notAnc tab i)) A' (thaw L L') h' K)) a' w' →
            (∀ y ∈ done.filter (notAnc tab i), Chk P ops y a' w') ∧ runP P ops (fun e a w => match e with | .normal => K0 a w | _ => False) K0 (nodesOf P ops tab rest (done.filter (notAnc tab i))) a' w' := by
          rintro a' w' ⟨g1, A1, L1, h1, F1, H1, T1, hk1⟩
          obtain ⟨hag, hk1⟩ := reAll_spec F1 H1.hh hk1
          have hl' : ∀ x ∈ done.filter (notAnc tab i), Live P ops x a' w' := fun x hx =>
            Live.past hsel hi ((hdl x (List.mem_filter.1 hx).1 i List.mem_cons_self).resolve_left (fun h => by have h2 := (List.mem_filter.1 hx).2; rw [h.1] at h2; cases h2)) F H F1 H1 T1 (hlive x (List.mem_filter.1 hx).1) (hag x hx)
          refine ⟨fun y hy => (hl' y hy).chk, ?_⟩
          refine denP_run hG hV hsel hown rest _ (List.pairwise_of_forall fun _ _ => trivial) hp2 (fun x hx k hkr => hdl x (List.mem_filter.1 hx).1 k (List.mem_cons_of_mem _ hkr)) g1 A1 (thaw L L1) h1 a' w' (H1.thaw L) F1 hl' hk1 (fun a'' w'' hr => hK0 a'' w'' ?_)
          obtain ⟨g2, A2, L2, h2, F2, H2, T2, k2⟩ := hr
          refine ⟨g2, A2, L2, h2, F2, H2, ?_, k2⟩
          exact (⟨T1.wr, Kp.thaw H T1.kp, fun k hk => T1.gg k (hWo k hk), fun k hk => T1.un k (hWo k hk), T1.sz⟩ : Tr (opWrites ops.toList) g L a w g1 (thaw L L1) a' w').trans T2
        unfold eff
        split
        · rename_i hw
          rw [if_pos hw] at hs
          exact Oper.wp_mono (fun a' w' hr => next a' w' hr) hs
        · rename_i hw
          rw [if_neg hw] at hs
          exact next _ _ hs

/-! ### The checks -/
theorem Anc.trans {x y z : Nat} (h : Anc ops x y) (k : Anc ops y z) : Anc ops x z := by
  induction k with
  | edge ho he => exact .step ho he h
  | step ho he _ ih => exact .step ho he ih
structure Pr (P : Program) (ops : Array Oper) (tab : List (List Nat)) (x i : Nat) : Prop where
  or_ : Anc ops x i ∨ (Ind ops x i ∧ ∀ o, ops[x]? = some o → quietO P o = true)
  ind : PI P ops tab x i
  seen : ∀ o, ops[x]? = some o → i ∉ edgesOf o
theorem nodes_fst (tab : List (List Nat)) : ∀ (l done : List Nat), (∀ i ∈ l, ∃ o, ops[i]? = some o) → (nodesOf P ops tab l done).map (·.1) = l
  | [], _, _ => rfl
  | i :: l, done, h => by
    obtain ⟨o, ho⟩ := h i List.mem_cons_self
    unfold nodesOf
    rw [ho]
    dsimp only
    cases quietO P o with
    | true => simp only [List.map_cons]; rw [nodes_fst tab l _ fun k hk => h k (List.mem_cons_of_mem _ hk)]
    | false => simp only [List.map_cons]; rw [nodes_fst tab l _ fun k hk => h k (List.mem_cons_of_mem _ hk)]
theorem nodes_quiet (tab : List (List Nat)) : ∀ (l done : List Nat), ∀ n ∈ nodesOf P ops tab l done, ∃ o, ops[n.1]? = some o ∧ n.2.1 = quietO P o
  | [], _, n, hn => by simp [nodesOf] at hn
  | i :: l, done, n, hn => by
    unfold nodesOf at hn
    cases ho : ops[i]? with
    | none => rw [ho] at hn; simp at hn
    | some o =>
      rw [ho] at hn
      dsimp only at hn
      cases hq : quietO P o with
      | true =>
        rw [hq] at hn
        rcases List.mem_cons.1 hn with rfl | hn
        · exact ⟨o, ho, hq.symm⟩
        · exact nodes_quiet tab l _ n hn
      | false =>
        rw [hq] at hn
        rcases List.mem_cons.1 hn with rfl | hn
        · exact ⟨o, ho, hq.symm⟩
        · exact nodes_quiet tab l _ n hn
theorem nodes_mem (tab : List (List Nat)) : ∀ (l done : List Nat), ∀ n ∈ nodesOf P ops tab l done, n.1 ∈ l
  | [], _, n, hn => by simp [nodesOf] at hn
  | i :: l, done, n, hn => by
    unfold nodesOf at hn
    cases ho : ops[i]? with
    | none => rw [ho] at hn; simp at hn
    | some o =>
      rw [ho] at hn
      dsimp only at hn
      cases hq : quietO P o with
      | true =>
        rw [hq] at hn
        rcases List.mem_cons.1 hn with rfl | hn
        · exact List.mem_cons_self
        · exact List.mem_cons_of_mem _ (nodes_mem tab l _ n hn)
      | false =>
        rw [hq] at hn
        rcases List.mem_cons.1 hn with rfl | hn
        · exact List.mem_cons_self
        · exact List.mem_cons_of_mem _ (nodes_mem tab l _ n hn)
theorem nodes_c {tab : List (List Nat)} (htab : ∀ i x, notAnc tab i x = false → Anc ops x i) : ∀ (l done : List Nat) (x : Nat), x ∈ done → l.Pairwise (Pr P ops tab) → ∀ n ∈ nodesOf P ops tab l done, Anc ops x n.1 ∨ (n.2.1 = true ∨ x ∈ n.2.2)
  | [], _, x, _, _, n, hn => by simp [nodesOf] at hn
  | i :: l, done, x, hx, hpw, n, hn => by
    obtain ⟨hp1, hp2⟩ := List.pairwise_cons.1 hpw
    unfold nodesOf at hn
    cases ho : ops[i]? with
    | none => rw [ho] at hn; simp at hn
    | some o =>
      rw [ho] at hn
      dsimp only at hn
      cases hq : quietO P o with
      | true =>
        rw [hq] at hn
        rcases List.mem_cons.1 hn with rfl | hn
        · exact .inr (.inl rfl)
        · exact nodes_c htab l _ x (List.mem_append_left _ hx) hp2 n hn
      | false =>
        rw [hq] at hn
        cases hna : notAnc tab i x with
        | true =>
          have hxm : x ∈ done.filter (notAnc tab i) := List.mem_filter.2 ⟨hx, hna⟩
          rcases List.mem_cons.1 hn with rfl | hn
          · exact .inr (.inr hxm)
          · exact nodes_c htab l _ x hxm hp2 n hn
        | false =>
          have hxi := htab i x hna
          rcases List.mem_cons.1 hn with rfl | hn
          · exact .inl hxi
          · obtain ⟨o', ho', hq'⟩ := nodes_quiet tab l _ n hn
            cases hqn : n.2.1 with
            | true => exact .inr (.inl rfl)
            | false =>
              have hnl : n.1 ∈ l := nodes_mem tab l _ n hn
              rcases (hp1 n.1 hnl).or_ with h | h
              · exact .inl (hxi.trans h)
              · have := h.2 o ho; rw [hq] at this; cases this
theorem nodes_pw {tab : List (List Nat)} (htab : ∀ i x, notAnc tab i x = false → Anc ops x i) : ∀ (l done : List Nat), l.Pairwise (Pr P ops tab) →
    (nodesOf P ops tab l done).Pairwise (fun n1 n => (Anc ops n1.1 n.1 ∨ Fit ops n1 n) ∧ (n.2.1 = true → Ind ops n.1 n1.1) ∧ ∀ o, ops[n1.1]? = some o → n.1 ∉ edgesOf o)
  | [], _, _ => by simp [nodesOf]
  | i :: l, done, hpw => by
    obtain ⟨hp1, hp2⟩ := List.pairwise_cons.1 hpw
    unfold nodesOf
    cases ho : ops[i]? with
    | none => simp
    | some o =>
      dsimp only
      cases hq : quietO P o with
      | true =>
        refine List.pairwise_cons.2 ⟨fun n hn => ?_, nodes_pw htab l _ hp2⟩
        have hpr := hp1 n.1 (nodes_mem tab l _ n hn)
        obtain ⟨on, hon, hqn⟩ := nodes_quiet tab l _ n hn
        have hind : n.2.1 = true → Ind ops n.1 i := fun e => hpr.ind.resolve_left (fun h => by have := h.2 on hon; rw [← hqn, e] at this; cases this)
        refine ⟨?_, hind, hpr.seen⟩
        rcases nodes_c htab l _ i (List.mem_append_right _ (by simp)) hp2 n hn with h | h
        · exact .inl h
        · rcases hpr.or_ with h' | h'
          · exact .inl h'
          · rcases hpr.ind with h'' | h''
            · exact .inl (htab _ _ h''.1)
            · exact .inr ⟨rfl, h'.1, h'', h⟩
      | false =>
        refine List.pairwise_cons.2 ⟨fun n hn => ?_, nodes_pw htab l _ hp2⟩
        have hpr := hp1 n.1 (nodes_mem tab l _ n hn)
        obtain ⟨on, hon, hqn⟩ := nodes_quiet tab l _ n hn
        have hind : n.2.1 = true → Ind ops n.1 i := fun e => hpr.ind.resolve_left (fun h => by have := h.2 on hon; rw [← hqn, e] at this; cases this)
        refine ⟨?_, hind, hpr.seen⟩
        rcases hpr.or_ with h' | h'
        · exact .inl h'
        · have := h'.2 o ho; rw [hq] at this; cases this
theorem distinct_nodup : ∀ {l : List Nat}, distinct l = true → l.Nodup
  | [], _ => List.nodup_nil
  | x :: l, h => by
    simp only [distinct, Bool.and_eq_true, Bool.not_eq_true'] at h
    exact List.nodup_cons.2 ⟨fun hx => (by rw [memN_iff.2 hx] at h; cases h.1), distinct_nodup h.2⟩
theorem topo_spec : ∀ {l seen : List Nat}, orderTopo ops seen l = true → l.Nodup → (∀ x ∈ l, x ∉ seen) →
    (∀ i ∈ l, ∃ o, ops[i]? = some o ∧ ∀ e ∈ edgesOf o, e < i) ∧ l.Pairwise (fun x i => ∀ o, ops[x]? = some o → i ∉ edgesOf o)
  | [], seen, _, _, _ => ⟨fun i hi => (by cases hi), List.Pairwise.nil⟩
  | i :: l, seen, h, hn, hs => by
    simp only [orderTopo, Bool.and_eq_true] at h
    obtain ⟨h1, h2⟩ := h
    obtain ⟨hn1, hn2⟩ := List.nodup_cons.1 hn
    obtain ⟨h3, h4⟩ := topo_spec h2 hn2 (fun x hx hxs => by
      rcases List.mem_cons.1 hxs with rfl | hxs
      · exact hn1 hx
      · exact hs x (List.mem_cons_of_mem _ hx) hxs)
    cases ho : ops[i]? with
    | none => rw [ho] at h1; cases h1
    | some o =>
      rw [ho] at h1
      have h1 : ∀ e ∈ edgesOf o, e ∈ seen ∧ e < i := by
        intro e he
        have := List.all_eq_true.1 h1 e he
        rw [Bool.and_eq_true] at this
        exact ⟨memN_iff.1 this.1, by have := this.2; rw [Nat.blt_eq] at this; exact this⟩
      refine ⟨fun k hk => ?_, List.pairwise_cons.2 ⟨fun k hk o' ho' hke => ?_, h4⟩⟩
      · rcases List.mem_cons.1 hk with rfl | hk
        · exact ⟨o, ho, fun e he => (h1 e he).2⟩
        · exact h3 k hk
      · rw [ho] at ho'
        cases ho'
        exact hs k (List.mem_cons_of_mem _ hk) (h1 k hke).1
theorem pairs_spec {tab : List (List Nat)} (htab : ∀ i x, notAnc tab i x = false → Anc ops x i) : ∀ {l : List Nat}, orderPairs P ops tab l = true → l.Pairwise (fun x i => (Anc ops x i ∨ (Ind ops x i ∧ ∀ o, ops[x]? = some o → quietO P o = true)) ∧ PI P ops tab x i)
  | [], _ => List.Pairwise.nil
  | x :: l, h => by
    simp only [orderPairs, Bool.and_eq_true] at h
    refine List.pairwise_cons.2 ⟨fun i hi => ?_, pairs_spec htab h.2⟩
    have hp := List.all_eq_true.1 h.1 i hi
    unfold orderPair at hp
    cases hx : ops[x]? with
    | none => rw [hx] at hp; cases hp
    | some ox =>
      cases hii : ops[i]? with
      | none => rw [hx, hii] at hp; cases hp
      | some oi =>
        rw [hx, hii] at hp
        simp only [Bool.and_eq_true, Bool.or_eq_true, Bool.not_eq_true'] at hp
        refine ⟨?_, ?_⟩
        · rcases hp.1 with h | h
          · exact .inl (htab i x h)
          · obtain ⟨a1, a2, a3⟩ := Oper.apart_spec h.2
            refine .inr ⟨fun o1 o2 h1 h2 d hd => ?_, fun o ho => ?_⟩
            · rw [hx] at h1; rw [hii] at h2; cases h1; cases h2
              exact ⟨a1 d hd, a2 d hd⟩
            · cases ho; exact h.1
        · rcases hp.2 with h3 | h3
          · exact .inl ⟨h3.1, fun o ho => by rw [hii] at ho; cases ho; exact h3.2⟩
          refine .inr fun o1 o2 h1 h2 d hd => ?_
          rw [hii] at h1; rw [hx] at h2; cases h1; cases h2
          rw [hd] at h3
          simp only [Bool.and_eq_true, Bool.not_eq_true', bne_iff_ne, ne_eq] at h3
          exact ⟨fun hm => (by simp [hm] at h3), h3.2⟩
/-- A REGION WHOSE ORDER IS DRAWN IS WHAT IT DENOTES. -/
theorem order_ok (hG : GOk P G) (hV : VOk P V) {id : Nat} {l : List Nat} (hm : P.follows .mixedOrders = true) (ho : orderOk P ops (ancTab [] ops.toList) l = true) {K : KS} {g : Nat → Nat} {A : Env} {L : List LE} {h : Hp} {a : Act} {w : World} (H : HO fr g L h w) (F : FO g A a)
    (hk : denP P lo G V ops (ancTab [] ops.toList) l [] A L h K) : (Code.region id ops true).wp P (fun e a' w' => match e with | .normal => Rel (opWrites ops.toList) fr g L a w K a' w' | _ => False) a w := by
  unfold orderOk at ho
  simp only [Bool.and_eq_true, beq_iff_eq] at ho
  obtain ⟨⟨⟨⟨⟨⟨hsel, hlen⟩, hall⟩, hdist⟩, hown⟩, htopo⟩, hpairs⟩ := ho
  have hnd := distinct_nodup hdist
  obtain ⟨ht1, ht2⟩ := topo_spec htopo hnd (fun x _ hx => by cases hx)
  have htab : ∀ i x, notAnc (ancTab [] ops.toList) i x = false → Anc ops x i := fun i x h => notAnc_false h
  have hps := pairs_spec htab hpairs
  have hpr : l.Pairwise (Pr P ops (ancTab [] ops.toList)) := (hps.and ht2).imp fun h => ⟨h.1.1, h.1.2, h.2⟩
  have hselS := Region.noSelect_spec hsel
  have hownS : ∀ (x : Nat) (o : Oper), ops[x]? = some o → quietO P o = true → ∀ d, o.dst = some d → d ∉ o.looksAt ops := by
    intro x o hx hq d hd hm
    have := Array.all_eq_true_iff_forall_mem.1 hown o (Array.mem_of_getElem? hx)
    rw [hq, hd] at this
    simp [hm] at this
  let w1 : World := { w with drawn := w.drawn + 1 }
  have H1 : HO fr g L h w1 := ⟨H.hh, H.ff, H.dj, fun e he => (let ⟨cs, q⟩ := H.ll e he; ⟨cs, ⟨q.at_, q.sz, q.is_, q.pl, q.nh, q.nf⟩⟩), H.uq⟩
  have hrun := denP_run (K0 := fun a' w' => Rel (opWrites ops.toList) fr g L a w K a' w') hG hV hselS hownS l [] List.Pairwise.nil (hpr.imp fun h => h.ind) (fun x hx => by cases hx) g A L h a w1 H1 F (fun x hx => by cases hx) hk
    (fun a' w' ⟨g2, A2, L2, h2, F2, H2, T2, k2⟩ => ⟨g2, A2, L2, h2, F2, H2, ⟨⟨T2.wr.os, T2.wr.tape, T2.wr.output, T2.wr.size⟩, T2.kp, T2.gg, T2.un, T2.sz⟩, k2⟩)
  have hfst := nodes_fst (P := P) (ancTab [] ops.toList) l [] (fun i hi => let ⟨o, ho, _⟩ := ht1 i hi; ⟨o, ho⟩)
  refine wp_region_any hm (any_of_run (fun a w h => h) (fun c a w h => h) hselS ops.size _ _ a w1 ?_ (by simp) (fun j => ?_) (fun j o _ hj => ?_) ⟨nodes_pw htab l [] hpr, fun n hn => ?_, by rw [hfst]; exact hnd⟩ hrun)
  · have := congrArg List.length hfst
    rw [List.length_map] at this
    rw [this, hlen]
  · rw [hfst]
    constructor
    · intro hj
      have hjs : j < ops.size := by
        apply Classical.byContradiction
        intro hne
        simp [hne] at hj
      exact memN_iff.1 (List.all_eq_true.1 hall j (List.mem_range.2 hjs))
    · intro hj
      obtain ⟨o, ho, _⟩ := ht1 j hj
      have : j < ops.size := (Array.getElem?_eq_some_iff.1 ho).1
      simp [this]
  · exfalso
    by_cases hjs : j < ops.size
    · simp [hjs] at hj
    · simp [hjs] at hj
  · obtain ⟨o, ho, hlt⟩ := ht1 n.1 (nodes_mem _ _ _ n hn)
    have hns : n.1 < ops.size := (Array.getElem?_eq_some_iff.1 ho).1
    obtain ⟨o', ho', hq⟩ := nodes_quiet _ _ _ n hn
    rw [ho] at ho'
    cases ho'
    exact ⟨o, ho, fun hm => absurd (hlt _ hm) (Nat.lt_irrefl _), fun e he => Nat.lt_trans (hlt e he) hns, fun e d hd => hownS n.1 o ho (by rw [← hq]; exact e) d hd⟩
end
end Go.Eng
end
section
/-
  THE ENGINE, 21: blocks that are made early: what makes a block makes the same one whenever it comes.
-/
set_option linter.unusedSimpArgs false
set_option linter.unusedVariables false
namespace Go.Eng
section
variable {P : Program} {lo : List Nat} {G : List (Nat × (List Value → PT))} {V : Value → List Value → PT} {fr : Hp} {ops : Array Oper}

/-- Whenever it comes it makes this block, and yields this. -/
def AllocAt (P : Program) (o : Oper) (a : Act) (obj : Obj) (vf : Nat → Value) : Prop :=
  ∀ w : World, ∃ n, (execOp a.eval o).run P w = .ok (.value (vf w.heap.size)) { w with heap := w.heap.push obj, drawn := n }
theorem bs_run {g : Nat → Nat} {t n : Nat} {ps : List (Nat × AV)} {qs : Array (Nat × Value)} {C : Nat → List Value → Prop} (hk : bsD P t n ps C) (hp : partsIs g ps qs.toList) :
    ∃ e us, C e us ∧ ∀ w : World, ∃ m, (Instr.buildSlice t n qs).run P w = .ok (.slice (some ⟨w.heap.size, 0, none⟩) n n) { w with heap := w.heap.push (.cells us.toArray e (0, 0)), drawn := m } := by
  unfold bsD at hk
  cases hd : under P t <;> rw [hd] at hk <;> try exact False.elim hk
  case slice e =>
  have hut := under_some hd (by simp)
  have hq := grd_spec hk
  clear hk
  obtain ⟨hie, hk⟩ := hq
  cases hz : zeroOf P e with
  | none => rw [hz] at hk; exact False.elim hk
  | some z =>
    rw [hz] at hk
    dsimp only at hk
    have hq := grd_spec hk
    clear hk
    obtain ⟨hb, hk⟩ := hq
    simp only [Bool.and_eq_true, Nat.ble_eq] at hb
    obtain ⟨hbig, hz0⟩ := hb
    have hz0 : 0 < z.length := by simp [Nat.blt] at hz0; omega
    obtain ⟨i0, v0, hi0, hzi, hvc, hzl, hcs⟩ := zeroOf_some hz
    rw [replA_map] at hk
    obtain ⟨cs, us, hfill, hst, hcl, hk⟩ := fillP_ok (us := replV n z) hk hp (inStep_map _)
    obtain ⟨vs, hvl, hat, hpl, hk⟩ := getAll_spec hk
    have : us = vs := lists_eq hpl hst.1 hvl hst.2 (hat g)
    subst this
    refine ⟨e, us, hk, fun w => ⟨w.drawn, ?_⟩⟩
    have hcell : P.cellsOf e = z.length := by rw [hcs, hzl]
    have hnb : ¬ (n * P.cellsOf e > 2 ^ 24) := by simp; exact hbig
    have hcells : (Array.range (n * P.cellsOf e)).map (fun x => z.toArray[x % z.toArray.size]!) = (replV n z).toArray := by rw [hcell]; exact range_zero n hz0
    unfold Instr.buildSlice
    simp only [Sem.run_bind, run_underlying hut, Result.andThen_ok, run_sizeOf' hie]
    rw [if_neg hnb]
    by_cases hn0 : n * P.cellsOf e = 0
    · have hn : n = 0 := by rcases Nat.mul_eq_zero.1 hn0 with h1 | h1 <;> omega
      subst hn
      have : replV 0 z = [] := rfl
      rw [this] at hfill
      have hnil : ∀ f : Nat → Value, (Array.range 0).map f = #[] := fun f => by simp
      simp only [hn0, if_true, Sem.run_bind, Sem.run_pure, Result.andThen_ok, hnil]
      rw [hfill]
      simp [newRow, newObj, Sem.run]
    · obtain ⟨v, hrv, hvc'⟩ := run_zero hz w
      simp only [hn0, if_false, Sem.run_bind, hrv, Result.andThen_ok, hvc', Sem.run_pure]
      rw [hcells, hfill]
      simp [newRow, newObj, Sem.run]
theorem mk_run {g : Nat → Nat} {t : Nat} {l c : AV} {u v : Value} {C : Nat → List Value → Int → Int → Prop} (hk : mkD P t l c C) (hl : l.is g u) (hc : c.is g v) :
    ∃ e z n m, C e z n m ∧ ∀ w : World, ∃ q, (Instr.makeSlice t u v).run P w = .ok (.slice (some ⟨w.heap.size, 0, none⟩) n.toNat m.toNat) { w with heap := w.heap.push (.cells (Builtin.zeroCells z.toArray m.toNat) e (0, 0)), drawn := q } := by
  unfold mkD at hk
  cases hd : under P t <;> rw [hd] at hk <;> try exact False.elim hk
  case slice e =>
  have hut := under_some hd (by simp)
  dsimp only at hk
  cases hi : P.info? e with
  | none => rw [hi] at hk; exact False.elim hk
  | some i =>
    rw [hi] at hk
    dsimp only at hk
    cases hz : zeroOf P e with
    | none => rw [hz] at hk; exact False.elim hk
    | some z =>
      rw [hz] at hk
      dsimp only at hk
      cases l with
      | v lv =>
        have hu : u = lv := hl
        subst hu
        cases u with
        | int k n =>
          dsimp only at hk
          cases c with
          | v cv =>
            have hv : v = cv := hc
            subst hv
            cases v with
            | int k' m =>
              have hq := grd_spec hk
              clear hk
              obtain ⟨hb, hk⟩ := hq
              simp only [Bool.and_eq_true] at hb
              have hby : 0 < i.bytes := by have := hb.1; simp [Nat.blt] at this; omega
              have hz0 : 0 < z.length := by have := hb.2; simp [Nat.blt] at this; omega
              obtain ⟨⟨h0, h1, h2⟩, hk⟩ := hk
              obtain ⟨i0, v0, hi0, hzi, hvc, hzl, hcs⟩ := zeroOf_some hz
              have hii : i = i0 := by rw [hi] at hi0; exact Option.some.inj hi0
              subst hii
              have hm : m ≤ 281474976710656 := by
                have : (1 : Int) * m ≤ i.bytes * m := Int.mul_le_mul_of_nonneg_right (by omega) (by omega)
                omega
              have wr : ∀ x : Int, 0 ≤ x → x ≤ 281474976710656 → IntKind.i64.wrap x = x := by
                intro x hx0 hx1
                have e1 : x % (2 ^ IntKind.i64.bits : Int) = x := Int.emod_eq_of_lt hx0 (by simp [IntKind.bits]; omega)
                unfold IntKind.wrap
                simp only [e1]
                rw [if_neg (by simp [IntKind.signed, IntKind.bits]; omega)]
              have wn := wr n h0 (by omega)
              have wm := wr m (by omega) hm
              refine ⟨e, z, n, m, hk, fun w => ⟨w.drawn, ?_⟩⟩
              obtain ⟨M, rfl⟩ := Int.eq_ofNat_of_zero_le (show 0 ≤ m by omega)
              obtain ⟨N, rfl⟩ := Int.eq_ofNat_of_zero_le h0
              have hask : ∀ b, (askRoom b).run P w = .ok () w := by intro b; unfold askRoom; split <;> simp [mark, Sem.run]
              have hinf : (typeInfo e).run P w = .ok i w := by simp [typeInfo, hi]
              have hsz : (sizeOf e).run P w = .ok i.size w := by simp [sizeOf, typeInfo, hi]
              obtain ⟨zv, hzr, hzc⟩ := run_zero hz w
              unfold Instr.makeSlice
              simp only [Sem.run_bind, run_underlying hut, Result.andThen_ok, asInt, asIntOf, Sem.run_pure, hinf, wn, wm]
              rw [if_neg (by simp; omega)]
              simp only [Sem.run_bind, hask, Result.andThen_ok, hsz, Int.toNat_natCast]
              by_cases hM : M * i.size = 0
              · have hM0 : M = 0 := by rcases Nat.mul_eq_zero.1 hM with h3 | h3 <;> omega
                subst hM0
                have hnil : ∀ f : Nat → Value, (Array.range 0).map f = #[] := fun f => by simp
                simp only [Nat.zero_mul, if_true, Sem.run_pure, Result.andThen_ok, hnil]
                have hnil2 : Builtin.zeroCells z.toArray 0 = #[] := by unfold Builtin.zeroCells; rw [Nat.zero_mul]; exact hnil _
                rw [hnil2]
                simp [newRow, newObj, Sem.run]
              · simp only [hM, if_false, Sem.run_bind, hzr, Result.andThen_ok, hzc, Sem.run_pure]
                simp [newRow, newObj, Sem.run, Builtin.zeroCells, hzl]
            | _ => exact False.elim hk
          | _ => exact False.elim hk
        | _ => exact False.elim hk
      | _ => exact False.elim hk
theorem exec_of {o : Oper} {a : Act} {s : Sem Value} {obj : Obj} {vf : Nat → Value} (hs : execOp a.eval o = (do pure (Next.value (← s)) : Sem Next))
    (h : ∀ w : World, ∃ n, s.run P w = .ok (vf w.heap.size) { w with heap := w.heap.push obj, drawn := n }) : AllocAt P o a obj vf := by
  intro w
  obtain ⟨n, hn⟩ := h w
  refine ⟨n, ?_⟩
  rw [hs]
  simp only [Sem.run_bind, hn, Result.andThen_ok, Sem.run_pure]
theorem exec_bs {o : Oper} {a : Act} {t n : Nat} {ps : Array (Nat × Operand)} (ho : o.op = .buildSlice t n ps) : execOp a.eval o = (do pure (Next.value (← Instr.buildSlice t n (ps.map fun (i, x) => (i, a.eval x)))) : Sem Next) := by
  unfold execOp; rw [ho]
theorem exec_mk {o : Oper} {a : Act} {t : Nat} {l c : Operand} (ho : o.op = .makeSlice t l c) : execOp a.eval o = (do pure (Next.value (← Instr.makeSlice t (a.eval l) (a.eval c))) : Sem Next) := by
  unfold execOp; rw [ho]
theorem exec_mm {o : Oper} {a : Act} {t : Nat} (ho : o.op = .makeMap t none) : execOp a.eval o = (do pure (Next.value (← Instr.makeMap t none)) : Sem Next) := by
  unfold execOp; rw [ho]; rfl
theorem parts_arr {g : Nat → Nat} {A : Env} {a : Act} (F : FO g A a) (ps : Array (Nat × Operand)) : partsIs g (partsEv A ps.toList) (ps.map fun (i, x) => (i, a.eval x)).toList := by
  rw [Array.toList_map]; exact partsEv_is F ps.toList
theorem late_run {g : Nat → Nat} {A : Env} {a : Act} {o : Oper} {p : Prop} (F : FO g A a) (hk : lateD P o.op A p) : (∃ obj vf, AllocAt P o a obj vf) ∧ p := by
  unfold lateD at hk
  split at hk
  · rename_i t n ps ho
    obtain ⟨e, us, hp, hr⟩ := bs_run (qs := ps.map fun (i, x) => (i, a.eval x)) hk (parts_arr F ps)
    exact ⟨⟨.cells us.toArray e (0, 0), fun b => .slice (some ⟨b, 0, none⟩) n n, exec_of (exec_bs ho) hr⟩, hp⟩
  · rename_i t l c ho
    obtain ⟨e, z, n, m, hp, hr⟩ := mk_run hk (ev_is F l) (ev_is F c)
    exact ⟨⟨.cells (Builtin.zeroCells z.toArray m.toNat) e (0, 0), fun b => .slice (some ⟨b, 0, none⟩) n.toNat m.toNat, exec_of (exec_mk ho) hr⟩, hp⟩
  · rename_i t r ho
    cases r with
    | none => exact ⟨⟨.map #[] 0, fun b => .map (some b), exec_of (exec_mm ho) fun w => ⟨w.drawn, by simp [Instr.makeMap, newObj, Sem.run]⟩⟩, hk⟩
    | some x => exact hk.elim
  · exact hk.elim
theorem late_pub {g : Nat → Nat} {A : Env} {a : Act} {o : Oper} {L : List LE} {h : Hp} {K : KS} (F : FO g A a) (hl : isLate lo o = true) (hk : stepD P lo G V ops.toList o A L h K) :
    ∃ obj vf, AllocAt P o a obj vf ∧ ∀ b, h b = none → ∃ x : AV, x.is g (vf b) ∧ K (putD A o.dst x) L (h.new b obj) := by
  unfold isLate at hl
  simp only [Bool.and_eq_true] at hl
  obtain ⟨⟨hop, hgd⟩, hdst⟩ := hl
  unfold stepD at hk
  have hg : o.guard = none := by
    cases hg : o.guard with
    | none => rfl
    | some x => rw [hg] at hgd; cases hgd
  rw [hg] at hk
  dsimp only at hk
  obtain ⟨d, hd, hm⟩ : ∃ d, o.dst = some d ∧ memN d lo = false := by
    cases hd : o.dst with
    | none => rw [hd] at hdst; cases hdst
    | some d => rw [hd] at hdst; exact ⟨d, rfl, by simpa using hdst⟩
  have hkill : killA lo o.dst o.op A = A := by
    unfold killA
    rw [hd]
    cases makes o.op with
    | true => dsimp only; rw [hm]
    | false => rfl
  rw [hkill] at hk
  split at hop
  · rename_i t n ps ho
    rw [ho, hd] at hk
    have hk : dBuildSlice P lo (some d) t n (partsEv A ps.toList) L h (fun x L' h' => K (putD A (some d) x) L' h') := hk
    have hb : bsD P t n (partsEv A ps.toList) (fun e vs => ∀ b, h b = none → K (putD A (some d) (.v (.slice (some ⟨b, 0, none⟩) n n))) L (h.new b (.cells ⟨vs⟩ e (0, 0)))) := by
      unfold dBuildSlice at hk
      dsimp only at hk
      rw [hm] at hk
      exact hk
    obtain ⟨e, us, hp, hr⟩ := bs_run (qs := ps.map fun (i, x) => (i, a.eval x)) hb (parts_arr F ps)
    rw [hd]
    exact ⟨.cells us.toArray e (0, 0), fun b => .slice (some ⟨b, 0, none⟩) n n, exec_of (exec_bs ho) hr, fun b hb => ⟨.v (.slice (some ⟨b, 0, none⟩) n n), rfl, hp b hb⟩⟩
  · rename_i t l c ho
    rw [ho, hd] at hk
    have hk : dMake P t (ev A l) (ev A c) L h (fun x L' h' => K (putD A (some d) x) L' h') := hk
    have hb : mkD P t (ev A l) (ev A c) (fun e z n m => ∀ b, h b = none → K (putD A (some d) (.v (.slice (some ⟨b, 0, none⟩) n.toNat m.toNat))) L (h.new b (.cells (Builtin.zeroCells z.toArray m.toNat) e (0, 0)))) := hk
    obtain ⟨e, z, n, m, hp, hr⟩ := mk_run hb (ev_is F l) (ev_is F c)
    rw [hd]
    exact ⟨.cells (Builtin.zeroCells z.toArray m.toNat) e (0, 0), fun b => .slice (some ⟨b, 0, none⟩) n.toNat m.toNat, exec_of (exec_mk ho) hr, fun b hb => ⟨.v (.slice (some ⟨b, 0, none⟩) n.toNat m.toNat), rfl, hp b hb⟩⟩
  · rename_i t r ho
    rw [ho, hd] at hk
    cases r with
    | none =>
      have hk : ∀ b, h b = none → K (putD A (some d) (.v (.map (some b)))) L (h.new b (.map #[] 0)) := hk
      rw [hd]
      exact ⟨.map #[] 0, fun b => .map (some b), exec_of (exec_mm ho) fun w => ⟨w.drawn, by simp [Instr.makeMap, newObj, Sem.run]⟩, fun b hb => ⟨.v (.map (some b)), rfl, hk b hb⟩⟩
    | some x => exact False.elim hk
  · cases hop
theorem AllocAt.same {o : Oper} {a : Act} {obj obj' : Obj} {vf vf' : Nat → Value} (h : AllocAt P o a obj vf) (k : AllocAt P o a obj' vf') (w : World) : obj = obj' ∧ vf w.heap.size = vf' w.heap.size := by
  obtain ⟨n, hn⟩ := h w
  obtain ⟨m, hm⟩ := k w
  rw [hn] at hm
  simp only [Result.ok.injEq, Next.value.injEq, World.mk.injEq] at hm
  obtain ⟨h1, h2⟩ := hm
  refine ⟨?_, h1⟩
  have := congrArg (fun h => h.back?) h2.1
  simpa using this
end
end Go.Eng
end
section
/-
  THE ENGINE, 22: a region whose order is drawn, in which blocks may be made early.
-/
set_option linter.unusedSimpArgs false
set_option linter.unusedVariables false
namespace Go.Eng
section
variable {P : Program} {lo : List Nat} {G : List (Nat × (List Value → PT))} {V : Value → List Value → PT} {fr : Hp} {ops : Array Oper}

/-! ### 1. Frames -/
theorem HO.sub {fr fr' : Hp} {g : Nat → Nat} {L : List LE} {h : Hp} {w : World} (H : HO fr' g L h w) (hs : ∀ b o, fr b = some o → fr' b = some o) : HO fr g L h w := by
  have nn : ∀ b, fr' b = none → fr b = none := fun b hb => by
    cases hf : fr b with
    | none => rfl
    | some o => rw [hs b o hf] at hb; cases hb
  exact ⟨H.hh, fun b o hb => H.ff b o (hs b o hb), fun b => (H.dj b).imp id (nn b), fun e he => (let ⟨cs, q⟩ := H.ll e he; ⟨cs, ⟨q.at_, q.sz, q.is_, q.pl, q.nh, nn _ q.nf⟩⟩), H.uq⟩
/-- A block that is made early waits in the frame. -/
theorem HO.early {fr : Hp} {g : Nat → Nat} {L : List LE} {h : Hp} {w w1 : World} {o : Obj} (H : HO fr g L h w) (hn : New w w1 o) : HO (fr.new w.heap.size o) g L h w1 := by
  refine ⟨fun k x hk => ?_, fun k x hk => ?_, fun k => ?_, fun e he => ?_, H.uq⟩
  · rw [hn.old k (H.lt_h hk)]; exact H.hh k x hk
  · unfold Hp.new at hk
    by_cases hkb : k = w.heap.size
    · subst hkb; rw [if_pos rfl] at hk; rw [← hk]; exact hn.at_
    · rw [if_neg hkb] at hk; rw [hn.old k (H.lt_f hk)]; exact H.ff k x hk
  · unfold Hp.new
    by_cases hkb : k = w.heap.size
    · exact .inl (H.none_h (by omega))
    · rw [if_neg hkb]; exact H.dj k
  · obtain ⟨cs, q⟩ := H.ll e he
    have hlt := q.lt
    exact ⟨cs, ⟨by rw [hn.old _ hlt]; exact q.at_, q.sz, q.is_, q.pl, q.nh, by unfold Hp.new; rw [if_neg (by omega)]; exact q.nf⟩⟩
/-- It comes out of the frame. -/
theorem HO.publish {fr : Hp} {g : Nat → Nat} {L : List LE} {h : Hp} {w : World} {b : Nat} {o : Obj} (H : HO fr g L h w) (hb : fr b = some o) : HO (fun k => if k = b then none else fr k) g L (h.new b o) w := by
  refine ⟨fun k x hk => ?_, fun k x hk => ?_, fun k => ?_, fun e he => ?_, H.uq⟩
  · unfold Hp.new at hk
    by_cases hkb : k = b
    · subst hkb; rw [if_pos rfl] at hk; cases hk; exact H.ff _ _ hb
    · rw [if_neg hkb] at hk; exact H.hh k x hk
  · by_cases hkb : k = b
    · simp only [hkb, if_pos] at hk; cases hk
    · simp only [if_neg hkb] at hk; exact H.ff k x hk
  · unfold Hp.new
    by_cases hkb : k = b
    · right; simp only [hkb, if_pos]
    · rw [if_neg hkb, if_neg hkb]; exact H.dj k
  · obtain ⟨cs, q⟩ := H.ll e he
    have hne : g e.l ≠ b := fun q2 => by have := q.nf; rw [q2, hb] at this; cases this
    exact ⟨cs, ⟨q.at_, q.sz, q.is_, q.pl, by unfold Hp.new; rw [if_neg hne]; exact q.nh, by rw [if_neg hne]; exact q.nf⟩⟩
theorem FO.putUnk {g : Nat → Nat} {A : Env} {a : Act} (F : FO g A a) {d : Nat} (hu : isUnk (getE A d) = true) (v : Value) : FO g A (a.put (some d) v) := by
  refine ⟨?_, fun i => ?_, F.df⟩
  · rw [F.len]; exact (put_size a (some d) v).symm
  · by_cases hid : d = i
    · subst hid
      cases he : getE A d with
      | unk => trivial
      | _ => rw [he] at hu; cases hu
    · have : (a.put (some d) v).tmps.getD i undef = a.tmps.getD i undef := put_un a (some d) v i (by simp [dW, memN, Ne.symm hid])
      rw [this]; exact F.at_ i
/-! ### 2. What is read stays, behind a block that is made -/
theorem Live.push {x : Nat} {a : Act} {w : World} {g : Nat → Nat} {A : Env} (hl : Live P ops x a w) (o : Obj) (n : Nat) (hrd : ∀ ox, ops[x]? = some ox → isRead P ox.op = true → ∀ v, (execOp a.eval ox).run P w = .ok (.value v) w → (execOp a.eval ox).run P { w with heap := w.heap.push o, drawn := n } = .ok (.value v) { w with heap := w.heap.push o, drawn := n }) :
    Live P ops x a { w with heap := w.heap.push o, drawn := n } := by
  obtain ⟨ox, v, h1, h2, h3, h4⟩ := hl
  refine ⟨ox, v, h1, h2, ?_, h4⟩
  cases hr : isRead P ox.op with
  | false => exact h4 hr _
  | true =>
    rcases h3 with ⟨hw, hv⟩ | ⟨hw, hv⟩
    · exact .inl ⟨hw, hrd ox h1 hr v hv⟩
    · exact .inr ⟨hw, hv⟩
/-- What only loads, and comes to an answer, comes to the same one behind a block more. -/
def OnlyL {α : Type} : Sem α → Prop
  | .pure _ => True
  | .load _ _ k => ∀ v, OnlyL (k v)
  | .program k => ∀ p, OnlyL (k p)
  | .mark _ k => OnlyL k
  | .halt _ => True
  | _ => False
theorem OnlyL.bind {α β : Type} {s : Sem α} {f : α → Sem β} (hs : OnlyL s) (hf : ∀ a, OnlyL (f a)) : OnlyL (s >>= f) := by
  show OnlyL (s.bind f)
  induction s with
  | pure a => exact hf a
  | load m ad k ih => exact fun v => ih v (hs v)
  | program k ih => exact fun p => ih p (hs p)
  | mark m k ih => exact ih hs
  | halt x => trivial
  | _ => exact hs.elim
theorem seen_none {w : World} {at_ : Addr} (h : w.heap[at_.block]? = none) (u : TypeId) (k : Addr) (at1 : Bool) : ∃ e, w.seen P at_ u k at1 = .error e := by
  cases hs : w.seen P at_ u k at1 with
  | error e => exact ⟨e, rfl⟩
  | ok r =>
    exfalso
    unfold World.seen at hs
    simp only [h, bind, Except.bind, pure, Except.pure, throw, throwThe, MonadExceptOf.throw] at hs
    repeat' split at hs
    all_goals first | (cases hs; done) | skip
theorem viewLoad_ext {w w2 : World} (hx : ∀ k, k < w.heap.size → w2.heap[k]? = w.heap[k]?) {at_ : Addr} {u : TypeId} {k : Addr} {at1 : Bool} {r : Value × List Addr} (h : w.viewLoad P at_ u k at1 = .ok r) : w2.viewLoad P at_ u k at1 = .ok r := by
  by_cases hb : at_.block < w.heap.size
  · have e : w2.seen P at_ u k at1 = w.seen P at_ u k at1 := by unfold World.seen; rw [hx _ hb]
    unfold World.viewLoad at h ⊢
    rw [e]; exact h
  · exfalso
    obtain ⟨e, he⟩ := seen_none (P := P) (w := w) (at_ := at_) (Array.getElem?_eq_none (by omega)) u k at1
    unfold World.viewLoad at h
    rw [he] at h
    cases h
theorem OnlyL.run {α : Type} {s : Sem α} (hs : OnlyL s) {w w2 w1 : World} {v : α} (hx : ∀ k, k < w.heap.size → w2.heap[k]? = w.heap[k]?) (hr : s.run P w = .ok v w1) : s.run P w2 = .ok v w2 := by
  induction s with
  | pure a => simp only [Sem.run] at hr ⊢; cases hr; rfl
  | load m ad k ih =>
    have hblk : ∀ x, w.heap[ad.block]? = some x → w2.heap[ad.block]? = some x := fun x e => by
      have : ad.block < w.heap.size := (Array.getElem?_eq_some_iff.1 e).1
      rw [hx _ this]; exact e
    simp only [Sem.run] at hr ⊢
    cases hb : w.heap[ad.block]? with
    | none =>
      have hc : w.cell? ad = none := by simp only [World.cell?, hb]
      rw [hc] at hr
      simp only [World.farLoad, hb] at hr
      cases hr
    | some x =>
      have hb2 := hblk x hb
      have hc : w2.cell? ad = w.cell? ad := by simp only [World.cell?, hb, hb2]
      rw [hc]
      cases hcell : w.cell? ad with
      | some u => rw [hcell] at hr; exact ih u (hs u) hr
      | none =>
        rw [hcell] at hr
        dsimp only at hr ⊢
        cases hf : w.farLoad P ad (m == .atomic) with
        | error e => rw [hf] at hr; cases hr
        | ok r =>
          rw [hf] at hr
          have hf2 : w2.farLoad P ad (m == .atomic) = .ok r := by
            unfold World.farLoad at hf ⊢
            rw [hb] at hf
            rw [hb2]
            cases x with
            | view at_ u =>
              dsimp only at hf ⊢
              cases hv : w.viewLoad P at_ u ad (m == .atomic) with
              | error e => rw [hv] at hf; cases hf
              | ok r2 => rw [viewLoad_ext hx hv]; rw [hv] at hf; exact hf
            | _ => cases hf
          rw [hf2]
          exact ih r.1 (hs r.1) hr
  | program k ih => simp only [Sem.run] at hr ⊢; exact ih P (hs P) hr
  | mark m k ih => simp only [Sem.run] at hr ⊢; exact ih hs hr
  | halt x => simp only [Sem.run] at hr; cases hr
  | _ => exact hs.elim
theorem OnlyL.underlying (t : TypeId) : OnlyL (underlying t) := by
  unfold Go.underlying
  refine OnlyL.bind (fun p => trivial) fun p => ?_
  split <;> trivial
theorem OnlyL.sizeOf (t : TypeId) : OnlyL (sizeOf t) := by
  unfold Go.sizeOf Go.typeInfo
  refine OnlyL.bind (OnlyL.bind (fun p => trivial) fun p => ?_) fun _ => trivial
  split <;> trivial
theorem OnlyL.load (a : Addr) : OnlyL (load a) := fun v => trivial
theorem OnlyL.from (a : Addr) : ∀ (n i : Nat) (acc : Array Value), OnlyL (loadCellsFrom a i n acc)
  | 0, i, acc => trivial
  | n + 1, i, acc => by
    unfold loadCellsFrom
    exact OnlyL.bind (OnlyL.load _) fun v => OnlyL.from a n (i + 1) _
theorem OnlyL.sure (v : Value) : OnlyL (Instr.sureAddr v) := by
  unfold Instr.sureAddr
  split <;> trivial
theorem OnlyL.loadAt (t : TypeId) (v : Value) : OnlyL (Instr.loadAt t v) := by
  unfold Instr.loadAt
  refine OnlyL.bind (OnlyL.sure v) fun a => ?_
  unfold loadVar isAgg
  refine OnlyL.bind (OnlyL.bind (OnlyL.underlying t) fun d => ?_) fun c => ?_
  · split <;> trivial
  · split
    · exact OnlyL.bind (OnlyL.sizeOf t) fun n => OnlyL.bind (OnlyL.from a n 0 #[]) fun _ => trivial
    · exact OnlyL.load a
end
end Go.Eng
end
section
/-
  THE ENGINE, 23: what is read stays, behind a block that is made.
-/
set_option linter.unusedSimpArgs false
set_option linter.unusedVariables false
namespace Go.Eng
section
variable {P : Program} {lo : List Nat} {G : List (Nat × (List Value → PT))} {V : Value → List Value → PT} {fr : Hp} {ops : Array Oper}
theorem OnlyL.forList {α β : Type} {f : α → β → Sem (ForInStep β)} (hf : ∀ a b, OnlyL (f a b)) : ∀ (l : List α) (b : β), OnlyL (forIn l b f)
  | [], b => by rw [List.forIn_nil]; trivial
  | x :: l, b => by
    rw [List.forIn_cons]
    refine OnlyL.bind (hf x b) fun r => ?_
    cases r with
    | done b => trivial
    | yield b => exact OnlyL.forList hf l b
theorem OnlyL.forArr {α β : Type} {f : α → β → Sem (ForInStep β)} (hf : ∀ a b, OnlyL (f a b)) (xs : Array α) (b : β) : OnlyL (forIn xs b f) := by
  rw [← Array.forIn_toList]
  exact OnlyL.forList hf _ b
theorem OnlyL.bytesToString (v : Value) : OnlyL (Conv.bytesToString v) := by
  unfold Conv.bytesToString
  split
  · trivial
  · refine OnlyL.bind (OnlyL.from _ _ _ _) fun arr => ?_
    refine OnlyL.bind (OnlyL.forArr (fun c s => ?_) _ _) fun s => trivial
    split <;> trivial
  · trivial
theorem conv_ext {s t e : TypeId} (hus : P.underlying s = some (.slice e)) (hue : P.underlying e = some (.int .u8)) (hut : P.underlying t = some .string) {v u : Value} {w w2 w1 : World} (hx : ∀ k, k < w.heap.size → w2.heap[k]? = w.heap[k]?) (hr : (convert s t v).run P w = .ok u w1) : (convert s t v).run P w2 = .ok u w2 := by
  have key : ∀ (w : World), (convert s t v).run P w = (match v with | .int _ n => Conv.intToString n | .string b => (pure (.string b) : Sem Value) | x => Conv.bytesToString x).run P w := by
    intro w
    cases v <;> simp [convert, run_underlying hus, run_underlying hut, run_underlying hue]
  rw [key] at hr ⊢
  have hO : OnlyL (match v with | .int _ n => Conv.intToString n | .string b => (pure (.string b) : Sem Value) | x => Conv.bytesToString x) := by
    split
    · unfold Conv.intToString
      trivial
    · trivial
    · exact OnlyL.bytesToString _
  exact hO.run hx hr
theorem read_ext {ox : Oper} (hrd : isRead P ox.op = true) {a : Act} {v : Value} {w w2 : World} (hx : ∀ k, k < w.heap.size → w2.heap[k]? = w.heap[k]?) (hr : (execOp a.eval ox).run P w = .ok (.value v) w) : (execOp a.eval ox).run P w2 = .ok (.value v) w2 := by
  by_cases hl : isLoad ox.op = true
  · have : ∃ t ad, ox.op = .load t ad := by
      cases hop : ox.op <;> rw [hop] at hl <;> first | exact ⟨_, _, rfl⟩ | exact absurd hl Bool.false_ne_true
    obtain ⟨t, ad, hop⟩ := this
    unfold execOp at hr ⊢
    rw [hop] at hr ⊢
    simp only [Sem.run_bind] at hr ⊢
    cases he : (Instr.loadAt t (a.eval ad)).run P w with
    | ok v3 w3 =>
      rw [he] at hr
      simp at hr
      rw [(OnlyL.loadAt t (a.eval ad)).run hx he, ← hr.1]
      simp
    | halt y w3 => rw [he] at hr; simp at hr
  · have hc : isConv P ox.op = true := by unfold isRead at hrd; simpa [hl] using hrd
    obtain ⟨s, t, y, e, hop, hus, hue, hut⟩ := isConv_spec hc
    unfold execOp at hr ⊢
    rw [hop] at hr ⊢
    simp only [Sem.run_bind] at hr ⊢
    cases he : (convert s t (a.eval y)).run P w with
    | ok v3 w3 =>
      rw [he] at hr
      simp at hr
      rw [conv_ext hus hue hut hx he, ← hr.1]
      simp
    | halt y w3 => rw [he] at hr; simp at hr
theorem Live.made {x : Nat} {a : Act} {w : World} (hl : Live P ops x a w) (o : Obj) (n : Nat) : Live P ops x a { w with heap := w.heap.push o, drawn := n } :=
  hl.push (g := fun _ => 0) (A := ⟨0, []⟩) o n fun ox _ hrd v hv => read_ext hrd (fun k hk => by show (w.heap.push o)[k]? = _; rw [Array.getElem?_push, if_neg (by omega)]) hv
end
end Go.Eng
end
section
/-
  THE ENGINE, 24: a region whose order is drawn, in which blocks may be made early, whole.
-/
set_option linter.unusedSimpArgs false
set_option linter.unusedVariables false
namespace Go.Eng
section
variable {P : Program} {lo : List Nat} {G : List (Nat × (List Value → PT))} {V : Value → List Value → PT} {fr : Hp} {ops : Array Oper}

/-- A block that has been made, and waits. -/
def Early (P : Program) (ops : Array Oper) (fr fr' : Hp) (a : Act) (j b : Nat) : Prop :=
  ∃ o obj vf, ops[j]? = some o ∧ AllocAt P o a obj vf ∧ fr' b = some obj ∧ fr b = none ∧ a.put o.dst (vf b) = a
theorem AllocAt.put {o : Oper} {a : Act} {obj : Obj} {vf : Nat → Value} (hs : ∀ cs b, o.op ≠ .select cs b) {d : Option Tmp} {v : Value} (h : ∀ e, d = some e → e ∉ o.looksAt ops) (k : AllocAt P o a obj vf) : AllocAt P o (a.put d v) obj vf := by
  intro w
  obtain ⟨n, hn⟩ := k w
  exact ⟨n, by rw [execOp_put o hs a d v h]; exact hn⟩
theorem Early.put {fr' : Hp} {a : Act} {i j b : Nat} {oi : Oper} (hsel : ∀ (j : Nat) (o : Oper) cs b, ops[j]? = some o → o.op ≠ .select cs b) (hi : ops[i]? = some oi) (hij : Ind ops i j) {v : Value} (h : Early P ops fr fr' a j b) : Early P ops fr fr' (a.put oi.dst v) j b := by
  obtain ⟨o, obj, vf, h1, h2, h3, h4, h5⟩ := h
  refine ⟨o, obj, vf, h1, h2.put (hsel j o · · h1) (fun d hd => (hij oi o hi h1 d hd).1), h3, h4, ?_⟩
  rw [Act.put_comm a v (vf b) (fun d hd => (hij oi o hi h1 d hd).2), h5]
theorem AllocAt.vals {o : Oper} {a : Act} {obj obj' : Obj} {vf vf' : Nat → Value} (w0 : World) (h : AllocAt P o a obj vf) (k : AllocAt P o a obj' vf') (b : Nat) : obj = obj' ∧ vf b = vf' b := by
  have := h.same k { w0 with heap := Array.replicate b obj }
  simpa using this
theorem AllocAt.new {o : Oper} {a : Act} {obj : Obj} {vf : Nat → Value} (h : AllocAt P o a obj vf) (w : World) : ∃ n, (execOp a.eval o).run P w = .ok (.value (vf w.heap.size)) { w with heap := w.heap.push obj, drawn := n } ∧ New w { w with heap := w.heap.push obj, drawn := n } obj := by
  obtain ⟨n, hn⟩ := h w
  exact ⟨n, hn, New.push w obj n⟩

/-- What the region denotes from here on, and what waits. -/
def DS (P : Program) (lo : List Nat) (G : List (Nat × (List Value → PT))) (V : Value → List Value → PT) (ops : Array Oper) (tab : List (List Nat)) (lt : List Nat) (K : KS) (fr : Hp) (g0 : Nat → Nat) (L0 : List LE) (a0 : Act) (w0 : World)
    (l D : List Nat) (E : List (Nat × Nat)) (a : Act) (w : World) : Prop :=
  ∃ fr' g A L h done, HO fr' g L h w ∧ FO g A a ∧ Tr (opWrites ops.toList) g0 L0 a0 w0 g L a w ∧ (∀ b o, fr b = some o → fr' b = some o) ∧ (∀ x ∈ D, x ∈ done) ∧ (∀ x ∈ D, Live P ops x a w) ∧
    (∀ e ∈ E, Early P ops fr fr' a e.1 e.2) ∧ (E.map (·.2)).Nodup ∧ denL P lo G V ops tab lt l done A L h K
section
variable {tab : List (List Nat)} {lt : List Nat} {K : KS} {g0 : Nat → Nat} {L0 : List LE} {a0 : Act} {w0 : World}
theorem preAll_spec {l : List Nat} {A : Env} : ∀ {lt : List Nat} {p : Prop}, preAll P ops tab l A lt p → p ∧ ∀ j ∈ lt, j ∈ l → (∀ x ∈ (tab[j]?).getD [], x ∉ l) → ∃ o d q, ops[j]? = some o ∧ o.dst = some d ∧ isUnk (getE A d) = true ∧ lateD P o.op A q
  | [], p, h => ⟨h, fun j hj => (by cases hj)⟩
  | j :: lt, p, h => by
    unfold preAll at h
    cases hc : (memN j l && ((tab[j]?).getD []).all (fun x => !memN x l)) with
    | true =>
      rw [hc] at h
      dsimp only at h
      cases ho : ops[j]? with
      | none => rw [ho] at h; exact h.elim
      | some o =>
        rw [ho] at h
        dsimp only at h
        cases hd : o.dst with
        | none => rw [hd] at h; exact h.elim
        | some d =>
          rw [hd] at h
          dsimp only at h
          obtain ⟨hu, h⟩ := grd_spec h
          have hp : preAll P ops tab l A lt p := lateD_holds h
          obtain ⟨h1, h2⟩ := preAll_spec hp
          refine ⟨h1, fun k hk hkl hka => ?_⟩
          rcases List.mem_cons.1 hk with rfl | hk
          · exact ⟨o, d, _, ho, hd, hu, h⟩
          · exact h2 k hk hkl hka
    | false =>
      rw [hc] at h
      obtain ⟨h1, h2⟩ := preAll_spec (lt := lt) h
      refine ⟨h1, fun k hk hkl hka => ?_⟩
      rcases List.mem_cons.1 hk with rfl | hk
      · exfalso
        have : (memN k l && ((tab[k]?).getD []).all (fun x => !memN x l)) = true := by
          rw [Bool.and_eq_true]
          refine ⟨memN_iff.2 hkl, List.all_eq_true.2 fun x hx => ?_⟩
          cases hm : memN x l with
          | false => rfl
          | true => exact absurd (memN_iff.1 hm) (hka x hx)
        rw [this] at hc; cases hc
      · exact h2 k hk hkl hka
where
  lateD_holds {o : Op} {A : Env} {p : Prop} (h : lateD P o A p) : p := by
    unfold lateD at h
    split at h
    · rename_i t n ps
      unfold bsD at h
      split at h
      · obtain ⟨_, h⟩ := grd_spec h
        split at h
        · obtain ⟨_, h⟩ := grd_spec h
          exact fill_holds h
        · exact h.elim
      · exact h.elim
    · unfold mkD at h
      repeat' split at h
      all_goals first | exact h.elim | skip
      obtain ⟨_, h⟩ := grd_spec h
      exact h.2
    · split at h
      · exact h
      · exact h.elim
    · exact h.elim
  fill_holds {e size : Nat} {p : Prop} : ∀ {ps : List (Nat × AV)} {cs : List AV}, fillP P e size ps cs (fun cs => getAll cs (fun _ => p)) → p
    | [], cs, h => (getAll_spec h).elim fun _ h => h.2.2.2
    | (i, x) :: ps, cs, h => by
      unfold fillP at h
      unfold cellsV at h
      repeat' split at h
      all_goals first | exact h.elim | exact fill_holds (grd_spec h).2 | skip
      all_goals exact fill_holds (grd_spec (stOk_spec h).2).2

/-- What only reads comes. -/
theorem adv_quiet (hG : GOk P G) (hV : VOk P V) (hsel : ∀ (j : Nat) (o : Oper) cs b, ops[j]? = some o → o.op ≠ .select cs b) (hown : ∀ (x : Nat) (o : Oper), ops[x]? = some o → quietO P o = true → ∀ d, o.dst = some d → d ∉ o.looksAt ops)
    {x : Nat} {o : Oper} (ho : ops[x]? = some o) (hq : quietO P o = true) {l D : List Nat} {E : List (Nat × Nat)} {a : Act} {w : World} (hD : ∀ y ∈ D, Ind ops x y) (hE : ∀ e ∈ E, Ind ops x e.1) (h : DS P lo G V ops tab lt K fr g0 L0 a0 w0 (x :: l) D E a w) :
    ∃ v, Yat P ops o v a w ∧ DS P lo G V ops tab lt K fr g0 L0 a0 w0 l (D ++ [x]) E (a.put o.dst v) w := by
  obtain ⟨fr', g, A, L, h, done, H, F, T, hs, hDd, hl, he, hnd, hk⟩ := h
  unfold denL at hk
  rw [ho] at hk
  dsimp only at hk
  rw [hq] at hk
  dsimp only at hk
  have hmem : o ∈ ops.toList := by rw [← Array.getElem?_toList] at ho; exact List.mem_of_getElem? ho
  obtain ⟨v, hy, hfl, g1, A1, L1, h1, F1, H1, T1, hk1⟩ := quiet_step hG hV F H hq hk
  refine ⟨v, hy, fr', g1, A1, L1, h1, done ++ [x], H1, F1, T.trans (T1.mono (dW_sub hmem)), hs, fun y hy => ?_, fun y hy => ?_, fun e hee => Early.put hsel ho (hE e hee) (he e hee), hnd, hk1⟩
  · rcases List.mem_append.1 hy with hy | hy
    · exact List.mem_append_left _ (hDd y hy)
    · exact List.mem_append_right _ hy
  · rcases List.mem_append.1 hy with hy | hy
    · exact Live.put hsel ho (hD y hy) (hl y hy)
    · simp only [List.mem_singleton] at hy
      subst hy
      have ho' := hown y o ho hq
      exact ⟨o, v, ho, put_put _ _ _ _, (Yat.put (hsel y o · · ho) ho').2 (by assumption), fun e w' => (Yat.put (hsel y o · · ho) ho').2 (hfl e w')⟩
theorem snd_inj : ∀ {E : List (Nat × Nat)}, (E.map (·.2)).Nodup → ∀ {e e' : Nat × Nat}, e ∈ E → e' ∈ E → e.2 = e'.2 → e = e'
  | [], _, _, _, h, _, _ => by cases h
  | x :: E, hn, e, e', h, h', q => by
    rw [List.map_cons, List.nodup_cons] at hn
    rcases List.mem_cons.1 h with h1 | h1
    · rcases List.mem_cons.1 h' with h2 | h2
      · rw [h1, h2]
      · exact absurd (List.mem_map_of_mem (f := fun x : Nat × Nat => x.2) h2) (by rw [← q, h1]; exact hn.1)
    · rcases List.mem_cons.1 h' with h2 | h2
      · exact absurd (List.mem_map_of_mem (f := fun x : Nat × Nat => x.2) h1) (by rw [q, h2]; exact hn.1)
      · exact snd_inj hn.2 h1 h2 q
/-- A block that waits comes out. -/
theorem adv_pub {j b : Nat} {o : Oper} (ho : ops[j]? = some o) (hq : quietO P o = false) (hlate : isLate lo o = true) {l D : List Nat} {E : List (Nat × Nat)} {a : Act} {w : World} (hj : (j, b) ∈ E) (hD : ∀ x ∈ D, notAnc tab j x = true) (h : DS P lo G V ops tab lt K fr g0 L0 a0 w0 (j :: l) D E a w) :
    DS P lo G V ops tab lt K fr g0 L0 a0 w0 l D (E.filter fun e => e.1 != j) a w := by
  obtain ⟨fr', g, A, L, h, done, H, F, T, hs, hDd, hl, he, hnd, hk⟩ := h
  unfold denL at hk
  rw [ho] at hk
  dsimp only at hk
  rw [hq] at hk
  dsimp only at hk
  have hk := (preAll_spec hk).1
  obtain ⟨obj', vf', hal', hpub⟩ := late_pub F hlate hk
  obtain ⟨o2, obj, vf, ho2, hal, hb, hfb, hput⟩ := he _ hj
  rw [ho] at ho2
  cases ho2
  obtain ⟨rfl, hv⟩ := hal.vals w0 hal' b
  have hnb : h b = none := (H.dj b).resolve_right (by rw [hb]; simp)
  obtain ⟨x, hx, hk⟩ := hpub b hnb
  obtain ⟨_, hk⟩ := reAll_spec (a := a) (g := g) (w := { w with heap := w.heap }) (A := putD A o.dst x) (by rw [← hput, hv]; exact F.put o.dst hx) (H.publish hb).hh hk
  refine ⟨_, g, _, _, _, _, ((H.freeze (keepLs (keepOf o A))).publish hb).thaw L, by rw [← hput, hv]; exact F.put o.dst hx, T.trans ⟨Wr.refl w, Kp.thaw H (Kp.refl _), fun _ _ => rfl, fun _ _ => rfl, rfl⟩, fun k ob hk => ?_, fun y hy => ?_, hl, fun e hee => ?_, ?_, hk⟩
  · have hkb : k ≠ b := fun q => by rw [q, hfb] at hk; cases hk
    simp only [if_neg hkb]
    exact hs k ob hk
  · exact List.mem_filter.2 ⟨hDd y hy, hD y hy⟩
  · obtain ⟨h1, h2⟩ := List.mem_filter.1 hee
    have hne : e.2 ≠ b := fun q => by
      have := snd_inj hnd h1 hj q
      rw [this] at h2; simp at h2
    obtain ⟨o3, obj3, vf3, q1, q2, q3, q4, q5⟩ := he e h1
    exact ⟨o3, obj3, vf3, q1, q2, by simp only [if_neg hne]; exact q3, q4, q5⟩
  · exact hnd.sublist (List.filter_sublist.map _)
/-- A block is made early. -/
theorem early_step {Q : Exit → Act → World → Prop} (hsel : ∀ (j : Nat) (o : Oper) cs b, ops[j]? = some o → o.op ≠ .select cs b) {i hd : Nat} {o od : Oper} {rest : List Nat} (hod : ops[hd]? = some od) (hqd : quietO P od = false) (ho : ops[i]? = some o) (hi : i ∈ lt) (hil : i ∈ hd :: rest) (hia : ∀ x ∈ (tab[i]?).getD [], x ∉ hd :: rest) {D : List Nat} {E : List (Nat × Nat)} {a : Act} {w : World}
    (hD : ∀ x ∈ D, Ind ops i x) (hE : ∀ e ∈ E, Ind ops i e.1) (hgd : o.guard = none) (hself : ∀ d, o.dst = some d → d ∉ o.looksAt ops) (h : DS P lo G V ops tab lt K fr g0 L0 a0 w0 (hd :: rest) D E a w) :
    ∃ b, eff P ops Q o (fun a' w' => (∀ y ∈ D, Chk P ops y a' w') ∧ DS P lo G V ops tab lt K fr g0 L0 a0 w0 (hd :: rest) D (E ++ [(i, b)]) a' w') a w := by
  obtain ⟨fr', g, A, L, h, done, H, F, T, hs, hDd, hl, he, hnd, hk⟩ := h
  have hk0 := hk
  unfold denL at hk
  rw [hod] at hk
  dsimp only at hk
  rw [hqd] at hk
  dsimp only at hk
  obtain ⟨o2, d, q, ho2, hdst, hunk, hlate⟩ := (preAll_spec hk).2 i hi hil hia
  rw [ho] at ho2
  cases ho2
  obtain ⟨⟨obj, vf, hal⟩, _⟩ := late_run F hlate
  obtain ⟨n, hrun, hnew⟩ := hal.new w
  refine ⟨w.heap.size, ?_⟩
  have hmem : o ∈ ops.toList := by rw [← Array.getElem?_toList] at ho; exact List.mem_of_getElem? ho
  have hw : Region.wanted o (yielded ops a.tmps) = true := by simp [Region.wanted, hgd]
  unfold eff
  rw [if_pos hw]
  unfold Oper.wp
  rw [hrun]
  have hlive : ∀ x ∈ D, Live P ops x (a.put o.dst (vf w.heap.size)) { w with heap := w.heap.push obj, drawn := n } := fun x hx => Live.put hsel ho (hD x hx) ((hl x hx).made obj n)
  refine ⟨fun y hy => (hlive y hy).chk, fr'.new w.heap.size obj, g, A, L, h, done, H.early hnew, by rw [hdst]; exact F.putUnk hunk _, T.trans ⟨hnew.wr, Kp.refl L, fun _ _ => rfl, fun k hk => put_un a o.dst _ k (dW_sub hmem k hk), put_size a o.dst _⟩, fun b ob hb => ?_, hDd, hlive, fun e hee => ?_, ?_, hk0⟩
  · unfold Hp.new
    by_cases hbs : b = w.heap.size
    · have := H.none_f (k := b) (by omega)
      rw [hs b ob hb] at this; cases this
    · rw [if_neg hbs]; exact hs b ob hb
  · rcases List.mem_append.1 hee with hee | hee
    · obtain ⟨o3, obj3, vf3, q1, q2, q3, q4, q5⟩ := Early.put (v := vf w.heap.size) hsel ho (hE e hee) (he e hee)
      refine ⟨o3, obj3, vf3, q1, q2, ?_, q4, q5⟩
      unfold Hp.new
      have : e.2 ≠ w.heap.size := fun q => by have := H.none_f (k := e.2) (by omega); rw [q3] at this; cases this
      rw [if_neg this]; exact q3
    · simp only [List.mem_singleton] at hee
      subst hee
      refine ⟨o, obj, vf, ho, ?_, by show (fr'.new w.heap.size obj) w.heap.size = _; unfold Hp.new; rw [if_pos rfl], ?_, put_put _ _ _ _⟩
      · exact AllocAt.put (ops := ops) (hsel i o · · ho) hself hal
      · cases hf : fr w.heap.size with
        | none => rfl
        | some x => have := H.none_f (k := w.heap.size) (Nat.le_refl _); rw [hs _ _ hf] at this; cases this
  · rw [List.map_append, List.map_singleton, List.nodup_append]
    refine ⟨hnd, by simp, fun x hx y hy => ?_⟩
    simp only [List.mem_singleton] at hy
    subst hy
    obtain ⟨e, hee, rfl⟩ := List.mem_map.1 hx
    obtain ⟨o3, obj3, vf3, q1, q2, q3, q4, q5⟩ := he e hee
    intro q
    have := H.none_f (k := e.2) (by rw [q]; exact Nat.le_refl _)
    rw [q3] at this; cases this
/-- What acts comes, in its turn. -/
theorem eff_step {Q : Exit → Act → World → Prop} (hG : GOk P G) (hV : VOk P V) (hsel : ∀ (j : Nat) (o : Oper) cs b, ops[j]? = some o → o.op ≠ .select cs b) {i : Nat} {o : Oper} {rest : List Nat} (ho : ops[i]? = some o) (hq : quietO P o = false) {D : List Nat} {E : List (Nat × Nat)} {a : Act} {w : World}
    (hDn : ∀ x ∈ D, notAnc tab i x = true) (hD : ∀ x ∈ D, Ind ops i x) (hE : ∀ e ∈ E, Ind ops i e.1) (h : DS P lo G V ops tab lt K fr g0 L0 a0 w0 (i :: rest) D E a w) :
    eff P ops Q o (fun a' w' => (∀ y ∈ D, Chk P ops y a' w') ∧ DS P lo G V ops tab lt K fr g0 L0 a0 w0 rest D E a' w') a w := by
  obtain ⟨fr', g, A, L, h, done, H, F, T, hs, hDd, hl, he, hnd, hk⟩ := h
  unfold denL at hk
  rw [ho] at hk
  dsimp only at hk
  rw [hq] at hk
  dsimp only at hk
  have hk := (preAll_spec hk).1
  have hmem : o ∈ ops.toList := by rw [← Array.getElem?_toList] at ho; exact List.mem_of_getElem? ho
  have hWo : ∀ k, memN k (opWrites ops.toList) = false → memN k (dW o.dst) = false := dW_sub hmem
  have hst := step_ok (Q := Q) hG hV (H.freeze (keepLs (keepOf o A))) F hk
  have next : ∀ a' w', Rel (dW o.dst) fr' g (freezeL (keepLs (keepOf o A)) L) a w (fun A' L' h' => reAll P ops.toList L (dsts o.dst ++ keepOf o A) A' h' (done.filter (notAnc tab i)) (denL P lo G V ops tab lt rest (done.filter (notAnc tab i)) A' (thaw L L') h' K)) a' w' →
      (∀ y ∈ D, Chk P ops y a' w') ∧ DS P lo G V ops tab lt K fr g0 L0 a0 w0 rest D E a' w' := by
    rintro a' w' ⟨g1, A1, L1, h1, F1, H1, T1, hk1⟩
    obtain ⟨hag, hk1⟩ := reAll_spec F1 H1.hh hk1
    have hl' : ∀ x ∈ D, Live P ops x a' w' := fun x hx => Live.past hsel ho (hD x hx) F H F1 H1 T1 (hl x hx) (hag x (List.mem_filter.2 ⟨hDd x hx, hDn x hx⟩))
    obtain ⟨u, hu⟩ := put_of T1.un T1.sz (F1.df.trans F.df.symm)
    refine ⟨fun y hy => (hl' y hy).chk, fr', g1, A1, _, h1, _, H1.thaw L, F1, T.trans ⟨T1.wr, Kp.thaw H T1.kp, fun k hk => T1.gg k (hWo k hk), fun k hk => T1.un k (hWo k hk), T1.sz⟩, hs, fun x hx => List.mem_filter.2 ⟨hDd x hx, hDn x hx⟩, hl', fun e hee => ?_, hnd, hk1⟩
    rw [hu]
    exact Early.put hsel ho (hE e hee) (he e hee)
  unfold eff
  split
  · rename_i hw
    rw [if_pos hw] at hst
    exact Oper.wp_mono next hst
  · rename_i hw
    rw [if_neg hw] at hst
    exact next _ _ hst
end
end
end Go.Eng
end
