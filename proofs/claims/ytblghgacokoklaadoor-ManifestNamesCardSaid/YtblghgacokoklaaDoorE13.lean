/-
  THE ENGINE, 14: one operation is what it denotes; lists of operations.
-/
import Derived.Test.YtblghgacokoklaaDoorE12
set_option linter.unusedSimpArgs false
set_option linter.unusedVariables false
namespace Go.Eng

/-- What stays between two points of a call: W: slots (and boxes) that may have been written. -/
structure Tr (W : List Nat) (g : Nat → Nat) (L : List LE) (a : Act) (w : World) (g' : Nat → Nat) (L' : List LE) (a' : Act) (w' : World) : Prop where
  wr : Wr w w'
  kp : Kp L L'
  gg : ∀ l, memN l W = false → g' l = g l
  un : ∀ i, memN i W = false → a'.tmps.getD i undef = a.tmps.getD i undef
  sz : a'.tmps.size = a.tmps.size
theorem Tr.refl (W : List Nat) (g : Nat → Nat) (L : List LE) (a : Act) (w : World) : Tr W g L a w g L a w := ⟨Wr.refl w, Kp.refl L, fun _ _ => rfl, fun _ _ => rfl, rfl⟩
theorem Tr.trans {W : List Nat} {g g1 g2 : Nat → Nat} {L L1 L2 : List LE} {a a1 a2 : Act} {w w1 w2 : World} (h : Tr W g L a w g1 L1 a1 w1) (k : Tr W g1 L1 a1 w1 g2 L2 a2 w2) : Tr W g L a w g2 L2 a2 w2 :=
  ⟨h.wr.trans k.wr, h.kp.trans k.kp, fun l hl => (k.gg l hl).trans (h.gg l hl), fun i hi => (k.un i hi).trans (h.un i hi), k.sz.trans h.sz⟩
theorem Tr.mono {W W' : List Nat} {g g1 : Nat → Nat} {L L1 : List LE} {a a1 : Act} {w w1 : World} (h : Tr W g L a w g1 L1 a1 w1) (hW : ∀ i, memN i W' = false → memN i W = false) : Tr W' g L a w g1 L1 a1 w1 :=
  ⟨h.wr, h.kp, fun l hl => h.gg l (hW l hl), fun i hi => h.un i (hW i hi), h.sz⟩
def Rel (W : List Nat) (fr : Hp) (g : Nat → Nat) (L : List LE) (a : Act) (w : World) (K : KS) : Act → World → Prop := fun a' w' =>
  ∃ g' A' L' h', FO g' A' a' ∧ HO fr g' L' h' w' ∧ Tr W g L a w g' L' a' w' ∧ K A' L' h'
def dW (d : Option Nat) : List Nat := match d with | some d => [d] | none => []
theorem put_size (a : Act) (d : Option Nat) (v : Value) : (a.put d v).tmps.size = a.tmps.size := by
  cases d with
  | none => rfl
  | some d => show (a.tmps.setIfInBounds d v).size = _; simp
theorem put_un (a : Act) (d : Option Nat) (v : Value) (i : Nat) (hi : memN i (dW d) = false) : (a.put d v).tmps.getD i undef = a.tmps.getD i undef := by
  cases d with
  | none => rfl
  | some d =>
    have hne : d ≠ i := fun e => by subst e; simp [dW, memN] at hi
    show (a.tmps.setIfInBounds d v).getD i undef = _
    simp [Array.getElem?_setIfInBounds_ne hne]
section
variable {P : Program} {lo : List Nat} {G : List (Nat × (List Value → PT))} {V : Value → List Value → PT} {fr : Hp} {g : Nat → Nat} {A : Env} {L : List LE} {h : Hp} {w : World} {a : Act} {o : Oper} {K1 : KS} {Q : Exit → Act → World → Prop}

theorem put_rel (F : FO g A a) {x : AV} {v : Value} {L' : List LE} {h' : Hp} {w' : World} (hx : x.is g v) (H' : HO fr g L' h' w') (hw : Wr w w') (hkp : Kp L L') (hk : K1 (putD A o.dst x) L' h') :
    Rel (dW o.dst) fr g L a w K1 (a.put o.dst v) w' :=
  ⟨g, _, L', h', F.put o.dst hx, H', ⟨hw, hkp, fun _ _ => rfl, fun i hi => put_un a o.dst v i hi, put_size a o.dst v⟩, hk⟩
theorem killA_no (hm : makes o.op = false) : killA lo o.dst o.op A = A := by unfold killA; rw [hm]
theorem fin_out (F : FO g A a) (hm : makes o.op = false) {s : Sem Value} (hrun : (execOp a.eval o).run P w = (s.run P w).andThen fun v w' => .ok (.value v) w')
    (hout : Out fr g L w (s.run P w) fun x L' h' => K1 (putD (killA lo o.dst o.op A) o.dst x) L' h') : o.wp P a w (Rel (dW o.dst) fr g L a w K1) Q := by
  obtain ⟨x, L', h', v, w', hr, hx, H', hw, hkp, hk⟩ := hout
  unfold Oper.wp
  rw [hrun, hr]
  rw [killA_no hm] at hk
  exact put_rel F hx H' hw hkp hk
theorem fin_outN (F : FO g A a) (hm : makes o.op = true) {s : Sem Value} (hrun : (execOp a.eval o).run P w = (s.run P w).andThen fun v w' => .ok (.value v) w')
    (hout : OutN lo fr g L w o.dst (s.run P w) fun x L' h' => K1 (putD (killA lo o.dst o.op A) o.dst x) L' h') : o.wp P a w (Rel (dW o.dst) fr g L a w K1) Q := by
  obtain ⟨x, L', h', v, w', g', hr, hx, H', hw, hkp, hk, hg⟩ := hout
  unfold Oper.wp
  rw [hrun, hr]
  show Rel (dW o.dst) fr g L a w K1 (a.put o.dst v) w'
  rcases hg with ⟨rfl, hno⟩ | ⟨l, b, hd, hl, rfl⟩
  · have hA : killA lo o.dst o.op A = A := by
      unfold killA; rw [hm]
      cases hd : o.dst with
      | none => rfl
      | some d => dsimp only; rw [hno d hd]
    rw [hA] at hk
    exact put_rel F hx H' hw hkp hk
  · have hA : killA lo o.dst o.op A = killE [l] A := by
      unfold killA; rw [hm, hd]; dsimp only; rw [hl]
    rw [hA] at hk
    refine ⟨updG g l b, _, L', h', (F.killA l b).put o.dst hx, H', ⟨hw, hkp, fun l' hl' => ?_, fun i hi => put_un a o.dst v i hi, put_size a o.dst v⟩, hk⟩
    have : l' ≠ l := fun e => by subst e; rw [hd] at hl'; simp [dW, memN] at hl'
    simp [updG, this]
theorem mapEv_step (F : FO g A a) : ∀ (xs : List Operand), inStep g (mapEv A xs) (xs.map a.eval)
  | [] => ⟨rfl, fun i hi => by simp [mapEv] at hi⟩
  | x :: xs => by
    obtain ⟨h1, h2⟩ := mapEv_step F xs
    refine ⟨by simp [mapEv, h1], fun i hi => ?_⟩
    cases i with
    | zero => exact ev_is F x
    | succ i => exact h2 i (by simpa [mapEv] using hi)
theorem partsEv_is (F : FO g A a) : ∀ (xs : List (Nat × Operand)), partsIs g (partsEv A xs) (xs.map fun (i, x) => (i, a.eval x))
  | [] => trivial
  | (i, x) :: xs => ⟨rfl, ev_is F x, partsEv_is F xs⟩
theorem optEv_is (F : FO g A a) (x : Option Operand) : optIs g (optEv A x) (x.map a.eval) := by
  cases x with
  | none => trivial
  | some x => exact ev_is F x
theorem getAll_vals {xs : List AV} {us : List Value} {K : List Value → Prop} (hk : getAll xs K) (hs : inStep g xs us) : K us := by
  obtain ⟨vs, hl, hat, hpl, hK⟩ := getAll_spec hk
  have := lists_eq hpl hs.1 hl hs.2 (hat g)
  rw [this]; exact hK
theorem run_v {s : Sem Value} : ((do pure (Next.value (← s)) : Sem Next).run P w) = (s.run P w).andThen fun v w' => .ok (.value v) w' := by
  simp only [Sem.run_bind, Sem.run_pure]
theorem call_fin (F : FO g A a) (hm : makes o.op = false) {f : Nat} {args : List Value}
    (hrun : (execOp a.eval o).run P w = .ok (.enter f args.toArray) w)
    (hc : Calls P f args.toArray w fun e w' => ∃ v, e = .returned v ∧ Out fr g L w (.ok v w') fun x L' h' => K1 (putD (killA lo o.dst o.op A) o.dst x) L' h') : o.wp P a w (Rel (dW o.dst) fr g L a w K1) Q := by
  unfold Oper.wp
  rw [hrun]
  refine hc.mono ?_
  rintro e w' ⟨v, rfl, x, L', h', v', w1, hr, hx, H', hw, hkp, hk⟩
  simp only [Result.ok.injEq] at hr
  obtain ⟨rfl, rfl⟩ := hr
  rw [killA_no hm] at hk
  exact put_rel F hx H' hw hkp hk
theorem builtin_ok (hG : GOk P G) (H : HO fr g L h w) (F : FO g A a) {b : Builtin} {args : Array Operand} {ts : Array Nat} (ho : o.op = .call { callee := .builtin b, args := args, argTypes := ts })
    (hk : dBuiltin P b ts.toList (mapEv A args.toList) L h fun x L' h' => K1 (putD (killA lo o.dst o.op A) o.dst x) L' h') : o.wp P a w (Rel (dW o.dst) fr g L a w K1) Q := by
  have hm : makes o.op = false := by rw [ho]; rfl
  have hst := mapEv_step F args.toList
  have hres : ∀ (s : Sem Value), (builtin b ts o.type (args.map fun | .const _ => true | _ => false) (args.map a.eval)).run P w = (s.run P w).andThen (fun v w' => .ok (.value v) w') →
      (execOp a.eval o).run P w = (s.run P w).andThen fun v w' => .ok (.value v) w' := by
    intro s hs
    unfold execOp
    rw [ho]
    simp only [resolve, Sem.run_bind, Sem.run_pure, Result.andThen_ok, invoke]
    exact hs
  have hargs : (args.map a.eval) = (args.toList.map a.eval).toArray := by apply Array.ext'; simp
  unfold dBuiltin at hk
  cases b <;> try exact False.elim hk
  case len =>
    dsimp only at hk
    match hts : ts.toList, hxs : args.toList with
    | [t], [x] =>
      rw [hts, hxs] at hk
      refine fin_out (lo := lo) F hm (hres (Builtin.len_ #[t] o.type #[a.eval x]) ?_) (len_ok H hk (ev_is F x))
      rw [hargs, hxs, ← Array.toArray_toList (xs := ts), hts]
      simp only [builtin]
      exact run_v
    | [], _ => rw [hts] at hk; exact False.elim hk
    | _ :: _ :: _, _ => rw [hts] at hk; exact False.elim hk
    | [t], [] => rw [hts, hxs] at hk; exact False.elim hk
    | [t], _ :: _ :: _ => rw [hts, hxs] at hk; exact False.elim hk
  case cap =>
    dsimp only at hk
    match hts : ts.toList, hxs : args.toList with
    | [t], [x] =>
      rw [hts, hxs] at hk
      refine fin_out (lo := lo) F hm (hres (Builtin.cap_ #[t] o.type #[a.eval x]) ?_) (cap_ok H hk (ev_is F x))
      rw [hargs, hxs, ← Array.toArray_toList (xs := ts), hts]
      simp only [builtin]
      exact run_v
    | [], _ => rw [hts] at hk; exact False.elim hk
    | _ :: _ :: _, _ => rw [hts] at hk; exact False.elim hk
    | [t], [] => rw [hts, hxs] at hk; exact False.elim hk
    | [t], _ :: _ :: _ => rw [hts, hxs] at hk; exact False.elim hk
  case append =>
    dsimp only at hk
    match hts : ts.toList, hxs : args.toList with
    | [t, u], [x, y] =>
      rw [hts, hxs] at hk
      simp only [mapEv] at hk
      have hk' : (∀ k, under P u ≠ .int k) ∧ hasUnder P u = true ∧ dAppend P t (ev A x) (ev A y) L h (fun x L' h' => K1 (putD (killA lo o.dst o.op A) o.dst x) L' h') := by
        cases hu : under P u <;> rw [hu] at hk <;> first
          | exact False.elim hk
          | (have hq := grd_spec hk; exact ⟨fun k e => (by cases e), hq.1, hq.2⟩)
      obtain ⟨hni, hhu, hk⟩ := hk'
      refine fin_out (lo := lo) F hm (hres (Builtin.append_ #[t, u] o.type #[a.eval x, a.eval y]) ?_) (append_ok H hni hhu hk (ev_is F x) (ev_is F y))
      rw [hargs, hxs, ← Array.toArray_toList (xs := ts), hts]
      simp only [builtin]
      exact run_v
    | [], _ => rw [hts] at hk; exact False.elim hk
    | [_], _ => rw [hts] at hk; exact False.elim hk
    | _ :: _ :: _ :: _, _ => rw [hts] at hk; exact False.elim hk
    | [_, _], [] => rw [hts, hxs] at hk; exact False.elim hk
    | [_, _], [_] => rw [hts, hxs] at hk; exact False.elim hk
    | [_, _], _ :: _ :: _ :: _ => rw [hts, hxs] at hk; exact False.elim hk
  case copy =>
    dsimp only at hk
    match hts : ts.toList, hxs : args.toList with
    | [t, u], [x, y] =>
      rw [hts, hxs] at hk
      simp only [mapEv] at hk
      refine fin_out (lo := lo) F hm (hres (Builtin.copy_ #[t, u] o.type #[a.eval x, a.eval y]) ?_) (copy_ok H hk (ev_is F x) (ev_is F y))
      rw [hargs, hxs, ← Array.toArray_toList (xs := ts), hts]
      simp only [builtin]
      exact run_v
    | [], _ => rw [hts] at hk; exact False.elim hk
    | [_], _ => rw [hts] at hk; exact False.elim hk
    | _ :: _ :: _ :: _, _ => rw [hts] at hk; exact False.elim hk
    | [_, _], [] => rw [hts, hxs] at hk; exact False.elim hk
    | [_, _], [_] => rw [hts, hxs] at hk; exact False.elim hk
    | [_, _], _ :: _ :: _ :: _ => rw [hts, hxs] at hk; exact False.elim hk
  case min =>
    dsimp only at hk
    match hxs : args.toList with
    | [] => rw [hxs] at hk; exact False.elim hk
    | x :: xs =>
      rw [hxs] at hk hst
      have hst' : inStep g (mapEv A xs) (xs.map a.eval) := mapEv_step F xs
      refine fin_out (lo := lo) F hm (hres (Builtin.min_ ts o.type (args.map a.eval)) ?_) ?_
      · simp only [builtin]; exact run_v
      · have := minmax_ok (P := P) (mx := false) hk (ev_is F x) hst' H
        simp only [Bool.false_eq_true, if_false] at this
        unfold Builtin.min_
        rw [hargs, hxs]
        exact this
  case max =>
    dsimp only at hk
    match hxs : args.toList with
    | [] => rw [hxs] at hk; exact False.elim hk
    | x :: xs =>
      rw [hxs] at hk hst
      have hst' : inStep g (mapEv A xs) (xs.map a.eval) := mapEv_step F xs
      refine fin_out (lo := lo) F hm (hres (Builtin.max_ ts o.type (args.map a.eval)) ?_) ?_
      · simp only [builtin]; exact run_v
      · have := minmax_ok (P := P) (mx := true) hk (ev_is F x) hst' H
        simp only [if_true] at this
        unfold Builtin.max_
        rw [hargs, hxs]
        exact this
theorem dcall_ok (hG : GOk P G) (hV : VOk P V) (H : HO fr g L h w) (F : FO g A a) {f : Operand} {args : Array Operand} {ts : Array Nat} (ho : o.op = .call { callee := .value f, args := args, argTypes := ts })
    (hk : dCall P G V (ev A f) (args.toList.map a.eval) o.type L h fun x L' h' => K1 (putD (killA lo o.dst o.op A) o.dst x) L' h') : o.wp P a w (Rel (dW o.dst) fr g L a w K1) Q := by
  have hm : makes o.op = false := by rw [ho]; rfl
  have hargs : (args.map a.eval) = (args.toList.map a.eval).toArray := by apply Array.ext'; simp
  have hf := ev_is F f
  have run : ∀ (fn : Nat) (first cap : Array Value), a.eval f = .func (.func fn) first cap → Enters P fn → (execOp a.eval o).run P w = .ok (.enter fn (first.toList ++ (args.toList.map a.eval ++ cap.toList)).toArray) w := by
    intro fn first cap he hen
    unfold execOp
    rw [ho]
    simp only [resolve, he, Deferred.ofValue, Sem.run_bind, Sem.run_pure, Result.andThen_ok, invoke]
    rw [run_callFunc hen]
    congr 2
    apply Array.ext'
    simp
  unfold dCall at hk
  cases hfa : ev A f with
  | v fv =>
    rw [hfa] at hk hf
    have hfe : a.eval f = fv := hf
    cases fv with
    | func fn first cap =>
      cases fn with
      | func gn =>
        obtain ⟨first⟩ := first
        obtain ⟨cap⟩ := cap
        dsimp only at hk
        cases hl : lkG G gn with
        | none => rw [hl] at hk; exact False.elim hk
        | some T =>
          rw [hl] at hk
          dsimp only at hk
          obtain ⟨hen, hI⟩ := hG gn T hl
          exact call_fin F hm (run gn _ _ hfe hen) (impl_out H hk (hI _))
      | _ => exact False.elim hk
    | _ => exact False.elim hk
  | f fv =>
    rw [hfa] at hk hf
    have hfe : a.eval f = fv := hf
    obtain ⟨gn, first, cap, hfv, hen, T, hI, hT⟩ := hV _ _ _ _ hk
    exact call_fin F hm (run gn _ _ (hfe.trans hfv) hen) (impl_out H hT hI)
  | _ => rw [hfa] at hk; exact False.elim hk
/-- ONE OPERATION IS WHAT IT DENOTES. -/
theorem op_ok (hG : GOk P G) (hV : VOk P V) (H : HO fr g L h w) (F : FO g A a)
    (hk : opD P lo G V o.dst o.type o.op A L h fun x L' h' => K1 (putD (killA lo o.dst o.op A) o.dst x) L' h') : o.wp P a w (Rel (dW o.dst) fr g L a w K1) Q := by
  have exv : ∀ {s : Sem Value}, execOp a.eval o = (do pure (Next.value (← s)) : Sem Next) → (execOp a.eval o).run P w = (s.run P w).andThen fun v w' => .ok (.value v) w' := by
    intro s hs; rw [hs]; exact run_v
  cases ho : o.op with
  | move x =>
    rw [ho] at hk
    have hm : makes o.op = false := by rw [ho]; rfl
    refine fin_out (lo := lo) (s := pure (a.eval x)) F hm (exv (by unfold execOp; rw [ho]; rfl)) ?_
    rw [ho]
    exact Out.here H (by simp) (ev_is F x) hk
  | assign x =>
    rw [ho] at hk
    have hm : makes o.op = false := by rw [ho]; rfl
    refine fin_out (lo := lo) (s := pure (a.eval x)) F hm (exv (by unfold execOp; rw [ho]; rfl)) ?_
    rw [ho]
    exact Out.here H (by simp) (ev_is F x) hk
  | pick c x y =>
    rw [ho] at hk
    have hm : makes o.op = false := by rw [ho]; rfl
    have hc := ev_is F c
    unfold opD at hk
    dsimp only at hk
    cases hca : ev A c with
    | v cv =>
      rw [hca] at hk hc
      have hce : a.eval c = cv := hc
      cases cv with
      | bool b =>
        refine fin_out (lo := lo) (s := pure (if b then a.eval x else a.eval y)) F hm ?_ ?_
        · unfold execOp
          rw [ho]
          simp only [hce, asBool, Sem.run_bind, Sem.run_pure, Result.andThen_ok]
        · rw [ho]
          cases b with
          | true => exact Out.here H (by simp) (ev_is F x) hk
          | false => exact Out.here H (by simp) (ev_is F y) hk
      | _ => exact False.elim hk
    | _ => rw [hca] at hk; exact False.elim hk
  | alloc t =>
    rw [ho] at hk
    exact fin_outN F (by rw [ho]; rfl) (exv (s := Instr.alloc t true (.tuple #[])) (by unfold execOp; rw [ho])) (by rw [ho]; exact alloc_ok H hk)
  | box t x =>
    rw [ho] at hk
    exact fin_outN F (by rw [ho]; rfl) (exv (s := Instr.box t (a.eval x)) (by unfold execOp; rw [ho])) (by rw [ho]; exact box_ok H hk (ev_is F x))
  | build t ps =>
    rw [ho] at hk
    refine fin_out (lo := lo) F (by rw [ho]; rfl) (exv (s := Instr.build t (ps.map fun (i, x) => (i, a.eval x))) (by unfold execOp; rw [ho])) ?_
    rw [ho]
    refine build_ok H hk ?_
    rw [Array.toList_map]; exact partsEv_is F ps.toList
  | buildSlice t n ps =>
    rw [ho] at hk
    refine fin_outN (lo := lo) F (by rw [ho]; rfl) (exv (s := Instr.buildSlice t n (ps.map fun (i, x) => (i, a.eval x))) (by unfold execOp; rw [ho])) ?_
    rw [ho]
    refine buildSlice_ok H hk ?_
    rw [Array.toList_map]; exact partsEv_is F ps.toList
  | load t x =>
    rw [ho] at hk
    exact fin_out (lo := lo) F (by rw [ho]; rfl) (exv (s := Instr.loadAt t (a.eval x)) (by unfold execOp; rw [ho])) (by rw [ho]; exact load_ok H hk (ev_is F x))
  | store t x y =>
    rw [ho] at hk
    have hm : makes o.op = false := by rw [ho]; rfl
    obtain ⟨L', h', w', hr, H', hw, hkp, hk⟩ := store_ok (K := fun z L' h' => K1 (putD (killA lo o.dst (.store t x y) A) o.dst z) L' h') H hk (ev_is F x) (ev_is F y)
    have hrun : (execOp a.eval o).run P w = .ok .skip w' := by
      unfold execOp
      rw [ho]
      simp only [Sem.run_bind, hr, Result.andThen_ok, Sem.run_pure]
    unfold Oper.wp
    rw [hrun]
    rw [← ho, killA_no hm] at hk
    exact put_rel (x := .v undef) F rfl H' hw hkp hk
  | nilCheck x =>
    rw [ho] at hk
    have hm : makes o.op = false := by rw [ho]; rfl
    have hx := ev_is F x
    unfold opD dNil at hk
    dsimp only at hk
    have key : ∀ v : Value, a.eval x = v → (∀ p, v = .pointer p → p ≠ none) → (∃ ad, v = .pointer (some ad)) → (execOp a.eval o).run P w = .ok (.value v) w := by
      rintro v he _ ⟨ad, rfl⟩
      unfold execOp
      rw [ho]
      simp [he]
    cases hxa : ev A x with
    | p b q =>
      rw [hxa] at hk hx
      have he : a.eval x = .pointer (some ⟨b, q, none⟩) := hx
      refine fin_out (lo := lo) (s := pure (.pointer (some ⟨b, q, none⟩))) F hm (by rw [key _ he (fun p e => by cases e; simp) ⟨_, rfl⟩]; simp) ?_
      rw [ho]
      exact Out.here H (x := .p b q) (v := .pointer (some ⟨b, q, none⟩)) (by simp) rfl hk
    | loc l q =>
      rw [hxa] at hk hx
      have he : a.eval x = .pointer (some ⟨g l, q, none⟩) := hx
      refine fin_out (lo := lo) (s := pure (.pointer (some ⟨g l, q, none⟩))) F hm (by rw [key _ he (fun p e => by cases e; simp) ⟨_, rfl⟩]; simp) ?_
      rw [ho]
      exact Out.here H (x := .loc l q) (v := .pointer (some ⟨g l, q, none⟩)) (by simp) rfl hk
    | v xv =>
      rw [hxa] at hk hx
      have he : a.eval x = xv := hx
      cases xv with
      | pointer p =>
        obtain ⟨b, q, rfl, hk⟩ := hk
        refine fin_out (lo := lo) (s := pure (.pointer (some ⟨b, q, none⟩))) F hm (by rw [key _ he (fun p e => by cases e; simp) ⟨_, rfl⟩]; simp) ?_
        rw [ho]
        exact Out.here H (x := .p b q) (v := .pointer (some ⟨b, q, none⟩)) (by simp) rfl hk
      | _ => exact False.elim hk
    | _ => rw [hxa] at hk; exact False.elim hk
  | binOp op t x y yt =>
    rw [ho] at hk
    exact fin_out (lo := lo) F (by rw [ho]; rfl) (exv (s := (do eqGuard op t x y (a.eval x) (a.eval y); binOp op t (a.eval x) (a.eval y))) (by unfold execOp; rw [ho])) (by rw [ho]; exact bin_ok H hk (ev_is F x) (ev_is F y) x y)
  | unOp op t x =>
    rw [ho] at hk
    exact fin_out (lo := lo) F (by rw [ho]; rfl) (exv (s := Op.unary op (a.eval x)) (by unfold execOp; rw [ho])) (by rw [ho]; exact un_ok H hk (ev_is F x))
  | convert s t x =>
    rw [ho] at hk
    exact fin_out (lo := lo) F (by rw [ho]; rfl) (exv (s := convert s t (a.eval x)) (by unfold execOp; rw [ho])) (by rw [ho]; exact conv_ok H hk (ev_is F x))
  | makeSlice t l c =>
    rw [ho] at hk
    exact fin_out (lo := lo) F (by rw [ho]; rfl) (exv (s := Instr.makeSlice t (a.eval l) (a.eval c)) (by unfold execOp; rw [ho])) (by rw [ho]; exact make_ok H hk (ev_is F l) (ev_is F c))
  | slice t x l u m =>
    rw [ho] at hk
    exact fin_out (lo := lo) F (by rw [ho]; rfl) (exv (s := Instr.sliceAt t (a.eval x) (l.map a.eval) (u.map a.eval) (m.map a.eval)) (by unfold execOp; rw [ho])) (by rw [ho]; exact slice_ok H hk (ev_is F x) (optEv_is F l) (optEv_is F u) (optEv_is F m))
  | fieldAddr s x f =>
    rw [ho] at hk
    exact fin_out (lo := lo) F (by rw [ho]; rfl) (exv (s := Instr.fieldAt s (a.eval x) f) (by unfold execOp; rw [ho])) (by rw [ho]; exact field_ok H hk (ev_is F x))
  | indexAddr t x i =>
    rw [ho] at hk
    exact fin_out (lo := lo) F (by rw [ho]; rfl) (exv (s := Instr.indexAt t (a.eval x) (a.eval i)) (by unfold execOp; rw [ho])) (by rw [ho]; exact indexA_ok H hk (ev_is F x) (ev_is F i))
  | index t x i =>
    rw [ho] at hk
    exact fin_out (lo := lo) F (by rw [ho]; rfl) (exv (s := Instr.index t (a.eval x) (a.eval i)) (by unfold execOp; rw [ho])) (by rw [ho]; exact index_ok H hk (ev_is F x) (ev_is F i))
  | extract x i =>
    rw [ho] at hk
    exact fin_out (lo := lo) F (by rw [ho]; rfl) (exv (s := Instr.extract (a.eval x) i) (by unfold execOp; rw [ho])) (by rw [ho]; exact extract_ok H hk (ev_is F x))
  | makeFunc fn first cap =>
    rw [ho] at hk
    have hk := getAll_vals (getAll_vals hk (mapEv_step F first.toList)) (mapEv_step F cap.toList)
    refine fin_out (lo := lo) (s := Instr.makeFunc fn (first.map a.eval) (cap.map a.eval)) F (by rw [ho]; rfl) (exv (by unfold execOp; rw [ho])) ?_
    rw [ho]
    refine Out.here H (x := .v _) ?_ rfl hk
    simp only [Instr.makeFunc, Sem.run_pure]
    congr 2
    · apply Array.ext'; simp
    · apply Array.ext'; simp
  | call c =>
    rw [ho] at hk
    obtain ⟨callee, args, ts⟩ := c
    cases callee with
    | builtin b => exact builtin_ok hG H F ho (by rw [ho]; exact hk)
    | value f => exact dcall_ok hG hV H F ho (by rw [ho]; exact getAll_vals hk (mapEv_step F args.toList))
    | invoke r m => exact False.elim hk
  | _ => rw [ho] at hk; exact False.elim hk
end
end Go.Eng
