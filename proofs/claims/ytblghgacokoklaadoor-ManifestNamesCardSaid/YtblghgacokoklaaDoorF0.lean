/-
  THE ENGINE, 17: what only reads: it yields the same wherever it comes.
-/
import Derived.Test.YtblghgacokoklaaDoorE14
import Derived.Orders
set_option linter.unusedSimpArgs false
set_option linter.unusedVariables false
namespace Go.Eng
section
variable {P : Program}

/-- It never yields. -/
def Dead {α : Type} (P : Program) (s : Sem α) : Prop := ∀ w v w', s.run P w ≠ .ok v w'
/-- It yields one and the same whatever the world, or never yields. -/
def Flat {α : Type} (P : Program) (s : Sem α) : Prop := (∃ v, ∀ w, s.run P w = .ok v w) ∨ Dead P s
theorem Flat.pure {α : Type} (a : α) : Flat P (pure a : Sem α) := .inl ⟨a, fun w => rfl⟩
theorem Dead.halt {α : Type} (x : Halt) : Dead P (Sem.halt x : Sem α) := fun w v w' e => by simp at e
theorem Flat.halt {α : Type} (x : Halt) : Flat P (Sem.halt x : Sem α) := .inr (Dead.halt x)
theorem Dead.bind {α β : Type} {s : Sem α} {f : α → Sem β} (hf : ∀ a, Dead P (f a)) : Dead P (s >>= f) := by
  intro w v w' e
  simp only [Sem.run_bind] at e
  cases hr : s.run P w with
  | ok a w1 => rw [hr] at e; exact hf a _ _ _ e
  | halt x w1 => rw [hr] at e; simp at e
theorem Flat.bind {α β : Type} {s : Sem α} {f : α → Sem β} (hs : Flat P s) (hf : ∀ a, Flat P (f a)) : Flat P (s >>= f) := by
  rcases hs with ⟨v, hv⟩ | hh
  · rcases hf v with ⟨u, hu⟩ | hh
    · exact .inl ⟨u, fun w => by simp only [Sem.run_bind, hv, Result.andThen_ok, hu]⟩
    · refine .inr fun w v' w' e => ?_
      simp only [Sem.run_bind, hv, Result.andThen_ok] at e
      exact hh _ _ _ e
  · refine .inr fun w v' w' e => ?_
    simp only [Sem.run_bind] at e
    cases hr : s.run P w with
    | ok a w1 => exact hh _ _ _ hr
    | halt x w1 => rw [hr] at e; simp at e
theorem Flat.program : Flat P program := .inl ⟨P, fun w => by simp only [run_program]⟩
theorem Flat.stuck {α : Type} (x : String) : Flat P (stuck x : Sem α) := Flat.halt _
theorem Flat.unsupported {α : Type} (x : Unsupported) : Flat P (unsupported x : Sem α) := Flat.halt _
theorem Flat.underlying (t : TypeId) : Flat P (underlying t) := by
  unfold Go.underlying
  refine Flat.bind Flat.program fun p => ?_
  split
  · exact Flat.pure _
  · exact Flat.stuck _
theorem Flat.typeInfo (t : TypeId) : Flat P (typeInfo t) := by
  unfold Go.typeInfo
  refine Flat.bind Flat.program fun p => ?_
  split
  · exact Flat.pure _
  · exact Flat.stuck _
theorem Flat.sizeOf (t : TypeId) : Flat P (sizeOf t) := by
  unfold Go.sizeOf
  exact Flat.bind (Flat.typeInfo t) fun _ => Flat.pure _
theorem Dead.runtimePanic {α : Type} (e : RuntimeError) : Dead P (runtimePanic e : Sem α) := by
  unfold Go.runtimePanic
  refine Dead.bind fun p => ?_
  cases e <;> first
    | exact Dead.halt _
    | exact Dead.bind fun _ => Dead.bind fun _ => Dead.halt _
theorem Flat.runtimePanic {α : Type} (e : RuntimeError) : Flat P (runtimePanic e : Sem α) := .inr (Dead.runtimePanic e)
theorem Flat.boundsPanic {α : Type} (k : IntKind) (x y : Int) (c : BoundsCode) : Flat P (boundsPanic k x y c : Sem α) := by
  refine .inr ?_
  unfold Go.boundsPanic
  repeat' first
    | exact Dead.runtimePanic _
    | refine Dead.bind fun _ => ?_
    | split
theorem Flat.asIntOf (v : Value) : Flat P (asIntOf v) := by
  unfold Go.asIntOf
  split <;> first | exact Flat.pure _ | exact Flat.unsupported _ | exact Flat.stuck _
theorem Flat.asBool (v : Value) : Flat P (asBool v) := by
  unfold Go.asBool
  split <;> first | exact Flat.pure _ | exact Flat.stuck _
theorem Flat.sureAddr (v : Value) : Flat P (Instr.sureAddr v) := by
  unfold Instr.sureAddr
  split <;> first | exact Flat.pure _ | exact Flat.stuck _
theorem Flat.asAddr (v : Value) : Flat P (asAddr v) := by
  unfold Go.asAddr
  split <;> first | exact Flat.pure _ | exact Flat.stuck _ | exact Flat.runtimePanic _
theorem Flat.indexAt (t : TypeId) (x i : Value) : Flat P (Instr.indexAt t x i) := by
  unfold Instr.indexAt
  repeat' first
    | exact Flat.pure _
    | exact Flat.stuck _
    | exact Flat.unsupported _
    | exact Flat.boundsPanic _ _ _ _
    | exact Flat.sizeOf _
    | exact Flat.underlying _
    | exact Flat.asIntOf _
    | exact Flat.sureAddr _
    | refine Flat.bind ?_ fun _ => ?_
    | split
    | (dsimp only; split)
theorem Flat.sliceBound (x : Value) (y : Nat) (c : BoundsCode) : Flat P (Instr.sliceBound x y c) := by
  unfold Instr.sliceBound
  repeat' first
    | exact Flat.pure _
    | exact Flat.boundsPanic _ _ _ _
    | exact Flat.asIntOf _
    | refine Flat.bind ?_ fun _ => ?_
    | split
    | (dsimp only; split)
theorem Flat.sliceBounds (b : Bool) (n c : Nat) (x y z : Option Value) : Flat P (Instr.sliceBounds b n c x y z) := by
  unfold Instr.sliceBounds
  repeat' first
    | exact Flat.pure _
    | exact Flat.stuck _
    | exact Flat.sliceBound _ _ _
    | refine Flat.bind ?_ fun _ => ?_
    | split
    | (dsimp only; split)
theorem Flat.sliceAt (t : TypeId) (x : Value) (l u m : Option Value) : Flat P (Instr.sliceAt t x l u m) := by
  unfold Instr.sliceAt Instr.slice
  repeat' first
    | exact Flat.pure _
    | exact Flat.stuck _
    | exact Flat.sizeOf _
    | exact Flat.underlying _
    | exact Flat.sureAddr _
    | exact Flat.asAddr _
    | exact Flat.sliceBounds _ _ _ _ _ _
    | refine Flat.bind ?_ fun _ => ?_
    | split
    | (dsimp only; split)
theorem Flat.ite {α : Type} {c : Prop} [Decidable c] {x y : Sem α} (hx : Flat P x) (hy : Flat P y) : Flat P (if c then x else y) := by split <;> assumption
theorem Flat.intArith (op : BinOp) (k : IntKind) (x y : Int) : Flat P (Op.intArith op k x y) := by
  unfold Op.intArith
  cases op <;> first | exact Flat.pure _ | exact Flat.stuck _
theorem Flat.intBits (op : BinOp) (k : IntKind) (x y : Int) : Flat P (Op.intBits op k x y) := by
  unfold Op.intBits
  cases op <;> first | exact Flat.pure _ | exact Flat.stuck _
theorem Flat.intDiv (op : BinOp) (k : IntKind) (x y : Int) : Flat P (Op.intDiv op k x y) := by
  unfold Op.intDiv
  cases op <;> exact Flat.ite (Flat.runtimePanic _) (by first | exact Flat.pure _ | exact Flat.stuck _)
theorem Flat.intCmp (op : BinOp) (x y : Int) : Flat P (Op.intCmp op x y) := by
  unfold Op.intCmp
  cases op <;> first | exact Flat.pure _ | exact Flat.stuck _
theorem Flat.shift (op : BinOp) (k : IntKind) (x : Int) (yk : IntKind) (y : Int) : Flat P (Op.shift op k x yk y) := by
  unfold Op.shift
  cases op <;> exact Flat.ite (Flat.runtimePanic _) (by first | exact Flat.pure _ | exact Flat.stuck _)
theorem Flat.stringOp (op : BinOp) (x y : ByteArray) : Flat P (Op.stringOp op x y) := by
  unfold Op.stringOp
  cases op <;> first | exact Flat.pure _ | exact Flat.stuck _ | exact Flat.ite (Flat.unsupported _) (Flat.pure _)
theorem Flat.unary (op : UnOp) (x : Value) : Flat P (Op.unary op x) := by
  unfold Op.unary
  split <;> first | exact Flat.pure _ | exact Flat.stuck _ | exact Flat.unsupported _ | exact Flat.intArith _ _ _ _ | exact Flat.intBits _ _ _ _
theorem Flat.binInt (op : BinOp) (t : TypeId) (k k' : IntKind) (a b : Int) : Flat P (binOp op t (.int k a) (.int k' b)) := by
  have h1 : ∀ s : Sem Value, Flat P s → Flat P (if k ≠ k' then Go.stuck "BinOp: operands of different kinds" else s) := fun s hs => Flat.ite (Flat.stuck _) hs
  cases op <;> simp only [binOp] <;> first | exact h1 _ (Flat.intArith _ _ _ _) | exact h1 _ (Flat.intDiv _ _ _ _) | exact h1 _ (Flat.intBits _ _ _ _) | exact h1 _ (Flat.intCmp _ _ _) | exact Flat.shift _ _ _ _ _
theorem Flat.binStr (op : BinOp) (t : TypeId) (a b : ByteArray) : Flat P (binOp op t (.string a) (.string b)) := by
  cases op <;> simp only [binOp] <;> exact Flat.stringOp _ _ _
theorem Flat.eqGuard (op : BinOp) (t : TypeId) (x y : Operand) (a b : Value) (ha : (∃ k n k' m, a = .int k n ∧ b = .int k' m) ∨ ∃ s u, a = .string s ∧ b = .string u) : Flat P (eqGuard op t x y a b) := by
  unfold Go.eqGuard
  rcases ha with ⟨k, n, k', m, rfl, rfl⟩ | ⟨s, u, rfl, rfl⟩ <;> cases op <;> exact Flat.pure _
theorem Flat.extract (x : Value) (i : Nat) : Flat P (Instr.extract x i) := by
  unfold Instr.extract
  repeat' first
    | exact Flat.pure _
    | exact Flat.stuck _
    | split
theorem Flat.fieldAt {s f : Nat} (h : (fieldOff P s f).isSome = true) (x : Value) : Flat P (Instr.fieldAt s x f) := by
  unfold fieldOff at h
  cases hd : under P s with
  | struct fs =>
    rw [hd] at h
    simp only at h
    cases hf : fs[f]? with
    | none => rw [hf] at h; cases h
    | some fl =>
      rw [hf] at h
      simp only at h
      have hc : P.cellsOf fl.type ≠ 0 := by intro e; rw [e] at h; cases h
      have hi : hasInfo P fl.type = true := by
        cases hi : hasInfo P fl.type with
        | true => rfl
        | false => rw [hi] at h; revert h; cases P.cellsOf fl.type <;> simp
      have hu := under_some hd (by simp)
      have key : ∀ ad : Addr, ∃ v, ∀ w, (Instr.fieldAt s (.pointer (some ad)) f).run P w = .ok v w := fun ad => by
        refine ⟨.pointer (some (ad.add fl.offset)), fun w => ?_⟩
        simp [Instr.fieldAt, run_underlying hu, hf, Instr.sureAddr, fieldPlace, run_sizeOf' hi, hc]
      have dead : (∀ ad, x ≠ .pointer (some ad)) → Dead P (Instr.fieldAt s x f) := by
        intro hx w v w' e
        have hs : ∀ v w', (Instr.sureAddr x).run P w ≠ .ok v w' := by
          intro v w' e
          unfold Instr.sureAddr at e
          split at e
          · exact hx _ rfl
          · simp [Go.stuck] at e
        unfold Instr.fieldAt at e
        simp only [Sem.run_bind, run_underlying hu, Result.andThen_ok, hf] at e
        cases hr : (Instr.sureAddr x).run P w with
        | ok v1 w1 => exact hs _ _ hr
        | halt y w1 => rw [hr] at e; simp at e
      cases x with
      | pointer p => cases p with
        | some ad => exact .inl (key ad)
        | none => exact .inr (dead fun ad e => by simp at e)
      | _ => exact .inr (dead fun ad e => by simp at e)
  | _ => rw [hd] at h; cases h
theorem Flat.convInt {s t : TypeId} (hs : intT P s = true) (ht : intT P t = true) (k : IntKind) (n : Int) : Flat P (convert s t (.int k n)) := by
  unfold intT at hs ht
  cases hds : under P s <;> rw [hds] at hs <;> first | exact absurd hs Bool.false_ne_true | skip
  cases hdt : under P t <;> rw [hdt] at ht <;> first | exact absurd ht Bool.false_ne_true | skip
  have h1 := under_some hds (by simp)
  have h2 := under_some hdt (by simp)
  unfold convert
  rename_i k1 k2
  exact .inl ⟨.int k2 (k2.wrap n), fun w => by simp only [Sem.run_bind, run_underlying h1, run_underlying h2, Result.andThen_ok, Conv.intToInt, Sem.run_pure]⟩
theorem Flat.len {t : TypeId} (ht : lenT P t = true) (r : TypeId) (x : Value) : Flat P (Builtin.len_ #[t] r #[x]) := by
  unfold lenT at ht
  have hu : ∃ d, P.underlying t = some d ∧ (d = .string ∨ ∃ e, d = .slice e) := by
    cases hd : under P t <;> rw [hd] at ht <;> first
      | exact absurd ht Bool.false_ne_true
      | exact ⟨_, under_some hd (by simp), .inl rfl⟩
      | exact ⟨_, under_some hd (by simp), .inr ⟨_, rfl⟩⟩
  obtain ⟨d, hd, hc⟩ := hu
  rcases hc with rfl | ⟨e, rfl⟩ <;> cases x <;> first
    | exact .inl ⟨_, fun w => by simp [Builtin.len_, run_underlying hd]; rfl⟩
    | exact .inr fun w v w' e => by simp [Builtin.len_, run_underlying hd, Go.stuck] at e

/-- The least, the greatest: the same whatever the world. -/
theorem minmax_flat {mx : Bool} {g : Nat → Nat} {L : List LE} {h : Hp} {K : KO} : ∀ {xs : List AV} {vs : List Value} {x : AV} {v : Value}, dMinMax mx x xs L h K → x.is g v → inStep g xs vs →
    ∃ v', ∀ w, (vs.foldlM (if mx then Builtin.max2 else Builtin.min2) v).run P w = .ok v' w
  | [], vs, x, v, hk, hx, hs => by
    have : vs = [] := List.eq_nil_of_length_eq_zero hs.1
    subst this
    exact ⟨v, fun w => by simp⟩
  | y :: ys, [], x, v, hk, hx, hs => by have := hs.1; cases this
  | y :: ys, u :: us, x, v, hk, hx, hs => by
    have hy : y.is g u := hs.2 0 (by simp)
    have hst : inStep g ys us := ⟨by simpa using hs.1, fun i hi => hs.2 (i + 1) (by simpa using hi)⟩
    rw [List.foldlM_cons]
    unfold dMinMax at hk
    cases x with
    | v xv =>
      have hxe : v = xv := hx
      subst hxe
      cases v with
      | int k a =>
        cases y with
        | v yv =>
          have hye : u = yv := hy
          subst hye
          cases u with
          | int k' b =>
            dsimp only at hk
            by_cases hkk : k = k'
            · subst hkk
              rw [decide_eq_true rfl] at hk
              dsimp only at hk
              have h1 : ∀ w, ((if mx then Builtin.max2 else Builtin.min2) (.int k a) (.int k b)).run P w = .ok (.int k (mmI mx a b)) w := by
                intro w
                cases mx <;> simp [Builtin.max2, Builtin.min2, iMax, iMin, mmI]
              obtain ⟨v', hv⟩ := minmax_flat hk (v := .int k (mmI mx a b)) rfl hst
              exact ⟨v', fun w => by rw [Sem.run_bind, h1, Result.andThen_ok]; exact hv w⟩
            · rw [decide_eq_false hkk] at hk; exact False.elim hk
          | _ => exact False.elim hk
        | _ => exact False.elim hk
      | string a =>
        cases y with
        | v yv =>
          have hye : u = yv := hy
          subst hye
          cases u with
          | string b =>
            dsimp only at hk
            have h1 : ∀ w, ((if mx then Builtin.max2 else Builtin.min2) (.string a) (.string b)).run P w = .ok (.string (mmS mx a b)) w := by
              intro w
              cases mx <;> simp only [Builtin.max2, Builtin.min2, mmS, sMax, sMin, Op.stringOp, asBool, if_true, Bool.false_eq_true, if_false, Sem.run_bind, Sem.run_pure, Result.andThen_ok]
              all_goals (congr 2; first | rfl | (cases Op.bytesLess a.toList b.toList <;> rfl))
            obtain ⟨v', hv⟩ := minmax_flat hk (v := .string (mmS mx a b)) rfl hst
            exact ⟨v', fun w => by rw [Sem.run_bind, h1, Result.andThen_ok]; exact hv w⟩
          | _ => exact False.elim hk
        | _ => exact False.elim hk
      | _ => exact False.elim hk
    | _ => exact False.elim hk
/-- What only reads (and no memory) yields the same whatever the world. -/
theorem quiet_flat {lo : List Nat} {G : List (Nat × (List Value → PT))} {V : Value → List Value → PT} {g : Nat → Nat} {A : Env} {L : List LE} {h : Hp} {a : Act} {o : Oper} {K : KO} (F : FO g A a) (hq : quietB P o.op = true) (hl : isRead P o.op = false)
    (hk : opD P lo G V o.dst o.type o.op A L h K) : (∃ v, ∀ w, (execOp a.eval o).run P w = .ok (.value v) w) ∨ Dead P (execOp a.eval o) := by
  have fin : ∀ {s : Sem Value}, execOp a.eval o = (do pure (Next.value (← s)) : Sem Next) → Flat P s → (∃ v, ∀ w, (execOp a.eval o).run P w = .ok (.value v) w) ∨ Dead P (execOp a.eval o) := by
    intro s hs hf
    rw [hs]
    rcases hf with ⟨v, hv⟩ | hd
    · exact .inl ⟨v, fun w => by simp only [Sem.run_bind, hv, Result.andThen_ok, Sem.run_pure]⟩
    · refine .inr fun w v w' e => ?_
      simp only [Sem.run_bind] at e
      cases hr : s.run P w with
      | ok v1 w1 => exact hd _ _ _ hr
      | halt y w1 => rw [hr] at e; simp at e
  cases ho : o.op with
  | move x => exact fin (s := pure (a.eval x)) (by unfold execOp; rw [ho]; rfl) (Flat.pure _)
  | pick c x y =>
    refine fin (s := do pure (if ← asBool (a.eval c) then a.eval x else a.eval y)) (by unfold execOp; rw [ho]; simp) (Flat.bind (Flat.asBool _) fun _ => Flat.pure _)
  | extract x i => exact fin (s := Instr.extract (a.eval x) i) (by unfold execOp; rw [ho]) (Flat.extract _ _)
  | fieldAddr s x f => rw [ho] at hq; exact fin (s := Instr.fieldAt s (a.eval x) f) (by unfold execOp; rw [ho]) (Flat.fieldAt hq _)
  | indexAddr t x i => exact fin (s := Instr.indexAt t (a.eval x) (a.eval i)) (by unfold execOp; rw [ho]) (Flat.indexAt _ _ _)
  | slice t x l u m => exact fin (s := Instr.sliceAt t (a.eval x) (l.map a.eval) (u.map a.eval) (m.map a.eval)) (by unfold execOp; rw [ho]) (Flat.sliceAt _ _ _ _ _)
  | unOp op t x => exact fin (s := Op.unary op (a.eval x)) (by unfold execOp; rw [ho]) (Flat.unary _ _)
  | binOp op t x y yt =>
    rw [ho] at hk hq
    refine fin (s := (do eqGuard op t x y (a.eval x) (a.eval y); binOp op t (a.eval x) (a.eval y))) (by unfold execOp; rw [ho]) ?_
    have hx := ev_is F x
    have hy := ev_is F y
    replace hk : dBin P op t (ev A x) (ev A y) L h K := hk
    have no : ∀ v u, ¬ dEq P op t v u L h K := by
      intro v u hk
      unfold dEq at hk
      have hq' : pureT P t = true := hq
      unfold pureT at hq'
      cases hd : under P t <;> rw [hd] at hk hq' <;> first | exact hk | simp at hq'
    unfold dBin at hk
    have third : ∀ z : AV, (z.get fun v => (ev A y).get fun u => dEq P op t v u L h K) → False := by
      intro z hz
      obtain ⟨v, _, hz, _⟩ := AV.get_plain hz
      obtain ⟨u, _, hz, _⟩ := AV.get_plain hz
      exact no _ _ hz
    split at hk
    · rename_i k n hxa
      split at hk
      · rename_i k' m hya
        rw [hxa] at hx; rw [hya] at hy
        have hx : a.eval x = .int k n := hx
        have hy : a.eval y = .int k' m := hy
        rw [hx, hy]
        exact Flat.bind (Flat.eqGuard _ _ _ _ _ _ (.inl ⟨_, _, _, _, rfl, rfl⟩)) fun _ => Flat.binInt _ _ _ _ _ _
      · exact hk.elim
    · rename_i s hxa
      split at hk
      · rename_i u hya
        rw [hxa] at hx; rw [hya] at hy
        have hx : a.eval x = .string s := hx
        have hy : a.eval y = .string u := hy
        rw [hx, hy]
        exact Flat.bind (Flat.eqGuard _ _ _ _ _ _ (.inr ⟨_, _, rfl, rfl⟩)) fun _ => Flat.binStr _ _ _ _
      · exact hk.elim
    · exact (third _ hk).elim
  | convert s t x =>
    rw [ho] at hk hq hl
    have hq' : intT P s = true ∧ intT P t = true := by
      have h1 : (intT P s && intT P t || bytesT P s && strT P t) = true := hq
      have h2 : (bytesT P s && strT P t) = false := hl
      rw [h2, Bool.or_false, Bool.and_eq_true] at h1
      exact h1
    refine fin (s := convert s t (a.eval x)) (by unfold execOp; rw [ho]) ?_
    have hx := ev_is F x
    replace hk : dConv P s t (ev A x) L h K := hk
    unfold dConv at hk
    have ht := hq'.2
    unfold intT at ht
    cases hd : under P t <;> rw [hd] at hk ht <;> first | exact absurd ht Bool.false_ne_true | skip
    dsimp only at hk
    split at hk
    · rename_i k n hxa
      rw [hxa] at hx
      have hx : a.eval x = .int k n := hx
      rw [hx]
      exact Flat.convInt hq'.1 hq'.2 _ _
    · exact hk.elim
  | nilCheck x =>
    rw [ho] at hk
    have hx := ev_is F x
    have key : ∀ v, a.eval x = v → (∃ ad, v = .pointer (some ad)) → (∃ v, ∀ w, (execOp a.eval o).run P w = .ok (.value v) w) ∨ Dead P (execOp a.eval o) := by
      rintro v he ⟨ad, rfl⟩
      refine .inl ⟨.pointer (some ad), fun w => ?_⟩
      unfold execOp
      rw [ho]
      simp [he]
    replace hk : dNil (ev A x) L h K := hk
    unfold dNil at hk
    split at hk
    · rename_i b q hxa; rw [hxa] at hx; exact key _ hx ⟨_, rfl⟩
    · rename_i l q hxa; rw [hxa] at hx; exact key _ hx ⟨_, rfl⟩
    · rename_i p hxa
      rw [hxa] at hx
      obtain ⟨b, q, rfl, _⟩ := hk
      exact key _ hx ⟨_, rfl⟩
    · exact hk.elim
  | call c =>
    rw [ho] at hq
    obtain ⟨callee, args, ts⟩ := c
    cases callee with
    | builtin b =>
      cases b <;> first | exact absurd hq Bool.false_ne_true | skip
      case min =>
        rw [ho] at hk
        replace hk : dBuiltin P .min ts.toList (mapEv A args.toList) L h K := hk
        unfold dBuiltin at hk
        dsimp only at hk
        match hxs : args.toList with
        | [] => rw [hxs] at hk; exact False.elim hk
        | x :: xs =>
          rw [hxs] at hk
          have hst' : inStep g (mapEv A xs) (xs.map a.eval) := mapEv_step F xs
          obtain ⟨v', hv⟩ := minmax_flat (P := P) (mx := false) hk (ev_is F x) hst'
          simp only [Bool.false_eq_true, if_false] at hv
          have hargs : (args.map a.eval).toList = a.eval x :: xs.map a.eval := by simp [hxs]
          have hrun : ∀ w, (execOp a.eval o).run P w = ((Builtin.min_ ts o.type (args.map a.eval)).run P w).andThen fun v w' => .ok (.value v) w' := by
            intro w
            unfold execOp
            rw [ho]
            simp only [resolve, Sem.run_bind, Sem.run_pure, Result.andThen_ok, invoke]
            simp only [builtin]
            exact run_v
          refine .inl ⟨v', fun w => ?_⟩
          have h2 : (Builtin.min_ ts o.type (args.map a.eval)).run P w = .ok v' w := by
            unfold Builtin.min_
            rw [hargs]
            exact hv w
          rw [hrun, h2]; rfl
      case max =>
        rw [ho] at hk
        replace hk : dBuiltin P .max ts.toList (mapEv A args.toList) L h K := hk
        unfold dBuiltin at hk
        dsimp only at hk
        match hxs : args.toList with
        | [] => rw [hxs] at hk; exact False.elim hk
        | x :: xs =>
          rw [hxs] at hk
          have hst' : inStep g (mapEv A xs) (xs.map a.eval) := mapEv_step F xs
          obtain ⟨v', hv⟩ := minmax_flat (P := P) (mx := true) hk (ev_is F x) hst'
          simp only [if_true] at hv
          have hargs : (args.map a.eval).toList = a.eval x :: xs.map a.eval := by simp [hxs]
          have hrun : ∀ w, (execOp a.eval o).run P w = ((Builtin.max_ ts o.type (args.map a.eval)).run P w).andThen fun v w' => .ok (.value v) w' := by
            intro w
            unfold execOp
            rw [ho]
            simp only [resolve, Sem.run_bind, Sem.run_pure, Result.andThen_ok, invoke]
            simp only [builtin]
            exact run_v
          refine .inl ⟨v', fun w => ?_⟩
          have h2 : (Builtin.max_ ts o.type (args.map a.eval)).run P w = .ok v' w := by
            unfold Builtin.max_
            rw [hargs]
            exact hv w
          rw [hrun, h2]; rfl
      simp only [quietB] at hq
      split at hq
      · rename_i t hts
        rw [ho] at hk
        replace hk : dBuiltin P .len ts.toList (mapEv A args.toList) L h K := hk
        unfold dBuiltin at hk
        dsimp only at hk
        rw [hts] at hk
        match hxs : args.toList with
        | [] => rw [hxs] at hk; exact False.elim hk
        | _ :: _ :: _ => rw [hxs] at hk; exact False.elim hk
        | [x] =>
          have hargs : (args.map a.eval) = #[a.eval x] := by apply Array.ext'; simp [hxs]
          have hts' : ts = #[t] := by apply Array.ext'; simp [hts]
          have hrun : ∀ w, (execOp a.eval o).run P w = ((Builtin.len_ #[t] o.type #[a.eval x]).run P w).andThen fun v w' => .ok (.value v) w' := by
            intro w
            unfold execOp
            rw [ho]
            simp only [resolve, Sem.run_bind, Sem.run_pure, Result.andThen_ok, invoke]
            rw [hargs, hts']
            simp only [builtin]
            exact run_v
          rcases Flat.len (P := P) hq o.type (a.eval x) with ⟨v, hv⟩ | hd
          · exact .inl ⟨v, fun w => by rw [hrun, hv]; rfl⟩
          · refine .inr fun w v w' e => ?_
            rw [hrun] at e
            cases hr : (Builtin.len_ #[t] o.type #[a.eval x]).run P w with
            | ok v1 w1 => exact hd _ _ _ hr
            | halt y w1 => rw [hr] at e; simp at e
      · cases hq
    | _ => exact absurd hq Bool.false_ne_true
  | load t x => rw [ho] at hl; exact absurd hl (by simp [isRead, isLoad])
  | _ => rw [ho] at hq; exact absurd hq Bool.false_ne_true
end
end Go.Eng
