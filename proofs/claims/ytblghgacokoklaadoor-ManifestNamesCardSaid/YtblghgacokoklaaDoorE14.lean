/-
  THE ENGINE, 15: lists of operations, code, calls: what is denoted comes about.
-/
import Derived.Test.YtblghgacokoklaaDoorE13
import Derived.Orders
set_option linter.unusedSimpArgs false
set_option linter.unusedVariables false
namespace Go.Eng
section
variable {P : Program} {lo : List Nat} {G : List (Nat × (List Value → PT))} {V : Value → List Value → PT} {fr : Hp} {g : Nat → Nat} {A : Env} {L : List LE} {h : Hp} {w : World} {a : Act} {Q : Exit → Act → World → Prop}

theorem memN_append {i : Nat} {l k : List Nat} : memN i (l ++ k) = (memN i l || memN i k) := by
  induction l with
  | nil => rfl
  | cons j l ih => simp [memN, ih, Bool.or_assoc]
theorem Rel.mono {W : List Nat} {K K' : KS} (hk : ∀ A L h, K A L h → K' A L h) {a' : Act} {w' : World} (hr : Rel W fr g L a w K a' w') : Rel W fr g L a w K' a' w' :=
  let ⟨g', A', L', h', F, H, T, k⟩ := hr; ⟨g', A', L', h', F, H, T, hk _ _ _ k⟩
def boolOf : Value → Option Bool
  | .bool b => some b
  | _ => none
theorem yielded_eq {ops : Array Oper} {j d : Nat} (hd : dstOf ops.toList j = some d) {v : Value} (hv : a.tmps.getD d undef = v) : yielded ops a.tmps j = boolOf v := by
  unfold dstOf at hd
  have ho : (ops[j]?).bind (·.dst) = some d := by
    rw [← Array.getElem?_toList]
    cases hj : ops.toList[j]? with
    | none => rw [hj] at hd; cases hd
    | some o => rw [hj] at hd; exact hd
  unfold yielded
  rw [ho]
  simp only [Option.bind_some]
  cases ht : a.tmps[d]? with
  | none =>
    have : v = undef := by rw [← hv]; simp [ht]
    rw [this]; rfl
  | some x =>
    have : v = x := by rw [← hv]; simp [ht]
    rw [this]
    cases x <;> rfl
theorem step_ok (hG : GOk P G) (hV : VOk P V) (H : HO fr g L h w) (F : FO g A a) {ops : Array Oper} {o : Oper} {K : KS} (hk : stepD P lo G V ops.toList o A L h K) :
    if Region.wanted o (yielded ops a.tmps) then o.wp P a w (Rel (dW o.dst) fr g L a w K) Q else Rel (dW o.dst) fr g L a w K (a.put o.dst undef) w := by
  have skip : K (putD A o.dst (.v undef)) L h → Rel (dW o.dst) fr g L a w K (a.put o.dst undef) w := fun hk => put_rel (x := .v undef) F rfl H (Wr.refl w) (Kp.refl L) hk
  unfold stepD at hk
  cases hg : o.guard with
  | none =>
    rw [hg] at hk
    have hw : Region.wanted o (yielded ops a.tmps) = true := by simp [Region.wanted, hg]
    rw [if_pos hw]
    exact op_ok hG hV H F hk
  | some gw =>
    obtain ⟨j, want⟩ := gw
    rw [hg] at hk
    dsimp only at hk
    cases hd : dstOf ops.toList j with
    | none => rw [hd] at hk; exact False.elim hk
    | some d =>
      rw [hd] at hk
      dsimp only at hk
      have hat := F.at_ d
      have hwanted : ∀ r : Option Bool, yielded ops a.tmps j = r → Region.wanted o (yielded ops a.tmps) = (r == some want) := by
        intro r hr; simp [Region.wanted, hg, hr]
      cases hA : getE A d with
      | v x =>
        rw [hA] at hk hat
        have hy := yielded_eq hd hat
        cases x with
        | bool b =>
          simp only [boolOf] at hy
          have hw := hwanted _ hy
          cases b <;> cases want <;> simp only at hk hw
          · rw [if_pos (by rw [hw]; rfl)]; exact op_ok hG hV H F hk
          · rw [if_neg (by rw [hw]; decide)]; exact skip hk
          · rw [if_neg (by rw [hw]; decide)]; exact skip hk
          · rw [if_pos (by rw [hw]; rfl)]; exact op_ok hG hV H F hk
        | tuple vs =>
          have hw := hwanted _ hy
          rw [if_neg (by rw [hw]; simp [boolOf])]
          exact skip hk
        | _ => exact False.elim hk
      | _ => rw [hA] at hk; exact False.elim hk
theorem dW_sub {o : Oper} {l : List Oper} (ho : o ∈ l) : ∀ i, memN i (opWrites l) = false → memN i (dW o.dst) = false := by
  induction l with
  | nil => cases ho
  | cons x l ih =>
    intro i hi
    have step : (∀ d, x.dst = some d → i ≠ d) ∧ memN i (opWrites l) = false := by
      unfold opWrites at hi
      cases hx : x.dst with
      | none => rw [hx] at hi; exact ⟨fun d h => (by cases h), hi⟩
      | some d =>
        rw [hx] at hi
        simp only [memN, Bool.or_eq_false_iff, beq_eq_false_iff_ne] at hi
        exact ⟨fun d' h => (by cases h; exact hi.1), hi.2⟩
    rcases List.mem_cons.1 ho with rfl | ho
    · unfold dW
      cases hx : o.dst with
      | none => rfl
      | some d => simp [memN, step.1 d hx]
    · exact ih ho i step.2
theorem ops_ok (hG : GOk P G) (hV : VOk P V) {ops : Array Oper} {K : KS} {K0 : Act → World → Prop} (hQ : ∀ a w, K0 a w → Q .normal a w) : ∀ (l : List Oper) (W : List Nat), (∀ i, memN i W = false → memN i (opWrites l) = false) → ∀ (g : Nat → Nat) (A : Env) (L : List LE) (h : Hp) (a : Act) (w : World), HO fr g L h w → FO g A a →
    denOps P lo G V ops.toList l A L h K → (∀ a' w', Rel W fr g L a w K a' w' → K0 a' w') → wpList P ops Q l a w
  | [], W, _, g, A, L, h, a, w, H, F, hk, hK0 => hQ _ _ (hK0 _ _ ⟨g, A, L, h, F, H, Tr.refl _ _ _ _ _, hk⟩)
  | o :: l, W, hW, g, A, L, h, a, w, H, F, hk, hK0 => by
    have hs := step_ok (Q := Q) hG hV H F hk
    have next : ∀ a' w', Rel (dW o.dst) fr g L a w (fun A' L' h' => denOps P lo G V ops.toList l A' L' h' K) a' w' → wpList P ops Q l a' w' := by
      rintro a' w' ⟨g', A', L', h', F', H', T, hk'⟩
      have hWo : ∀ i, memN i W = false → memN i (dW o.dst) = false := fun i hi => dW_sub (l := o :: l) List.mem_cons_self i (hW i hi)
      refine ops_ok hG hV hQ l W (fun i hi => ?_) g' A' L' h' a' w' H' F' hk' (fun a'' w'' hr => hK0 _ _ ?_)
      · have := hW i hi
        unfold opWrites at this
        cases ho : o.dst with
        | none => rw [ho] at this; exact this
        | some d => rw [ho] at this; simp only [memN, Bool.or_eq_false_iff] at this; exact this.2
      · obtain ⟨g2, A2, L2, h2, F2, H2, T2, k2⟩ := hr
        exact ⟨g2, A2, L2, h2, F2, H2, (T.mono hWo).trans T2, k2⟩
    refine wpList_step fun K' hK' => ?_
    split
    · rename_i hw
      rw [if_pos hw] at hs
      exact Oper.wp_mono' (fun a' w' hr => hK' _ _ (next a' w' hr)) hs
    · rename_i hw
      rw [if_neg hw] at hs
      exact hK' _ _ (next _ _ hs)
where Oper.wp_mono' {o : Oper} {a : Act} {w : World} {K K' : Act → World → Prop} (h : ∀ a w, K a w → K' a w) (hh : o.wp P a w K Q) : o.wp P a w K' Q := Oper.wp_mono h hh

/-! ### 2. What is live, and what comes back -/
theorem appK_spec : ∀ {ks : List Kd} {β : Type} {f : Fun ks β} {xs : List AV} {K : β → Prop}, appK ks f xs K → ∃ vs : List Value, vs.length = xs.length ∧ xs.length = ks.length ∧ (∀ g, inStep g xs vs) ∧ (∀ x ∈ xs, x.plain = true) ∧ True := by
  intro ks
  induction ks with
  | nil =>
    intro β f xs K hk
    cases xs with
    | nil => exact ⟨[], rfl, rfl, fun g => ⟨rfl, fun i hi => by simp at hi⟩, fun x hx => (by simp at hx), trivial⟩
    | cons x xs => exact False.elim hk
  | cons k ks ih =>
    intro β f xs K hk
    cases xs with
    | nil => cases k <;> exact False.elim hk
    | cons x xs =>
      have step : ∀ (v : Value) (y : k.T), (∀ g, x.is g v) → x.plain = true → appK ks (f y) xs K → ∃ vs : List Value, vs.length = (x :: xs).length ∧ (x :: xs).length = (k :: ks).length ∧ (∀ g, inStep g (x :: xs) vs) ∧ (∀ z ∈ x :: xs, z.plain = true) ∧ True := by
        intro v y hv hp hr
        obtain ⟨vs, hl, hxl, hst, hpl, _⟩ := ih hr
        refine ⟨v :: vs, by simp [hl], by simp [hxl], fun g => ⟨by simp [hl], fun i hi => ?_⟩, fun z hz => ?_, trivial⟩
        · cases i with
          | zero => exact hv g
          | succ i => exact (hst g).2 i (by simpa using hi)
        · rcases List.mem_cons.1 hz with rfl | hz
          · exact hp
          · exact hpl z hz
      cases k with
      | int ik =>
        cases x with
        | v xv => cases xv with
          | int ik' n =>
            simp only [appK] at hk
            by_cases he : ik = ik'
            · rw [decide_eq_true he] at hk; exact step _ n (fun _ => rfl) rfl hk
            · rw [decide_eq_false he] at hk; exact False.elim hk
          | _ => exact False.elim hk
        | _ => exact False.elim hk
      | bool =>
        cases x with
        | v xv => cases xv with
          | bool b => exact step _ b (fun _ => rfl) rfl hk
          | _ => exact False.elim hk
        | _ => exact False.elim hk
      | str =>
        cases x with
        | v xv => cases xv with
          | string s => exact step _ s (fun _ => rfl) rfl hk
          | _ => exact False.elim hk
        | _ => exact False.elim hk
      | sl =>
        cases x with
        | v xv => cases xv with
          | slice a n c => exact step _ ⟨a, n, c⟩ (fun _ => rfl) rfl hk
          | _ => exact False.elim hk
        | _ => exact False.elim hk
      | ptr =>
        cases x with
        | v xv => cases xv with
          | pointer p => exact step _ p (fun _ => rfl) rfl hk
          | _ => exact False.elim hk
        | p b o => exact step _ (some ⟨b, o, none⟩) (fun _ => rfl) rfl hk
        | _ => exact False.elim hk
      | map =>
        cases x with
        | v xv => cases xv with
          | map m => exact step _ m (fun _ => rfl) rfl hk
          | _ => exact False.elim hk
        | _ => exact False.elim hk
      | raw =>
        cases x with
        | f v => exact step _ v (fun _ => rfl) rfl hk
        | _ => exact False.elim hk
end
end Go.Eng
