/-
  THE ENGINE, 7: cuts, arithmetic, comparisons, conversions, lengths.
-/
import Derived.Test.YtblghgacokoklaaDoorE5
import Derived.Laws.Strings
set_option linter.unusedSimpArgs false
set_option linter.unusedVariables false
namespace Go.Eng
section
variable {P : Program} {lo : List Nat} {fr : Hp} {g : Nat → Nat} {L : List LE} {h : Hp} {w : World} {K : KO}

/-- Operands that may be missing. -/
def optIs (g : Nat → Nat) : Option AV → Option Value → Prop
  | none, none => True
  | some x, some v => x.is g v
  | _, _ => False
theorem bnd_spec {x : Option AV} {v : Option Value} {d : Int} {K : Int → Prop} (hk : bnd x d K) (hx : optIs g x v) : (v = none ∧ x = none ∧ K d) ∨ ∃ k n, v = some (.int k n) ∧ x.isSome = true ∧ K n := by
  cases x with
  | none => cases v with
    | none => exact .inl ⟨rfl, rfl, hk⟩
    | some v => exact False.elim hx
  | some x => cases v with
    | none => exact False.elim hx
    | some v =>
      cases x with
      | v xv =>
        have : v = xv := hx
        subst this
        cases v with
        | int k n => exact .inr ⟨k, n, rfl, rfl, hk⟩
        | _ => exact False.elim hk
      | _ => exact False.elim hk
theorem run_bound {k : IntKind} {n : Int} {y : Nat} {code : BoundsCode} (h0 : 0 ≤ n) (h1 : n ≤ (y : Int)) : (Instr.sliceBound (.int k n) y code).run P w = .ok n.toNat w := by
  simp [Instr.sliceBound, asIntOf, h0, h1]
theorem slice_ok (H : HO fr g L h w) {t : Nat} {x : AV} {y : Value} {l' hi mx : Option AV} {lv hv mv : Option Value} (hk : dSlice P t x l' hi mx L h K) (hx : x.is g y) (hl : optIs g l' lv) (hh : optIs g hi hv) (hm : optIs g mx mv) :
    Out fr g L w ((Instr.sliceAt t y lv hv mv).run P w) K := by
  unfold dSlice at hk
  cases hd : under P t with
  | string =>
    rw [hd] at hk
    have hut := under_some hd (by simp)
    cases x with
    | v xv =>
      have hy : y = xv := hx
      subst hy
      cases y with
      | string s =>
        cases mx with
        | some m => exact False.elim hk
        | none =>
          cases mv with
          | some _ => exact False.elim hm
          | none =>
            dsimp only at hk
            have key : ∀ (l u : Int) (lv hv : Option Value), okSub s l u → (lv = none ∧ l = 0 ∨ ∃ k, lv = some (.int k l)) → (hv = none ∧ u = s.size ∨ ∃ k, hv = some (.int k u)) →
                (Instr.sliceAt t (.string s) lv hv none).run P w = .ok (.string (s.extract l.toNat u.toNat)) w := by
              intro l u lv hv ⟨h0, h1, h2⟩ hl hh
              have hb : (Instr.sliceBounds false s.size s.size lv hv none).run P w = .ok (l.toNat, u.toNat, s.size) w := by
                unfold Instr.sliceBounds
                rcases hh with ⟨rfl, rfl⟩ | ⟨kh, rfl⟩ <;> rcases hl with ⟨rfl, rfl⟩ | ⟨kl, rfl⟩
                · simp
                · simp [run_bound h0 h1]
                · simp [run_bound (by omega : 0 ≤ u) h2]
                · simp [run_bound (by omega : 0 ≤ u) h2, run_bound h0 (show l ≤ ((u.toNat : Nat) : Int) by omega)]
              unfold Instr.sliceAt Instr.slice
              simp only [Sem.run_bind, run_underlying hut, Result.andThen_ok]
              simp [hb]
            rcases bnd_spec hk hl with ⟨rfl, rfl, hk1⟩ | ⟨kl, l, rfl, _, hk1⟩ <;> rcases bnd_spec hk1 hh with ⟨rfl, rfl, hc, hK⟩ | ⟨kh, u, rfl, _, hc, hK⟩
            all_goals exact Out.here H (x := .v _) (key _ _ _ _ hc (by first | exact .inl ⟨rfl, rfl⟩ | exact .inr ⟨_, rfl⟩) (by first | exact .inl ⟨rfl, rfl⟩ | exact .inr ⟨_, rfl⟩)) rfl hK
      | _ => exact False.elim hk
    | _ => exact False.elim hk
  | slice e =>
    rw [hd] at hk
    have hut := under_some hd (by simp)
    have hq := grd_spec hk
    clear hk
    obtain ⟨hg, hk⟩ := hq
    simp only [Bool.and_eq_true, Bool.or_eq_true] at hg
    obtain ⟨hie, hmx⟩ := hg
    cases x with
    | v xv =>
      have hy : y = xv := hx
      subst hy
      cases y with
      | slice a n c =>
        dsimp only at hk
        have key : ∀ (l u m : Int) (lv hv mv : Option Value), Sl.okCut ⟨a, n, c⟩ l u m → (lv = none ∧ l = 0 ∨ ∃ k, lv = some (.int k l)) → (hv = none ∧ u = n ∧ mv = none ∨ ∃ k, hv = some (.int k u)) → (mv = none ∧ m = c ∨ ∃ k, mv = some (.int k m)) →
            (Instr.sliceAt t (.slice a n c) lv hv mv).run P w = .ok (Sl.cut ⟨a, n, c⟩ (P.cellsOf e) l u m).v w := by
          intro l u m lv hv mv ⟨h0, h1, h2, h3⟩ hl hh hm
          have h3 : m ≤ (c : Int) := h3
          have hb : (Instr.sliceBounds true n c lv hv mv).run P w = .ok (l.toNat, u.toNat, m.toNat) w := by
            unfold Instr.sliceBounds
            rcases hm with ⟨rfl, rfl⟩ | ⟨km, rfl⟩
            · rcases hh with ⟨rfl, rfl, _⟩ | ⟨kh, rfl⟩ <;> rcases hl with ⟨rfl, rfl⟩ | ⟨kl, rfl⟩
              · simp
              · simp [run_bound h0 h1]
              · simp [run_bound (by omega : 0 ≤ u) h2]
              · simp [run_bound (by omega : 0 ≤ u) h2, run_bound h0 (show l ≤ ((u.toNat : Nat) : Int) by omega)]
            · rcases hh with ⟨rfl, rfl, hx⟩ | ⟨kh, rfl⟩
              · cases hx
              · rcases hl with ⟨rfl, rfl⟩ | ⟨kl, rfl⟩
                · simp [run_bound (by omega : 0 ≤ m) h3, run_bound (by omega : 0 ≤ u) (show u ≤ ((m.toNat : Nat) : Int) by omega)]
                · simp [run_bound (by omega : 0 ≤ m) h3, run_bound (by omega : 0 ≤ u) (show u ≤ ((m.toNat : Nat) : Int) by omega), run_bound h0 (show l ≤ ((u.toNat : Nat) : Int) by omega)]
          unfold Instr.sliceAt Instr.slice
          simp only [Sem.run_bind, run_underlying hut, Result.andThen_ok, hb, run_sizeOf' hie]
          simp [Sem.run_pure, Sl.cut]
        rcases bnd_spec hk hl with ⟨rfl, rfl, hk1⟩ | ⟨kl, l, rfl, _, hk1⟩ <;> rcases bnd_spec hk1 hh with ⟨rfl, rfl, hk2⟩ | ⟨kh, u, rfl, _, hk2⟩ <;> rcases bnd_spec hk2 hm with ⟨rfl, rfl, hc, hK⟩ | ⟨km, m, rfl, hms, hc, hK⟩
        all_goals first
          | exact Out.here H (x := .v _) (key _ _ _ _ _ _ hc (by first | exact .inl ⟨rfl, rfl⟩ | exact .inr ⟨_, rfl⟩) (by first | exact .inl ⟨rfl, rfl, rfl⟩ | exact .inr ⟨_, rfl⟩) (by first | exact .inl ⟨rfl, rfl⟩ | exact .inr ⟨_, rfl⟩)) rfl hK
          | (exfalso; cases mx <;> simp_all)
      | _ => exact False.elim hk
    | _ => exact False.elim hk
  | _ => rw [hd] at hk; exact False.elim hk

theorem un_ok (H : HO fr g L h w) {op : UnOp} {x : AV} {y : Value} (hk : dUn op x L h K) (hx : x.is g y) : Out fr g L w ((Op.unary op y).run P w) K := by
  unfold dUn at hk
  cases x with
  | v xv =>
    have hy : y = xv := hx
    subst hy
    cases op <;> cases y <;> first
      | exact False.elim hk
      | exact Out.here H (x := .v _) (by simp [Op.unary, Op.intArith, Op.intBits, bitsI]; rfl) rfl hk
      | exact Out.here H (x := .v _) (by simp [Op.unary, Op.intArith, Op.intBits, bitsI]) rfl hk
  | _ => cases op <;> exact False.elim hk
theorem Out.par (H : HO fr g L h w) {c : Prop} {b : Bool} {r : Result Value} {T F : Prop} (hr : r = .ok (.bool b) w) (hb : b = true ↔ c)
    (hT : c → T → Out fr g L w r K) (hF : ¬ c → F → Out fr g L w r K) (hk : par c T F) : Out fr g L w r K := by
  by_cases hc : c
  · exact hT hc (hk.1 hc)
  · exact hF hc (hk.2 hc)
/-- A truth, and which way it goes. -/
theorem Out.tf (H : HO fr g L h w) {c : Prop} {b : Bool} {r : Result Value} (hr : r = .ok (.bool b) w) (hb : b = true ↔ c)
    (hk : Go.Eng.par c (K (.v (.bool true)) L h) (K (.v (.bool false)) L h)) : Out fr g L w r K := by
  by_cases hc : c
  · have : b = true := hb.2 hc
    subst this
    exact Out.here H (x := .v _) hr rfl (hk.1 hc)
  · have : b = false := by cases b with | true => exact absurd (hb.1 rfl) hc | false => rfl
    subst this
    exact Out.here H (x := .v _) hr rfl (hk.2 hc)
theorem Out.ft (H : HO fr g L h w) {c : Prop} {b : Bool} {r : Result Value} (hr : r = .ok (.bool b) w) (hb : b = true ↔ ¬ c)
    (hk : Go.Eng.par c (K (.v (.bool false)) L h) (K (.v (.bool true)) L h)) : Out fr g L w r K :=
  Out.tf H hr hb ⟨fun h1 => hk.2 h1, fun h1 => hk.1 (Classical.not_not.1 h1)⟩
theorem int_ok (H : HO fr g L h w) {op : BinOp} {t : Nat} {k k' : IntKind} {a b : Int} (hk : dInt op k a k' b L h K) : Out fr g L w ((binOp op t (.int k a) (.int k' b)).run P w) K := by
  unfold dInt at hk
  have sh : op = .shl ∨ op = .shr ∨ (op ≠ .shl ∧ op ≠ .shr) := by cases op <;> simp
  rcases sh with rfl | rfl | ⟨h1, h2⟩
  · obtain ⟨h0, hk⟩ := hk
    refine Out.here H (x := .v _) ?_ rfl hk
    simp [binOp, Op.shift, Int.not_lt.2 h0, shlI]
  · obtain ⟨h0, hk⟩ := hk
    refine Out.here H (x := .v _) ?_ rfl hk
    simp [binOp, Op.shift, Int.not_lt.2 h0, shrI]
  · by_cases hkk : k = k'
    · subst hkk
      cases op <;> simp only [decide_true] at hk <;> first
        | exact absurd rfl h1
        | exact absurd rfl h2
        | exact False.elim hk
        | exact Out.here H (x := .v _) (by simp [binOp, Op.intArith]; rfl) rfl hk
        | exact Out.here H (x := .v _) (by simp [binOp, Op.intBits, bitsI]; rfl) rfl hk
        | (obtain ⟨h0, hk⟩ := hk; exact Out.here H (x := .v _) (by simp [binOp, Op.intDiv, h0]) rfl hk)
        | exact Out.tf H (by simp [binOp, Op.intCmp]; rfl) (by simp) hk
        | exact Out.ft H (by simp [binOp, Op.intCmp]; rfl) (by simp) hk
    · exfalso
      have hd : decide (k = k') = false := decide_eq_false hkk
      rw [hd] at hk
      cases op <;> first
        | exact absurd rfl h1
        | exact absurd rfl h2
        | exact hk
theorem str_ext {s t : ByteArray} : s.toList = t.toList ↔ s = t := by
  constructor
  · intro hst
    have h1 : ∀ x : ByteArray, x.toList = x.data.toList := fun x => ByteArray.toList_eq x
    rw [h1, h1] at hst
    exact ByteArray.ext (Array.ext' hst)
  · intro hst; rw [hst]
theorem str_ok (H : HO fr g L h w) {op : BinOp} {t : Nat} {s u : ByteArray} (hk : dStr op s u L h K) : Out fr g L w ((binOp op t (.string s) (.string u)).run P w) K := by
  unfold dStr at hk
  have hmax : IntKind.i64.max = 9223372036854775807 := by decide
  cases op <;> first
    | exact False.elim hk
    | (obtain ⟨h0, hk⟩ := hk
       refine Out.here H (x := .v _) ?_ rfl hk
       have hn : ¬ ((s.size + u.size : Nat) : Int) > IntKind.i64.max := by rw [hmax]; omega
       simp only [binOp, Op.stringOp, hn, if_false]; rfl)
    | exact Out.tf H (b := s.toList == u.toList) (by simp only [binOp, Op.stringOp]; rfl) (by rw [beq_iff_eq]; exact str_ext) hk
    | exact Out.ft H (b := !(s.toList == u.toList)) (by simp only [binOp, Op.stringOp]; rfl) (by rw [Bool.not_eq_true', beq_eq_false_iff_ne]; exact not_congr str_ext) hk
    | exact Out.tf H (b := Op.bytesLess s.toList u.toList) (by simp only [binOp, Op.stringOp]; rfl) Iff.rfl hk
    | exact Out.tf H (b := Op.bytesLess s.toList u.toList || s.toList == u.toList) (by simp only [binOp, Op.stringOp]; rfl) (by rw [Bool.or_eq_true, beq_iff_eq]; exact or_congr Iff.rfl str_ext) hk
    | exact Out.ft H (b := !(Op.bytesLess s.toList u.toList || s.toList == u.toList)) (by simp only [binOp, Op.stringOp]; rfl) (by rw [Bool.not_eq_true', Bool.eq_false_iff, ne_eq, Bool.or_eq_true, beq_iff_eq]; exact not_congr (or_congr Iff.rfl str_ext)) hk
    | exact Out.ft H (b := !(Op.bytesLess s.toList u.toList)) (by simp only [binOp, Op.stringOp]; rfl) (by rw [Bool.not_eq_true', Bool.eq_false_iff]; exact Iff.rfl) hk
theorem extract_ok (H : HO fr g L h w) {x : AV} {y : Value} {i : Nat} (hk : dExtract x i L h K) (hx : x.is g y) : Out fr g L w ((Instr.extract y i).run P w) K := by
  unfold dExtract at hk
  cases x with
  | v xv =>
    have hy : y = xv := hx
    subst hy
    cases y with
    | tuple vs =>
      obtain ⟨vs⟩ := vs
      dsimp only at hk
      cases hv : vs[i]? with
      | none => rw [hv] at hk; exact False.elim hk
      | some v =>
        rw [hv] at hk
        refine Out.here H (x := .v _) ?_ rfl hk
        simp [Instr.extract, hv]
    | _ => exact False.elim hk
  | _ => exact False.elim hk
theorem len_ok (H : HO fr g L h w) {t ty : Nat} {x : AV} {y : Value} (hk : dLen P t x L h K) (hx : x.is g y) : Out fr g L w ((Builtin.len_ #[t] ty #[y]).run P w) K := by
  unfold dLen at hk
  cases hd : under P t <;> rw [hd] at hk <;> try exact False.elim hk
  all_goals have hut := under_some hd (by simp)
  case string =>
    cases x with
    | v xv =>
      have hy : y = xv := hx
      subst hy
      cases y <;> first | exact False.elim hk | (refine Out.here H (x := .v _) ?_ rfl hk; simp [Builtin.len_, run_underlying hut, goInt])
    | _ => exact False.elim hk
  case slice e =>
    cases x with
    | v xv =>
      have hy : y = xv := hx
      subst hy
      cases y <;> first | exact False.elim hk | (refine Out.here H (x := .v _) ?_ rfl hk; simp [Builtin.len_, run_underlying hut, goInt])
    | sl l n =>
      have hy : y = .slice (some ⟨g l, 0, none⟩) n n := hx
      subst hy
      refine Out.here H (x := .v _) ?_ rfl hk
      simp [Builtin.len_, run_underlying hut, goInt]
    | _ => exact False.elim hk
  case array n e =>
    refine Out.here H (x := .v _) ?_ rfl hk
    simp [Builtin.len_, run_underlying hut, goInt]
theorem cap_ok (H : HO fr g L h w) {t ty : Nat} {x : AV} {y : Value} (hk : dCap P t x L h K) (hx : x.is g y) : Out fr g L w ((Builtin.cap_ #[t] ty #[y]).run P w) K := by
  unfold dCap at hk
  cases hd : under P t <;> rw [hd] at hk <;> try exact False.elim hk
  have hut := under_some hd (by simp)
  cases x with
  | v xv =>
    have hy : y = xv := hx
    subst hy
    cases y <;> first | exact False.elim hk | (refine Out.here H (x := .v _) ?_ rfl hk; simp [Builtin.cap_, run_underlying hut, goInt])
  | _ => exact False.elim hk
end
end Go.Eng
