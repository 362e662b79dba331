/-
  TEXTS OF MINE, JOINED: F8 F9 E16 E17 S0.
-/
import Derived.Test.YtblghgacokoklaaDoorK1
import Derived.Deep.LoopGhost
import Derived.ScopeJumps
section
/-
  THE ENGINE, 25: any order of a region in which blocks may be made early.
-/
set_option linter.unusedSimpArgs false
set_option linter.unusedVariables false
set_option linter.unusedSectionVars false
namespace Go.Eng
section
variable {P : Program} {lo : List Nat} {G : List (Nat × (List Value → PT))} {V : Value → List Value → PT} {fr : Hp} {ops : Array Oper} {tab : List (List Nat)} {lt : List Nat} {K : KS} {g0 : Nat → Nat} {L0 : List LE} {a0 : Act} {w0 : World}

structure Su (P : Program) (lo : List Nat) (ops : Array Oper) (tab : List (List Nat)) (lt : List Nat) : Prop where
  sel : ∀ (j : Nat) (o : Oper) cs b, ops[j]? = some o → o.op ≠ .select cs b
  own : ∀ (x : Nat) (o : Oper), ops[x]? = some o → quietO P o = true → ∀ d, o.dst = some d → d ∉ o.looksAt ops
  anc : ∀ i x, notAnc tab i x = false → Anc ops x i
  late : ∀ j ∈ lt, ∃ o, ops[j]? = some o ∧ isLate lo o = true ∧ quietO P o = false ∧ (∀ d, o.dst = some d → d ∉ o.looksAt ops) ∧ ∀ x ∈ (tab[j]?).getD [], x ∉ lt
structure PrL (P : Program) (ops : Array Oper) (tab : List (List Nat)) (lt : List Nat) (x i : Nat) : Prop where
  or_ : Anc ops x i ∨ (Ind ops x i ∧ ∀ o, ops[x]? = some o → quietO P o = true) ∨ (i ∈ lt ∧ Ind ops x i)
  ind : PI P ops tab x i
  seen : ∀ o, ops[x]? = some o → i ∉ edgesOf o
def qs (D : List Nat) : List Nd := D.map fun i => (i, true, [])
def un (l : List Nat) (E : List (Nat × Nat)) : List Nat := l.filter fun j => !memN j (E.map (·.1))
theorem mem_un {l : List Nat} {E : List (Nat × Nat)} {j : Nat} : j ∈ un l E ↔ j ∈ l ∧ j ∉ E.map (·.1) := by
  unfold un
  rw [List.mem_filter]
  constructor
  · rintro ⟨h1, h2⟩
    exact ⟨h1, fun h => by rw [memN_iff.2 h] at h2; cases h2⟩
  · rintro ⟨h1, h2⟩
    refine ⟨h1, ?_⟩
    cases hm : memN j (E.map (·.1)) with
    | false => rfl
    | true => exact absurd (memN_iff.1 hm) h2
theorem runP_mono {Q : Exit → Act → World → Prop} {Φ Ψ : Act → World → Prop} (h : ∀ a w, Φ a w → Ψ a w) : ∀ (D : List Nat) (a : Act) (w : World), runP P ops Q Φ (qs D) a w → runP P ops Q Ψ (qs D) a w
  | [], a, w, hr => h a w hr
  | x :: D, a, w, hr => by
    obtain ⟨o, v, h1, h2, h3⟩ := hr
    exact ⟨o, v, h1, h2, runP_mono h D _ _ h3⟩
theorem runP_to {Q : Exit → Act → World → Prop} {Φ Ψ : Act → World → Prop} {R : List Nd} (h : ∀ a w, Φ a w → runP P ops Q Ψ R a w) : ∀ (D : List Nat) (a : Act) (w : World), runP P ops Q Φ (qs D) a w → runP P ops Q Ψ (qs D ++ R) a w
  | [], a, w, hr => h a w hr
  | x :: D, a, w, hr => by
    obtain ⟨o, v, h1, h2, h3⟩ := hr
    exact ⟨o, v, h1, h2, runP_to h D _ _ h3⟩
theorem runP_ex {Q : Exit → Act → World → Prop} {Φ : Nat → Act → World → Prop} : ∀ (D : List Nat) (a : Act) (w : World), runP P ops Q (fun a w => ∃ b, Φ b a w) (qs D) a w → ∃ b, runP P ops Q (Φ b) (qs D) a w
  | [], a, w, hr => hr
  | x :: D, a, w, hr => by
    obtain ⟨o, v, h1, h2, h3⟩ := hr
    obtain ⟨b, h4⟩ := runP_ex D _ _ h3
    exact ⟨b, o, v, h1, h2, h4⟩
theorem qs_app (D D' : List Nat) : qs (D ++ D') = qs D ++ qs D' := List.map_append
/-- The state of a region that is on its way. -/
structure St (P : Program) (ops : Array Oper) (tab : List (List Nat)) (lt l0 : List Nat) (listed : Array Bool) (l D : List Nat) (E : List (Nat × Nat)) : Prop where
  sub : (D ++ l).Sublist l0
  qui : ∀ x ∈ D, ∃ o, ops[x]? = some o ∧ quietO P o = true
  ear : ∀ e ∈ E, e.1 ∈ lt ∧ e.1 ∈ l
  ek : (E.map (·.1)).Nodup
  sz : listed.size = ops.size
  un_ : ∀ j, listed.getD j true = false ↔ j ∈ D ++ un l E
  down : Down ops listed
section
variable {l0 : List Nat} (S : Su P lo ops tab lt) (hl0 : l0.Pairwise (PrL P ops tab lt)) (hnd0 : l0.Nodup) (hall : ∀ i ∈ l0, ∃ o, ops[i]? = some o ∧ ∀ e ∈ edgesOf o, e < i)
include S hl0 hnd0 hall
theorem St.unlisted {listed : Array Bool} {l D : List Nat} {E : List (Nat × Nat)} (T : St P ops tab lt l0 listed l D E) {j : Nat} (hj : j ∈ D ++ un l E) : listed.getD j false = false := by
  have h1 := (T.un_ j).2 hj
  by_cases hjs : j < listed.size
  · simp only [Array.getD, hjs, dif_pos] at h1 ⊢; exact h1
  · simp [Array.getD, hjs]
theorem St.listed {listed : Array Bool} {l D : List Nat} {E : List (Nat × Nat)} (T : St P ops tab lt l0 listed l D E) {j : Nat} (hj : j ∈ l0) (hn : j ∉ D ++ un l E) : listed.getD j false = true := by
  obtain ⟨o, ho, _⟩ := hall j hj
  have hjs : j < listed.size := by rw [T.sz]; exact (Array.getElem?_eq_some_iff.1 ho).1
  have : ¬ listed.getD j true = false := fun h => hn ((T.un_ j).1 h)
  simp only [Array.getD, hjs, dif_pos] at this ⊢
  simpa using this
theorem St.pair {listed : Array Bool} {l D : List Nat} {E : List (Nat × Nat)} (T : St P ops tab lt l0 listed l D E) : (D ++ l).Pairwise (PrL P ops tab lt) := hl0.sublist T.sub
theorem St.nd {listed : Array Bool} {l D : List Nat} {E : List (Nat × Nat)} (T : St P ops tab lt l0 listed l D E) : (D ++ l).Nodup := hnd0.sublist T.sub
/-- What has been made early stands behind nothing that has not come. -/
theorem St.early_anc {listed : Array Bool} {l D : List Nat} {E : List (Nat × Nat)} (T : St P ops tab lt l0 listed l D E) {e : Nat × Nat} (he : e ∈ E) {x : Nat} (hx : x ∈ D ++ un l E) : ¬ Anc ops x e.1 := by
  intro ha
  have hel := (T.ear e he).2
  have hl0e : e.1 ∈ l0 := T.sub.subset (List.mem_append_right _ hel)
  have hen : e.1 ∉ D ++ un l E := by
    intro h
    rcases List.mem_append.1 h with h | h
    · have := St.nd S hl0 hnd0 hall T
      rw [List.nodup_append] at this
      exact this.2.2 _ h _ hel rfl
    · exact (mem_un.1 h).2 (List.mem_map_of_mem (f := fun x : Nat × Nat => x.1) he)
  have hls := St.listed S hl0 hnd0 hall T hl0e hen
  have := ha.listed T.down fun o ho e' he' => T.down _ o ho hls e' he'
  rw [St.unlisted S hl0 hnd0 hall T hx] at this
  cases this
theorem late_not_quiet {j : Nat} (hj : j ∈ lt) {o : Oper} (ho : ops[j]? = some o) : quietO P o = false := by
  obtain ⟨o', ho', _, hq, _⟩ := S.late j hj
  rw [ho] at ho'; cases ho'; exact hq
/-- What only reads comes, and what waits comes out, till something that acts is next. -/
theorem norm (hG : GOk P G) (hV : VOk P V) {Q : Exit → Act → World → Prop} {listed : Array Bool} {a : Act} {w : World} : ∀ (l D : List Nat) (E : List (Nat × Nat)), St P ops tab lt l0 listed l D E → runP P ops Q (DS P lo G V ops tab lt K fr g0 L0 a0 w0 l D E) (qs D) a w →
    ∃ l' D' E', St P ops tab lt l0 listed l' D' E' ∧ D' ++ un l' E' = D ++ un l E ∧ runP P ops Q (DS P lo G V ops tab lt K fr g0 L0 a0 w0 l' D' E') (qs D') a w ∧ (l' = [] ∨ ∃ hd rest o, l' = hd :: rest ∧ ops[hd]? = some o ∧ quietO P o = false ∧ hd ∉ E'.map (·.1))
  | [], D, E, T, h => ⟨[], D, E, T, rfl, h, .inl rfl⟩
  | x :: l, D, E, T, h => by
    have hxl0 : x ∈ l0 := T.sub.subset (List.mem_append_right _ List.mem_cons_self)
    obtain ⟨o, ho, _⟩ := hall x hxl0
    have hpw := List.pairwise_append.1 (St.pair S hl0 hnd0 hall T)
    have hnd := List.nodup_append.1 (St.nd S hl0 hnd0 hall T)
    have hxnl : x ∉ l := (List.nodup_cons.1 hnd.2.1).1
    cases hq : quietO P o with
    | true =>
      have hxlt : x ∉ lt := fun hx => by rw [late_not_quiet S hl0 hnd0 hall hx ho] at hq; cases hq
      have hxE : x ∉ E.map (·.1) := fun hx => by
        obtain ⟨e, he, rfl⟩ := List.mem_map.1 hx
        exact hxlt (T.ear e he).1
      have hxun : x ∈ D ++ un (x :: l) E := List.mem_append_right _ (mem_un.2 ⟨List.mem_cons_self, hxE⟩)
      have hD : ∀ y ∈ D, Ind ops x y := fun y hy => by
        rcases (hpw.2.2 y hy x List.mem_cons_self).ind with h | h
        · have := h.2 o ho; rw [hq] at this; cases this
        · exact h
      have hE : ∀ e ∈ E, Ind ops x e.1 := fun e he => by
        have hel := (T.ear e he).2
        have hne : e.1 ≠ x := fun q => hxE (q ▸ List.mem_map_of_mem (f := fun x : Nat × Nat => x.1) he)
        have hel' : e.1 ∈ l := (List.mem_cons.1 hel).resolve_left hne
        rcases ((List.pairwise_cons.1 hpw.2.1).1 _ hel').or_ with h | h | h
        · exact absurd h (St.early_anc S hl0 hnd0 hall T he hxun)
        · exact h.1
        · exact h.2
      have hun : un (x :: l) E = x :: un l E := by
        unfold un
        rw [List.filter_cons, if_pos]
        cases hm : memN x (E.map (·.1)) with
        | false => rfl
        | true => exact absurd (memN_iff.1 hm) hxE
      have hh : runP P ops Q (DS P lo G V ops tab lt K fr g0 L0 a0 w0 l (D ++ [x]) E) (qs (D ++ [x])) a w := by
        rw [qs_app]
        exact runP_to (fun a w hd => by
          obtain ⟨v, hy, hd'⟩ := adv_quiet hG hV S.sel S.own ho hq hD hE hd
          exact ⟨o, v, ho, hy, hd'⟩) D a w h
      have T' : St P ops tab lt l0 listed l (D ++ [x]) E := by
        refine ⟨by rw [List.append_assoc]; exact T.sub, fun y hy => ?_, fun e he => ⟨(T.ear e he).1, ?_⟩, T.ek, T.sz, fun j => ?_, T.down⟩
        · rcases List.mem_append.1 hy with hy | hy
          · exact T.qui y hy
          · simp only [List.mem_singleton] at hy; subst hy; exact ⟨o, ho, hq⟩
        · have hne : e.1 ≠ x := fun q => hxE (q ▸ List.mem_map_of_mem (f := fun x : Nat × Nat => x.1) he)
          exact (List.mem_cons.1 (T.ear e he).2).resolve_left hne
        · rw [T.un_ j, hun, List.append_assoc]; rfl
      obtain ⟨l', D', E', h1, h2, h3, h4⟩ := norm hG hV l (D ++ [x]) E T' hh
      exact ⟨l', D', E', h1, by rw [h2, hun, List.append_assoc]; rfl, h3, h4⟩
    | false =>
      by_cases hxE : x ∈ E.map (·.1)
      · obtain ⟨⟨x', b⟩, he, hx'⟩ := List.mem_map.1 hxE
        have hx' : x' = x := hx'
        subst hx'
        have hlt := (T.ear _ he).1
        obtain ⟨o2, ho2, hlate, _, _, _⟩ := S.late x' hlt
        have ho2 : ops[x']? = some o2 := ho2
        rw [ho] at ho2
        cases ho2
        have hDn : ∀ y ∈ D, notAnc tab x' y = true := fun y hy => by
          cases hna : notAnc tab x' y with
          | true => rfl
          | false => exact absurd (S.anc _ _ hna) (St.early_anc S hl0 hnd0 hall T he (List.mem_append_left _ hy))
        have hfil : ∀ j, j ≠ x' → (j ∈ (E.filter fun e => e.1 != x').map (·.1) ↔ j ∈ E.map (·.1)) := fun j hj => by
          constructor
          · intro h
            obtain ⟨e, he, rfl⟩ := List.mem_map.1 h
            exact List.mem_map_of_mem (f := fun x : Nat × Nat => x.1) (List.mem_filter.1 he).1
          · intro h
            obtain ⟨e, he, rfl⟩ := List.mem_map.1 h
            exact List.mem_map_of_mem (f := fun x : Nat × Nat => x.1) (List.mem_filter.2 ⟨he, by simpa using hj⟩)
        have hun : un l (E.filter fun e => e.1 != x') = un (x' :: l) E := by
          unfold un
          rw [List.filter_cons, if_neg (by rw [memN_iff.2 hxE]; simp)]
          refine List.filter_congr fun j hj => ?_
          have hne : j ≠ x' := fun q => hxnl (q ▸ hj)
          cases h1 : memN j ((E.filter fun e => e.1 != x').map (·.1)) with
          | true => rw [memN_iff.2 ((hfil j hne).1 (memN_iff.1 h1))]
          | false =>
            cases h2 : memN j (E.map (·.1)) with
            | false => rfl
            | true => rw [memN_iff.2 ((hfil j hne).2 (memN_iff.1 h2))] at h1; cases h1
        have hh : runP P ops Q (DS P lo G V ops tab lt K fr g0 L0 a0 w0 l D (E.filter fun e => e.1 != x')) (qs D) a w :=
          runP_mono (fun a w hd => adv_pub ho hq hlate he hDn hd) D a w h
        have T' : St P ops tab lt l0 listed l D (E.filter fun e => e.1 != x') := by
          refine ⟨(List.Sublist.append_left (List.sublist_cons_self _ _) _).trans T.sub, T.qui, fun e hee => ?_, T.ek.sublist (List.filter_sublist.map _), T.sz, fun j => by rw [T.un_ j, hun], T.down⟩
          obtain ⟨h1, h2⟩ := List.mem_filter.1 hee
          exact ⟨(T.ear e h1).1, (List.mem_cons.1 (T.ear e h1).2).resolve_left (by simpa using h2)⟩
        obtain ⟨l', D', E', h1, h2, h3, h4⟩ := norm hG hV l D _ T' hh
        exact ⟨l', D', E', h1, by rw [h2, hun], h3, h4⟩
      · exact ⟨x :: l, D, E, T, rfl, h, .inr ⟨x, l, o, rfl, ho, hq, hxE⟩⟩
end
end
end Go.Eng
end
section
/-
  THE ENGINE, 26: a region in which blocks may be made early is what it denotes.
-/
set_option linter.unusedSimpArgs false
set_option linter.unusedVariables false
set_option linter.unusedSectionVars false
namespace Go.Eng
section
variable {P : Program} {lo : List Nat} {G : List (Nat × (List Value → PT))} {V : Value → List Value → PT} {fr : Hp} {ops : Array Oper} {tab : List (List Nat)} {lt : List Nat} {K : KS} {g0 : Nat → Nat} {L0 : List LE} {a0 : Act} {w0 : World}
theorem len_of {R R' : List Nat} {i : Nat} (h1 : R.Nodup) (h2 : R'.Nodup) (hi : i ∈ R) (h : ∀ j, j ∈ R' ↔ j ∈ R ∧ j ≠ i) : R'.length + 1 = R.length := by
  have hp : R'.Perm (R.erase i) := (List.perm_ext_iff_of_nodup h2 (h1.erase i)).2 fun j => by rw [h j, h1.mem_erase_iff]; exact And.comm
  have h0 := List.length_pos_of_mem hi
  rw [hp.length_eq, List.length_erase_of_mem hi]
  omega
section
variable {l0 : List Nat} (S : Su P lo ops tab lt) (hl0 : l0.Pairwise (PrL P ops tab lt)) (hnd0 : l0.Nodup) (hall : ∀ i ∈ l0, ∃ o, ops[i]? = some o ∧ ∀ e ∈ edgesOf o, e < i)
include S hl0 hnd0 hall
theorem St.mark {listed : Array Bool} {l D l' D' : List Nat} {E E' : List (Nat × Nat)} {i : Nat} (T : St P ops tab lt l0 listed l D E) (hi : i ∈ D ++ un l E) (hdeps : ∀ o, ops[i]? = some o → ∀ e ∈ edgesOf o, listed.getD e false = true)
    (hsub : (D' ++ l').Sublist l0) (hqui : ∀ x ∈ D', ∃ o, ops[x]? = some o ∧ quietO P o = true) (hear : ∀ e ∈ E', e.1 ∈ lt ∧ e.1 ∈ l') (hek : (E'.map (·.1)).Nodup) (hun : ∀ j, j ∈ D' ++ un l' E' ↔ j ∈ D ++ un l E ∧ j ≠ i) :
    St P ops tab lt l0 (listed.setIfInBounds i true) l' D' E' := by
  refine ⟨hsub, hqui, hear, hek, by simp [T.sz], fun j => ?_, fun j oj hoj hlj e he => ?_⟩
  · rw [hun j]
    by_cases hij : i = j
    · subst hij
      refine ⟨fun hh => ?_, fun hh => absurd rfl hh.2⟩
      by_cases his : i < listed.size
      · simp [his] at hh
      · simp [his] at hh
    · rw [getD_set_ne true hij, T.un_ j]
      exact ⟨fun h => ⟨h, Ne.symm hij⟩, fun h => h.1⟩
  · by_cases hij : i = j
    · subst hij
      exact getD_set_true (hdeps oj hoj e he)
    · rw [getD_set_ne false hij] at hlj
      exact getD_set_true (T.down j oj hoj hlj e he)
theorem any_late (hG : GOk P G) (hV : VOk P V) {K0 : Act → World → Prop} (hK0 : ∀ a w, Rel (opWrites ops.toList) fr g0 L0 a0 w0 K a w → K0 a w) :
    ∀ (fuel : Nat) (l D : List Nat) (E : List (Nat × Nat)) (listed : Array Bool) (a : Act) (w : World), (D ++ un l E).length = fuel → St P ops tab lt l0 listed l D E →
      runP P ops (fun e a w => match e with | .normal => K0 a w | _ => False) (DS P lo G V ops tab lt K fr g0 L0 a0 w0 l D E) (qs D) a w →
      wpAny P .any ops (fun e a w => match e with | .normal => K0 a w | _ => False) fuel listed a w := by
  intro fuel
  induction fuel with
  | zero =>
    intro l D E listed a w hl T h
    have hnil := List.eq_nil_of_length_eq_zero hl
    obtain ⟨l', D', E', T', hR, h', hn⟩ := norm S hl0 hnd0 hall hG hV l D E T h
    rw [hnil] at hR
    obtain ⟨hD', hu'⟩ := List.append_eq_nil_iff.1 hR
    subst hD'
    have hl' : l' = [] := by
      rcases hn with h | ⟨hd, rest, o, rfl, _, _, hE⟩
      · exact h
      · have : hd ∈ un (hd :: rest) E' := mem_un.2 ⟨List.mem_cons_self, hE⟩
        rw [hu'] at this; cases this
    subst hl'
    refine ⟨?_, ?_⟩
    · cases hr : Region.ready .any ops listed with
      | nil => rfl
      | cons j l =>
        have hj : j ∈ Region.ready .any ops listed := by rw [hr]; exact List.mem_cons_self
        have := (T.un_ j).1 (mem_ready.1 hj).1
        rw [hnil] at this; cases this
    · obtain ⟨fr', g, A, L, h, done, H, F, Tr0, hs, _, _, _, _, hk⟩ := h'
      exact hK0 _ _ ⟨g, A, L, h, F, H.sub hs, Tr0, hk⟩
  | succ fuel ih =>
    intro l D E listed a w hl T h
    have edge_bind : ∀ (o : Oper) (e : Edge), e ∈ o.after → Region.binds .any e = true → e.on ∈ edgesOf o := by
      intro o e he hb
      unfold edgesOf
      exact List.mem_map.2 ⟨e, List.mem_filter.2 ⟨Array.mem_toList_iff.2 he, hb⟩, rfl⟩
    have bind_edge : ∀ (o : Oper) (k : Nat), k ∈ edgesOf o → ∃ e ∈ o.after, Region.binds .any e = true ∧ e.on = k := by
      intro o k hk
      unfold edgesOf at hk
      obtain ⟨e, he, rfl⟩ := List.mem_map.1 hk
      obtain ⟨h1, h2⟩ := List.mem_filter.1 he
      exact ⟨e, Array.mem_toList_iff.1 h1, h2, rfl⟩
    obtain ⟨l', D', E', T', hR, h', hn⟩ := norm S hl0 hnd0 hall hG hV l D E T h
    clear h T
    rw [← hR] at hl
    clear hR l D E
    have hsubR : (D' ++ un l' E').Sublist (D' ++ l') := List.Sublist.append_left (by unfold un; exact List.filter_sublist) _
    have hpwR := (St.pair S hl0 hnd0 hall T').sublist hsubR
    have hndR := (St.nd S hl0 hnd0 hall T').sublist hsubR
    have hpw := List.pairwise_append.1 (St.pair S hl0 hnd0 hall T')
    have hnd := List.nodup_append.1 (St.nd S hl0 hnd0 hall T')
    refine ⟨fun h0 => ?_, fun i hi => ?_⟩
    · exfalso
      match hRR : D' ++ un l' E', hl with
      | n :: R', _ =>
        have hn0 : n ∈ D' ++ un l' E' := by rw [hRR]; exact List.mem_cons_self
        obtain ⟨o, ho, hlt⟩ := hall n (T'.sub.subset (hsubR.subset hn0))
        have hnr : n ∈ Region.ready .any ops listed := by
          refine mem_ready.2 ⟨(T'.un_ n).2 hn0, o, ho, fun e he hb => ?_⟩
          apply Classical.byContradiction
          intro hne
          have heo := edge_bind o e he hb
          have hes : e.on < listed.size := by rw [T'.sz]; have := hlt _ heo; have := (Array.getElem?_eq_some_iff.1 ho).1; omega
          have heu : listed.getD e.on true = false := by
            simp only [Array.getD, hes, dif_pos] at hne ⊢
            simpa using hne
          have hmem := (T'.un_ e.on).1 heu
          rw [hRR] at hmem hpwR
          rcases List.mem_cons.1 hmem with h1 | h1
          · have := hlt _ heo; omega
          · exact ((List.pairwise_cons.1 hpwR).1 _ h1).seen o ho heo
        rw [h0] at hnr; cases hnr
    · obtain ⟨hiu, o, ho, hal⟩ := mem_ready.1 hi
      have hiR := (T'.un_ i).1 hiu
      have hdeps : ∀ o', ops[i]? = some o' → ∀ e ∈ edgesOf o', listed.getD e false = true := by
        intro o' ho' e he
        rw [ho] at ho'
        cases ho'
        obtain ⟨e', he', hb, rfl⟩ := bind_edge o e he
        exact hal e' he' hb
      have noAnc : ∀ x ∈ D' ++ un l' E', ¬ Anc ops x i := fun x hx ha => by
        have := ha.listed T'.down hdeps
        rw [St.unlisted S hl0 hnd0 hall T' hx] at this
        cases this
      rcases List.mem_append.1 hiR with hiD | hil
      · -- it has been read
        obtain ⟨D1, D2, rfl⟩ := List.append_of_mem hiD
        obtain ⟨o', ho', hq⟩ := T'.qui i hiD
        rw [ho] at ho'
        cases ho'
        have hpD := List.pairwise_append.1 hpw.1
        have h1 : runP P ops (fun e a w => match e with | .normal => K0 a w | _ => False) (DS P lo G V ops tab lt K fr g0 L0 a0 w0 l' (D1 ++ i :: D2) E') (qs D1 ++ (i, true, []) :: qs D2) a w := by
          have := h'
          rw [qs_app] at this
          exact this
        have hrun := pull (fun c a w h => h) S.sel (qs D1) [] [] a w (fun x hx => ?_) (fun x hx ox hox => ?_) ?_ (fun y hy => hy) (fun y hy => (by cases hy)) h1
        · obtain ⟨o', v, ho', hy, hr⟩ := hrun
          rw [ho] at ho'
          cases ho'
          have hr : runP P ops (fun e a w => match e with | .normal => K0 a w | _ => False) (DS P lo G V ops tab lt K fr g0 L0 a0 w0 l' (D1 ++ D2) E') (qs (D1 ++ D2)) (a.put o.dst v) w := by
            rw [← qs_app] at hr
            refine runP_mono (fun a w hd => ?_) _ _ _ hr
            obtain ⟨fr', g, A, L, h, done, H, F, Tr0, hs, hDd, hlv, he, hn2, hk⟩ := hd
            have sub : ∀ x, x ∈ D1 ++ D2 → x ∈ D1 ++ i :: D2 := fun x hx => by
              rcases List.mem_append.1 hx with h | h
              · exact List.mem_append_left _ h
              · exact List.mem_append_right _ (List.mem_cons_of_mem _ h)
            exact ⟨fr', g, A, L, h, done, H, F, Tr0, hs, fun x hx => hDd x (sub x hx), fun x hx => hlv x (sub x hx), he, hn2, hk⟩
          have hun : ∀ j, j ∈ (D1 ++ D2) ++ un l' E' ↔ j ∈ (D1 ++ i :: D2) ++ un l' E' ∧ j ≠ i := by
            intro j
            have hndD := hnd.1
            rw [List.nodup_append] at hndD
            obtain ⟨_, n2, n3⟩ := hndD
            have ni := (List.nodup_cons.1 n2).1
            have hiu : i ∉ un l' E' := fun hm => hnd.2.2 i (List.mem_append_right _ List.mem_cons_self) i (mem_un.1 hm).1 rfl
            simp only [List.mem_append, List.mem_cons]
            constructor
            · rintro ((h | h) | h)
              · exact ⟨.inl (.inl h), fun q => n3 j h i List.mem_cons_self q⟩
              · exact ⟨.inl (.inr (.inr h)), fun q => ni (q ▸ h)⟩
              · exact ⟨.inr h, fun q => hiu (q ▸ h)⟩
            · rintro ⟨(h | h | h) | h, hne⟩
              · exact .inl (.inl h)
              · exact absurd h hne
              · exact .inl (.inr h)
              · exact .inr h
          have hsub' : ((D1 ++ D2) ++ l').Sublist ((D1 ++ i :: D2) ++ l') := List.Sublist.append_right (List.Sublist.append_left (List.sublist_cons_self _ _) _) _
          have hsubq : ∀ x ∈ D1 ++ D2, ∃ o, ops[x]? = some o ∧ quietO P o = true := fun x hx => T'.qui x (by
            rcases List.mem_append.1 hx with h | h
            · exact List.mem_append_left _ h
            · exact List.mem_append_right _ (List.mem_cons_of_mem _ h))
          have T2 := St.mark S hl0 hnd0 hall T' hiR hdeps (hsub'.trans T'.sub) hsubq T'.ear T'.ek hun
          have hnd2 : ((D1 ++ D2) ++ un l' E').Nodup := (hnd0.sublist T2.sub).sublist (List.Sublist.append_left (by unfold un; exact List.filter_sublist) _)
          have hlen := len_of hndR hnd2 hiR hun
          have hgo := ih l' (D1 ++ D2) E' _ _ _ (by omega) T2 hr
          unfold wpOp
          rw [ho]
          dsimp only
          rcases hy with ⟨hw, hv⟩ | ⟨hw, rfl⟩
          · rw [if_pos hw]
            refine .inl ?_
            unfold Oper.wp
            rw [hv]
            exact hgo
          · rw [if_neg (by rw [hw]; simp)]
            exact hgo
        · obtain ⟨y, hy, rfl⟩ := List.mem_map.1 hx
          have hp := hpD.2.2 y hy i List.mem_cons_self
          have hna := noAnc y (List.mem_append_left _ (List.mem_append_left _ hy))
          refine ⟨rfl, ?_, ?_, .inl rfl⟩
          · rcases hp.or_ with h | h | h
            · exact absurd h hna
            · exact h.1
            · exact h.2
          · rcases hp.ind with h | h
            · exact absurd (S.anc _ _ h.1) hna
            · exact h
        · obtain ⟨y, hy, rfl⟩ := List.mem_map.1 hx
          obtain ⟨oy, hoy, hqy⟩ := T'.qui y (List.mem_append_left _ hy)
          have hox : ops[y]? = some ox := hox
          rw [hoy] at hox
          cases hox
          exact S.own y _ hoy hqy
        · unfold qs
          rw [List.pairwise_map]
          refine hpD.1.imp_of_mem fun {y x} hy hx hp => ?_
          rcases hp.ind with h | h
          · obtain ⟨ox, hox, hqx⟩ := T'.qui x (List.mem_append_left _ hx)
            have := h.2 ox hox
            rw [hqx] at this; cases this
          · exact h
      · -- it acts
        obtain ⟨hil', hiE⟩ := mem_un.1 hil
        obtain ⟨hd, rest, od, rfl, hod, hqd, hdE⟩ := hn.resolve_left (fun q => by rw [q] at hil'; cases hil')
        have hdun : hd ∈ D' ++ un (hd :: rest) E' := List.mem_append_right _ (mem_un.2 ⟨List.mem_cons_self, hdE⟩)
        have fits : ∀ x ∈ qs D', Fit ops x (i, false, D') := fun x hx => by
          obtain ⟨y, hy, rfl⟩ := List.mem_map.1 hx
          have hp := hpw.2.2 y hy i hil'
          have hna := noAnc y (List.mem_append_left _ hy)
          refine ⟨rfl, ?_, ?_, .inr hy⟩
          · rcases hp.or_ with h | h | h
            · exact absurd h hna
            · exact h.1
            · exact h.2
          · rcases hp.ind with h | h
            · exact absurd (S.anc _ _ h.1) hna
            · exact h
        have owns : ∀ x ∈ qs D', ∀ ox, ops[x.1]? = some ox → ∀ d, ox.dst = some d → d ∉ ox.looksAt ops := fun x hx ox hox => by
          obtain ⟨y, hy, rfl⟩ := List.mem_map.1 hx
          obtain ⟨oy, hoy, hqy⟩ := T'.qui y hy
          have hox : ops[y]? = some ox := hox
          rw [hoy] at hox
          cases hox
          exact S.own y _ hoy hqy
        have pws : (qs D').Pairwise (fun y x => Ind ops x.1 y.1) := by
          unfold qs
          rw [List.pairwise_map]
          refine hpw.1.imp_of_mem fun {y x} hy hx hp => ?_
          rcases hp.ind with h | h
          · obtain ⟨ox, hox, hqx⟩ := T'.qui x hx
            have := h.2 ox hox
            rw [hqx] at this; cases this
          · exact h
        have hDi : ∀ x ∈ D', Ind ops i x := fun x hx => (fits _ (List.mem_map.2 ⟨x, hx, rfl⟩)).2.2.1
        have hDn : ∀ x ∈ D', notAnc tab i x = true := fun x hx => by
          cases hna : notAnc tab i x with
          | true => rfl
          | false => exact absurd (S.anc _ _ hna) (noAnc x (List.mem_append_left _ hx))
        -- at the end of either
        have finish : ∀ (Ψ : Act → World → Prop), (∀ a w, DS P lo G V ops tab lt K fr g0 L0 a0 w0 (hd :: rest) D' E' a w → eff P ops (fun e a w => match e with | .normal => K0 a w | _ => False) o (fun a' w' => (∀ y ∈ D', Chk P ops y a' w') ∧ Ψ a' w') a w) →
            (∀ a' w', runP P ops (fun e a w => match e with | .normal => K0 a w | _ => False) Ψ (qs D') a' w' → wpAny P .any ops (fun e a w => match e with | .normal => K0 a w | _ => False) fuel (listed.setIfInBounds i true) a' w') →
            wpOp P ops (fun e a w => match e with | .normal => K0 a w | _ => False) i (wpAny P .any ops (fun e a w => match e with | .normal => K0 a w | _ => False) fuel (listed.setIfInBounds i true)) a w := by
          intro Ψ hstep hgo
          have h1 := runP_to (R := [(i, false, D')]) (Ψ := Ψ) (fun a w hd => ⟨o, ho, hstep a w hd⟩) D' a w h'
          have hrun := pull (fun c a w h => h) S.sel (qs D') D' [] a w fits owns pws (fun y hy => (by cases hy)) (fun y hy => (by cases hy)) h1
          rw [List.append_nil] at hrun
          obtain ⟨o', ho', he⟩ := hrun
          rw [ho] at ho'
          cases ho'
          have he' := eff_mono (fun a' w' hk => hgo a' w' hk.2) he
          unfold eff at he'
          unfold wpOp
          rw [ho]
          dsimp only
          split
          · rename_i hw; rw [if_pos hw] at he'; exact .inl he'
          · rename_i hw; rw [if_neg hw] at he'; exact he'
        by_cases hilt : i ∈ lt
        · -- a block, early
          obtain ⟨o2, ho2, hlate, hqi, hself, hla⟩ := S.late i hilt
          rw [ho] at ho2
          cases ho2
          have hgd : o.guard = none := by
            unfold isLate at hlate
            simp only [Bool.and_eq_true] at hlate
            cases hg : o.guard with
            | none => rfl
            | some x => have := hlate.1.2; rw [hg] at this; cases this
          have hia : ∀ x ∈ (tab[i]?).getD [], x ∉ hd :: rest := fun x hx hxl => by
            have ha : Anc ops x i := S.anc i x (by unfold notAnc; rw [memN_iff.2 hx]; rfl)
            by_cases hxE : x ∈ E'.map (·.1)
            · obtain ⟨e, he, rfl⟩ := List.mem_map.1 hxE
              exact hla _ hx (T'.ear e he).1
            · exact noAnc x (List.mem_append_right _ (mem_un.2 ⟨hxl, hxE⟩)) ha
          have hEi : ∀ e ∈ E', Ind ops i e.1 := fun e he => by
            have hne : e.1 ≠ i := fun q => hiE (q ▸ List.mem_map_of_mem (f := fun x : Nat × Nat => x.1) he)
            have hel := (T'.ear e he).2
            obtain ⟨s, t, hst⟩ := List.append_of_mem hil'
            rw [hst] at hel hpw
            have hpl := List.pairwise_append.1 hpw.2.1
            rcases List.mem_append.1 hel with h | h
            · have hp := hpl.2.2 _ h i List.mem_cons_self
              rcases hp.ind with h | h
              · exfalso
                have hm : e.1 ∈ (tab[i]?).getD [] := by
                  have := h.1
                  unfold notAnc at this
                  exact memN_iff.1 (by simpa using this)
                exact hla _ hm (T'.ear e he).1
              · exact h
            · have h := (List.mem_cons.1 h).resolve_left hne
              have hp := (List.pairwise_cons.1 hpl.2.1).1 _ h
              rcases hp.or_ with h | h | h
              · exact absurd h (St.early_anc S hl0 hnd0 hall T' he hiR)
              · have := h.2 o ho; rw [hqi] at this; cases this
              · exact h.2
          refine finish (fun a w => ∃ b, DS P lo G V ops tab lt K fr g0 L0 a0 w0 (hd :: rest) D' (E' ++ [(i, b)]) a w) (fun a w hds => ?_) (fun a' w' hr => ?_)
          · obtain ⟨b, hb⟩ := early_step S.sel hod hqd ho hilt hil' hia hDi hEi hgd hself hds
            exact eff_mono (fun a' w' h => ⟨h.1, b, h.2⟩) hb
          · obtain ⟨b, hr⟩ := runP_ex D' a' w' hr
            have hmk : ∀ j, j ∈ (E' ++ [(i, b)]).map (·.1) ↔ j ∈ E'.map (·.1) ∨ j = i := fun j => by simp
            have hun : ∀ j, j ∈ D' ++ un (hd :: rest) (E' ++ [(i, b)]) ↔ j ∈ D' ++ un (hd :: rest) E' ∧ j ≠ i := by
              intro j
              have hiD : i ∉ D' := fun hm => hnd.2.2 i hm i hil' rfl
              rw [List.mem_append, List.mem_append, mem_un, mem_un, hmk]
              constructor
              · rintro (h | ⟨h1, h2⟩)
                · exact ⟨.inl h, fun q => hiD (q ▸ h)⟩
                · exact ⟨.inr ⟨h1, fun h => h2 (.inl h)⟩, fun q => h2 (.inr q)⟩
              · rintro ⟨h | ⟨h1, h2⟩, hne⟩
                · exact .inl h
                · exact .inr ⟨h1, fun h => h.elim h2 hne⟩
            have T2 := St.mark S hl0 hnd0 hall T' hiR hdeps T'.sub T'.qui (fun e he => by
              rcases List.mem_append.1 he with h | h
              · exact T'.ear e h
              · simp only [List.mem_singleton] at h; subst h; exact ⟨hilt, hil'⟩) (by
              rw [List.map_append, List.nodup_append]
              refine ⟨T'.ek, by simp, fun x hx y hy => ?_⟩
              simp only [List.map_cons, List.map_nil, List.mem_singleton] at hy
              subst hy
              exact fun q => hiE (q ▸ hx)) hun
            have hnd2 : (D' ++ un (hd :: rest) (E' ++ [(i, b)])).Nodup := (hnd0.sublist T2.sub).sublist (List.Sublist.append_left (by unfold un; exact List.filter_sublist) _)
            have hlen := len_of hndR hnd2 hiR hun
            exact ih _ _ _ _ _ _ (by omega) T2 hr
        · -- it is next
          have hih : i = hd := by
            rcases List.mem_cons.1 hil' with h | h
            · exact h
            · exfalso
              have hp := (List.pairwise_cons.1 hpw.2.1).1 i h
              rcases hp.or_ with h | h | h
              · exact noAnc hd hdun h
              · have := h.2 od hod; rw [hqd] at this; cases this
              · exact hilt h.1
          subst hih
          rw [ho] at hod
          cases hod
          have hirest : i ∉ rest := (List.nodup_cons.1 hnd.2.1).1
          have hEi : ∀ e ∈ E', e.1 ∈ rest ∧ Ind ops i e.1 := fun e he => by
            have hne : e.1 ≠ i := fun q => hdE (q ▸ List.mem_map_of_mem (f := fun x : Nat × Nat => x.1) he)
            have hel := (List.mem_cons.1 (T'.ear e he).2).resolve_left hne
            have hp := (List.pairwise_cons.1 hpw.2.1).1 _ hel
            refine ⟨hel, ?_⟩
            rcases hp.or_ with h | h | h
            · exact absurd h (St.early_anc S hl0 hnd0 hall T' he hiR)
            · have := h.2 o ho; rw [hqd] at this; cases this
            · exact h.2
          refine finish (DS P lo G V ops tab lt K fr g0 L0 a0 w0 rest D' E') (fun a w hds => eff_step hG hV S.sel ho hqd hDn hDi (fun e he => (hEi e he).2) hds) (fun a' w' hr => ?_)
          have hun : ∀ j, j ∈ D' ++ un rest E' ↔ j ∈ D' ++ un (i :: rest) E' ∧ j ≠ i := by
            intro j
            have hiD : i ∉ D' := fun hm => hnd.2.2 i hm i List.mem_cons_self rfl
            rw [List.mem_append, List.mem_append, mem_un, mem_un, List.mem_cons]
            constructor
            · rintro (h | ⟨h1, h2⟩)
              · exact ⟨.inl h, fun q => hiD (q ▸ h)⟩
              · exact ⟨.inr ⟨.inr h1, h2⟩, fun q => hirest (q ▸ h1)⟩
            · rintro ⟨h | ⟨h1 | h1, h2⟩, hne⟩
              · exact .inl h
              · exact absurd h1 hne
              · exact .inr ⟨h1, h2⟩
          have T2 := St.mark S hl0 hnd0 hall T' hiR hdeps ((List.Sublist.append_left (List.sublist_cons_self _ _) _).trans T'.sub) T'.qui (fun e he => ⟨(T'.ear e he).1, (hEi e he).1⟩) T'.ek hun
          have hnd2 : (D' ++ un rest E').Nodup := (hnd0.sublist T2.sub).sublist (List.Sublist.append_left (by unfold un; exact List.filter_sublist) _)
          have hlen := len_of hndR hnd2 hiR hun
          exact ih _ _ _ _ _ _ (by omega) T2 hr
end
theorem pairsL_spec (htab : ∀ i x, notAnc tab i x = false → Anc ops x i) : ∀ {l : List Nat}, orderPairsL P ops tab lt l = true → l.Pairwise (fun x i => (Anc ops x i ∨ (Ind ops x i ∧ ∀ o, ops[x]? = some o → quietO P o = true) ∨ (i ∈ lt ∧ Ind ops x i)) ∧ PI P ops tab x i)
  | [], _ => List.Pairwise.nil
  | x :: l, h => by
    simp only [orderPairsL, Bool.and_eq_true] at h
    refine List.pairwise_cons.2 ⟨fun i hi => ?_, pairsL_spec htab h.2⟩
    have hp := List.all_eq_true.1 h.1 i hi
    unfold orderPairL at hp
    cases hx : ops[x]? with
    | none => rw [hx] at hp; cases hp
    | some ox =>
      cases hii : ops[i]? with
      | none => rw [hx, hii] at hp; cases hp
      | some oi =>
        rw [hx, hii] at hp
        simp only [Bool.and_eq_true, Bool.or_eq_true, Bool.not_eq_true'] at hp
        have ap : ox.apart ops oi = true → Ind ops x i := fun h => by
          obtain ⟨a1, a2, a3⟩ := Oper.apart_spec h
          intro o1 o2 h1 h2 d hd
          rw [hx] at h1; rw [hii] at h2; cases h1; cases h2
          exact ⟨a1 d hd, a2 d hd⟩
        refine ⟨?_, ?_⟩
        · rcases hp.1 with (h | h) | h
          · exact .inl (htab i x h)
          · exact .inr (.inl ⟨ap h.2, fun o ho => by cases ho; exact h.1⟩)
          · exact .inr (.inr ⟨memN_iff.1 h.1, ap h.2⟩)
        · rcases hp.2 with h3 | h3
          · exact .inl ⟨h3.1, fun o ho => by rw [hii] at ho; cases ho; exact h3.2⟩
          refine .inr fun o1 o2 h1 h2 d hd => ?_
          rw [hii] at h1; rw [hx] at h2; cases h1; cases h2
          rw [hd] at h3
          simp only [Bool.and_eq_true, Bool.not_eq_true', bne_iff_ne, ne_eq] at h3
          exact ⟨fun hm => (by simp [hm] at h3), h3.2⟩
/-- A REGION WHOSE ORDER IS DRAWN, IN WHICH BLOCKS MAY BE MADE EARLY, IS WHAT IT DENOTES. -/
theorem order_okL (hG : GOk P G) (hV : VOk P V) {id : Nat} {l : List Nat} (hm : P.follows .mixedOrders = true) (ho : orderOkL P lo ops (ancTab [] ops.toList) l lt = true) {K : KS} {g : Nat → Nat} {A : Env} {L : List LE} {h : Hp} {a : Act} {w : World} (H : HO fr g L h w) (F : FO g A a)
    (hk : denL P lo G V ops (ancTab [] ops.toList) lt l [] (forgetE (lateDsts ops lt) A) L h K) : (Code.region id ops true).wp P (fun e a' w' => match e with | .normal => Rel (opWrites ops.toList) fr g L a w K a' w' | _ => False) a w := by
  unfold orderOkL at ho
  simp only [Bool.and_eq_true, beq_iff_eq] at ho
  obtain ⟨⟨⟨⟨⟨⟨⟨⟨hsel, hlen⟩, hall⟩, hdist⟩, hown⟩, htopo⟩, hpairs⟩, hlate⟩, hltl⟩ := ho
  have hnd := distinct_nodup hdist
  obtain ⟨ht1, ht2⟩ := topo_spec htopo hnd (fun x _ hx => by cases hx)
  have htab : ∀ i x, notAnc (ancTab [] ops.toList) i x = false → Anc ops x i := fun i x h => notAnc_false h
  have hps := pairsL_spec htab hpairs
  have hpr : l.Pairwise (PrL P ops (ancTab [] ops.toList) lt) := (hps.and ht2).imp fun h => ⟨h.1.1, h.1.2, h.2⟩
  have S : Su P lo ops (ancTab [] ops.toList) lt := by
    refine ⟨Region.noSelect_spec hsel, ?_, htab, fun j hj => ?_⟩
    · intro x o hx hq d hd hm
      have := Array.all_eq_true_iff_forall_mem.1 hown o (Array.mem_of_getElem? hx)
      rw [hq, hd] at this
      simp [hm] at this
    · have := List.all_eq_true.1 hlate j hj
      unfold lateOk at this
      cases hoj : ops[j]? with
      | none => rw [hoj] at this; exact absurd this Bool.false_ne_true
      | some o =>
        rw [hoj] at this
        dsimp only at this
        rw [Bool.and_eq_true, Bool.and_eq_true, Bool.and_eq_true] at this
        obtain ⟨⟨⟨h1, h2⟩, h3⟩, h4⟩ := this
        refine ⟨o, rfl, h1, by simpa using h2, fun d hd hm => ?_, fun x hx hxl => ?_⟩
        · rw [hd] at h3; simp [hm] at h3
        · have := List.all_eq_true.1 h4 x hx
          rw [memN_iff.2 hxl] at this; cases this
  let w1 : World := { w with drawn := w.drawn + 1 }
  have H1 : HO fr g L h w1 := ⟨H.hh, H.ff, H.dj, fun e he => (let ⟨cs, q⟩ := H.ll e he; ⟨cs, ⟨q.at_, q.sz, q.is_, q.pl, q.nh, q.nf⟩⟩), H.uq⟩
  have F1 : FO g (forgetE (lateDsts ops lt) A) a := F.forget F (fun _ _ => rfl) (fun _ _ => rfl) rfl
  have hun : un l [] = l := by unfold un; exact List.filter_eq_self.2 fun j _ => rfl
  have hst : St P ops (ancTab [] ops.toList) lt l (Array.replicate ops.size false) l [] [] := by
    refine ⟨by simp, fun x hx => (by cases hx), fun e he => (by cases he), by simp, by simp, fun j => ?_, fun j o _ hj => ?_⟩
    · rw [List.nil_append, hun]
      constructor
      · intro hj
        have hjs : j < ops.size := by
          apply Classical.byContradiction
          intro hne
          simp [hne] at hj
        exact memN_iff.1 (List.all_eq_true.1 hall j (List.mem_range.2 hjs))
      · intro hj
        obtain ⟨o, ho, _⟩ := ht1 j hj
        have : j < ops.size := (Array.getElem?_eq_some_iff.1 ho).1
        simp [this]
    · exfalso
      by_cases hjs : j < ops.size
      · simp [hjs] at hj
      · simp [hjs] at hj
  have hany := any_late (K := K) (g0 := g) (L0 := L) (a0 := a) (w0 := w1) (fr := fr) S hpr hnd ht1 hG hV (K0 := fun a' w' => Rel (opWrites ops.toList) fr g L a w K a' w')
    (fun a' w' ⟨g2, A2, L2, h2, F2, H2, T2, k2⟩ => ⟨g2, A2, L2, h2, F2, H2, ⟨⟨T2.wr.os, T2.wr.tape, T2.wr.output, T2.wr.size⟩, T2.kp, T2.gg, T2.un, T2.sz⟩, k2⟩)
    ops.size l [] [] (Array.replicate ops.size false) a w1 (by rw [List.nil_append, hun, hlen]) hst
    (show runP P ops _ _ [] a w1 from ⟨fr, g, _, L, h, [], H1, F1, Tr.refl _ _ _ _ _, fun _ _ h => h, fun x hx => (by cases hx), fun x hx => (by cases hx), fun e he => (by cases he), by simp, hk⟩)
  exact wp_region_any hm hany
end
end Go.Eng
end
section
/-
  THE ENGINE, 17: code; a whole call.
-/
set_option linter.unusedSimpArgs false
set_option linter.unusedVariables false
namespace Go.Eng
section
variable {P : Program} {lo : List Nat} {G : List (Nat × (List Value → PT))} {V : Value → List Value → PT} {fr : Hp}

/-- What code leaves behind. -/
def RelC (W : List Nat) (fr : Hp) (g : Nat → Nat) (L : List LE) (a : Act) (w : World) (K : KC) : Exit → Act → World → Prop := fun e a' w' => Rel W fr g L a w (K e) a' w'
theorem RelC.mono {W : List Nat} {g : Nat → Nat} {L : List LE} {a : Act} {w : World} {K K' : KC} (hk : ∀ e A L h, K e A L h → K' e A L h) {e : Exit} {a' : Act} {w' : World} (hr : RelC W fr g L a w K e a' w') : RelC W fr g L a w K' e a' w' :=
  Rel.mono (hk e) hr
/-- A step more. -/
theorem Rel.after {W W' : List Nat} {g g1 : Nat → Nat} {L L1 : List LE} {a a1 : Act} {w w1 : World} {K : KS} {a' : Act} {w' : World} (hW : ∀ i, memN i W = false → memN i W' = false) (T : Tr W g L a w g1 L1 a1 w1) (hr : Rel W' fr g1 L1 a1 w1 K a' w') : Rel W fr g L a w K a' w' := by
  obtain ⟨g2, A2, L2, h2, F2, H2, T2, k2⟩ := hr
  exact ⟨g2, A2, L2, h2, F2, H2, T.trans (T2.mono hW), k2⟩
theorem memN_left {i : Nat} {l k : List Nat} (h : memN i (l ++ k) = false) : memN i l = false := by rw [memN_append] at h; simp at h; exact h.1
theorem memN_right {i : Nat} {l k : List Nat} (h : memN i (l ++ k) = false) : memN i k = false := by rw [memN_append] at h; simp at h; exact h.2
/-- Out of a part whose boxes were held: they are as free as they were. -/
theorem Rel.thawed {W : List Nat} {ls : List (Nat × List Kd)} {g : Nat → Nat} {L : List LE} {h : Hp} {a : Act} {w : World} {K : KS} {a' : Act} {w' : World} (H : HO fr g L h w)
    (hr : Rel W fr g (freezeL ls L) a w (fun A' L' h' => K A' (thaw L L') h') a' w') : Rel W fr g L a w K a' w' := by
  obtain ⟨g2, A2, L2, h2, F2, H2, T2, k2⟩ := hr
  exact ⟨g2, A2, _, h2, F2, H2.thaw L, ⟨T2.wr, Kp.thaw H T2.kp, T2.gg, T2.un, T2.sz⟩, k2⟩

theorem findL_freeze (ls : List (Nat × List Kd)) (L : List LE) (l : Nat) : findL (freezeL ls L) l = match findL L l with | some e => some ⟨e.l, e.m && memN e.l (ls.map (·.1)), e.t, e.cs⟩ | none => none := by
  induction L with
  | nil => rfl
  | cons e L ih =>
    simp only [freezeL, findL]
    cases e.l == l with
    | true => rfl
    | false => exact ih
theorem okL_freeze {ls : List (Nat × List Kd)} {L : List LE} : ∀ {ls' : List (Nat × List Kd)}, (∀ l ∈ ls'.map (·.1), l ∈ ls.map (·.1)) → okL L ls' = true → okL (freezeL ls L) ls' = true
  | [], _, _ => rfl
  | (l, ks) :: ls', hs, hok => by
    simp only [okL, Bool.and_eq_true] at hok ⊢
    refine ⟨?_, okL_freeze (fun l h => hs l (by simp only [List.map_cons, List.mem_cons]; exact .inr h)) hok.2⟩
    rw [findL_freeze]
    cases hf : findL L l with
    | none => rw [hf] at hok; exact hok.1
    | some e =>
      rw [hf] at hok
      have hl := (findL_mem hf).2
      have hm : memN e.l (ls.map (·.1)) = true := memN_iff.2 (by rw [hl]; exact hs l (by simp))
      simp only [Bool.and_eq_true] at hok ⊢
      exact ⟨⟨hok.1.1, hm⟩, hok.1.2⟩
theorem sameT_freeze {ls : List (Nat × List Kd)} {L : List LE} : ∀ {ls' : List (Nat × List Kd)}, okL L ls' = true → sameT L (freezeL ls L) ls' = true
  | [], _ => rfl
  | (l, ks) :: ls', hok => by
    simp only [okL, Bool.and_eq_true] at hok
    simp only [sameT, Bool.and_eq_true]
    refine ⟨?_, sameT_freeze hok.2⟩
    rw [findL_freeze]
    cases hf : findL L l with
    | none => rw [hf] at hok; cases hok.1
    | some e => simp
theorem liveL_freeze {ls : List (Nat × List Kd)} {L : List LE} : ∀ {ls' : List (Nat × List Kd)}, liveL (freezeL ls L) ls' = liveL L ls'
  | [] => rfl
  | (l, ks) :: ls' => by
    simp only [liveL, liveL_freeze (ls' := ls')]
    rw [findL_freeze]
    cases findL L l <;> rfl
theorem keepL_look {g : Nat → Nat} {A : Env} {a : Act} (F : FO g A a) : ∀ (l : List Nat) (i : Nat), (look (keepL A l) i).is g (a.tmps.getD i undef)
  | [], _ => trivial
  | j :: l, i => by
    show AV.is g (match Nat.beq j i with | true => getE A j | false => look (keepL A l) i) _
    cases he : Nat.beq j i with
    | true => have := Nat.eq_of_beq_eq_true he; subst this; exact F.at_ j
    | false => exact keepL_look F l i
theorem keepA_ok {g : Nat → Nat} {A : Env} {a : Act} {ls : List Nat} (F : FO g A a) : FO g (keepA ls A) a := by
  refine ⟨F.len, fun i => ?_, F.df⟩
  show AV.is g (match Nat.blt i A.n with | true => look (keepL A ls) i | false => .unk) _
  cases Nat.blt i A.n with
  | true => exact keepL_look F ls i
  | false => trivial
theorem den_ok (hG : GOk P G) (hV : VOk P V) (an : List (Nat × Ann)) : ∀ (c : Code) (n : Nat) (g : Nat → Nat) (A : Env) (L : List LE) (h : Hp) (a : Act) (w : World) (K : KC), HO fr g L h w → FO g A a →
    den P lo G V an c n A L h K → c.wp P (RelC (writes c) fr g L a w K) a w := by
  intro c
  induction c with
  | skip => exact fun n g A L h a w K H F hk => wp_skip ⟨g, A, L, h, F, H, Tr.refl _ _ _ _ _, hk⟩
  | exit id => exact fun n g A L h a w K H F hk => wp_exit ⟨g, A, L, h, F, H, Tr.refl _ _ _ _ _, hk⟩
  | ret => exact fun n g A L h a w K H F hk => wp_ret ⟨g, A, L, h, F, H, Tr.refl _ _ _ _ _, hk⟩
  | label l => exact fun n g A L h a w K H F hk => wp_label ⟨g, A, L, h, F, H, Tr.refl _ _ _ _ _, hk⟩
  | goto l => exact fun n g A L h a w K H F hk => wp_goto ⟨g, A, L, h, F, H, Tr.refl _ _ _ _ _, hk⟩
  | region id ops draw =>
    intro n g A L h a w K H F hk
    cases draw with
    | true =>
      unfold den at hk
      dsimp only at hk
      split at hk
      · rename_i l hl
        have hq := grd_spec hk
        clear hk
        obtain ⟨hb, hk⟩ := hq
        rw [Bool.and_eq_true] at hb
        refine wp_mono (order_ok hG hV (id := id) hb.1 hb.2 H F hk) fun e a' w' hr => ?_
        cases e with
        | normal => exact hr
        | _ => exact hr.elim
      · rename_i l lt hl
        have hq := grd_spec hk
        clear hk
        obtain ⟨hb, hk⟩ := hq
        rw [Bool.and_eq_true] at hb
        refine wp_mono (order_okL hG hV (id := id) hb.1 hb.2 H F hk) fun e a' w' hr => ?_
        cases e with
        | normal => exact hr
        | _ => exact hr.elim
      · exact False.elim hk
    | false =>
      exact wp_region_list (ops_ok (Q := RelC (opWrites ops.toList) fr g L a w K) (K0 := fun a' w' => RelC (opWrites ops.toList) fr g L a w K .normal a' w') hG hV (fun _ _ h => h) ops.toList (opWrites ops.toList) (fun _ h => h) g A L h a w H F hk (fun _ _ h => h))
  | cond c x y ihx ihy =>
    intro n g A L h a w K H F hk
    unfold den at hk
    have hc := ev_is F c
    cases hca : ev A c with
    | v cv =>
      rw [hca] at hk hc
      have hce : a.eval c = cv := hc
      cases cv with
      | bool b =>
        cases b with
        | true => exact wp_cond_true hce (wp_mono (ihx _ g A L h a w K H F hk) fun e a' w' hr => Rel.after (fun i => memN_left) (Tr.refl _ _ _ _ _) hr)
        | false => exact wp_cond_false hce (wp_mono (ihy _ g A L h a w K H F hk) fun e a' w' hr => Rel.after (fun i => memN_right) (Tr.refl _ _ _ _ _) hr)
      | _ => exact False.elim hk
    | _ => rw [hca] at hk; exact False.elim hk
  | block id x ih =>
    intro n g A L h a w K H F hk
    unfold den at hk
    refine wp_block (wp_mono (ih _ g A L h a w _ H F hk) fun e a' w' hr => ?_)
    cases e with
    | exit id' =>
      simp only [Exit.inBlock]
      by_cases hid : id' = id
      · rw [if_pos hid]
        refine Rel.mono (fun A L h hk => ?_) hr
        have hid' : (id' == id) = true := by simp [hid]
        dsimp only at hk; rw [hid'] at hk; exact hk
      · rw [if_neg hid]
        refine Rel.mono (fun A L h hk => ?_) hr
        have hid' : (id' == id) = false := by simp [hid]
        dsimp only at hk; rw [hid'] at hk; exact hk
    | normal => exact hr
    | goto l => exact hr
    | ret => exact hr
    | panic ch => exact hr
    | outgrown => exact hr
  | seq x y ihx ihy =>
    intro n g A L h a w K H F hk
    have plain : (den P lo G V an x (2 * n) A L h fun e A' L' h' => match e with
        | .normal => den P lo G V an y (2 * n + 1) A' L' h' K
        | e => K e A' L' h') → (Code.seq x y).wp P (RelC (writes (.seq x y)) fr g L a w K) a w := by
      intro hk
      refine wp_seq (wp_mono (ihx _ g A L h a w _ H F hk) fun e a' w' hr => ?_)
      cases e with
      | normal =>
        obtain ⟨g1, A1, L1, h1, F1, H1, T1, k1⟩ := hr
        exact wp_mono (ihy _ g1 A1 L1 h1 a' w' K H1 F1 k1) fun e2 a2 w2 hr2 => Rel.after (fun i => memN_right) (T1.mono fun i => memN_left) hr2
      | exit id => exact Rel.after (fun i => memN_left) (Tr.refl _ _ _ _ _) hr
      | goto l => exact Rel.after (fun i => memN_left) (Tr.refl _ _ _ _ _) hr
      | ret => exact Rel.after (fun i => memN_left) (Tr.refl _ _ _ _ _) hr
      | panic ch => exact Rel.after (fun i => memN_left) (Tr.refl _ _ _ _ _) hr
      | outgrown => exact Rel.after (fun i => memN_left) (Tr.refl _ _ _ _ _) hr
    unfold den at hk
    cases hl : lkA an n with
    | none => rw [hl] at hk; exact plain hk
    | some an0 =>
      rw [hl] at hk
      cases an0 with
      | loop vs ls => exact plain hk
      | order l => exact plain hk
      | orderL l lt => exact plain hk
      | jump l => exact plain hk
      | live m l =>
        refine wp_seq (wp_mono (ihx _ g A L h a w _ H F hk) fun e a' w' hr => ?_)
        cases e with
        | normal =>
          obtain ⟨g1, A1, L1, h1, F1, H1, T1, k1⟩ := hr
          exact wp_mono (ihy _ g1 _ L1 h1 a' w' K H1 (keepA_ok F1) k1) fun e2 a2 w2 hr2 => Rel.after (fun i => memN_right) (T1.mono fun i => memN_left) hr2
        | exit id => exact Rel.after (fun i => memN_left) (Tr.refl _ _ _ _ _) hr
        | goto l => exact Rel.after (fun i => memN_left) (Tr.refl _ _ _ _ _) hr
        | ret => exact Rel.after (fun i => memN_left) (Tr.refl _ _ _ _ _) hr
        | panic ch => exact Rel.after (fun i => memN_left) (Tr.refl _ _ _ _ _) hr
        | outgrown => exact Rel.after (fun i => memN_left) (Tr.refl _ _ _ _ _) hr
      | join vs ls =>
        obtain ⟨J, hk⟩ := hk
        obtain ⟨hb, hrest, hx⟩ := grd_spec hk
        simp only [Bool.and_eq_true] at hb
        obtain ⟨⟨hok, hdv⟩, hdl⟩ := hb
        refine wp_seq (wp_mono (ihx _ g A (freezeL ls L) h a w _ (H.freeze ls) F hx) fun e a' w' hr => ?_)
        cases e with
        | normal =>
          obtain ⟨g1, A1, L1, h1, F1, H1, T1, k1⟩ := hr
          obtain ⟨hb1, k1⟩ := grd_spec k1
          simp only [Bool.and_eq_true] at hb1
          obtain ⟨ys, j, hs, hj, hΦ⟩ := join_says k1 hrest
          obtain ⟨F2, H2, T2⟩ := rejoin F H F1 H1 T1 hok hb1.1 hb1.2 hdl (.inl rfl) hs
          exact wp_mono (ihy _ _ _ _ _ _ _ _ H2 F2 (hΦ _ hj)) fun e2 a2 w2 hr2 => Rel.after (fun i => memN_right) (T2.mono fun i => memN_left) hr2
        | exit id => exact Rel.after (fun i => memN_left) (Tr.refl _ _ _ _ _) (Rel.thawed H hr)
        | goto l => exact Rel.after (fun i => memN_left) (Tr.refl _ _ _ _ _) (Rel.thawed H hr)
        | ret => exact Rel.after (fun i => memN_left) (Tr.refl _ _ _ _ _) (Rel.thawed H hr)
        | panic ch => exact Rel.after (fun i => memN_left) (Tr.refl _ _ _ _ _) (Rel.thawed H hr)
        | outgrown => exact Rel.after (fun i => memN_left) (Tr.refl _ _ _ _ _) (Rel.thawed H hr)
  | loop x ih =>
    intro n g A L h a w K H F hk
    unfold den at hk
    cases hl : lkA an n with
    | none => rw [hl] at hk; exact False.elim hk
    | some an0 =>
      rw [hl] at hk
      cases an0 with
      | join vs ls => exact False.elim hk
      | order l => exact False.elim hk
      | orderL l lt => exact False.elim hk
      | jump l => exact False.elim hk
      | live m l => exact False.elim hk
      | loop vs ls =>
        obtain ⟨I, m, hk⟩ := hk
        obtain ⟨hb, hI, hbody⟩ := grd_spec hk
        simp only [Bool.and_eq_true] at hb
        obtain ⟨⟨hok, hdv⟩, hdl⟩ := hb
        let Φ : List AV → (Hp → Prop) → (Hp → Nat) → Prop := fun xs i u => ∀ h, i h →
            den P lo G V an x (2 * n) (backV (forgetE (writes x) A) vs xs) (backL (freezeL ls L) ls (xs.drop vs.length)) h fun e A' L' h' => match e with
              | .normal => grd (okL L' ls && sameT L L' ls) (appK (kindsOf vs ls) I (liveV A' vs ++ liveL L' ls) (fun j => j h') ∧ appK (kindsOf vs ls) m (liveV A' vs ++ liveL L' ls) fun q => q h' < u h)
              | e => K e A' (thaw L L') h'
        /- What holds at the head. -/
        let Hd : Nat → Act → World → Prop := fun k a1 w1 => ∃ (g1 : Nat → Nat) (A1 : Env) (L1 : List LE) (h1 : Hp) (i : Hp → Prop) (u : Hp → Nat), FO g1 A1 a1 ∧ HO fr g1 L1 h1 w1 ∧ Tr (writes x) g (freezeL ls L) a w g1 L1 a1 w1 ∧ i h1 ∧ u h1 = k ∧
          (∀ h, i h → den P lo G V an x (2 * n) A1 L1 h fun e A' L' h' => match e with
              | .normal => grd (okL L' ls && sameT L L' ls) (appK (kindsOf vs ls) I (liveV A' vs ++ liveL L' ls) (fun j => j h') ∧ appK (kindsOf vs ls) m (liveV A' vs ++ liveL L' ls) fun q => q h' < u h)
              | e => K e A' (thaw L L') h')
        have enter : ∀ (g0 : Nat → Nat) (A0 : Env) (L0 : List LE) (h0 : Hp) (a0 : Act) (w0 : World) (R : (Hp → Nat) → Prop), FO g0 A0 a0 → HO fr g0 L0 h0 w0 → Tr (writes x) g (freezeL ls L) a w g0 L0 a0 w0 → okL L0 ls = true → sameT L L0 ls = true →
            appK (kindsOf vs ls) I (liveV A0 vs ++ liveL L0 ls) (fun j => j h0) → appK (kindsOf vs ls) m (liveV A0 vs ++ liveL L0 ls) R → ∃ u : Hp → Nat, R u ∧ Hd (u h0) a0 w0 := by
          intro g0 A0 L0 h0 a0 w0 R F0 H0 T0 ho0 hs0 hi hm
          obtain ⟨ys, i, u, hs, hi', hu', hΦ⟩ := loop_says hi hm hbody
          obtain ⟨F2, H2, T2⟩ := rejoin F H F0 H0 T0 hok ho0 hs0 hdl (.inr rfl) hs
          exact ⟨u, hu', g0, _, _, h0, i, u, F2, H2, T2, hi', rfl, hΦ⟩
        obtain ⟨u0, _, hd0⟩ := enter g A (freezeL ls L) h a w (fun _ => True) F (H.freeze ls) (Tr.refl _ _ _ _ _) (okL_freeze (fun l h => h) hok) (sameT_freeze hok) (by rw [liveL_freeze]; exact hI) (by rw [liveL_freeze]; exact appK_any hI)
        refine wp_loop_ghost Hd _ hd0 (fun k a1 w1 hd => ?_)
        obtain ⟨g1, A1, L1, h1, i, u, F1, H1, T1, hi, hu, hden⟩ := hd
        refine wp_mono (ih _ g1 A1 L1 h1 a1 w1 _ H1 F1 (hden h1 hi)) fun e a' w' hr => ?_
        have out : ∀ {K2 : KS}, Rel (writes x) fr g1 L1 a1 w1 (fun A' L' h' => K2 A' (thaw L L') h') a' w' → Rel (writes x) fr g L a w K2 a' w' := fun hr => Rel.thawed H (Rel.after (fun i h => h) T1 hr)
        cases e with
        | normal =>
          obtain ⟨g2, A2, L2, h2, F2, H2, T2, k2⟩ := hr
          obtain ⟨hb2, hi2, hm2⟩ := grd_spec k2
          simp only [Bool.and_eq_true] at hb2
          obtain ⟨u2, hlt, hd2⟩ := enter g2 A2 L2 h2 a' w' (fun q => q h2 < u h1) F2 H2 (T1.trans T2) hb2.1 hb2.2 hi2 hm2
          exact ⟨u2 h2, by rw [← hu]; exact hlt, hd2⟩
        | exit id => exact out hr
        | goto l => exact out hr
        | ret => exact out hr
        | panic ch => exact out hr
        | outgrown => exact out hr
  | _ => exact fun n g A L h a w K H F hk => False.elim hk
/-- A scope. -/
theorem scope_ok (hG : GOk P G) (hV : VOk P V) (an : List (Nat × Ann)) {x r : Code} {l n m : Nat} (hf : findLabel x l = some r) {g : Nat → Nat} {A : Env} {L : List LE} {h : Hp} {a : Act} {w : World} {K : KC} {W : List Nat} (hW : ∀ i, memN i W = false → memN i (writes x ++ writes r) = false) (H : HO fr g L h w) (F : FO g A a)
    (hk : den P lo G V an x n A L h fun e A' L' h' => match e with
        | .goto l' => match l' == l with
          | true => den P lo G V an r m A' L' h' fun e A' L' h' => match e with
            | .goto _ => False
            | e => K e A' L' h'
          | false => False
        | e => K e A' L' h') : (Code.scope x).wp P (RelC W fr g L a w K) a w := by
  refine wp_scope_jumps l (fun a' w' => Rel (writes x) fr g L a w (fun A' L' h' => den P lo G V an r m A' L' h' fun e A' L' h' => match e with
            | .goto _ => False
            | e => K e A' L' h') a' w') (fun _ _ => 0) hf (wp_mono (den_ok hG hV an x n g A L h a w _ H F hk) fun e a' w' hr => ?_) (fun a' w' hj => ?_)
  · have hx : ∀ i, memN i W = false → memN i (writes x) = false := fun i hi => memN_left (hW i hi)
    cases e with
    | goto l' =>
      obtain ⟨g1, A1, L1, h1, F1, H1, T1, k1⟩ := hr
      dsimp only at k1
      cases hl : l' == l with
      | true => rw [hl] at k1; exact ⟨by simpa using hl, g1, A1, L1, h1, F1, H1, T1, k1⟩
      | false => rw [hl] at k1; exact k1.elim
    | normal => exact Rel.after hx (Tr.refl _ _ _ _ _) hr
    | exit id => exact Rel.after hx (Tr.refl _ _ _ _ _) hr
    | ret => exact Rel.after hx (Tr.refl _ _ _ _ _) hr
    | panic ch => exact Rel.after hx (Tr.refl _ _ _ _ _) hr
    | outgrown => exact Rel.after hx (Tr.refl _ _ _ _ _) hr
  · obtain ⟨g1, A1, L1, h1, F1, H1, T1, k1⟩ := hj
    have hx : ∀ i, memN i W = false → memN i (writes x) = false := fun i hi => memN_left (hW i hi)
    have hr' : ∀ i, memN i W = false → memN i (writes r) = false := fun i hi => memN_right (hW i hi)
    refine wp_mono (den_ok hG hV an r m g1 A1 L1 h1 a' w' _ H1 F1 k1) fun e a2 w2 hr2 => ?_
    cases e with
    | goto l' => obtain ⟨_, _, _, _, _, _, _, k⟩ := hr2; exact k.elim
    | normal => exact Rel.after hr' (T1.mono hx) hr2
    | exit id => exact Rel.after hr' (T1.mono hx) hr2
    | ret => exact Rel.after hr' (T1.mono hx) hr2
    | panic ch => exact Rel.after hr' (T1.mono hx) hr2
    | outgrown => exact Rel.after hr' (T1.mono hx) hr2
theorem denT_ok (hG : GOk P G) (hV : VOk P V) (an : List (Nat × Ann)) (c : Code) (n : Nat) (g : Nat → Nat) (A : Env) (L : List LE) (h : Hp) (a : Act) (w : World) (K : KC) (H : HO fr g L h w) (F : FO g A a)
    (hk : denT P lo G V an c n A L h K) : ∃ W, c.wp P (RelC W fr g L a w K) a w := by
  unfold denT at hk
  split at hk
  · rename_i x
    split at hk
    · split at hk
      · rename_i r hf
        exact ⟨_, scope_ok hG hV an hf (fun i hi => hi) H F hk⟩
      · exact hk.elim
    · exact hk.elim
  · rename_i x y
    cases hl : lkA an (2 * n + 1) with
    | none =>
      rw [hl] at hk
      refine ⟨writes x, wp_seq (wp_mono (den_ok hG hV an x _ g A L h a w _ H F hk) fun e a' w' hr => ?_)⟩
      cases e with
      | normal => obtain ⟨_, _, _, _, _, _, _, k⟩ := hr; exact k.elim
      | _ => exact hr
    | some q =>
      cases q with
      | jump l =>
        rw [hl] at hk
        dsimp only at hk
        cases hf : findLabel y l with
        | none =>
          rw [hf] at hk
          refine ⟨writes x, wp_seq (wp_mono (den_ok hG hV an x _ g A L h a w _ H F hk) fun e a' w' hr => ?_)⟩
          cases e with
          | normal => obtain ⟨_, _, _, _, _, _, _, k⟩ := hr; exact k.elim
          | _ => exact hr
        | some r =>
          rw [hf] at hk
          refine ⟨writes x ++ (writes y ++ writes r), wp_seq (wp_mono (den_ok hG hV an x _ g A L h a w _ H F hk) fun e a' w' hr => ?_)⟩
          cases e with
          | normal =>
            obtain ⟨g1, A1, L1, h1, F1, H1, T1, k1⟩ := hr
            exact wp_mono (scope_ok hG hV an hf (fun i hi => hi) H1 F1 k1) fun e2 a2 w2 hr2 => Rel.after (fun i => memN_right) (T1.mono fun i => memN_left) hr2
          | exit id => exact Rel.after (fun i => memN_left) (Tr.refl _ _ _ _ _) hr
          | goto l => exact Rel.after (fun i => memN_left) (Tr.refl _ _ _ _ _) hr
          | ret => exact Rel.after (fun i => memN_left) (Tr.refl _ _ _ _ _) hr
          | panic ch => exact Rel.after (fun i => memN_left) (Tr.refl _ _ _ _ _) hr
          | outgrown => exact Rel.after (fun i => memN_left) (Tr.refl _ _ _ _ _) hr
      | _ =>
        rw [hl] at hk
        refine ⟨writes x, wp_seq (wp_mono (den_ok hG hV an x _ g A L h a w _ H F hk) fun e a' w' hr => ?_)⟩
        cases e with
        | normal => obtain ⟨_, _, _, _, _, _, _, k⟩ := hr; exact k.elim
        | _ => exact hr
  · exact ⟨_, den_ok hG hV an _ n g A L h a w K H F hk⟩

/-! ### A call -/
def resSem (tmps : Array Value) : ResultVar → Sem Value
  | .tmp t => pure (tmps.getD t undef)
  | .cell q t => do loadVar t (← asAddr (tmps.getD q undef))
theorem results_eq (fn : Func) (tmps : Array Value) : results fn tmps = (do let vs ← fn.results.mapM (resSem tmps); pure (if h : vs.size = 1 then vs[0] else .tuple vs)) := by
  unfold results
  congr 1
theorem run_resOne {g : Nat → Nat} {A : Env} {L : List LE} {h : Hp} {a : Act} {w : World} (F : FO g A a) (H : HO fr g L h w) {r : ResultVar} {K : Value → Prop} (hk : resOne P A L r K) :
    ∃ v, (resSem a.tmps r).run P w = .ok v w ∧ K v := by
  cases r with
  | tmp t => exact ⟨_, by simp only [resSem, Sem.run_pure], AV.is_get (F.at_ t) hk⟩
  | cell q t =>
    unfold resOne at hk
    obtain ⟨hb, hk⟩ := grd_spec hk
    simp only [Bool.and_eq_true] at hb
    have hq := F.at_ q
    cases hx : getE A q with
    | loc l off =>
      rw [hx] at hk hq
      have hqe : a.tmps.getD q undef = .pointer (some ⟨g l, off, none⟩) := hq
      dsimp only at hk
      have hl : dLoad P t (.loc l off) L h (fun x L' h' => x.get K) := by
        unfold dLoad
        rw [hb.1, hb.2]
        show (match findL L l with
          | some e => match isAggB P t with
            | true => grd (lenB (takeN e.cs off (P.cellsOf t)) (P.cellsOf t)) (getAll (takeN e.cs off (P.cellsOf t)) fun vs => K (.agg ⟨vs⟩))
            | false => grd (Nat.blt off e.cs.length) ((getN e.cs off).get K)
          | none => False)
        cases hf : findL L l with
        | none => rw [hf] at hk; exact False.elim hk
        | some e =>
          rw [hf] at hk
          dsimp only at hk ⊢
          cases ha : isAggB P t with
          | true => rw [ha] at hk; exact hk
          | false =>
            rw [ha] at hk
            dsimp only at hk ⊢
            by_cases hlt : off < e.cs.length
            · have : Nat.blt off e.cs.length = true := by rw [Nat.blt_eq]; exact hlt
              rw [this]; exact hk
            · have : getN e.cs off = .unk := by rw [getN_eq, List.getElem?_eq_none (by omega)]; rfl
              rw [this] at hk; exact False.elim hk
      have hy : AV.is g (.loc l off) (.pointer (some ⟨g l, off, none⟩)) := rfl
      obtain ⟨x, v, hr, hx', hK⟩ := load_okQ H hl hy
      refine ⟨v, ?_, AV.is_get hx' hK⟩
      simp only [resSem, hqe, asAddr, Sem.run_bind, Sem.run_pure, Result.andThen_ok]
      simpa [Instr.loadAt, Instr.sureAddr] using hr
    | _ => rw [hx] at hk; exact False.elim hk
theorem run_resAll {g : Nat → Nat} {A : Env} {L : List LE} {h : Hp} {a : Act} {w : World} (F : FO g A a) (H : HO fr g L h w) : ∀ {rs : List ResultVar} {K : List Value → Prop}, resAll P A L rs K →
    ∃ vs, (rs.mapM (m := Sem) (resSem a.tmps)).run P w = .ok vs w ∧ K vs
  | [], K, hk => ⟨[], by simp, hk⟩
  | r :: rs, K, hk => by
    obtain ⟨v, hr, hk⟩ := run_resOne F H hk
    obtain ⟨vs, hrs, hK⟩ := run_resAll F H hk
    refine ⟨v :: vs, ?_, hK⟩
    rw [List.mapM_cons]
    simp only [Sem.run_bind]
    rw [hr]
    simp only [Result.andThen_ok, Sem.run_bind]
    rw [hrs]
    simp only [Result.andThen_ok, Sem.run_pure]
theorem run_results {g : Nat → Nat} {A : Env} {L : List LE} {h : Hp} {a : Act} {w : World} (F : FO g A a) (H : HO fr g L h w) {fn : Func} {K : Value → Prop} (hk : resD P A L fn.results.toList K) :
    ∃ v, (results fn a.tmps).run P w = .ok v w ∧ K v := by
  obtain ⟨vs, hr, hk⟩ := run_resAll F H hk
  have hm : (fn.results.mapM (m := Sem) (resSem a.tmps)).run P w = .ok vs.toArray w := by
    rw [Array.mapM_eq_mapM_toList]
    simp only [Sem.run_map, hr, Result.andThen_ok]
  have hres : ∀ us : List Value, us = vs → ∀ v, (if h : us.toArray.size = 1 then us.toArray[0] else .tuple us.toArray) = v → (results fn a.tmps).run P w = .ok v w := by
    intro us hu v hv
    subst hu
    rw [results_eq]
    simp only [Sem.run_bind]
    rw [hm]
    simp only [Result.andThen_ok, Sem.run_pure]
    rw [← hv]
  match vs, hk, hres with
  | [v], hk, hres => exact ⟨v, hres _ rfl v rfl, hk⟩
  | [], hk, hres => exact ⟨_, hres _ rfl _ rfl, hk⟩
  | x :: y :: zs, hk, hres => exact ⟨.tuple (x :: y :: zs).toArray, hres _ rfl _ (by rw [dif_neg (by simp)]), hk⟩
/-- WHAT A FUNCTION DENOTES COMES ABOUT. -/
theorem denF_ok (hG : GOk P G) (hV : VOk P V) {an : List (Nat × Ann)} {f : Nat} {fn : Func} {args : List AV} {vs : List Value} (hf : P.funcs[f]? = some fn) (ha : inStep (fun _ => 0) args vs) (hpl : ∀ x ∈ args, x.plain = true) {T : PT} (hT : ∀ h Q, T h Q → denF P lo G V an fn args h Q) : Impl P f vs T := by
  intro h Q hq fr w O
  have hd := hT h Q hq
  unfold denF at hd
  cases hb : fn.body with
  | none => rw [hb] at hd; exact False.elim hd
  | some c =>
    rw [hb] at hd
    dsimp only at hd
    have hW := denT_ok (fr := fr) hG hV an c 1 (fun _ => 0) _ [] h { tmps := vs.toArray ++ Array.replicate (fn.ntmps - vs.toArray.size) undef, defers := [] } w _ ⟨O.hh, O.ff, O.dj, fun e he => (by simp at he), List.Pairwise.nil⟩ ?_ hd
    obtain ⟨W, hW⟩ := hW
    refine calls_of_wp hf hb (wp_mono hW fun e a' w' hr => ?_)
    rotate_left
    · refine ⟨?_, fun i => ?_, rfl⟩
      · simp only [initA, Array.size_append, Array.size_replicate, List.size_toArray, ha.1]
      · have hnum : ∀ (xs : List AV) (k i : Nat), look (numL k xs) i = if k ≤ i then getN xs (i - k) else .unk := by
          intro xs
          induction xs with
          | nil => intro k i; simp [numL, look, getN]
          | cons x xs ih =>
            intro k i
            simp only [numL, look]
            cases he : Nat.beq k i with
            | true => have := Nat.eq_of_beq_eq_true he; subst this; simp [getN]
            | false =>
              have hne := Nat.ne_of_beq_eq_false he
              dsimp only
              rw [ih]
              by_cases hk : k ≤ i
              · rw [if_pos hk, if_pos (by omega), show i - k = (i - (k + 1)) + 1 by omega]
                rfl
              · rw [if_neg hk, if_neg (by omega)]
        have hga : getE (initA args fn.ntmps) i = if i < args.length then getN args i else .unk := by
          show (match Nat.blt i (args.length + (fn.ntmps - args.length)) with | true => look (numL 0 args) i | false => .unk) = _
          rw [hnum, if_pos (Nat.zero_le i), Nat.sub_zero]
          have hout : ¬ i < args.length → getN args i = .unk := fun hi => by rw [getN_eq, List.getElem?_eq_none (by omega)]; rfl
          by_cases hi : i < args.length
          · rw [if_pos hi, show Nat.blt i (args.length + (fn.ntmps - args.length)) = true by rw [Nat.blt_eq]; omega]
          · rw [if_neg hi, hout hi]
            cases Nat.blt i (args.length + (fn.ntmps - args.length)) <;> rfl
        rw [hga]
        by_cases hi : i < args.length
        · rw [if_pos hi]
          have h1 := ha.2 i hi
          have hlt : i < vs.length := by rw [ha.1]; exact hi
          have : (vs.toArray ++ Array.replicate (fn.ntmps - vs.toArray.size) undef).getD i undef = vs.getD i undef := by
            simp [Array.getElem?_append, hlt]
          rw [this]
          exact h1
        · rw [if_neg hi]; trivial
    · obtain ⟨g', A', L', h', F', H', T', k⟩ := hr
      cases e with
      | normal =>
        obtain ⟨v, hv, hK⟩ := run_results F' H' k
        exact ⟨F'.df, v, hv, v, h', rfl, ⟨H'.hh, H'.ff, H'.dj⟩, T'.wr, hK⟩
      | ret =>
        obtain ⟨v, hv, hK⟩ := run_results F' H' k
        exact ⟨F'.df, v, hv, v, h', rfl, ⟨H'.hh, H'.ff, H'.dj⟩, T'.wr, hK⟩
      | _ => exact False.elim k
end
end Go.Eng
end
section
/-
  THE ENGINE, 21: what a printed text of a function is held to.
-/
set_option linter.unusedSimpArgs false
set_option linter.unusedVariables false
namespace Go.Eng
section
variable {P : Program} {lo : List Nat} {G : List (Nat × (List Value → PT))} {V : Value → List Value → PT}
def FOk (P : Program) (f : Nat) (V : List Value → PT) : Prop := Enters P f ∧ ∀ args, Impl P f args (V args)
theorem GOk.nil : GOk P [] := fun f T h => (by cases h)
theorem GOk.cons {f : Nat} {T : List Value → PT} (h : FOk P f T) (hG : GOk P G) : GOk P ((f, T) :: G) := by
  intro g T' hl
  unfold lkG at hl
  cases hfg : f == g with
  | true =>
    rw [hfg] at hl
    have : f = g := by simpa using hfg
    subst this
    cases hl
    exact h
  | false => rw [hfg] at hl; exact hG g T' hl
def noV : Value → List Value → PT := fun _ _ _ _ => False
theorem noV_ok : VOk P noV := fun _ _ _ _ h => h.elim
theorem inStep_v (g : Nat → Nat) (vs : List Value) : inStep g (vs.map AV.v) vs := by
  refine ⟨by simp, fun i hi => ?_⟩
  rw [getN_eq]
  have hi' : i < vs.length := by simpa using hi
  simp [hi']
  rfl
theorem denF_okV (hG : GOk P G) (hV : VOk P V) {an : List (Nat × Ann)} {f : Nat} {fn : Func} {vs : List Value} (hf : P.funcs[f]? = some fn) {T : PT} (hT : ∀ h Q, T h Q → denF P lo G V an fn (vs.map AV.v) h Q) : Impl P f vs T :=
  denF_ok hG hV hf (inStep_v _ vs) (fun x hx => by obtain ⟨v, _, rfl⟩ := List.mem_map.1 hx; rfl) hT
end
end Go.Eng
end
section
/-
  SPECS, 0: rows of a heap; buffers of bytes; what a step keeps. Plain Lean; no program in sight.
-/
set_option linter.unusedSimpArgs false
set_option linter.unusedVariables false
namespace Go.Eng

/-! ### 1. What stays -/
/-- All that was there stands. -/
def Keep (h h' : Hp) : Prop := ∀ b o, h b = some o → h' b = some o
theorem Keep.refl (h : Hp) : Keep h h := fun _ _ h => h
theorem Keep.trans {a b c : Hp} (h : Keep a b) (k : Keep b c) : Keep a c := fun x o e => k x o (h x o e)
theorem Keep.new {h : Hp} {b : Nat} (hb : h b = none) (o : Obj) : Keep h (h.new b o) := by
  intro k x hk
  unfold Hp.new
  by_cases hkb : k = b
  · subst hkb; rw [hb] at hk; cases hk
  · rw [if_neg hkb]; exact hk
theorem Keep.at {h h' : Hp} (k : Keep h h') {b o : Nat} {v : Value} (ha : h.at b o = some v) : h'.at b o = some v := by
  unfold Hp.at at ha ⊢
  cases hb : h b with
  | none => rw [hb] at ha; cases ha
  | some x => rw [k b x hb]; rw [hb] at ha; exact ha
theorem Keep.row {h h' : Hp} (k : Keep h h') {A : Option Addr} {n : Nat} {vs : List Value} (hr : h.row A n vs) : h'.row A n vs := by
  refine ⟨hr.1, hr.2.imp id ?_⟩
  rintro ⟨b, o, hA, hat⟩
  refine ⟨b, o, hA, fun j hj => ?_⟩
  have h1 := hat j hj
  have hl : j < vs.length := by rw [hr.1]; exact hj
  rw [List.getElem?_eq_getElem hl] at h1 ⊢
  exact k.at h1
theorem at_new_ne {h : Hp} {b k : Nat} {o : Obj} (hne : k ≠ b) (j : Nat) : (h.new b o).at k j = h.at k j := by
  unfold Hp.at Hp.new
  rw [if_neg hne]
theorem at_new {h : Hp} {b : Nat} {c : Array Value} {t : Nat} {f : Nat × Nat} (j : Nat) : (h.new b (.cells c t f)).at b j = c[j]? := by
  unfold Hp.at Hp.new
  rw [if_pos rfl]

/-! ### 2. Buffers: rows that may grow -/
/-- A slice over a block of its own: its cells are vs; it may be written, and grown into its room. -/
structure Buf (h : Hp) (s : Sl) (sz t : Nat) (vs : List Value) : Prop where
  len : vs.length = s.n * sz
  cap : s.n ≤ s.c
  own : (s.a = none ∧ s.c = 0) ∨ ∃ b c f, s.a = some ⟨b, 0, none⟩ ∧ h b = some (.cells c t f) ∧ s.c * sz ≤ c.size ∧ (∀ j, j < c.size → ¬ (f.1 ≤ j ∧ j < f.2)) ∧ c.toList.take vs.length = vs
/-- All stands but the block of this slice; the slice is where it was, or in a block that was not there. -/
structure Upd (h h' : Hp) (s s' : Sl) : Prop where
  keep : ∀ k x, (∀ o, s.a ≠ some ⟨k, o, none⟩) → h k = some x → h' k = some x
  at_ : s'.a = s.a ∨ ∃ b, s'.a = some ⟨b, 0, none⟩ ∧ h b = none
  dom : ∀ k, h' k = none → h k = none
theorem Upd.refl (h : Hp) (s : Sl) : Upd h h s s := ⟨fun _ _ _ e => e, .inl rfl, fun _ e => e⟩
theorem Upd.trans {h h1 h2 : Hp} {s s1 s2 : Sl} (U : Upd h h1 s s1) (V : Upd h1 h2 s1 s2) : Upd h h2 s s2 := by
  refine ⟨fun k x hk e => V.keep k x (fun o hs => ?_) (U.keep k x hk e), ?_, fun k e => U.dom k (V.dom k e)⟩
  · rcases U.at_ with h0 | ⟨b, hb, hn⟩
    · exact hk o (by rw [← h0]; exact hs)
    · rw [hb] at hs
      simp only [Option.some.injEq, Addr.mk.injEq] at hs
      rw [hs.1, e] at hn; cases hn
  · rcases V.at_ with h0 | ⟨b, hb, hn⟩
    · rw [h0]; exact U.at_
    · exact .inr ⟨b, hb, U.dom b hn⟩
/-- With a slice that lies nowhere, all stands. -/
theorem Upd.keepNil {h h' : Hp} {s s' : Sl} (U : Upd h h' s s') (hs : s.a = none) : Keep h h' := fun b o e => U.keep b o (fun o' => by rw [hs]; simp) e
theorem Upd.of_new {h : Hp} {b : Nat} (hb : h b = none) (o : Obj) (s : Sl) : Upd h (h.new b o) s s := by
  refine ⟨fun k x _ e => Keep.new hb o k x e, .inl rfl, fun k e => ?_⟩
  unfold Hp.new at e
  by_cases hk : k = b
  · rw [hk]; exact hb
  · rw [if_neg hk] at e; exact e
theorem Buf.nil (h : Hp) (sz t : Nat) : Buf h ⟨none, 0, 0⟩ sz t [] := ⟨by simp, Nat.le_refl _, .inl ⟨rfl, rfl⟩⟩
theorem Buf.row {h : Hp} {s : Sl} {sz t : Nat} {vs : List Value} (B : Buf h s sz t vs) : h.row s.a (s.n * sz) vs := by
  refine ⟨B.len, ?_⟩
  rcases B.own with ⟨ha, hc⟩ | ⟨b, c, f, ha, hb, hsz, hf, ht⟩
  · have : s.n = 0 := by have := B.cap; omega
    exact .inl (by rw [this]; simp)
  · refine .inr ⟨b, 0, ha, fun j hj => ?_⟩
    unfold Hp.at
    rw [hb]
    simp only [Nat.zero_add]
    rw [← ht, List.getElem?_take, if_pos (by rw [B.len]; exact hj), Array.getElem?_toList]
theorem zerosV_length {z : List Value} (n : Nat) : (zerosV z n).length = n * z.length := by
  unfold zerosV Builtin.zeroCells
  simp
theorem setL_get' (vs : List Value) : ∀ (c : List Value) (o j : Nat), o + vs.length ≤ c.length → (setL c o vs)[j]? = if o ≤ j ∧ j < o + vs.length then vs[j - o]? else c[j]? := by
  induction vs with
  | nil => intro c o j h; simp only [setL, List.length_nil, Nat.add_zero]; rw [if_neg (by omega)]
  | cons v vs ih =>
    intro c o j h
    simp only [List.length_cons] at h
    simp only [setL]
    rw [ih _ _ _ (by simp; omega)]
    by_cases h1 : o + 1 ≤ j ∧ j < o + 1 + vs.length
    · rw [if_pos h1, if_pos (by simp; omega)]
      rw [show j - o = (j - (o + 1)) + 1 by omega, List.getElem?_cons_succ]
    · rw [if_neg h1]
      by_cases h2 : j = o
      · subst h2
        rw [if_pos (by simp), List.getElem?_set_self (by omega)]
        simp
      · rw [if_neg (by simp; omega), List.getElem?_set_ne (Ne.symm h2)]
theorem Keep.dom {h h' : Hp} (k : Keep h h') : ∀ b, h' b = none → h b = none := by
  intro b hb
  cases hh : h b with
  | none => rfl
  | some o => rw [k b o hh] at hb; cases hb
theorem Upd.of_keep {h h' : Hp} (k : Keep h h') (s : Sl) : Upd h h' s s := ⟨fun b o _ e => k b o e, .inl rfl, k.dom⟩
theorem Buf.keep {h h' : Hp} (k : Keep h h') {s : Sl} {sz t : Nat} {vs : List Value} (B : Buf h s sz t vs) : Buf h' s sz t vs := by
  refine ⟨B.len, B.cap, B.own.imp id ?_⟩
  rintro ⟨b, c, f, h1, h2, h3, h4, h5⟩
  exact ⟨b, c, f, h1, k _ _ h2, h3, h4, h5⟩
/-- s lies in no block of t's. -/
def Off (s t : Sl) : Prop := ∀ b o o', s.a = some ⟨b, o, none⟩ → t.a ≠ some ⟨b, o', none⟩
theorem row_upd {h h' : Hp} {s s' r : Sl} (U : Upd h h' s s') {n : Nat} (ho : n = 0 ∨ Off r s) {vs : List Value} (hr : h.row r.a n vs) : h'.row r.a n vs := by
  rcases ho with h0 | ho
  · exact ⟨hr.1, .inl h0⟩
  refine ⟨hr.1, hr.2.imp id ?_⟩
  rintro ⟨b, o, hA, hat⟩
  refine ⟨b, o, hA, fun j hj => ?_⟩
  rw [← hat j hj]
  have h1 := hat j hj
  have hl : j < vs.length := by rw [hr.1]; exact hj
  rw [List.getElem?_eq_getElem hl] at h1
  unfold Hp.at at h1 ⊢
  cases hb : h b with
  | none => rw [hb] at h1; cases h1
  | some x => rw [U.keep b x (fun o' => ho b o o' hA) hb]
/-- What lies in a row is in no block that was not there. -/
theorem off_fresh {h : Hp} {r s : Sl} {n : Nat} {vs : List Value} (hr : h.row r.a n vs) {b : Nat} (hs : s.a = some ⟨b, 0, none⟩) (hb : h b = none) : n = 0 ∨ Off r s := by
  rcases Nat.eq_zero_or_pos n with h0 | h0
  · exact .inl h0
  · refine .inr fun b' o o' e1 e2 => ?_
    rw [hs] at e2
    simp only [Option.some.injEq, Addr.mk.injEq] at e2
    rcases hr.2 with h1 | ⟨k, o2, hA, hat⟩
    · omega
    · rw [hA] at e1
      simp only [Option.some.injEq, Addr.mk.injEq] at e1
      have h1 := hat 0 h0
      have hl : 0 < vs.length := by rw [hr.1]; exact h0
      rw [List.getElem?_eq_getElem hl] at h1
      unfold Hp.at at h1
      rw [e1.1, ← e2.1, hb] at h1
      cases h1
theorem row_get {h : Hp} {A : Option Addr} {n : Nat} {vs : List Value} (hr : h.row A n vs) {i : Nat} (hi : i < n) : ∃ b o, A = some ⟨b, o, none⟩ ∧ ∀ j, j < n → h.at b (o + j) = vs[j]? := by
  rcases hr.2 with h0 | h1
  · omega
  · exact h1
/-- GROWING A BUFFER. -/
theorem append_buf {h : Hp} {s : Sl} {sz t bytes m : Nat} {z vs us : List Value} {K : Sl → Hp → Prop} (B : Buf h s sz t vs) (hz : z.length = sz) (hu : us.length = m * sz) (hb : (s.n + m) * bytes ≤ 140737488355328)
    (hK : ∀ s' h', Buf h' s' sz t (vs ++ us) → s'.n = s.n + m → Upd h h' s s' → K s' h') : appendD s t sz bytes z m us h K := by
  refine ⟨hb, fun hle => ?_, fun hlt => ⟨vs, B.row, fun b c hbn hc => ?_⟩⟩
  · rcases B.own with ⟨ha, hc⟩ | ⟨b, c, f, ha, hbb, hsz, hf, ht⟩
    · have hm : m = 0 ∧ s.n = 0 := by omega
      have hus : us = [] := List.eq_nil_of_length_eq_zero (by rw [hu, hm.1]; simp)
      subst hus
      refine ⟨.inl rfl, hK _ _ ⟨?_, by show s.n + m ≤ s.c; omega, .inl ⟨ha, hc⟩⟩ rfl ⟨fun k x _ e => ?_, .inl rfl, fun k e => ?_⟩⟩
      · have := B.len; simp only [List.append_nil, this, hm.1, Nat.add_zero]
      · rw [wrA_nil]; exact e
      · rw [wrA_nil] at e; exact e
    · have hmul : s.n * sz + m * sz ≤ c.size := by
        rw [← Nat.add_mul]
        exact Nat.le_trans (Nat.mul_le_mul_right _ hle) hsz
      have haddr : s.a.map (·.add (s.n * sz)) = some ⟨b, s.n * sz, none⟩ := by rw [ha]; simp [addr_add]
      rw [haddr]
      have hcl : c.toList.length = c.size := by simp
      refine ⟨.inr ⟨b, s.n * sz, rfl, c, t, f, hbb, by omega, fun j h1 h2 => hf j (by omega)⟩, hK _ _ ⟨?_, by show s.n + m ≤ s.c; exact hle, .inr ⟨b, (setL c.toList (s.n * sz) us).toArray, f, ha, ?_, ?_, ?_, ?_⟩⟩ rfl ⟨fun k x hk e => ?_, .inl rfl, fun k e => ?_⟩⟩
      · simp only [List.length_append, B.len, hu, Nat.add_mul]
      · simp only [Hp.wrA, Hp.wr, if_pos, hbb]
      · simp only [List.size_toArray, setL_length, hcl]; exact hsz
      · intro j hj
        simp only [List.size_toArray, setL_length, hcl] at hj
        exact hf j hj
      · apply List.ext_getElem?
        intro j
        rw [List.getElem?_take]
        simp only [List.toList_toArray] 
        rw [setL_get' _ _ _ _ (by rw [hcl, hu]; exact hmul)]
        have hl := B.len
        by_cases h1 : j < (vs ++ us).length
        · rw [if_pos h1]
          simp only [List.length_append] at h1
          by_cases h2 : s.n * sz ≤ j
          · rw [if_pos ⟨h2, by omega⟩, List.getElem?_append_right (by omega), hl]
          · rw [if_neg (by omega), List.getElem?_append_left (by omega)]
            rw [← ht, List.getElem?_take, if_pos (by omega)]
        · rw [if_neg h1, List.getElem?_eq_none (by omega)]
      · simp only [Hp.wrA, Hp.wr]
        rw [if_neg (fun e => hk 0 (by rw [e]; exact ha))]
        exact e
      · simp only [Hp.wrA, Hp.wr] at e
        by_cases hkb : k = b
        · rw [if_pos hkb, hbb] at e; cases e
        · rw [if_neg hkb] at e; exact e
  · have hsize : (vs ++ us ++ zerosV z (c - (s.n + m))).length = c * sz := by
      simp only [List.length_append, B.len, hu, zerosV_length, hz]
      rw [← Nat.add_mul, ← Nat.add_mul]
      congr 1
      omega
    refine hK _ _ ⟨?_, hc, .inr ⟨b, _, (0, 0), rfl, by unfold Hp.new; rw [if_pos rfl], ?_, fun j _ => by simp, ?_⟩⟩ rfl ⟨fun k x _ e => Keep.new hbn _ k x e, .inr ⟨b, rfl, hbn⟩, (Upd.of_new hbn _ s).dom⟩
    · simp only [List.length_append, B.len, hu, Nat.add_mul]
    · simp only [List.size_toArray, hsize, Nat.le_refl]
    · simp only [List.toList_toArray]
      rw [List.take_left' rfl]

/-- Buffers of two types lie in two blocks. -/
theorem buf_off {h : Hp} {s1 s2 : Sl} {sz1 t1 sz2 t2 : Nat} {v1 v2 : List Value} (B1 : Buf h s1 sz1 t1 v1) (B2 : Buf h s2 sz2 t2 v2) (ht : t1 ≠ t2) : Off s1 s2 := by
  intro b o o' e1 e2
  rcases B1.own with ⟨ha, _⟩ | ⟨b1, c1, f1, ha1, hb1, _⟩
  · rw [ha] at e1; cases e1
  rcases B2.own with ⟨ha, _⟩ | ⟨b2, c2, f2, ha2, hb2, _⟩
  · rw [ha] at e2; cases e2
  rw [ha1] at e1
  rw [ha2] at e2
  simp only [Option.some.injEq, Addr.mk.injEq] at e1 e2
  rw [e1.1] at hb1
  rw [e2.1, hb1] at hb2
  simp only [Option.some.injEq, Obj.cells.injEq] at hb2
  exact ht hb2.2.1
theorem Buf.upd {h h' : Hp} {s s' r : Sl} {sz t : Nat} {vs : List Value} (U : Upd h h' s s') (ho : Off r s) (B : Buf h r sz t vs) : Buf h' r sz t vs := by
  refine ⟨B.len, B.cap, B.own.imp id ?_⟩
  rintro ⟨b, c, f, h1, h2, h3, h4, h5⟩
  exact ⟨b, c, f, h1, U.keep b _ (fun o => ho b 0 o h1) h2, h3, h4, h5⟩

/-! ### 3. Whole numbers of a machine's kinds -/
theorem wrap_i64 {n : Int} (h0 : -9223372036854775808 ≤ n) (h1 : n < 9223372036854775808) : IntKind.wrap .i64 n = n := by
  simp [IntKind.wrap, IntKind.signed, IntKind.bits]
  omega
theorem wrap_u64 {n : Int} (h0 : 0 ≤ n) (h1 : n < 18446744073709551616) : IntKind.wrap .u64 n = n := by
  simp [IntKind.wrap, IntKind.signed, IntKind.bits]
  omega
end Go.Eng
end
