/-
  THE ENGINE, 20: a region whose order is drawn, whole.
-/
import Derived.Test.YtblghgacokoklaaDoorF2
set_option linter.unusedSimpArgs false
set_option linter.unusedVariables false
namespace Go.Eng
section
variable {P : Program} {lo : List Nat} {G : List (Nat × (List Value → PT))} {V : Value → List Value → PT} {fr : Hp} {ops : Array Oper}

def nodesOf (P : Program) (ops : Array Oper) (tab : List (List Nat)) : List Nat → List Nat → List Nd
  | [], _ => []
  | i :: rest, done => match ops[i]? with
    | none => []
    | some o => match quietO P o with
      | true => (i, true, []) :: nodesOf P ops tab rest (done ++ [i])
      | false => (i, false, done.filter (notAnc tab i)) :: nodesOf P ops tab rest (done.filter (notAnc tab i))

/-- What i leaves is not seen by x; or i acts, and x comes before it. -/
def PI (P : Program) (ops : Array Oper) (tab : List (List Nat)) (x i : Nat) : Prop := (notAnc tab i x = false ∧ ∀ o, ops[i]? = some o → quietO P o = false) ∨ Ind ops i x
theorem denP_run (hG : GOk P G) (hV : VOk P V) (hsel : ∀ (j : Nat) (o : Oper) cs b, ops[j]? = some o → o.op ≠ .select cs b) (hown : ∀ (x : Nat) (o : Oper), ops[x]? = some o → quietO P o = true → ∀ d, o.dst = some d → d ∉ o.looksAt ops)
    {tab : List (List Nat)} {K : KS} {K0 : Act → World → Prop} : ∀ (l done : List Nat), done.Pairwise (fun _ _ => True) → l.Pairwise (PI P ops tab) → (∀ x ∈ done, ∀ i ∈ l, PI P ops tab x i) →
      ∀ (g : Nat → Nat) (A : Env) (L : List LE) (h : Hp) (a : Act) (w : World), HO fr g L h w → FO g A a → (∀ x ∈ done, Live P ops x a w) →
      denP P lo G V ops tab l done A L h K → (∀ a' w', Rel (opWrites ops.toList) fr g L a w K a' w' → K0 a' w') →
      runP P ops (fun e a w => match e with | .normal => K0 a w | _ => False) (nodesOf P ops tab l done) a w
  | [], done, _, _, _, g, A, L, h, a, w, H, F, hlive, hk, hK0 => hK0 _ _ ⟨g, A, L, h, F, H, Tr.refl _ _ _ _ _, hk⟩
  | i :: rest, done, hdn, hpw, hdl, g, A, L, h, a, w, H, F, hlive, hk, hK0 => by
    unfold denP at hk
    unfold nodesOf
    obtain ⟨hp1, hp2⟩ := List.pairwise_cons.1 hpw
    cases hi : ops[i]? with
    | none => rw [hi] at hk; exact hk.elim
    | some o =>
      rw [hi] at hk
      dsimp only at hk ⊢
      have hmem : o ∈ ops.toList := by
        rw [← Array.getElem?_toList] at hi
        exact List.mem_of_getElem? hi
      have hWo : ∀ k, memN k (opWrites ops.toList) = false → memN k (dW o.dst) = false := dW_sub hmem
      cases hq : quietO P o with
      | true =>
        rw [hq] at hk
        dsimp only at hk ⊢
        obtain ⟨v, hy, hfl, g1, A1, L1, h1, F1, H1, T1, hk1⟩ := quiet_step hG hV F H hq hk
        refine ⟨o, v, hi, hy, ?_⟩
        refine denP_run hG hV hsel hown rest (done ++ [i]) (List.pairwise_of_forall fun _ _ => trivial) hp2 (fun x hx k hkr => ?_) g1 A1 L1 h1 _ w H1 F1 (fun x hx => ?_) hk1 (fun a' w' hr => hK0 a' w' ?_)
        · rcases List.mem_append.1 hx with hx | hx
          · exact hdl x hx k (List.mem_cons_of_mem _ hkr)
          · simp only [List.mem_singleton] at hx; subst hx; exact hp1 k hkr
        · rcases List.mem_append.1 hx with hx | hx
          · have hix : Ind ops i x := by
              rcases hdl x hx i List.mem_cons_self with h | h
              · have := h.2 o hi; rw [hq] at this; cases this
              · exact h
            exact Live.put hsel hi hix (hlive x hx)
          · simp only [List.mem_singleton] at hx
            subst hx
            have ho := hown x o hi hq
            exact ⟨o, v, hi, put_put _ _ _ _, (Yat.put (hsel x o · · hi) ho).2 hy, fun e w' => (Yat.put (hsel x o · · hi) ho).2 (hfl e w')⟩
        · obtain ⟨g2, A2, L2, h2, F2, H2, T2, k2⟩ := hr
          exact ⟨g2, A2, L2, h2, F2, H2, (T1.mono hWo).trans T2, k2⟩
      | false =>
        rw [hq] at hk
        dsimp only at hk ⊢
        have hs := step_ok (Q := fun e a w => match e with | .normal => K0 a w | _ => False) hG hV (H.freeze (keepLs (keepOf o A))) F hk
        refine ⟨o, hi, ?_⟩
        have next : ∀ a' w', Rel (dW o.dst) fr g (freezeL (keepLs (keepOf o A)) L) a w (fun A' L' h' => reAll P ops.toList L (dsts o.dst ++ keepOf o A) A' h' (done.filter (notAnc tab i)) (denP P lo G V ops tab rest (done.filter (notAnc tab i)) A' (thaw L L') h' K)) a' w' →
            (∀ y ∈ done.filter (notAnc tab i), Chk P ops y a' w') ∧ runP P ops (fun e a w => match e with | .normal => K0 a w | _ => False) (nodesOf P ops tab rest (done.filter (notAnc tab i))) a' w' := by
          rintro a' w' ⟨g1, A1, L1, h1, F1, H1, T1, hk1⟩
          obtain ⟨hag, hk1⟩ := reAll_spec F1 H1.hh hk1
          have hl' : ∀ x ∈ done.filter (notAnc tab i), Live P ops x a' w' := fun x hx =>
            Live.past hsel hi ((hdl x (List.mem_filter.1 hx).1 i List.mem_cons_self).resolve_left (fun h => by have h2 := (List.mem_filter.1 hx).2; rw [h.1] at h2; cases h2)) F H F1 H1 T1 (hlive x (List.mem_filter.1 hx).1) (hag x hx)
          refine ⟨fun y hy => (hl' y hy).chk, ?_⟩
          refine denP_run hG hV hsel hown rest _ (List.pairwise_of_forall fun _ _ => trivial) hp2 (fun x hx k hkr => hdl x (List.mem_filter.1 hx).1 k (List.mem_cons_of_mem _ hkr)) g1 A1 (thaw L L1) h1 a' w' (H1.thaw L) F1 hl' hk1 (fun a'' w'' hr => hK0 a'' w'' ?_)
          obtain ⟨g2, A2, L2, h2, F2, H2, T2, k2⟩ := hr
          refine ⟨g2, A2, L2, h2, F2, H2, ?_, k2⟩
          exact (⟨T1.wr, Kp.thaw H T1.kp, fun k hk => T1.gg k (hWo k hk), fun k hk => T1.un k (hWo k hk), T1.sz⟩ : Tr (opWrites ops.toList) g L a w g1 (thaw L L1) a' w').trans T2
        unfold eff
        split
        · rename_i hw
          rw [if_pos hw] at hs
          exact Oper.wp_mono (fun a' w' hr => next a' w' hr) hs
        · rename_i hw
          rw [if_neg hw] at hs
          exact next _ _ hs

/-! ### The checks -/
theorem Anc.trans {x y z : Nat} (h : Anc ops x y) (k : Anc ops y z) : Anc ops x z := by
  induction k with
  | edge ho he => exact .step ho he h
  | step ho he _ ih => exact .step ho he ih
structure Pr (P : Program) (ops : Array Oper) (tab : List (List Nat)) (x i : Nat) : Prop where
  or_ : Anc ops x i ∨ (Ind ops x i ∧ ∀ o, ops[x]? = some o → quietO P o = true)
  ind : PI P ops tab x i
  seen : ∀ o, ops[x]? = some o → i ∉ edgesOf o
theorem nodes_fst (tab : List (List Nat)) : ∀ (l done : List Nat), (∀ i ∈ l, ∃ o, ops[i]? = some o) → (nodesOf P ops tab l done).map (·.1) = l
  | [], _, _ => rfl
  | i :: l, done, h => by
    obtain ⟨o, ho⟩ := h i List.mem_cons_self
    unfold nodesOf
    rw [ho]
    dsimp only
    cases quietO P o with
    | true => simp only [List.map_cons]; rw [nodes_fst tab l _ fun k hk => h k (List.mem_cons_of_mem _ hk)]
    | false => simp only [List.map_cons]; rw [nodes_fst tab l _ fun k hk => h k (List.mem_cons_of_mem _ hk)]
theorem nodes_quiet (tab : List (List Nat)) : ∀ (l done : List Nat), ∀ n ∈ nodesOf P ops tab l done, ∃ o, ops[n.1]? = some o ∧ n.2.1 = quietO P o
  | [], _, n, hn => by simp [nodesOf] at hn
  | i :: l, done, n, hn => by
    unfold nodesOf at hn
    cases ho : ops[i]? with
    | none => rw [ho] at hn; simp at hn
    | some o =>
      rw [ho] at hn
      dsimp only at hn
      cases hq : quietO P o with
      | true =>
        rw [hq] at hn
        rcases List.mem_cons.1 hn with rfl | hn
        · exact ⟨o, ho, hq.symm⟩
        · exact nodes_quiet tab l _ n hn
      | false =>
        rw [hq] at hn
        rcases List.mem_cons.1 hn with rfl | hn
        · exact ⟨o, ho, hq.symm⟩
        · exact nodes_quiet tab l _ n hn
theorem nodes_mem (tab : List (List Nat)) : ∀ (l done : List Nat), ∀ n ∈ nodesOf P ops tab l done, n.1 ∈ l
  | [], _, n, hn => by simp [nodesOf] at hn
  | i :: l, done, n, hn => by
    unfold nodesOf at hn
    cases ho : ops[i]? with
    | none => rw [ho] at hn; simp at hn
    | some o =>
      rw [ho] at hn
      dsimp only at hn
      cases hq : quietO P o with
      | true =>
        rw [hq] at hn
        rcases List.mem_cons.1 hn with rfl | hn
        · exact List.mem_cons_self
        · exact List.mem_cons_of_mem _ (nodes_mem tab l _ n hn)
      | false =>
        rw [hq] at hn
        rcases List.mem_cons.1 hn with rfl | hn
        · exact List.mem_cons_self
        · exact List.mem_cons_of_mem _ (nodes_mem tab l _ n hn)
theorem nodes_c {tab : List (List Nat)} (htab : ∀ i x, notAnc tab i x = false → Anc ops x i) : ∀ (l done : List Nat) (x : Nat), x ∈ done → l.Pairwise (Pr P ops tab) → ∀ n ∈ nodesOf P ops tab l done, Anc ops x n.1 ∨ (n.2.1 = true ∨ x ∈ n.2.2)
  | [], _, x, _, _, n, hn => by simp [nodesOf] at hn
  | i :: l, done, x, hx, hpw, n, hn => by
    obtain ⟨hp1, hp2⟩ := List.pairwise_cons.1 hpw
    unfold nodesOf at hn
    cases ho : ops[i]? with
    | none => rw [ho] at hn; simp at hn
    | some o =>
      rw [ho] at hn
      dsimp only at hn
      cases hq : quietO P o with
      | true =>
        rw [hq] at hn
        rcases List.mem_cons.1 hn with rfl | hn
        · exact .inr (.inl rfl)
        · exact nodes_c htab l _ x (List.mem_append_left _ hx) hp2 n hn
      | false =>
        rw [hq] at hn
        cases hna : notAnc tab i x with
        | true =>
          have hxm : x ∈ done.filter (notAnc tab i) := List.mem_filter.2 ⟨hx, hna⟩
          rcases List.mem_cons.1 hn with rfl | hn
          · exact .inr (.inr hxm)
          · exact nodes_c htab l _ x hxm hp2 n hn
        | false =>
          have hxi := htab i x hna
          rcases List.mem_cons.1 hn with rfl | hn
          · exact .inl hxi
          · obtain ⟨o', ho', hq'⟩ := nodes_quiet tab l _ n hn
            cases hqn : n.2.1 with
            | true => exact .inr (.inl rfl)
            | false =>
              have hnl : n.1 ∈ l := nodes_mem tab l _ n hn
              rcases (hp1 n.1 hnl).or_ with h | h
              · exact .inl (hxi.trans h)
              · have := h.2 o ho; rw [hq] at this; cases this
theorem nodes_pw {tab : List (List Nat)} (htab : ∀ i x, notAnc tab i x = false → Anc ops x i) : ∀ (l done : List Nat), l.Pairwise (Pr P ops tab) →
    (nodesOf P ops tab l done).Pairwise (fun n1 n => (Anc ops n1.1 n.1 ∨ Fit ops n1 n) ∧ (n.2.1 = true → Ind ops n.1 n1.1) ∧ ∀ o, ops[n1.1]? = some o → n.1 ∉ edgesOf o)
  | [], _, _ => by simp [nodesOf]
  | i :: l, done, hpw => by
    obtain ⟨hp1, hp2⟩ := List.pairwise_cons.1 hpw
    unfold nodesOf
    cases ho : ops[i]? with
    | none => simp
    | some o =>
      dsimp only
      cases hq : quietO P o with
      | true =>
        refine List.pairwise_cons.2 ⟨fun n hn => ?_, nodes_pw htab l _ hp2⟩
        have hpr := hp1 n.1 (nodes_mem tab l _ n hn)
        obtain ⟨on, hon, hqn⟩ := nodes_quiet tab l _ n hn
        have hind : n.2.1 = true → Ind ops n.1 i := fun e => hpr.ind.resolve_left (fun h => by have := h.2 on hon; rw [← hqn, e] at this; cases this)
        refine ⟨?_, hind, hpr.seen⟩
        rcases nodes_c htab l _ i (List.mem_append_right _ (by simp)) hp2 n hn with h | h
        · exact .inl h
        · rcases hpr.or_ with h' | h'
          · exact .inl h'
          · rcases hpr.ind with h'' | h''
            · exact .inl (htab _ _ h''.1)
            · exact .inr ⟨rfl, h'.1, h'', h⟩
      | false =>
        refine List.pairwise_cons.2 ⟨fun n hn => ?_, nodes_pw htab l _ hp2⟩
        have hpr := hp1 n.1 (nodes_mem tab l _ n hn)
        obtain ⟨on, hon, hqn⟩ := nodes_quiet tab l _ n hn
        have hind : n.2.1 = true → Ind ops n.1 i := fun e => hpr.ind.resolve_left (fun h => by have := h.2 on hon; rw [← hqn, e] at this; cases this)
        refine ⟨?_, hind, hpr.seen⟩
        rcases hpr.or_ with h' | h'
        · exact .inl h'
        · have := h'.2 o ho; rw [hq] at this; cases this
theorem distinct_nodup : ∀ {l : List Nat}, distinct l = true → l.Nodup
  | [], _ => List.nodup_nil
  | x :: l, h => by
    simp only [distinct, Bool.and_eq_true, Bool.not_eq_true'] at h
    exact List.nodup_cons.2 ⟨fun hx => (by rw [memN_iff.2 hx] at h; cases h.1), distinct_nodup h.2⟩
theorem topo_spec : ∀ {l seen : List Nat}, orderTopo ops seen l = true → l.Nodup → (∀ x ∈ l, x ∉ seen) →
    (∀ i ∈ l, ∃ o, ops[i]? = some o ∧ ∀ e ∈ edgesOf o, e < i) ∧ l.Pairwise (fun x i => ∀ o, ops[x]? = some o → i ∉ edgesOf o)
  | [], seen, _, _, _ => ⟨fun i hi => (by cases hi), List.Pairwise.nil⟩
  | i :: l, seen, h, hn, hs => by
    simp only [orderTopo, Bool.and_eq_true] at h
    obtain ⟨h1, h2⟩ := h
    obtain ⟨hn1, hn2⟩ := List.nodup_cons.1 hn
    obtain ⟨h3, h4⟩ := topo_spec h2 hn2 (fun x hx hxs => by
      rcases List.mem_cons.1 hxs with rfl | hxs
      · exact hn1 hx
      · exact hs x (List.mem_cons_of_mem _ hx) hxs)
    cases ho : ops[i]? with
    | none => rw [ho] at h1; cases h1
    | some o =>
      rw [ho] at h1
      have h1 : ∀ e ∈ edgesOf o, e ∈ seen ∧ e < i := by
        intro e he
        have := List.all_eq_true.1 h1 e he
        rw [Bool.and_eq_true] at this
        exact ⟨memN_iff.1 this.1, by have := this.2; rw [Nat.blt_eq] at this; exact this⟩
      refine ⟨fun k hk => ?_, List.pairwise_cons.2 ⟨fun k hk o' ho' hke => ?_, h4⟩⟩
      · rcases List.mem_cons.1 hk with rfl | hk
        · exact ⟨o, ho, fun e he => (h1 e he).2⟩
        · exact h3 k hk
      · rw [ho] at ho'
        cases ho'
        exact hs k (List.mem_cons_of_mem _ hk) (h1 k hke).1
theorem pairs_spec {tab : List (List Nat)} (htab : ∀ i x, notAnc tab i x = false → Anc ops x i) : ∀ {l : List Nat}, orderPairs P ops tab l = true → l.Pairwise (fun x i => (Anc ops x i ∨ (Ind ops x i ∧ ∀ o, ops[x]? = some o → quietO P o = true)) ∧ PI P ops tab x i)
  | [], _ => List.Pairwise.nil
  | x :: l, h => by
    simp only [orderPairs, Bool.and_eq_true] at h
    refine List.pairwise_cons.2 ⟨fun i hi => ?_, pairs_spec htab h.2⟩
    have hp := List.all_eq_true.1 h.1 i hi
    unfold orderPair at hp
    cases hx : ops[x]? with
    | none => rw [hx] at hp; cases hp
    | some ox =>
      cases hii : ops[i]? with
      | none => rw [hx, hii] at hp; cases hp
      | some oi =>
        rw [hx, hii] at hp
        simp only [Bool.and_eq_true, Bool.or_eq_true, Bool.not_eq_true'] at hp
        refine ⟨?_, ?_⟩
        · rcases hp.1 with h | h
          · exact .inl (htab i x h)
          · obtain ⟨a1, a2, a3⟩ := Oper.apart_spec h.2
            refine .inr ⟨fun o1 o2 h1 h2 d hd => ?_, fun o ho => ?_⟩
            · rw [hx] at h1; rw [hii] at h2; cases h1; cases h2
              exact ⟨a1 d hd, a2 d hd⟩
            · cases ho; exact h.1
        · rcases hp.2 with h3 | h3
          · exact .inl ⟨h3.1, fun o ho => by rw [hii] at ho; cases ho; exact h3.2⟩
          refine .inr fun o1 o2 h1 h2 d hd => ?_
          rw [hii] at h1; rw [hx] at h2; cases h1; cases h2
          rw [hd] at h3
          simp only [Bool.and_eq_true, Bool.not_eq_true', bne_iff_ne, ne_eq] at h3
          exact ⟨fun hm => (by simp [hm] at h3), h3.2⟩
/-- A REGION WHOSE ORDER IS DRAWN IS WHAT IT DENOTES. -/
theorem order_ok (hG : GOk P G) (hV : VOk P V) {id : Nat} {l : List Nat} (hm : P.follows .mixedOrders = true) (ho : orderOk P ops (ancTab [] ops.toList) l = true) {K : KS} {g : Nat → Nat} {A : Env} {L : List LE} {h : Hp} {a : Act} {w : World} (H : HO fr g L h w) (F : FO g A a)
    (hk : denP P lo G V ops (ancTab [] ops.toList) l [] A L h K) : (Code.region id ops true).wp P (fun e a' w' => match e with | .normal => Rel (opWrites ops.toList) fr g L a w K a' w' | _ => False) a w := by
  unfold orderOk at ho
  simp only [Bool.and_eq_true, beq_iff_eq] at ho
  obtain ⟨⟨⟨⟨⟨⟨hsel, hlen⟩, hall⟩, hdist⟩, hown⟩, htopo⟩, hpairs⟩ := ho
  have hnd := distinct_nodup hdist
  obtain ⟨ht1, ht2⟩ := topo_spec htopo hnd (fun x _ hx => by cases hx)
  have htab : ∀ i x, notAnc (ancTab [] ops.toList) i x = false → Anc ops x i := fun i x h => notAnc_false h
  have hps := pairs_spec htab hpairs
  have hpr : l.Pairwise (Pr P ops (ancTab [] ops.toList)) := (hps.and ht2).imp fun h => ⟨h.1.1, h.1.2, h.2⟩
  have hselS := Region.noSelect_spec hsel
  have hownS : ∀ (x : Nat) (o : Oper), ops[x]? = some o → quietO P o = true → ∀ d, o.dst = some d → d ∉ o.looksAt ops := by
    intro x o hx hq d hd hm
    have := Array.all_eq_true_iff_forall_mem.1 hown o (Array.mem_of_getElem? hx)
    rw [hq, hd] at this
    simp [hm] at this
  let w1 : World := { w with drawn := w.drawn + 1 }
  have H1 : HO fr g L h w1 := ⟨H.hh, H.ff, H.dj, fun e he => (let ⟨cs, q⟩ := H.ll e he; ⟨cs, ⟨q.at_, q.sz, q.is_, q.pl, q.nh, q.nf⟩⟩), H.uq⟩
  have hrun := denP_run (K0 := fun a' w' => Rel (opWrites ops.toList) fr g L a w K a' w') hG hV hselS hownS l [] List.Pairwise.nil (hpr.imp fun h => h.ind) (fun x hx => by cases hx) g A L h a w1 H1 F (fun x hx => by cases hx) hk
    (fun a' w' ⟨g2, A2, L2, h2, F2, H2, T2, k2⟩ => ⟨g2, A2, L2, h2, F2, H2, ⟨⟨T2.wr.os, T2.wr.tape, T2.wr.output, T2.wr.size⟩, T2.kp, T2.gg, T2.un, T2.sz⟩, k2⟩)
  have hfst := nodes_fst (P := P) (ancTab [] ops.toList) l [] (fun i hi => let ⟨o, ho, _⟩ := ht1 i hi; ⟨o, ho⟩)
  refine wp_region_any hm (any_of_run (fun c a w h => h) hselS ops.size _ _ a w1 ?_ (by simp) (fun j => ?_) (fun j o _ hj => ?_) ⟨nodes_pw htab l [] hpr, fun n hn => ?_, by rw [hfst]; exact hnd⟩ hrun)
  · have := congrArg List.length hfst
    rw [List.length_map] at this
    rw [this, hlen]
  · rw [hfst]
    constructor
    · intro hj
      have hjs : j < ops.size := by
        apply Classical.byContradiction
        intro hne
        simp [hne] at hj
      exact memN_iff.1 (List.all_eq_true.1 hall j (List.mem_range.2 hjs))
    · intro hj
      obtain ⟨o, ho, _⟩ := ht1 j hj
      have : j < ops.size := (Array.getElem?_eq_some_iff.1 ho).1
      simp [this]
  · exfalso
    by_cases hjs : j < ops.size
    · simp [hjs] at hj
    · simp [hjs] at hj
  · obtain ⟨o, ho, hlt⟩ := ht1 n.1 (nodes_mem _ _ _ n hn)
    have hns : n.1 < ops.size := (Array.getElem?_eq_some_iff.1 ho).1
    obtain ⟨o', ho', hq⟩ := nodes_quiet _ _ _ n hn
    rw [ho] at ho'
    cases ho'
    exact ⟨o, ho, fun hm => absurd (hlt _ hm) (Nat.lt_irrefl _), fun e he => Nat.lt_trans (hlt e he) hns, fun e d hd => hownS n.1 o ho (by rw [← hq]; exact e) d hd⟩
end
end Go.Eng
