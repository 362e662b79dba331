/-
  THE ENGINE, 18: a region whose order is drawn comes to what it comes to in one order.
-/
import Derived.Test.YtblghgacokoklaaDoorF0
set_option linter.unusedSimpArgs false
set_option linter.unusedVariables false
namespace Go.Eng
section
variable {P : Program} {ops : Array Oper} {Q : Exit → Act → World → Prop}

def Yat (P : Program) (ops : Array Oper) (o : Oper) (v : Value) (a : Act) (w : World) : Prop :=
  (Region.wanted o (yielded ops a.tmps) = true ∧ (execOp a.eval o).run P w = .ok (.value v) w) ∨ (Region.wanted o (yielded ops a.tmps) = false ∧ v = undef)
def Chk (P : Program) (ops : Array Oper) (y : Nat) (a : Act) (w : World) : Prop := ∃ o v, ops[y]? = some o ∧ Yat P ops o v a w ∧ a.put o.dst v = a
def eff (P : Program) (ops : Array Oper) (Q : Exit → Act → World → Prop) (o : Oper) (K : Act → World → Prop) (a : Act) (w : World) : Prop :=
  if Region.wanted o (yielded ops a.tmps) then o.wp P a w K Q else K (a.put o.dst undef) w
abbrev Nd := Nat × Bool × List Nat
def runP (P : Program) (ops : Array Oper) (Q : Exit → Act → World → Prop) : List Nd → Act → World → Prop
  | [], a, w => Q .normal a w
  | (i, true, _) :: R, a, w => ∃ o v, ops[i]? = some o ∧ Yat P ops o v a w ∧ runP P ops Q R (a.put o.dst v) w
  | (i, false, c) :: R, a, w => ∃ o, ops[i]? = some o ∧ eff P ops Q o (fun a' w' => (∀ y ∈ c, Chk P ops y a' w') ∧ runP P ops Q R a' w') a w

/-- What x leaves is not seen by y. -/
def Ind (ops : Array Oper) (x y : Nat) : Prop := ∀ ox oy, ops[x]? = some ox → ops[y]? = some oy → ∀ d, ox.dst = some d → d ∉ oy.looksAt ops ∧ oy.dst ≠ some d
theorem Yat.put {o : Oper} (hs : ∀ cs b, o.op ≠ .select cs b) {v : Value} {a : Act} {w : World} {dst : Option Tmp} {u : Value} (h : ∀ d, dst = some d → d ∉ o.looksAt ops) : Yat P ops o v (a.put dst u) w ↔ Yat P ops o v a w := by
  unfold Yat
  rw [execOp_put o hs a dst u h, wanted_put o a dst u h]
theorem eff_mono {o : Oper} {K K' : Act → World → Prop} {a : Act} {w : World} (h : ∀ a w, K a w → K' a w) (hh : eff P ops Q o K a w) : eff P ops Q o K' a w := by
  unfold eff at *
  split
  · rename_i hw; rw [if_pos hw] at hh; exact Oper.wp_mono h hh
  · rename_i hw; rw [if_neg hw] at hh; exact h _ _ hh
theorem eff_put (hQ : ∀ c a w, ¬ Q (.panic c) a w) {oj : Oper} (hsj : ∀ cs b, oj.op ≠ .select cs b) {dx : Option Tmp} {v : Value} (h1 : ∀ d, dx = some d → d ∉ oj.looksAt ops) (h2 : ∀ d, dx = some d → oj.dst ≠ some d)
    {K : Act → World → Prop} {a : Act} {w : World} (hout : ∀ a w, ¬ Q .outgrown a w ∨ True) (h : eff P ops Q oj K (a.put dx v) w) : eff P ops Q oj (fun b w' => K (b.put dx v) w') a w := by
  unfold eff at *
  rw [wanted_put oj a dx v h1] at h
  split
  · rename_i hw
    rw [if_pos hw] at h
    unfold Oper.wp at *
    rw [execOp_put oj hsj a dx v h1] at h
    generalize (execOp a.eval oj).run P w = r at *
    cases r with
    | ok n w' =>
      cases n <;> simp only [Oper.upon] at h ⊢
      case value u => rw [← Act.put_comm a v u h2]; exact h
      case skip => rw [← Act.put_comm a v undef h2]; exact h
      case defer d =>
        rw [← Act.put_comm _ v undef h2, ← Act.put_defers]
        exact h
      case enter f args =>
        refine Calls.mono h fun e w'' he => ?_
        cases e with
        | returned u => exact (show K ((a.put oj.dst u).put dx v) w'' from by rw [← Act.put_comm a v u h2]; exact he)
        | panicked c => exact (hQ _ _ _ he).elim
        | outgrown => exact he
      case row row args => exact Rows.mono h fun u w'' he => by rw [← Act.put_comm a v u h2]; exact he
    | halt x w' =>
      cases x <;> simp only [Oper.upon] at h ⊢
      case panic u => exact (hQ _ _ _ h).elim
  · rename_i hw
    rw [if_neg hw] at h
    rw [← Act.put_comm a v undef h2]; exact h
theorem put_put (a : Act) (d : Option Tmp) (v u : Value) : (a.put d v).put d u = a.put d u := by
  cases d with
  | none => rfl
  | some d => simp [Act.put]
theorem put_fix {b : Act} {dx dy : Option Tmp} {v u : Value} (hne : ∀ d, dx = some d → dy ≠ some d) (h : (b.put dx v).put dy u = b.put dx v) : b.put dy u = b := by
  cases dy with
  | none => rfl
  | some e =>
    cases dx with
    | none => exact h
    | some d =>
      have hde : d ≠ e := fun q => hne d rfl (by rw [q])
      have ht : (b.tmps.setIfInBounds d v).setIfInBounds e u = b.tmps.setIfInBounds d v := congrArg Act.tmps h
      have : b.tmps.setIfInBounds e u = b.tmps := by
        apply Array.ext_getElem?
        intro i
        have hi : ((b.tmps.setIfInBounds d v).setIfInBounds e u)[i]? = (b.tmps.setIfInBounds d v)[i]? := by rw [ht]
        by_cases hei : e = i
        · subst hei
          rw [Array.getElem?_setIfInBounds_ne hde] at hi
          rw [Array.getElem?_setIfInBounds] at hi ⊢
          simpa using hi
        · rw [Array.getElem?_setIfInBounds_ne hei]
      show ({ b with tmps := b.tmps.setIfInBounds e u } : Act) = b
      rw [this]
theorem Chk.back {x y : Nat} {ox : Oper} (hx : ops[x]? = some ox) (hsel : ∀ (j : Nat) (o : Oper) cs b, ops[j]? = some o → o.op ≠ .select cs b) (hi : Ind ops x y) {b : Act} {v : Value} {w : World} (h : Chk P ops y (b.put ox.dst v) w) : Chk P ops y b w := by
  obtain ⟨o, u, ho, hy, hp⟩ := h
  exact ⟨o, u, ho, (Yat.put (hsel y o · · ho) (fun d hd => (hi ox o hx ho d hd).1)).1 hy, put_fix (fun d hd => (hi ox o hx ho d hd).2) hp⟩

theorem swap_q {x i : Nat} {cx ci : List Nat} {R : List Nd} {a : Act} {w : World} (hsel : ∀ (j : Nat) (o : Oper) cs b, ops[j]? = some o → o.op ≠ .select cs b) (h1 : Ind ops x i) (h2 : Ind ops i x)
    (h : runP P ops Q ((x, true, cx) :: (i, true, ci) :: R) a w) : runP P ops Q ((i, true, ci) :: (x, true, cx) :: R) a w := by
  obtain ⟨ox, v, hx, hy, oi, u, hi, hz, hr⟩ := h
  refine ⟨oi, u, hi, (Yat.put (hsel i oi · · hi) (fun d hd => (h1 ox oi hx hi d hd).1)).1 hz, ox, v, hx, (Yat.put (hsel x ox · · hx) (fun d hd => (h2 oi ox hi hx d hd).1)).2 hy, ?_⟩
  rw [← Act.put_comm a v u (fun d hd => (h1 ox oi hx hi d hd).2)]
  exact hr
theorem swap_e (hQ : ∀ c a w, ¬ Q (.panic c) a w) {x i : Nat} {cx ci : List Nat} {R : List Nd} {a : Act} {w : World} (hsel : ∀ (j : Nat) (o : Oper) cs b, ops[j]? = some o → o.op ≠ .select cs b) (h1 : Ind ops x i) (hown : ∀ ox, ops[x]? = some ox → ∀ d, ox.dst = some d → d ∉ ox.looksAt ops) (hxc : ∀ y ∈ ci, Ind ops x y)
    (h : runP P ops Q ((x, true, cx) :: (i, false, x :: ci) :: R) a w) : runP P ops Q ((i, false, ci) :: (x, true, cx) :: R) a w := by
  obtain ⟨ox, v, hx, hy, oi, hi, he⟩ := h
  refine ⟨oi, hi, ?_⟩
  have he' := eff_put hQ (hsel i oi · · hi) (fun d hd => (h1 ox oi hx hi d hd).1) (fun d hd => (h1 ox oi hx hi d hd).2) (fun _ _ => .inr trivial) he
  refine eff_mono (fun b w' hb => ?_) he'
  obtain ⟨hc, hr⟩ := hb
  refine ⟨fun y hyc => (hc y (List.mem_cons_of_mem _ hyc)).back hx hsel (hxc y hyc), ?_⟩
  obtain ⟨o, u, ho, hyu, hp⟩ := hc x List.mem_cons_self
  rw [hx] at ho
  cases ho
  rw [put_put] at hp
  exact ⟨ox, u, hx, (Yat.put (hsel x ox · · hx) (fun d hd => hown ox hx d hd)).1 hyu, by rw [hp]; exact hr⟩

/-! ### One of them first -/
def Fit (ops : Array Oper) (n1 n : Nd) : Prop := n1.2.1 = true ∧ Ind ops n1.1 n.1 ∧ Ind ops n.1 n1.1 ∧ (n.2.1 = true ∨ n1.1 ∈ n.2.2)
theorem pull (hQ : ∀ c a w, ¬ Q (.panic c) a w) (hsel : ∀ (j : Nat) (o : Oper) cs b, ops[j]? = some o → o.op ≠ .select cs b) {i : Nat} {q : Bool} {R2 : List Nd} :
    ∀ (R1 : List Nd) (c c' : List Nat) (a : Act) (w : World), (∀ x ∈ R1, Fit ops x (i, q, c)) → (∀ x ∈ R1, ∀ ox, ops[x.1]? = some ox → ∀ d, ox.dst = some d → d ∉ ox.looksAt ops) → R1.Pairwise (fun y x => Ind ops x.1 y.1) → (∀ y ∈ c', y ∈ c) → (∀ y ∈ c', ∀ x ∈ R1, Ind ops x.1 y) →
      runP P ops Q (R1 ++ (i, q, c) :: R2) a w → runP P ops Q ((i, q, c') :: (R1 ++ R2)) a w
  | [], c, c', a, w, _, _, _, hsub, _, h => by
    cases q with
    | true => exact h
    | false =>
      obtain ⟨o, ho, he⟩ := h
      exact ⟨o, ho, eff_mono (fun a w hk => ⟨fun y hy => hk.1 y (hsub y hy), hk.2⟩) he⟩
  | (x, qx, cx) :: R1, c, c', a, w, hfit, hown, hpw, hsub, hind, h => by
    obtain ⟨hqx, hx1, hx2, hx3⟩ := hfit _ List.mem_cons_self
    have hqx : qx = true := hqx
    subst hqx
    obtain ⟨hp1, hp2⟩ := List.pairwise_cons.1 hpw
    obtain ⟨ox, v, hox, hy, hr⟩ := h
    cases q with
    | true =>
      have ih := pull hQ hsel R1 c c' (a.put ox.dst v) w (fun z hz => hfit z (List.mem_cons_of_mem _ hz)) (fun z hz => hown z (List.mem_cons_of_mem _ hz)) hp2 hsub (fun y hyc z hz => hind y hyc z (List.mem_cons_of_mem _ hz)) hr
      exact swap_q hsel hx1 hx2 ⟨ox, v, hox, hy, ih⟩
    | false =>
      have hxc : x ∈ c := hx3.resolve_left (by simp)
      have ih := pull hQ hsel R1 c (x :: c') (a.put ox.dst v) w (fun z hz => hfit z (List.mem_cons_of_mem _ hz)) (fun z hz => hown z (List.mem_cons_of_mem _ hz)) hp2
        (fun y hyc => by
          rcases List.mem_cons.1 hyc with rfl | hyc
          · exact hxc
          · exact hsub y hyc)
        (fun y hyc z hz => by
          rcases List.mem_cons.1 hyc with rfl | hyc
          · exact hp1 z hz
          · exact hind y hyc z (List.mem_cons_of_mem _ hz)) hr
      exact swap_e hQ hsel hx1 (fun o ho => hown _ List.mem_cons_self o ho) (fun y hyc => hind y hyc _ List.mem_cons_self) ⟨ox, v, hox, hy, ih⟩

/-! ### What must come before -/
inductive Anc (ops : Array Oper) : Nat → Nat → Prop
  | edge {e i : Nat} {o : Oper} : ops[i]? = some o → e ∈ edgesOf o → Anc ops e i
  | step {x e i : Nat} {o : Oper} : ops[i]? = some o → e ∈ edgesOf o → Anc ops x e → Anc ops x i
def Down (ops : Array Oper) (listed : Array Bool) : Prop := ∀ j o, ops[j]? = some o → listed.getD j false = true → ∀ e ∈ edgesOf o, listed.getD e false = true
theorem Anc.listed {listed : Array Bool} (hd : Down ops listed) {x i : Nat} (h : Anc ops x i) (hi : ∀ o, ops[i]? = some o → ∀ e ∈ edgesOf o, listed.getD e false = true) : listed.getD x false = true := by
  induction h with
  | edge ho he => exact hi _ ho _ he
  | step ho he _ ih => exact ih fun o' ho' e' he' => hd _ o' ho' (hi _ ho _ he) e' he'
theorem addAll_mem : ∀ {xs l : List Nat} {x : Nat}, x ∈ addAll l xs → x ∈ l ∨ x ∈ xs
  | [], l, x, h => .inl h
  | y :: ys, l, x, h => by
    unfold addAll at h
    cases hm : memN y l with
    | true =>
      rw [hm] at h
      rcases addAll_mem h with h | h
      · exact .inl h
      · exact .inr (List.mem_cons_of_mem _ h)
    | false =>
      rw [hm] at h
      rcases addAll_mem h with h | h
      · rcases List.mem_cons.1 h with rfl | h
        · exact .inr List.mem_cons_self
        · exact .inl h
      · exact .inr (List.mem_cons_of_mem _ h)
theorem ancOf_mem {tab : List (List Nat)} : ∀ {es l : List Nat} {x : Nat}, x ∈ ancOf tab l es → x ∈ l ∨ ∃ e ∈ es, x = e ∨ x ∈ (tab[e]?).getD []
  | [], l, x, h => .inl h
  | e :: es, l, x, h => by
    unfold ancOf at h
    rcases ancOf_mem h with h | ⟨e', he', h⟩
    · rcases addAll_mem h with h | h
      · exact .inl h
      · rcases List.mem_cons.1 h with rfl | h
        · exact .inr ⟨_, List.mem_cons_self, .inl rfl⟩
        · exact .inr ⟨e, List.mem_cons_self, .inr h⟩
    · exact .inr ⟨e', List.mem_cons_of_mem _ he', h⟩
theorem ancTab_ok : ∀ (os done : List Oper) (tab : List (List Nat)), tab.length = done.length → (done ++ os).toArray = ops → (∀ i x, x ∈ (tab[i]?).getD [] → Anc ops x i) → ∀ i x, x ∈ ((ancTab tab os)[i]?).getD [] → Anc ops x i
  | [], done, tab, _, _, h => h
  | o :: os, done, tab, hl, hops, h => by
    unfold ancTab
    refine ancTab_ok os (done ++ [o]) _ (by simp [hl]) (by simpa using hops) fun i x hx => ?_
    by_cases hi : i < tab.length
    · rw [List.getElem?_append_left hi] at hx
      exact h i x hx
    · rw [List.getElem?_append_right (by omega)] at hx
      have hi0 : i = tab.length := by
        apply Classical.byContradiction
        intro hne
        rw [List.getElem?_eq_none (by simp; omega)] at hx
        cases hx
      subst hi0
      have hoi : ops[tab.length]? = some o := by rw [← hops]; simp [hl]
      simp only [Nat.sub_self, List.getElem?_cons_zero, Option.getD_some] at hx
      rcases ancOf_mem hx with hx | ⟨e, he, hx⟩
      · cases hx
      · rcases hx with rfl | hx
        · exact .edge hoi he
        · exact .step hoi he (h e x hx)
theorem notAnc_false {i x : Nat} (h : notAnc (ancTab [] ops.toList) i x = false) : Anc ops x i := by
  unfold notAnc at h
  have : memN x (((ancTab [] ops.toList)[i]?).getD []) = true := by simpa using h
  exact ancTab_ok ops.toList [] [] rfl (by simp) (fun i x hx => by simp at hx) i x (memN_iff.1 this)

structure Good (ops : Array Oper) (R : List Nd) : Prop where
  pw : R.Pairwise (fun n1 n => (Anc ops n1.1 n.1 ∨ Fit ops n1 n) ∧ (n.2.1 = true → Ind ops n.1 n1.1) ∧ ∀ o, ops[n1.1]? = some o → n.1 ∉ edgesOf o)
  self : ∀ n ∈ R, ∃ o, ops[n.1]? = some o ∧ n.1 ∉ edgesOf o ∧ (∀ e ∈ edgesOf o, e < ops.size) ∧ (n.2.1 = true → ∀ d, o.dst = some d → d ∉ o.looksAt ops)
  nd : (R.map (·.1)).Nodup
theorem Good.sub {R R' : List Nd} (h : Good ops R) (hs : R'.Sublist R) : Good ops R' :=
  ⟨h.pw.sublist hs, fun n hn => h.self n (hs.subset hn), h.nd.sublist (hs.map _)⟩
theorem any_of_run (hQ : ∀ c a w, ¬ Q (.panic c) a w) (hsel : ∀ (j : Nat) (o : Oper) cs b, ops[j]? = some o → o.op ≠ .select cs b) :
    ∀ (fuel : Nat) (R : List Nd) (listed : Array Bool) (a : Act) (w : World), R.length = fuel → listed.size = ops.size → (∀ j, listed.getD j true = false ↔ j ∈ R.map (·.1)) → Down ops listed → Good ops R → runP P ops Q R a w → wpAny P .any ops Q fuel listed a w
  | 0, R, listed, a, w, hl, hsz, hun, hd, hg, h => by
    have : R = [] := List.eq_nil_of_length_eq_zero hl
    subst this
    refine ⟨?_, h⟩
    cases hr : Region.ready .any ops listed with
    | nil => rfl
    | cons j l =>
      have hj : j ∈ Region.ready .any ops listed := by rw [hr]; exact List.mem_cons_self
      have := (hun j).1 (mem_ready.1 hj).1
      simp at this
  | fuel + 1, R, listed, a, w, hl, hsz, hun, hd, hg, h => by
    have edge_bind : ∀ (o : Oper) (e : Edge), e ∈ o.after → Region.binds .any e = true → e.on ∈ edgesOf o := by
      intro o e he hb
      unfold edgesOf
      exact List.mem_map.2 ⟨e, List.mem_filter.2 ⟨Array.mem_toList_iff.2 he, hb⟩, rfl⟩
    have bind_edge : ∀ (o : Oper) (k : Nat), k ∈ edgesOf o → ∃ e ∈ o.after, Region.binds .any e = true ∧ e.on = k := by
      intro o k hk
      unfold edgesOf at hk
      obtain ⟨e, he, rfl⟩ := List.mem_map.1 hk
      obtain ⟨h1, h2⟩ := List.mem_filter.1 he
      exact ⟨e, Array.mem_toList_iff.1 h1, h2, rfl⟩
    refine ⟨fun h0 => ?_, fun i hi => ?_⟩
    · exfalso
      match R, hl with
      | n :: R', _ =>
        obtain ⟨o, ho, hself, hlt, _⟩ := hg.self n List.mem_cons_self
        have hnr : n.1 ∈ Region.ready .any ops listed := by
          refine mem_ready.2 ⟨(hun n.1).2 (by simp), o, ho, fun e he hb => ?_⟩
          apply Classical.byContradiction
          intro hne
          have heo := edge_bind o e he hb
          have hes : e.on < listed.size := by rw [hsz]; exact hlt _ heo
          have heu : listed.getD e.on true = false := by
            simp only [Array.getD, hes, dif_pos] at hne ⊢
            simpa using hne
          have hmem := (hun e.on).1 heu
          rcases List.mem_cons.1 hmem with h1 | h1
          · have h1 : e.on = n.1 := h1
            rw [h1] at heo; exact hself heo
          · obtain ⟨n2, hn2, he2⟩ := List.mem_map.1 h1
            have he2 : n2.1 = e.on := he2
            exact ((List.pairwise_cons.1 hg.pw).1 n2 hn2).2.2 o ho (by rw [he2]; exact heo)
        rw [h0] at hnr; cases hnr
    · obtain ⟨hiu, o, ho, hall⟩ := mem_ready.1 hi
      obtain ⟨n, hn, hni⟩ := List.mem_map.1 ((hun i).1 hiu)
      obtain ⟨R1, R2, rfl⟩ := List.append_of_mem hn
      obtain ⟨i', q, c⟩ := n
      have hni : i' = i := hni
      subst hni
      have hdeps : ∀ o', ops[i']? = some o' → ∀ e ∈ edgesOf o', listed.getD e false = true := by
        intro o' ho' e he
        rw [ho] at ho'
        cases ho'
        obtain ⟨e', he', hb, rfl⟩ := bind_edge o e he
        exact hall e' he' hb
      have in_size : ∀ j, j ∈ (R1 ++ (i', q, c) :: R2).map (·.1) → listed.getD j false = false := by
        intro j hj
        have h1 := (hun j).2 hj
        by_cases hjs : j < listed.size
        · simp only [Array.getD, hjs, dif_pos] at h1 ⊢; exact h1
        · simp [Array.getD, hjs] at h1
      have hpw := List.pairwise_append.1 hg.pw
      have hrun := pull hQ hsel (Q := Q) R1 c [] a w
        (fun x hx => by
          rcases (hpw.2.2 x hx _ List.mem_cons_self).1 with ha | hf
          · exfalso
            have h1 := ha.listed hd hdeps
            rw [in_size x.1 (List.mem_map.2 ⟨x, List.mem_append_left _ hx, rfl⟩)] at h1
            cases h1
          · exact hf)
        (fun x hx ox hox d hdd => by
          obtain ⟨o2, ho2, _, _, hs⟩ := hg.self x (List.mem_append_left _ hx)
          rw [hox] at ho2
          cases ho2
          rcases (hpw.2.2 x hx _ List.mem_cons_self).1 with ha | hf
          · exfalso
            have h1 := ha.listed hd hdeps
            rw [in_size x.1 (List.mem_map.2 ⟨x, List.mem_append_left _ hx, rfl⟩)] at h1
            cases h1
          · exact hs hf.1 d hdd)
        (hpw.1.imp_of_mem fun {y x} hy hx h => h.2.1 (by
          rcases (hpw.2.2 x hx _ List.mem_cons_self).1 with ha | hf
          · exfalso
            have h1 := ha.listed hd hdeps
            rw [in_size x.1 (List.mem_map.2 ⟨x, List.mem_append_left _ hx, rfl⟩)] at h1
            cases h1
          · exact hf.1)) (fun y hy => (by cases hy)) (fun y hy => (by cases hy)) h
      have hnd := hg.nd
      rw [List.map_append, List.map_cons] at hnd
      have hni1 : i' ∉ (R1 ++ R2).map (·.1) := by
        rw [List.map_append]
        rw [List.nodup_append] at hnd
        obtain ⟨_, h2, h3⟩ := hnd
        intro hmem
        rcases List.mem_append.1 hmem with h1 | h1
        · exact h3 _ h1 _ List.mem_cons_self rfl
        · exact (List.nodup_cons.1 h2).1 h1
      have hsub : (R1 ++ R2).Sublist (R1 ++ (i', q, c) :: R2) := List.Sublist.append_left (List.sublist_cons_self _ _) _
      have next : ∀ a' w', runP P ops Q (R1 ++ R2) a' w' → wpAny P .any ops Q fuel (listed.setIfInBounds i' true) a' w' := by
        intro a' w' hr
        refine any_of_run hQ hsel fuel (R1 ++ R2) _ a' w' (by simp at hl ⊢; omega) (by simp [hsz]) (fun j => ?_) (fun j oj hoj hlj e he => ?_) (hg.sub hsub) hr
        · by_cases hij : i' = j
          · subst hij
            refine ⟨fun hh => ?_, fun hh => absurd hh hni1⟩
            by_cases his : i' < listed.size
            · simp [his] at hh
            · simp [his] at hh
          · rw [getD_set_ne true hij, hun j]
            simp only [List.map_append, List.map_cons, List.mem_append, List.mem_cons]
            constructor
            · rintro (h1 | h1 | h1)
              · exact .inl h1
              · exact absurd h1.symm hij
              · exact .inr h1
            · rintro (h1 | h1)
              · exact .inl h1
              · exact .inr (.inr h1)
        · by_cases hij : i' = j
          · subst hij
            exact getD_set_true (hdeps oj hoj e he)
          · rw [getD_set_ne false hij] at hlj
            exact getD_set_true (hd j oj hoj hlj e he)
      cases q with
      | true =>
        obtain ⟨o', v, ho', hy, hr⟩ := hrun
        rw [ho] at ho'
        cases ho'
        unfold wpOp
        rw [ho]
        dsimp only
        rcases hy with ⟨hw, hv⟩ | ⟨hw, rfl⟩
        · rw [if_pos hw]
          refine .inl ?_
          unfold Oper.wp
          rw [hv]
          exact next _ _ hr
        · rw [if_neg (by rw [hw]; simp)]
          exact next _ _ hr
      | false =>
        obtain ⟨o', ho', he⟩ := hrun
        rw [ho] at ho'
        cases ho'
        have he' := eff_mono (fun a' w' hk => next a' w' hk.2) he
        unfold eff at he'
        unfold wpOp
        rw [ho]
        dsimp only
        split
        · rename_i hw; rw [if_pos hw] at he'; exact .inl he'
        · rename_i hw; rw [if_neg hw] at he'; exact he'

end
end Go.Eng
