/-
  THE ENGINE, 16: where ways meet, loops, code, a whole call.
-/
import Derived.Test.YtblghgacokoklaaDoorE14
set_option linter.unusedSimpArgs false
set_option linter.unusedVariables false
namespace Go.Eng
section
variable {P : Program} {lo : List Nat} {G : List (Nat × (List Value → PT))} {V : Value → List Value → PT} {fr : Hp} {g : Nat → Nat} {A : Env} {L : List LE} {h : Hp} {w : World} {a : Act} {Q : Exit → Act → World → Prop}

/-- Said as values of their kinds, cells say what they said. -/
def Says (xs ys : List AV) : Prop := ys.length = xs.length ∧ (∀ y ∈ ys, y.plain = true) ∧ ∀ g us, inStep g xs us → inStep g ys us
theorem Says.cons {x y : AV} {xs ys : List AV} (hy : y.plain = true) (hxy : ∀ g u, x.is g u → y.is g u) (h : Says xs ys) : Says (x :: xs) (y :: ys) := by
  refine ⟨by simp [h.1], fun z hz => ?_, fun g us hs => ?_⟩
  · rcases List.mem_cons.1 hz with rfl | hz
    · exact hy
    · exact h.2.1 z hz
  · cases us with
    | nil => have := hs.1; simp at this
    | cons u us =>
      have ht : inStep g xs us := ⟨by simpa using hs.1, fun i hi => hs.2 (i + 1) (by simpa using hi)⟩
      obtain ⟨h1, h2⟩ := h.2.2 g us ht
      refine ⟨by simp [h1], fun i hi => ?_⟩
      cases i with
      | zero => exact hxy g u (hs.2 0 (by simp))
      | succ i => exact h2 i (by simpa using hi)
/-- One cell as a value of its kind. -/
theorem appK_cons {k : Kd} {ks : List Kd} {β : Type} {f : Fun (k :: ks) β} {x : AV} {xs : List AV} {K : β → Prop} (hk : appK (k :: ks) f (x :: xs) K) :
    ∃ y : k.T, (k.av y).plain = true ∧ (∀ g u, x.is g u → (k.av y).is g u) ∧ appK ks (f y) xs K ∧ ∀ {γ : Type} (f' : Fun (k :: ks) γ) (K' : γ → Prop), appK (k :: ks) f' (x :: xs) K' ↔ appK ks (f' y) xs K' := by
  cases k with
  | int ik =>
    cases x with
    | v xv => cases xv with
      | int ik' n =>
        simp only [appK] at hk
        by_cases he : ik = ik'
        · subst he
          rw [decide_eq_true rfl] at hk
          exact ⟨n, rfl, fun g u hu => hu, hk, fun f' K' => by simp only [appK, decide_true]⟩
        · rw [decide_eq_false he] at hk; exact False.elim hk
      | _ => exact False.elim hk
    | _ => exact False.elim hk
  | bool =>
    cases x with
    | v xv => cases xv with
      | bool b => exact ⟨b, rfl, fun g u hu => hu, hk, fun f' K' => Iff.rfl⟩
      | _ => exact False.elim hk
    | _ => exact False.elim hk
  | str =>
    cases x with
    | v xv => cases xv with
      | string s => exact ⟨s, rfl, fun g u hu => hu, hk, fun f' K' => Iff.rfl⟩
      | _ => exact False.elim hk
    | _ => exact False.elim hk
  | sl =>
    cases x with
    | v xv => cases xv with
      | slice a n c => exact ⟨⟨a, n, c⟩, rfl, fun g u hu => hu, hk, fun f' K' => Iff.rfl⟩
      | _ => exact False.elim hk
    | _ => exact False.elim hk
  | ptr =>
    cases x with
    | v xv => cases xv with
      | pointer p => exact ⟨p, rfl, fun g u hu => hu, hk, fun f' K' => Iff.rfl⟩
      | _ => exact False.elim hk
    | p b o => exact ⟨some ⟨b, o, none⟩, rfl, fun g u hu => hu, hk, fun f' K' => Iff.rfl⟩
    | _ => exact False.elim hk
  | map =>
    cases x with
    | v xv => cases xv with
      | map m => exact ⟨m, rfl, fun g u hu => hu, hk, fun f' K' => Iff.rfl⟩
      | _ => exact False.elim hk
    | _ => exact False.elim hk
  | raw =>
    cases x with
    | f v => exact ⟨v, rfl, fun g u hu => hu, hk, fun f' K' => Iff.rfl⟩
    | _ => exact False.elim hk
theorem appK_len : ∀ {ks : List Kd} {β : Type} {f : Fun ks β} {xs : List AV} {K : β → Prop}, appK ks f xs K → xs.length = ks.length
  | [], _, _, [], _, _ => rfl
  | [], _, _, _ :: _, _, hk => False.elim hk
  | k :: ks, _, _, [], _, hk => by cases k <;> exact False.elim hk
  | k :: ks, _, _, x :: xs, _, hk => by
    obtain ⟨y, _, _, hr, _⟩ := appK_cons hk
    have := appK_len hr
    simp [this]
theorem all1_at {k : Kd} {ks : List Kd} {β : Type} {f : Fun (k :: ks) β} {Φ : List AV → β → Prop} (h : all1 (k :: ks) f Φ) (x : k.T) : all1 ks (f x) fun vs a => Φ (k.av x :: vs) a := by
  cases k with
  | bool => cases x with
    | true => exact h.1
    | false => exact h.2
  | _ => exact h x
theorem all2_at {k : Kd} {ks : List Kd} {β γ : Type} {f : Fun (k :: ks) β} {m : Fun (k :: ks) γ} {Φ : List AV → β → γ → Prop} (h : all2 (k :: ks) f m Φ) (x : k.T) : all2 ks (f x) (m x) fun vs a b => Φ (k.av x :: vs) a b := by
  cases k with
  | bool => cases x with
    | true => exact h.1
    | false => exact h.2
  | _ => exact h x
theorem join_says : ∀ {ks : List Kd} {β : Type} {f : Fun ks β} {xs : List AV} {K : β → Prop} {Φ : List AV → β → Prop}, appK ks f xs K → all1 ks f Φ → ∃ ys j, Says xs ys ∧ K j ∧ Φ ys j
  | [], _, f, [], _, _, hk, ha => ⟨[], f, ⟨rfl, fun y hy => (by simp at hy), fun g us h => h⟩, hk, ha⟩
  | [], _, _, _ :: _, _, _, hk, _ => False.elim hk
  | k :: ks, _, _, [], _, _, hk, _ => by cases k <;> exact False.elim hk
  | k :: ks, _, f, x :: xs, K, Φ, hk, ha => by
    obtain ⟨y, hp, hxy, hr, _⟩ := appK_cons hk
    obtain ⟨ys, j, hs, hK, hΦ⟩ := join_says hr (all1_at ha y)
    exact ⟨k.av y :: ys, j, Says.cons hp hxy hs, hK, hΦ⟩
theorem loop_says : ∀ {ks : List Kd} {β γ : Type} {f : Fun ks β} {m : Fun ks γ} {xs : List AV} {K : β → Prop} {K' : γ → Prop} {Φ : List AV → β → γ → Prop}, appK ks f xs K → appK ks m xs K' → all2 ks f m Φ → ∃ ys i u, Says xs ys ∧ K i ∧ K' u ∧ Φ ys i u
  | [], _, _, f, m, [], _, _, _, hk, hm, ha => ⟨[], f, m, ⟨rfl, fun y hy => (by simp at hy), fun g us h => h⟩, hk, hm, ha⟩
  | [], _, _, _, _, _ :: _, _, _, _, hk, _, _ => False.elim hk
  | k :: ks, _, _, _, _, [], _, _, _, hk, _, _ => by cases k <;> exact False.elim hk
  | k :: ks, _, _, f, m, x :: xs, K, K', Φ, hk, hm, ha => by
    obtain ⟨y, hp, hxy, hr, hiff⟩ := appK_cons hk
    obtain ⟨ys, i, u, hs, hK, hK', hΦ⟩ := loop_says hr ((hiff m K').1 hm) (all2_at ha y)
    exact ⟨k.av y :: ys, i, u, Says.cons hp hxy hs, hK, hK', hΦ⟩
theorem appK_any : ∀ {ks : List Kd} {β γ : Type} {f : Fun ks β} {m : Fun ks γ} {xs : List AV} {K : β → Prop}, appK ks f xs K → appK ks m xs (fun _ => True)
  | [], _, _, f, m, [], _, hk => trivial
  | [], _, _, _, _, _ :: _, _, hk => False.elim hk
  | k :: ks, _, _, _, _, [], _, hk => by cases k <;> exact False.elim hk
  | k :: ks, _, _, f, m, x :: xs, K, hk => by
    obtain ⟨y, hp, hxy, hr, hiff⟩ := appK_cons hk
    exact (hiff m _).2 (appK_any hr)

/-! ### The frame again -/
theorem forget_look (W : List Nat) : ∀ (l : List (Nat × AV)) (i : Nat), look (forgetL W l) i = if memN i W then .unk else (look l i).kill W
  | [], i => by simp only [forgetL, look]; split <;> rfl
  | (j, x) :: l, i => by
    simp only [forgetL]
    cases hm : memN j W with
    | true =>
      simp only [look, forget_look W l i]
      cases he : Nat.beq j i with
      | true => have := Nat.eq_of_beq_eq_true he; subst this; simp [hm]
      | false => rfl
    | false =>
      simp only [look, forget_look W l i]
      cases he : Nat.beq j i with
      | true => have := Nat.eq_of_beq_eq_true he; subst this; simp [hm]
      | false => rfl
theorem forget_get (W : List Nat) (A : Env) (i : Nat) : getE (forgetE W A) i = if memN i W then .unk else (getE A i).kill W := by
  show (match Nat.blt i A.n with | true => look (forgetL W A.l) i | false => .unk) = if memN i W then .unk else (match Nat.blt i A.n with | true => look A.l i | false => AV.unk).kill W
  cases Nat.blt i A.n with
  | true => exact forget_look W A.l i
  | false => show AV.unk = if memN i W = true then AV.unk else AV.unk; split <;> rfl
theorem kill_is {W : List Nat} {g g' : Nat → Nat} (hg : ∀ l, memN l W = false → g' l = g l) {x : AV} {v : Value} (h : x.is g v) : (x.kill W).is g' v := by
  cases x with
  | loc l o =>
    show AV.is _ (match memN l W with | true => .unk | false => .loc l o) v
    cases hm : memN l W with
    | true => trivial
    | false => show v = _; rw [show v = .pointer (some ⟨g l, o, none⟩) from h, hg l hm]
  | sl l n =>
    show AV.is _ (match memN l W with | true => .unk | false => .sl l n) v
    cases hm : memN l W with
    | true => trivial
    | false => show v = _; rw [show v = .slice (some ⟨g l, 0, none⟩) n n from h, hg l hm]
  | _ => exact h
theorem FO.forget {W : List Nat} {g' : Nat → Nat} {A' : Env} {a' : Act} (F : FO g A a) (F' : FO g' A' a') (hg : ∀ l, memN l W = false → g' l = g l) (hu : ∀ i, memN i W = false → a'.tmps.getD i undef = a.tmps.getD i undef) (hsz : a'.tmps.size = a.tmps.size) : FO g' (forgetE W A) a' := by
  refine ⟨F.len.trans hsz.symm, fun i => ?_, F'.df⟩
  rw [forget_get]
  cases hm : memN i W with
  | true => trivial
  | false =>
    rw [hu i hm]
    exact kill_is hg (F.at_ i)
theorem liveV_length (A : Env) (vs : List (Nat × Kd)) : (liveV A vs).length = vs.length := by
  induction vs with
  | nil => rfl
  | cons v vs ih => obtain ⟨i, k⟩ := v; simp [liveV, ih]
theorem FO.putSame {B : Env} (F : FO g B a) {i : Nat} {y : AV} (hy : y.is g (a.tmps.getD i undef)) : FO g (putE B i y) a := by
  refine ⟨F.len, fun j => ?_, F.df⟩
  rw [getE_put]
  by_cases hij : i = j ∧ i < B.n
  · rw [if_pos hij, ← hij.1]; exact hy
  · rw [if_neg hij]; exact F.at_ j
theorem FO.backV : ∀ (vs : List (Nat × Kd)) (ys : List AV) {B : Env}, FO g B a → (∀ j v, vs[j]? = some v → j < ys.length → (getN ys j).is g (a.tmps.getD v.1 undef)) → FO g (Go.Eng.backV B vs ys) a
  | [], ys, B, F, _ => by simpa [Go.Eng.backV] using F
  | (i, k) :: vs, [], B, F, _ => by simpa [Go.Eng.backV] using F
  | (i, k) :: vs, y :: ys, B, F, hh => by
    simp only [Go.Eng.backV]
    refine FO.backV vs ys (F.putSame (hh 0 (i, k) rfl (by simp))) (fun j v hv hj => ?_)
    exact hh (j + 1) v (by simpa using hv) (by simpa using hj)
theorem liveV_step {A' : Env} (F : FO g A' a) : ∀ vs : List (Nat × Kd), inStep g (liveV A' vs) (vs.map fun v => a.tmps.getD v.1 undef)
  | [] => ⟨rfl, fun i hi => by simp [liveV] at hi⟩
  | (i, k) :: vs => by
    obtain ⟨h1, h2⟩ := liveV_step F vs
    refine ⟨by simp [liveV_length], fun j hj => ?_⟩
    cases j with
    | zero => exact F.at_ i
    | succ j => exact h2 j (by simpa [liveV] using hj)
theorem inStep.append {xs ys : List AV} {us ws : List Value} (h : inStep g xs us) (k : inStep g ys ws) : inStep g (xs ++ ys) (us ++ ws) := by
  refine ⟨by simp [h.1, k.1], fun i hi => ?_⟩
  rw [getN_eq, List.getD_eq_getElem?_getD]
  by_cases hl : i < xs.length
  · rw [List.getElem?_append_left hl, List.getElem?_append_left (by rw [h.1]; exact hl)]
    have := h.2 i hl
    rwa [getN_eq, List.getD_eq_getElem?_getD] at this
  · rw [List.getElem?_append_right (by omega), List.getElem?_append_right (by rw [h.1]; omega), h.1]
    have := k.2 (i - xs.length) (by simp at hi; omega)
    rwa [getN_eq, List.getD_eq_getElem?_getD] at this
theorem inStep.take {xs : List AV} {us : List Value} (h : inStep g xs us) (n : Nat) : inStep g (xs.take n) (us.take n) := by
  refine ⟨by simp [h.1], fun i hi => ?_⟩
  have h2 : i < n ∧ i < xs.length := by simp at hi; omega
  have := h.2 i h2.2
  rw [getN_eq, List.getD_eq_getElem?_getD] at this ⊢
  rw [List.getElem?_take, List.getElem?_take]
  simpa [h2.1] using this
theorem inStep.drop {xs : List AV} {us : List Value} (h : inStep g xs us) (n : Nat) : inStep g (xs.drop n) (us.drop n) := by
  refine ⟨by simp [h.1], fun i hi => ?_⟩
  have h2 : n + i < xs.length := by simp at hi; omega
  have := h.2 (n + i) h2
  rw [getN_eq, List.getD_eq_getElem?_getD] at this ⊢
  rw [List.getElem?_drop, List.getElem?_drop]
  exact this
/-- The boxes that are live: each is there, and its cells. -/
theorem liveL_step {L' : List LE} (H : HO fr g L' h w) : ∀ (ls : List (Nat × List Kd)), okL L' ls = true → ∃ us, inStep g (liveL L' ls) us ∧
    (∀ zs, inStep g zs us → (∀ z ∈ zs, z.plain = true) → ∀ (M : List LE), (∀ e ∈ M, ¬ e.l ∈ ls.map (·.1) → ∃ cs, LEok fr g h w e cs) → M.Pairwise (fun e e' => e.l ≠ e'.l ∧ g e.l ≠ g e'.l) →
      (∀ e ∈ M, ∀ e' ∈ L', e'.l = e.l → e'.t = e.t) → distinct (ls.map (·.1)) = true → (∀ e ∈ backL M ls zs, ∃ cs, LEok fr g h w e cs) ∧ (backL M ls zs).Pairwise (fun e e' => e.l ≠ e'.l ∧ g e.l ≠ g e'.l))
  | [], _ => ⟨[], ⟨rfl, fun i hi => by simp [liveL] at hi⟩, fun zs _ _ M hM hu _ _ => ⟨fun e he => hM e (by simpa [backL] using he) (by simp), by simpa [backL] using hu⟩⟩
  | (l, ks) :: ls, hok => by
    simp only [okL, Bool.and_eq_true] at hok
    obtain ⟨hl, hok⟩ := hok
    cases hf : findL L' l with
    | none => rw [hf] at hl; cases hl
    | some e =>
      rw [hf] at hl
      simp only [Bool.and_eq_true, beq_iff_eq] at hl
      obtain ⟨hm, hcl⟩ := hl
      obtain ⟨hmem, rfl⟩ := findL_mem hf
      obtain ⟨cs, q⟩ := H.ll e hmem
      obtain ⟨us, hus, hback⟩ := liveL_step H ls hok
      have hcs : inStep g e.cs cs.toList := by
        refine ⟨by simp [q.sz], fun i hi => ?_⟩
        have := q.is_ i hi
        simpa [List.getD_eq_getElem?_getD] using this
      refine ⟨cs.toList ++ us, ?_, ?_⟩
      · simp only [liveL, hf]
        exact inStep.append hcs hus
      · intro zs hzs hzp M hM hu ht hd
        simp only [List.map_cons, distinct, Bool.and_eq_true, Bool.not_eq_true'] at hd
        obtain ⟨hdl, hd⟩ := hd
        have hnl : ¬ e.l ∈ ls.map (·.1) := fun hin => by rw [memN_iff.2 hin] at hdl; cases hdl
        simp only [backL]
        have hz1 : inStep g (zs.take ks.length) cs.toList := by
          have := inStep.take hzs ks.length
          rwa [List.take_left' (by simp [q.sz, hcl])] at this
        have hz2 : inStep g (zs.drop ks.length) us := by
          have := inStep.drop hzs ks.length
          rwa [List.drop_left' (by simp [q.sz, hcl])] at this
        refine hback _ hz2 (fun z hz => hzp z (List.mem_of_mem_drop hz)) _ (fun x hx hxn => ?_) (updL_uq hu) (fun x hx e' he' hel => ?_) hd
        · rcases mem_updL hu hx with ⟨h1, h2⟩ | ⟨e0, h1, h2, rfl⟩
          · exact hM x h1 (by simp only [List.map_cons, List.mem_cons, not_or]; exact ⟨h2, hxn⟩)
          · have het : e.t = e0.t := ht e0 h1 e hmem h2.symm
            refine ⟨cs, ⟨by rw [h2, ← het]; exact q.at_, by have := hz1.1; simp at this ⊢; omega, fun i hi => ?_, fun z hz => hzp z (List.mem_of_mem_take hz), by rw [h2]; exact q.nh, by rw [h2]; exact q.nf⟩⟩
            have := hz1.2 i hi
            simpa [List.getD_eq_getElem?_getD] using this
        · rcases mem_updL hu hx with ⟨h1, h2⟩ | ⟨e0, h1, h2, rfl⟩
          · exact ht x h1 e' he' hel
          · exact ht e0 h1 e' he' hel
theorem freezeL_mem {ls : List (Nat × List Kd)} {L : List LE} {e : LE} (he : e ∈ L) (hn : e.m = false ∨ ¬ e.l ∈ ls.map (·.1)) : (⟨e.l, false, e.t, e.cs⟩ : LE) ∈ freezeL ls L := by
  induction L with
  | nil => cases he
  | cons x L ih =>
    simp only [freezeL]
    rcases List.mem_cons.1 he with rfl | he
    · have : (e.m && memN e.l (ls.map (·.1))) = false := by
        rcases hn with h1 | h1
        · rw [h1]; rfl
        · cases hm : memN e.l (ls.map (·.1)) with
          | true => exact absurd (memN_iff.1 hm) h1
          | false => simp
      rw [this]
      exact List.mem_cons_self
    · exact List.mem_cons_of_mem _ (ih he)
theorem freezeL_of {ls : List (Nat × List Kd)} {L : List LE} {x : LE} (hx : x ∈ freezeL ls L) : ∃ e ∈ L, e.l = x.l ∧ e.t = x.t ∧ e.cs = x.cs ∧ (x.m = true → e.m = true) := by
  induction L with
  | nil => simp [freezeL] at hx
  | cons y L ih =>
    simp only [freezeL] at hx
    rcases List.mem_cons.1 hx with rfl | hx
    · exact ⟨y, List.mem_cons_self, rfl, rfl, rfl, fun h => by simp at h; exact h.1⟩
    · obtain ⟨e, h1, h2⟩ := ih hx
      exact ⟨e, List.mem_cons_of_mem _ h1, h2⟩
theorem freezeL_ls (ls : List (Nat × List Kd)) (L : List LE) : (freezeL ls L).map (·.l) = L.map (·.l) := by
  induction L with
  | nil => rfl
  | cons y L ih => simp [freezeL, ih]
theorem pw_of_ls {g : Nat → Nat} {M L : List LE} (hl : M.map (·.l) = L.map (·.l)) (hu : L.Pairwise (fun e e' => e.l ≠ e'.l ∧ g e.l ≠ g e'.l)) : M.Pairwise (fun e e' => e.l ≠ e'.l ∧ g e.l ≠ g e'.l) := by
  have h1 : (L.map (·.l)).Pairwise (fun a b => a ≠ b ∧ g a ≠ g b) := List.pairwise_map.2 hu
  rw [← hl] at h1
  exact List.pairwise_map.1 h1
theorem LEok.same {e e' : LE} {cs : Array Value} (q : LEok fr g h w e cs) (hl : e.l = e'.l) (ht : e.t = e'.t) (hc : e.cs = e'.cs) : LEok fr g h w e' cs :=
  ⟨by rw [← hl, ← ht]; exact q.at_, by rw [← hc]; exact q.sz, by rw [← hc]; exact q.is_, by rw [← hc]; exact q.pl, by rw [← hl]; exact q.nh, by rw [← hl]; exact q.nf⟩
theorem HO.freeze (ls : List (Nat × List Kd)) (H : HO fr g L h w) : HO fr g (freezeL ls L) h w := by
  refine ⟨H.hh, H.ff, H.dj, fun x hx => ?_, pw_of_ls (freezeL_ls ls L) H.uq⟩
  obtain ⟨e, he, h1, h2, h3, _⟩ := freezeL_of hx
  obtain ⟨cs, q⟩ := H.ll e he
  exact ⟨cs, q.same h1 h2 h3⟩
theorem backL_ls : ∀ (ls : List (Nat × List Kd)) (zs : List AV) (M : List LE), (backL M ls zs).map (·.l) = M.map (·.l)
  | [], _, _ => rfl
  | (l, ks) :: ls, zs, M => by simp only [backL]; rw [backL_ls ls, updL_map]
theorem backL_keep : ∀ (ls : List (Nat × List Kd)) (zs : List AV) (M : List LE) (e : LE), e ∈ M → ¬ e.l ∈ ls.map (·.1) → e ∈ backL M ls zs
  | [], _, _, e, he, _ => he
  | (l, ks) :: ls, zs, M, e, he, hn => by
    simp only [List.map_cons, List.mem_cons, not_or] at hn
    exact backL_keep ls _ _ e (updL_other he hn.1) hn.2
theorem okL_named : ∀ {ls : List (Nat × List Kd)} {L : List LE}, okL L ls = true → ∀ l ∈ ls.map (·.1), ∃ e, findL L l = some e ∧ e.m = true
  | [], _, _, l, hl => by cases hl
  | (l0, ks) :: ls, L, hok, l, hl => by
    simp only [okL, Bool.and_eq_true] at hok
    rcases List.mem_cons.1 hl with hl0 | hl
    · have hl0 : l = l0 := hl0
      subst hl0
      cases hf : findL L l with
      | none => rw [hf] at hok; cases hok.1
      | some e => rw [hf] at hok; simp only [Bool.and_eq_true] at hok; exact ⟨e, rfl, hok.1.1⟩
    · exact okL_named hok.2 l hl
theorem sameT_spec : ∀ {ls : List (Nat × List Kd)} {L L' : List LE}, sameT L L' ls = true → ∀ l ∈ ls.map (·.1), ∀ e e', findL L l = some e → findL L' l = some e' → e.t = e'.t
  | [], _, _, _, l, hl => by cases hl
  | (l0, ks) :: ls, L, L', hs, l, hl => by
    simp only [sameT, Bool.and_eq_true] at hs
    intro e e' he he'
    rcases List.mem_cons.1 hl with rfl | hl
    · rw [he, he'] at hs; simpa using hs.1
    · exact sameT_spec hs.2 l hl e e' he he'
theorem sameT_refl : ∀ {ls : List (Nat × List Kd)} {L : List LE}, okL L ls = true → sameT L L ls = true
  | [], _, _ => rfl
  | (l0, ks) :: ls, L, hok => by
    simp only [okL, Bool.and_eq_true] at hok
    simp only [sameT, Bool.and_eq_true]
    refine ⟨?_, sameT_refl hok.2⟩
    cases hf : findL L l0 with
    | none => rw [hf] at hok; cases hok.1
    | some e => simp
theorem findL_of_mem {g : Nat → Nat} {L : List LE} (hu : L.Pairwise (fun e e' => e.l ≠ e'.l ∧ g e.l ≠ g e'.l)) {e : LE} (he : e ∈ L) : findL L e.l = some e := by
  cases hf : findL L e.l with
  | none => exact absurd rfl (findL_none hf e he)
  | some x =>
    obtain ⟨h1, h2⟩ := findL_mem hf
    rw [uq_eq hu x h1 e he h2]
/-- WHERE WAYS MEET: the frame and the boxes are taken up again. -/
theorem rejoin {W : List Nat} {vs : List (Nat × Kd)} {ls : List (Nat × List Kd)} {g' : Nat → Nat} {A' : Env} {L' M : List LE} {h' : Hp} {a' : Act} {w' : World} {ys : List AV}
    (F : FO g A a) (H : HO fr g L h w) (F' : FO g' A' a') (H' : HO fr g' L' h' w') (T : Tr W g (freezeL ls L) a w g' L' a' w')
    (hok : okL L ls = true) (hok' : okL L' ls = true) (hst : sameT L L' ls = true) (hd : distinct (ls.map (·.1)) = true)
    (hM : M = L ∨ M = freezeL ls L) (hs : Says (liveV A' vs ++ liveL L' ls) ys) :
    FO g' (Go.Eng.backV (Go.Eng.forgetE W A) vs ys) a' ∧ HO fr g' (backL M ls (ys.drop vs.length)) h' w' ∧ Tr W g M a w g' (backL M ls (ys.drop vs.length)) a' w' := by
  obtain ⟨us, hus, hback⟩ := liveL_step H' ls hok'
  have hall := hs.2.2 g' _ (inStep.append (liveV_step F' vs) hus)
  have hlv : (vs.map fun v => a'.tmps.getD v.1 undef).length = vs.length := by simp
  have hMe : ∀ e ∈ M, ∃ e0 ∈ L, e0.l = e.l ∧ e0.t = e.t ∧ e0.cs = e.cs ∧ (e.m = true → e0.m = true) := by
    rcases hM with rfl | rfl
    · exact fun e he => ⟨e, he, rfl, rfl, rfl, fun h => h⟩
    · exact fun e he => freezeL_of he
  have hMl : M.map (·.l) = L.map (·.l) := by
    rcases hM with rfl | rfl
    · rfl
    · exact freezeL_ls ls L
  have named_m : ∀ e0 ∈ L, e0.l ∈ ls.map (·.1) → e0.m = true := by
    intro e0 he0 hn
    obtain ⟨x, hf, hm⟩ := okL_named hok _ hn
    have := findL_of_mem H.uq he0
    rw [hf] at this
    cases this
    exact hm
  have kept : ∀ e0 ∈ L, ¬ e0.l ∈ ls.map (·.1) → (⟨e0.l, false, e0.t, e0.cs⟩ : LE) ∈ L' := fun e0 he0 hn => T.kp _ (freezeL_mem he0 (.inr hn)) rfl
  have inL' : ∀ e0 ∈ L, ∃ e' ∈ L', e'.l = e0.l := by
    intro e0 he0
    by_cases hn : e0.l ∈ ls.map (·.1)
    · obtain ⟨x, hf, _⟩ := okL_named hok' _ hn
      exact ⟨x, (findL_mem hf).1, (findL_mem hf).2⟩
    · exact ⟨_, kept e0 he0 hn, rfl⟩
  have huM : M.Pairwise (fun e e' => e.l ≠ e'.l ∧ g' e.l ≠ g' e'.l) := by
    refine pw_of_ls hMl ?_
    refine H.uq.imp_of_mem ?_
    intro x y hx hy hxy
    refine ⟨hxy.1, ?_⟩
    obtain ⟨x', hx', hxl⟩ := inL' x hx
    obtain ⟨y', hy', hyl⟩ := inL' y hy
    have := uq_ne H'.uq x' hx' y' hy' (by rw [hxl, hyl]; exact hxy.1)
    rwa [hxl, hyl] at this
  obtain ⟨hll, huq⟩ := hback (ys.drop vs.length) (by have := inStep.drop hall vs.length; rwa [List.drop_left' (by simp [liveV_length])] at this) (fun z hz => hs.2.1 z (List.mem_of_mem_drop hz)) M
    (fun e he hn => by
      obtain ⟨e0, he0, h1, h2, h3, _⟩ := hMe e he
      obtain ⟨cs, q⟩ := H'.ll _ (kept e0 he0 (by rw [h1]; exact hn))
      exact ⟨cs, q.same h1 h2 h3⟩) huM
    (fun e he e' he' hel => by
      obtain ⟨e0, he0, h1, h2, h3, _⟩ := hMe e he
      by_cases hn : e.l ∈ ls.map (·.1)
      · have f1 := findL_of_mem H.uq he0
        have f2 := findL_of_mem H'.uq he'
        rw [h1] at f1
        rw [hel] at f2
        rw [← h2, sameT_spec hst _ hn _ _ f1 f2]
      · have hk := kept e0 he0 (by rw [h1]; exact hn)
        have := uq_eq H'.uq e' he' _ hk (by rw [hel, h1])
        rw [this, h2]) hd
  refine ⟨FO.backV vs ys (FO.forget F F' T.gg T.un T.sz) (fun j v hv hj => ?_), ⟨H'.hh, H'.ff, H'.dj, hll, huq⟩, ⟨T.wr, fun e he hm => ?_, T.gg, T.un, T.sz⟩⟩
  · have := hall.2 j hj
    rw [List.getD_eq_getElem?_getD, List.getElem?_append_left (by rw [hlv]; exact (List.getElem?_eq_some_iff.1 hv).1)] at this
    simpa [hv] using this
  · refine backL_keep ls _ M e he (fun hn => ?_)
    rcases hM with rfl | rfl
    · rw [named_m e he hn] at hm; cases hm
    · have : ∀ (L : List LE), (∀ e0 ∈ L, e0.l ∈ ls.map (·.1) → e0.m = true) → ∀ e ∈ freezeL ls L, e.l ∈ ls.map (·.1) → e.m = true := by
        intro L hL
        induction L with
        | nil => intro e he; simp [freezeL] at he
        | cons y L ih =>
          intro e he hn
          simp only [freezeL] at he
          rcases List.mem_cons.1 he with rfl | he
          · simp only at hn ⊢
            rw [hL y List.mem_cons_self hn, memN_iff.2 hn]; rfl
          · exact ih (fun e0 he0 => hL e0 (List.mem_cons_of_mem _ he0)) e he hn
      rw [this L named_m e he hn] at hm; cases hm
theorem thaw_ls (L0 L : List LE) : (thaw L0 L).map (·.l) = L.map (·.l) := by
  induction L with
  | nil => rfl
  | cons y L ih =>
    simp only [thaw, List.map_cons, ih]
    congr 1
    cases findL L0 y.l <;> rfl
theorem thaw_of {L0 L : List LE} {x : LE} (hx : x ∈ thaw L0 L) : ∃ e ∈ L, e.l = x.l ∧ e.t = x.t ∧ e.cs = x.cs := by
  induction L with
  | nil => simp [thaw] at hx
  | cons y L ih =>
    simp only [thaw] at hx
    rcases List.mem_cons.1 hx with rfl | hx
    · refine ⟨y, List.mem_cons_self, ?_⟩
      cases findL L0 y.l <;> exact ⟨rfl, rfl, rfl⟩
    · obtain ⟨e, h1, h2⟩ := ih hx
      exact ⟨e, List.mem_cons_of_mem _ h1, h2⟩
theorem thaw_mem {L0 L : List LE} {e0 e : LE} (he : e ∈ L) (hf : findL L0 e.l = some e0) : (⟨e.l, e0.m, e.t, e.cs⟩ : LE) ∈ thaw L0 L := by
  induction L with
  | nil => cases he
  | cons y L ih =>
    simp only [thaw]
    rcases List.mem_cons.1 he with rfl | he
    · rw [hf]; exact List.mem_cons_self
    · exact List.mem_cons_of_mem _ (ih he)
theorem HO.thaw (L0 : List LE) (H : HO fr g L h w) : HO fr g (Go.Eng.thaw L0 L) h w := by
  refine ⟨H.hh, H.ff, H.dj, fun x hx => ?_, pw_of_ls (thaw_ls L0 L) H.uq⟩
  obtain ⟨e, he, h1, h2, h3⟩ := thaw_of hx
  obtain ⟨cs, q⟩ := H.ll e he
  exact ⟨cs, q.same h1 h2 h3⟩
theorem Kp.thaw {ls : List (Nat × List Kd)} {L' : List LE} (H : HO fr g L h w) (hk : Kp (freezeL ls L) L') : Kp L (Go.Eng.thaw L L') := by
  intro e he hm
  have h1 : (⟨e.l, false, e.t, e.cs⟩ : LE) ∈ L' := hk _ (freezeL_mem he (.inl hm)) rfl
  have h2 := thaw_mem (L0 := L) (e0 := e) h1 (findL_of_mem H.uq he)
  exact h2
end
end Go.Eng
