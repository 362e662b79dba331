/-
  THE ENGINE, 5: stores; boxes and blocks that are made.
-/
import Derived.Test.YtblghgacokoklaaDoorE3
set_option linter.unusedSimpArgs false
set_option linter.unusedVariables false
namespace Go.Eng
section
variable {P : Program} {fr : Hp} {g : Nat → Nat} {L : List LE} {h : Hp} {w : World} {K : KO}

theorem setL_length : ∀ (vs c : List Value) (o : Nat), (setL c o vs).length = c.length
  | [], c, o => rfl
  | v :: vs, c, o => by rw [setL, setL_length vs, List.length_set]
theorem setL_get : ∀ (vs c : List Value) (o i : Nat), o + vs.length ≤ c.length → (setL c o vs)[i]? = if o ≤ i ∧ i < o + vs.length then vs[i - o]? else c[i]?
  | [], c, o, i, _ => by simp only [setL, List.length_nil, Nat.add_zero]; rw [if_neg (by omega)]
  | v :: vs, c, o, i, h => by
    simp only [List.length_cons] at h ⊢
    rw [setL, setL_get vs _ _ _ (by rw [List.length_set]; omega), List.getElem?_set]
    by_cases h1 : o + 1 ≤ i ∧ i < o + 1 + vs.length
    · rw [if_pos h1, if_pos (by omega), show i - o = (i - (o + 1)) + 1 by omega, List.getElem?_cons_succ]
    · rw [if_neg h1]
      by_cases h2 : o = i
      · subst h2
        rw [if_pos rfl, if_pos (by omega), if_pos (by omega)]
        simp
      · rw [if_neg h2, if_neg (by omega)]
/-- What a store has turned. -/
structure Laid (w w' : World) (b : Nat) (o : Obj) : Prop where
  at_ : w'.heap[b]? = some o
  other : ∀ k, k ≠ b → w'.heap[k]? = w.heap[k]?
  size : w'.heap.size = w.heap.size
  os : w'.os = w.os
  tape : w'.tape = w.tape
  output : w'.output = w.output
theorem Laid.wr {w w' : World} {b : Nat} {o : Obj} (h : Laid w w' b o) : Wr w w' := ⟨h.os, h.tape, h.output, by rw [h.size]; exact Nat.le_refl _⟩
theorem heap_setCell' (w : World) (a : Addr) (u : Value) (k : Nat) (h : k ≠ a.block) : (w.setCell a u).heap[k]? = w.heap[k]? := by
  simp only [World.setCell, Array.getElem?_modify]
  rw [if_neg (by omega)]
theorem run_store' {b o : Nat} {c : Array Value} {t : Nat} {f : Nat × Nat} {v : Value} (hb : w.heap[b]? = some (.cells c t f)) (ho : o < c.size) (hf : ¬ (f.1 ≤ o ∧ o < f.2)) (h1 : v.oneCell' = true) :
    ∃ w', (store ⟨b, o, none⟩ v).run P w = .ok () w' ∧ Laid w w' b (.cells (c.setIfInBounds o v) t f) := by
  have hc : w.cell? ⟨b, o, none⟩ = some c[o] := by simp [World.cell?, hb, ho]
  have hz : w.frozen? ⟨b, o, none⟩ = false := by
    simp only [World.frozen?, hb]
    simp only [Bool.and_eq_false_iff, decide_eq_false_iff_not]
    by_cases h2 : f.1 ≤ o
    · exact .inr fun h3 => hf ⟨h2, h3⟩
    · exact .inl h2
  refine ⟨w.setCell ⟨b, o, none⟩ v, ?_, ?_, fun k hk => ?_, ?_, rfl, rfl, rfl⟩
  · rw [run_store P w _ _ _ h1, hc]; simp [hz]
  · simp [World.setCell, Array.getElem?_modify, hb]
  · exact heap_setCell' w ⟨b, o, none⟩ v k hk
  · simp [World.setCell]
theorem run_storeCells' {b o : Nat} {t : Nat} {f : Nat × Nat} : ∀ (vs : List Value) (i : Nat) (c : Array Value) (w : World), w.heap[b]? = some (.cells c t f) → o + i + vs.length ≤ c.size →
    (∀ j, o + i ≤ j → j < o + i + vs.length → ¬ (f.1 ≤ j ∧ j < f.2)) → (∀ v ∈ vs, v.oneCell' = true) →
    ∃ w', (storeCells ⟨b, o, none⟩ vs i).run P w = .ok () w' ∧ Laid w w' b (.cells (setL c.toList (o + i) vs).toArray t f)
  | [], i, c, w, hb, _, _, _ => ⟨w, by simp [storeCells], ⟨by simpa [setL] using hb, fun _ _ => rfl, rfl, rfl, rfl, rfl⟩⟩
  | v :: vs, i, c, w, hb, hl, hf, h1 => by
    simp only [List.length_cons] at hl hf
    obtain ⟨w1, hr1, l1⟩ := run_store' (P := P) (w := w) (o := o + i) (v := v) hb (by omega) (hf (o + i) (by omega) (by omega)) (h1 v List.mem_cons_self)
    obtain ⟨w2, hr2, l2⟩ := run_storeCells' (o := o) vs (i + 1) _ w1 l1.at_ (by simp; omega) (fun j h2 h3 => hf j (by omega) (by omega)) (fun u hu => h1 u (List.mem_cons_of_mem _ hu))
    refine ⟨w2, ?_, ?_, fun k hk => (l2.other k hk).trans (l1.other k hk), l2.size.trans l1.size, l2.os.trans l1.os, l2.tape.trans l1.tape, l2.output.trans l1.output⟩
    · simp only [storeCells, Sem.run_bind, addr_add, hr1, Result.andThen_ok]
      exact hr2
    · rw [l2.at_]
      simp [setL, Nat.add_assoc]
theorem oneAll_spec : ∀ {vs : List Value} {p : Prop}, oneAll vs p → (∀ v ∈ vs, v.oneCell' = true) ∧ p
  | [], p, h => ⟨fun v hv => by simp at hv, h⟩
  | v :: vs, p, h => by
    have hv : v.oneCell' = true ∧ oneAll vs p := by
      cases v <;> first | exact ⟨rfl, h⟩ | exact False.elim h
    obtain ⟨h1, h2⟩ := oneAll_spec hv.2
    exact ⟨fun u hu => (List.mem_cons.1 hu).elim (fun e => e ▸ hv.1) (h1 u), h2⟩
theorem stOk_spec {v : Value} {p : Prop} (h : stOk v p) : v.oneCell' = true ∧ p := by
  cases v <;> first | exact ⟨rfl, h⟩ | exact False.elim h
/-- The heap's part behind a store into it. -/
theorem HO.wr {b o : Nat} {vs : List Value} {c : Array Value} {t : Nat} {f : Nat × Nat} {w' : World} (H : HO fr g L h w) (hb : h b = some (.cells c t f)) (hl : Laid w w' b (.cells (setL c.toList o vs).toArray t f)) : HO fr g L (h.wr b o vs) w' := by
  have hfb : fr b = none := (H.dj b).resolve_left (by rw [hb]; simp)
  refine ⟨fun k x hk => ?_, fun k x hk => ?_, fun k => ?_, fun e he => ?_, H.uq⟩
  · unfold Hp.wr at hk
    by_cases hkb : k = b
    · subst hkb; rw [if_pos rfl, hb] at hk; simp only [Option.some.injEq] at hk; rw [← hk]; exact hl.at_
    · rw [if_neg hkb] at hk; rw [hl.other k hkb]; exact H.hh k x hk
  · have hkb : k ≠ b := fun e => by subst e; rw [hfb] at hk; cases hk
    rw [hl.other k hkb]; exact H.ff k x hk
  · rcases H.dj k with h1 | h1
    · by_cases hkb : k = b
      · subst hkb; exact .inr hfb
      · exact .inl (by unfold Hp.wr; rw [if_neg hkb]; exact h1)
    · exact .inr h1
  · obtain ⟨cs, q⟩ := H.ll e he
    have hne : g e.l ≠ b := fun x => by have := q.nh; rw [x, hb] at this; cases this
    exact ⟨cs, ⟨by rw [hl.other _ hne]; exact q.at_, q.sz, q.is_, q.pl, by unfold Hp.wr; rw [if_neg hne]; exact q.nh, q.nf⟩⟩
theorem HO.upd {b : Nat} {x : Obj} {w' : World} (H : HO fr g L h w) (hb : h b ≠ none) (hl : Laid w w' b x) : HO fr g L (h.new b x) w' := by
  have hfb : fr b = none := (H.dj b).resolve_left hb
  refine ⟨fun k y hk => ?_, fun k y hk => ?_, fun k => ?_, fun e he => ?_, H.uq⟩
  · unfold Hp.new at hk
    by_cases hkb : k = b
    · subst hkb; rw [if_pos rfl] at hk; simp only [Option.some.injEq] at hk; rw [← hk]; exact hl.at_
    · rw [if_neg hkb] at hk; rw [hl.other k hkb]; exact H.hh k y hk
  · have hkb : k ≠ b := fun e => by subst e; rw [hfb] at hk; cases hk
    rw [hl.other k hkb]; exact H.ff k y hk
  · rcases H.dj k with h1 | h1
    · by_cases hkb : k = b
      · subst hkb; exact .inr hfb
      · exact .inl (by unfold Hp.new; rw [if_neg hkb]; exact h1)
    · exact .inr h1
  · obtain ⟨cs, q⟩ := H.ll e he
    have hne : g e.l ≠ b := fun x => by have := q.nh; rw [x] at this; exact hb this
    exact ⟨cs, ⟨by rw [hl.other _ hne]; exact q.at_, q.sz, q.is_, q.pl, by unfold Hp.new; rw [if_neg hne]; exact q.nh, q.nf⟩⟩
theorem updL_map (L : List LE) (l : Nat) (cs : List AV) : (updL L l cs).map (·.l) = L.map (·.l) := by
  induction L with
  | nil => rfl
  | cons e L ih => simp only [updL]; cases h : e.l == l <;> simp [ih]
theorem mem_updL {L : List LE} {l : Nat} {cs : List AV} {e : LE} (hu : L.Pairwise (fun e e' => e.l ≠ e'.l ∧ g e.l ≠ g e'.l)) (h : e ∈ updL L l cs) : (e ∈ L ∧ e.l ≠ l) ∨ ∃ e0 ∈ L, e0.l = l ∧ e = ⟨e0.l, e0.m, e0.t, cs⟩ := by
  induction L with
  | nil => simp [updL] at h
  | cons x L ih =>
    obtain ⟨hx, hL⟩ := List.pairwise_cons.1 hu
    simp only [updL] at h
    cases hxl : x.l == l with
    | true =>
      rw [hxl] at h
      have hxl' : x.l = l := by simpa using hxl
      rcases List.mem_cons.1 h with h | h
      · exact .inr ⟨x, List.mem_cons_self, hxl', h⟩
      · exact .inl ⟨List.mem_cons_of_mem _ h, fun e1 => (hx e h).1 (hxl'.trans e1.symm)⟩
    | false =>
      rw [hxl] at h
      have hxl' : x.l ≠ l := by simpa using hxl
      rcases List.mem_cons.1 h with rfl | h
      · exact .inl ⟨List.mem_cons_self, hxl'⟩
      · rcases ih hL h with ⟨h1, h2⟩ | ⟨e0, h1, h2⟩
        · exact .inl ⟨List.mem_cons_of_mem _ h1, h2⟩
        · exact .inr ⟨e0, List.mem_cons_of_mem _ h1, h2⟩
theorem updL_other {L : List LE} {l : Nat} {cs : List AV} {e : LE} (he : e ∈ L) (hl : e.l ≠ l) : e ∈ updL L l cs := by
  induction L with
  | nil => cases he
  | cons x L ih =>
    simp only [updL]
    cases hxl : x.l == l with
    | true =>
      have hxl' : x.l = l := by simpa using hxl
      rcases List.mem_cons.1 he with rfl | he
      · exact absurd hxl' hl
      · exact List.mem_cons_of_mem _ he
    | false =>
      rcases List.mem_cons.1 he with rfl | he
      · exact List.mem_cons_self
      · exact List.mem_cons_of_mem _ (ih he)
theorem updL_uq {L : List LE} {l : Nat} {cs : List AV} (hu : L.Pairwise (fun e e' => e.l ≠ e'.l ∧ g e.l ≠ g e'.l)) : (updL L l cs).Pairwise (fun e e' => e.l ≠ e'.l ∧ g e.l ≠ g e'.l) := by
  have key : ∀ L' : List LE, L'.map (·.l) = L.map (·.l) → L'.Pairwise (fun e e' => e.l ≠ e'.l ∧ g e.l ≠ g e'.l) := by
    intro L' hL'
    have h1 : (L.map (·.l)).Pairwise (fun a b => a ≠ b ∧ g a ≠ g b) := List.pairwise_map.2 hu
    rw [← hL'] at h1
    exact List.pairwise_map.1 h1
  exact key _ (updL_map L l cs)
theorem uq_ne : ∀ {L : List LE}, L.Pairwise (fun e e' => e.l ≠ e'.l ∧ g e.l ≠ g e'.l) → ∀ a ∈ L, ∀ b ∈ L, a.l ≠ b.l → g a.l ≠ g b.l := by
  intro L hL
  induction L with
  | nil => intro a ha; cases ha
  | cons x L ih =>
    obtain ⟨hx, hL'⟩ := List.pairwise_cons.1 hL
    intro a ha b hb hab
    rcases List.mem_cons.1 ha with rfl | ha' <;> rcases List.mem_cons.1 hb with rfl | hb'
    · exact absurd rfl hab
    · exact (hx b hb').2
    · exact fun q => (hx a ha').2 q.symm
    · exact ih hL' a ha' b hb' hab
theorem uq_eq : ∀ {L : List LE}, L.Pairwise (fun e e' => e.l ≠ e'.l ∧ g e.l ≠ g e'.l) → ∀ a ∈ L, ∀ b ∈ L, a.l = b.l → a = b := by
  intro L hL
  induction L with
  | nil => intro a ha; cases ha
  | cons x L ih =>
    obtain ⟨hx, hL'⟩ := List.pairwise_cons.1 hL
    intro a ha b hb hab
    rcases List.mem_cons.1 ha with rfl | ha' <;> rcases List.mem_cons.1 hb with rfl | hb'
    · rfl
    · exact absurd hab (hx b hb').1
    · exact absurd hab.symm (hx a ha').1
    · exact ih hL' a ha' b hb' hab
theorem setLA_length : ∀ (vs c : List AV) (o : Nat), (setLA c o vs).length = c.length
  | [], c, o => rfl
  | v :: vs, c, o => by rw [setLA, setLA_length vs, List.length_set]
theorem setLA_get : ∀ (vs c : List AV) (o i : Nat), o + vs.length ≤ c.length → (setLA c o vs)[i]? = if o ≤ i ∧ i < o + vs.length then vs[i - o]? else c[i]?
  | [], c, o, i, _ => by simp only [setLA, List.length_nil, Nat.add_zero]; rw [if_neg (by omega)]
  | v :: vs, c, o, i, h => by
    simp only [List.length_cons] at h ⊢
    rw [setLA, setLA_get vs _ _ _ (by rw [List.length_set]; omega), List.getElem?_set]
    by_cases h1 : o + 1 ≤ i ∧ i < o + 1 + vs.length
    · rw [if_pos h1, if_pos (by omega), show i - o = (i - (o + 1)) + 1 by omega, List.getElem?_cons_succ]
    · rw [if_neg h1]
      by_cases h2 : o = i
      · subst h2
        rw [if_pos rfl, if_pos (by omega), if_pos (by omega)]
        simp
      · rw [if_neg h2, if_neg (by omega)]
theorem setLA_plain {vs c : List AV} {o : Nat} (hc : ∀ x ∈ c, x.plain = true) (hv : ∀ x ∈ vs, x.plain = true) : ∀ x ∈ setLA c o vs, x.plain = true := by
  induction vs generalizing c o with
  | nil => exact hc
  | cons v vs ih =>
    refine ih (fun x hx => ?_) (fun x hx => hv x (List.mem_cons_of_mem _ hx))
    rcases List.mem_or_eq_of_mem_set hx with h | h
    · exact hc x h
    · rw [h]; exact hv v List.mem_cons_self
theorem plainAll_spec : ∀ {xs : List AV} {p : Prop}, plainAll xs p → ∃ vs : List Value, vs.length = xs.length ∧ (∀ g i, i < xs.length → (getN xs i).is g (vs.getD i undef)) ∧ (∀ x ∈ xs, x.plain = true) ∧ (∀ v ∈ vs, v.oneCell' = true) ∧ p
  | [], p, h => ⟨[], rfl, fun g i hi => by simp at hi, fun x hx => by simp at hx, fun v hv => by simp at hv, h⟩
  | x :: xs, p, h => by
    have step : ∀ v : Value, (∀ g, x.is g v) → x.plain = true → v.oneCell' = true → plainAll xs p → ∃ vs : List Value, vs.length = (x :: xs).length ∧ (∀ g i, i < (x :: xs).length → (getN (x :: xs) i).is g (vs.getD i undef)) ∧ (∀ y ∈ x :: xs, y.plain = true) ∧ (∀ v ∈ vs, v.oneCell' = true) ∧ p := by
      intro v hv hp h1 hr
      obtain ⟨vs, hl, hat, hpl, hone, hP⟩ := plainAll_spec hr
      refine ⟨v :: vs, by simp [hl], fun g i hi => ?_, fun y hy => ?_, fun u hu => ?_, hP⟩
      · cases i with
        | zero => exact hv g
        | succ i => exact hat g i (by simpa using hi)
      · rcases List.mem_cons.1 hy with rfl | hy
        · exact hp
        · exact hpl y hy
      · rcases List.mem_cons.1 hu with rfl | hu
        · exact h1
        · exact hone u hu
    cases x with
    | v v => obtain ⟨h1, h2⟩ := stOk_spec (show stOk v (plainAll xs p) from h); exact step v (fun _ => rfl) rfl h1 h2
    | p b o => exact step _ (fun _ => rfl) rfl rfl h
    | f v => obtain ⟨h1, h2⟩ := stOk_spec (show stOk v (plainAll xs p) from h); exact step v (fun _ => rfl) rfl h1 h2
    | _ => exact False.elim h
theorem cellsV_spec {t : Nat} {x : AV} {y : Value} {K' : List AV → Prop} (hk : cellsV P t x K') (hx : x.is g y) : ∃ cs : List AV, y.cells.toList.length = cs.length ∧ (∀ i, i < cs.length → (getN cs i).is g (y.cells.toList.getD i undef)) ∧ K' cs := by
  unfold cellsV at hk
  cases ha : isAggB P t with
  | true =>
    rw [ha] at hk
    cases x with
    | v xv =>
      have hy : y = xv := hx
      subst hy
      cases y with
      | agg c =>
        obtain ⟨vs⟩ := c
        refine ⟨vs.map AV.v, by simp [Value.cells], fun i hi => ?_, hk⟩
        have hi' : i < vs.length := by simpa using hi
        rw [getN_eq, List.getElem?_map, List.getElem?_eq_getElem hi']
        show _ = _
        simp [Value.cells, List.getD_eq_getElem?_getD, List.getElem?_eq_getElem hi']
      | _ => exact False.elim hk
    | _ => exact False.elim hk
  | false =>
    rw [ha] at hk
    have one : ∀ (x : AV) (v : Value), x.is g v → v.cells = #[v] → K' [x] → ∃ cs : List AV, v.cells.toList.length = cs.length ∧ (∀ i, i < cs.length → (getN cs i).is g (v.cells.toList.getD i undef)) ∧ K' cs := by
      intro x v hxv hc hk
      refine ⟨[x], by simp [hc], fun i hi => ?_, hk⟩
      have : i = 0 := by simpa using hi
      subst this
      simpa [hc, getN] using hxv
    cases x with
    | v xv =>
      have hy : y = xv := hx
      subst hy
      cases y <;> first | exact False.elim hk | exact one (.v _) _ rfl rfl hk
    | p b o =>
      have hy : y = .pointer (some ⟨b, o, none⟩) := hx
      subst hy
      exact one (.p b o) _ rfl rfl hk
    | f xv =>
      have hy : y = xv := hx
      subst hy
      obtain ⟨h1, h2⟩ := stOk_spec (show stOk y (K' [.f y]) from hk)
      cases y <;> first | exact one (.f _) _ rfl rfl h2 | (exfalso; cases h1)
    | _ => exact False.elim hk
theorem lists_eq {cs : List AV} {us vs : List Value} (hp : ∀ x ∈ cs, x.plain = true) (hul : us.length = cs.length) (hvl : vs.length = cs.length)
    (hu : ∀ i, i < cs.length → (getN cs i).is g (us.getD i undef)) (hv : ∀ i, i < cs.length → (getN cs i).is g (vs.getD i undef)) : us = vs := by
  apply List.ext_getElem (by omega)
  intro i h1 h2
  have h3 := hu i (by omega)
  have h4 := hv i (by omega)
  have hpl : (getN cs i).plain = true := by rw [getN_eq, List.getElem?_eq_getElem (by omega)]; exact hp _ (List.getElem_mem _)
  have := is_unique hpl h3 h4
  simpa [List.getD_eq_getElem?_getD, List.getElem?_eq_getElem h1, List.getElem?_eq_getElem h2] using this
theorem store_ok (H : HO fr g L h w) {t : Nat} {x y : AV} {u v : Value} (hk : dStore P t x y L h K) (hx : x.is g u) (hy : y.is g v) :
    ∃ L' h' w', (Instr.storeAt t u v).run P w = .ok () w' ∧ HO fr g L' h' w' ∧ Wr w w' ∧ Kp L L' ∧ K (.v undef) L' h' := by
  unfold dStore at hk
  have hq := grd_spec hk
  clear hk
  obtain ⟨hi, hk⟩ := hq
  obtain ⟨cs, hcl, hcs, hk⟩ := cellsV_spec hk hy
  have hq := grd_spec hk
  clear hk
  obtain ⟨hl, hk⟩ := hq
  have hl : cs.length = P.cellsOf t := by simpa [lenB] using hl
  have hvs : v.cells.size = P.cellsOf t := by rw [← hl, ← hcl, Array.length_toList]
  cases x with
  | p b o =>
    have hu : u = .pointer (some ⟨b, o, none⟩) := hx
    subst hu
    obtain ⟨vs, hvl, hat, hpl, hk⟩ := getAll_spec hk
    obtain ⟨h1, ⟨c, t', f, hb, hsz, hfz⟩, hK⟩ := oneAll_spec hk
    have he : v.cells.toList = vs := lists_eq hpl hcl hvl hcs (hat g)
    obtain ⟨w', hr, hlaid⟩ := run_storeCells' (P := P) (b := b) (o := o) vs 0 c w (H.hh b _ hb) (by simpa using hsz) (by simpa using hfz) h1
    refine ⟨L, h.wr b o vs, w', ?_, HO.wr H hb (by simpa using hlaid), hlaid.wr, Kp.refl L, hK⟩
    unfold Instr.storeAt
    simp only [Instr.sureAddr, Sem.run_bind, Sem.run_pure, Result.andThen_ok]
    unfold storeVar
    simp only [Sem.run_bind, run_sizeOf' hi, Result.andThen_ok, hvs, ne_eq, not_true_eq_false, if_false, he]
    exact hr
  | loc l off =>
    have hu : u = .pointer (some ⟨g l, off, none⟩) := hx
    subst hu
    replace hk : (match findL L l with
      | some e => grd (e.m && Nat.ble (off + cs.length) e.cs.length) (plainAll cs (K (.v undef) (updL L l (setLA e.cs off cs)) h))
      | none => False) := hk
    cases hf : findL L l with
    | none => rw [hf] at hk; exact False.elim hk
    | some e =>
      rw [hf] at hk
      dsimp only at hk
      have hq := grd_spec hk
      clear hk
      obtain ⟨hb, hk⟩ := hq
      simp only [Bool.and_eq_true, Nat.ble_eq] at hb
      obtain ⟨hm, hble⟩ := hb
      obtain ⟨vs, hvl, hat, hpl, h1, hK⟩ := plainAll_spec hk
      have hev : v.cells.toList = vs := lists_eq hpl hcl hvl hcs (hat g)
      obtain ⟨hmem, rfl⟩ := findL_mem hf
      obtain ⟨c, he⟩ := H.ll e hmem
      obtain ⟨w', hr, hlaid⟩ := run_storeCells' (P := P) (b := g e.l) (o := off) vs 0 c w he.at_ (by rw [he.sz]; simp; omega) (fun j _ _ => by simp) h1
      refine ⟨updL L e.l (setLA e.cs off cs), h, w', ?_, ?_, hlaid.wr, fun e' he' hm' => ?_, hK⟩
      · unfold Instr.storeAt
        simp only [Instr.sureAddr, Sem.run_bind, Sem.run_pure, Result.andThen_ok]
        unfold storeVar
        simp only [Sem.run_bind, run_sizeOf' hi, Result.andThen_ok, hvs, ne_eq, not_true_eq_false, if_false, hev]
        exact hr
      · refine ⟨fun k x hk' => ?_, fun k x hk' => ?_, H.dj, fun e' he' => ?_, updL_uq H.uq⟩
        · have hne : k ≠ g e.l := fun q => by rw [q, he.nh] at hk'; cases hk'
          rw [hlaid.other k hne]; exact H.hh k x hk'
        · have hne : k ≠ g e.l := fun q => by rw [q, he.nf] at hk'; cases hk'
          rw [hlaid.other k hne]; exact H.ff k x hk'
        · rcases mem_updL H.uq he' with ⟨h2, h3⟩ | ⟨e0, h2, h3, rfl⟩
          · obtain ⟨c', q⟩ := H.ll e' h2
            have hne : g e'.l ≠ g e.l := by
              intro hg
              exact uq_ne H.uq e' h2 e hmem h3 hg
            exact ⟨c', ⟨by rw [hlaid.other _ hne]; exact q.at_, q.sz, q.is_, q.pl, q.nh, q.nf⟩⟩
          · have e0e : e0 = e := uq_eq H.uq e0 h2 e hmem h3
            subst e0e
            refine ⟨(setL c.toList off vs).toArray, ⟨by simpa using hlaid.at_, ?_, fun i hi' => ?_, setLA_plain he.pl hpl, he.nh, he.nf⟩⟩
            · simp [setL_length, setLA_length, he.sz]
            · have hi2 : i < e0.cs.length := by rw [← setLA_length cs e0.cs off]; exact hi'
              rw [getN_eq, setLA_get _ _ _ _ hble]
              simp only [Array.getD_eq_getD_getElem?, List.getElem?_toArray]
              have hsz : c.toList.length = e0.cs.length := by simp [he.sz]
              rw [setL_get vs c.toList off i (by omega), hvl]
              by_cases hin : off ≤ i ∧ i < off + cs.length
              · rw [if_pos hin, if_pos hin]
                have := hat g (i - off) (by omega)
                rw [getN_eq] at this
                simpa [List.getD_eq_getElem?_getD] using this
              · rw [if_neg hin, if_neg hin]
                have := he.is_ i hi2
                rw [getN_eq] at this
                simpa using this
      · refine updL_other he' (fun q => ?_)
        have : e' = e := uq_eq H.uq e' he' e hmem q
        subst this
        rw [hm] at hm'; cases hm'
  | _ => exact False.elim hk
end
end Go.Eng
