/-
  THE ENGINE, 11: '==' of structs, pointers and the rest; conversions; least and greatest.
-/
import Derived.Test.YtblghgacokoklaaDoorE9
import Derived.Laws.StructEq
set_option linter.unusedSimpArgs false
set_option linter.unusedVariables false
namespace Go.Eng
section
variable {P : Program} {lo : List Nat} {fr : Hp} {g : Nat → Nat} {L : List LE} {h : Hp} {w : World} {K : KO}

/-! ### 1. Structs -/
theorem fitK_length : ∀ {ks : List Kd} {vs : List Value}, fitK ks vs = true → vs.length = ks.length
  | [], [], _ => rfl
  | [], _ :: _, h => by cases h
  | k :: ks, [], h => by cases k <;> cases h
  | k :: ks, v :: vs, h => by
    cases k <;> cases v <;> simp only [fitK, Bool.and_eq_true, Bool.false_eq_true] at h <;> first
      | (have := fitK_length h.2; simp [this]; done)
      | (have := fitK_length h; simp [this]; done)
theorem fitK_append : ∀ {ks ls : List Kd} {vs : List Value}, fitK (ks ++ ls) vs = true → fitK ks (vs.take ks.length) = true ∧ fitK ls (vs.drop ks.length) = true
  | [], ls, vs, h => ⟨by cases vs <;> rfl, by simpa using h⟩
  | k :: ks, ls, [], h => by cases k <;> cases h
  | k :: ks, ls, v :: vs, h => by
    cases k <;> cases v <;> simp only [List.cons_append, fitK, Bool.and_eq_true, Bool.false_eq_true] at h <;> first
      | (obtain ⟨h1, h2⟩ := h; obtain ⟨h3, h4⟩ := fitK_append h2; refine ⟨?_, h4⟩; simp only [List.length_cons, List.take_succ_cons, fitK, h1, h3, Bool.and_self]; done)
      | (obtain ⟨h3, h4⟩ := fitK_append h; refine ⟨?_, h4⟩; simp only [List.length_cons, List.take_succ_cons, fitK, h3]; done)
theorem andThen_ok' {α β : Type} {r : Result α} {a : α} {w : World} {f : α → World → Result β} (h : r = .ok a w) : r.andThen f = f a w := by rw [h]; rfl
theorem eq_run : ∀ (d j t : Nat) (vs ws : List Value), eqTy P d t = true → tight P d t = true → fitK (kinds P d t) vs = true → fitK (kinds P d t) ws = true →
    vs.length = P.cellsOf t ∧ ∃ b, (Op.equalIn (d + j) t (mkv P t vs) (mkv P t ws)).run P w = .ok b w ∧ (b = true ↔ vs = ws)
  | 0, j, t, vs, ws, he, _, _, _ => by cases he
  | d + 1, j, t, vs, ws, he, ht, hv, hw => by
    have leaf : ∀ (k : Kd), (∀ fs, under P t ≠ .struct fs) → isAggB P t = false → kinds P (d + 1) t = [k] → P.cellsOf t = 1 := by
      intro k h1 _ _
      unfold tight at ht
      cases hd : under P t <;> rw [hd] at ht <;> first
        | exact absurd hd (h1 _)
        | simpa using ht
    have one : ∀ {k : Kd} {us : List Value}, fitK [k] us = true → ∃ v, us = [v] ∧ fitK [k] [v] = true := by
      intro k us hu
      have hl := fitK_length hu
      match us, hl with
      | [v], _ => exact ⟨v, rfl, hu⟩
    have hdj : d + 1 + j = (d + j) + 1 := by omega
    rw [hdj]
    cases hd : under P t with
    | int k =>
      have hut := under_some hd (by simp)
      have hna : isAggB P t = false := by unfold isAggB; rw [hd]
      have hks : kinds P (d + 1) t = [.int k] := by unfold kinds kindOf; rw [hd]
      rw [hks] at hv hw
      obtain ⟨v, rfl, hv⟩ := one hv
      obtain ⟨u, rfl, hw⟩ := one hw
      refine ⟨(leaf _ (fun fs e => by rw [hd] at e; cases e) hna hks).symm, ?_⟩
      have m1 : ∀ x : Value, mkv P t [x] = x := fun x => by unfold mkv; rw [hna]
      rw [m1, m1]
      cases v with
      | int k1 a => cases u with
        | int k2 b =>
          simp only [fitK, Bool.and_true, decide_eq_true_eq] at hv hw
          subst hv; subst hw
          exact ⟨a == b, by simp only [Op.equalIn, Sem.run_bind, run_underlying hut, Result.andThen_ok, if_true, Sem.run_pure], by simp⟩
        | _ => cases hw
      | _ => cases hv
    | bool =>
      have hut := under_some hd (by simp)
      have hna : isAggB P t = false := by unfold isAggB; rw [hd]
      have hks : kinds P (d + 1) t = [.bool] := by unfold kinds kindOf; rw [hd]
      rw [hks] at hv hw
      obtain ⟨v, rfl, hv⟩ := one hv
      obtain ⟨u, rfl, hw⟩ := one hw
      refine ⟨(leaf _ (fun fs e => by rw [hd] at e; cases e) hna hks).symm, ?_⟩
      have m1 : ∀ x : Value, mkv P t [x] = x := fun x => by unfold mkv; rw [hna]
      rw [m1, m1]
      cases v with
      | bool a => cases u with
        | bool b => exact ⟨a == b, by simp only [Op.equalIn, Sem.run_bind, run_underlying hut, Result.andThen_ok, Sem.run_pure], by simp⟩
        | _ => cases hw
      | _ => cases hv
    | string =>
      have hut := under_some hd (by simp)
      have hna : isAggB P t = false := by unfold isAggB; rw [hd]
      have hks : kinds P (d + 1) t = [.str] := by unfold kinds kindOf; rw [hd]
      rw [hks] at hv hw
      obtain ⟨v, rfl, hv⟩ := one hv
      obtain ⟨u, rfl, hw⟩ := one hw
      refine ⟨(leaf _ (fun fs e => by rw [hd] at e; cases e) hna hks).symm, ?_⟩
      have m1 : ∀ x : Value, mkv P t [x] = x := fun x => by unfold mkv; rw [hna]
      rw [m1, m1]
      cases v with
      | string a => cases u with
        | string b => exact ⟨a == b, by simp only [Op.equalIn, Sem.run_bind, run_underlying hut, Result.andThen_ok, Sem.run_pure], by rw [beq_toListBytes, beq_iff_eq, str_ext]; simp⟩
        | _ => cases hw
      | _ => cases hv
    | struct fs =>
      have hut := under_some hd (by simp)
      have hag : isAggB P t = true := by unfold isAggB; rw [hd]
      have hks : kinds P (d + 1) t = fs.toList.flatMap fun f => kinds P d f.type := by rw [kinds, hd]
      rw [hks] at hv hw
      simp only [eqTy, hd, Bool.and_eq_true, Bool.not_eq_true'] at he
      obtain ⟨hst, he⟩ := he
      have he := List.all_eq_true.1 he
      simp only [tight, hd, Bool.and_eq_true, beq_iff_eq] at ht
      obtain ⟨hgo, ht⟩ := ht
      have ht := List.all_eq_true.1 ht
      have key : ∀ (l : List Field) (o e : Nat), (∀ f ∈ l, f ∈ fs.toList) → tight.go P l o = some e → ∀ (us xs : List Value), fitK (l.flatMap fun f => kinds P d f.type) (us.drop o) = true → fitK (l.flatMap fun f => kinds P d f.type) (xs.drop o) = true →
          (us.drop o).length = e - o ∧ o ≤ e ∧ ∃ b, (Op.eqFields (d + j) us.toArray xs.toArray l).run P w = .ok b w ∧ (b = true ↔ us.drop o = xs.drop o) := by
        intro l
        induction l with
        | nil =>
          intro o e _ hg us xs hu hx
          simp only [tight.go, Option.some.injEq] at hg
          subst hg
          have h1 : us.drop o = [] := List.eq_nil_of_length_eq_zero (by have := fitK_length hu; simpa using this)
          have h2 : xs.drop o = [] := List.eq_nil_of_length_eq_zero (by have := fitK_length hx; simpa using this)
          exact ⟨by simp [h1], Nat.le_refl _, true, by simp [Op.eqFields], by simp [h1, h2]⟩
        | cons f l ih =>
          intro o e hmem hg us xs hu hx
          have hf := hmem f List.mem_cons_self
          have hef := he f hf
          simp only [Bool.and_eq_true, bne_iff_ne, ne_eq] at hef
          obtain ⟨hname, hinfo, hefT⟩ := hef
          simp only [tight.go] at hg
          cases hoff : f.offset == o with
          | false => rw [hoff] at hg; cases hg
          | true =>
            rw [hoff] at hg
            have hoff : f.offset = o := by simpa using hoff
            simp only [List.flatMap_cons] at hu hx
            obtain ⟨hu1, hu2⟩ := fitK_append hu
            obtain ⟨hx1, hx2⟩ := fitK_append hx
            obtain ⟨hl1, b1, hr1, hb1⟩ := eq_run d j f.type _ _ hefT (ht f hf) hu1 hx1
            have hkl : (kinds P d f.type).length = P.cellsOf f.type := by rw [← fitK_length hu1]; exact hl1
            rw [hkl] at hu1 hu2 hx1 hx2 hr1 hl1 hb1
            rw [List.drop_drop] at hu2 hx2
            obtain ⟨hlen, hoe, b2, hrest, hb2⟩ := ih (o + P.cellsOf f.type) e (fun x hx => hmem x (List.mem_cons_of_mem _ hx)) hg us xs hu2 hx2
            have hpart : ∀ zs : List Value, fitK (kinds P d f.type) ((zs.drop o).take (P.cellsOf f.type)) = true → ((zs.drop o).take (P.cellsOf f.type)).length = P.cellsOf f.type → (part f.type zs.toArray f.offset).run P w = .ok (mkv P f.type ((zs.drop o).take (P.cellsOf f.type))) w := by
              intro zs hz hzl
              have hund : hasUnder P f.type = true := by
                unfold hasUnder
                cases hq : P.underlying f.type with
                | none =>
                  cases d with
                  | zero => cases hefT
                  | succ d => simp [eqTy, under, hq] at hefT
                | some x => rfl
              unfold part
              simp only [Sem.run_bind, run_isAgg hund, Result.andThen_ok]
              cases ha : isAggB P f.type with
              | true =>
                simp only [if_true, Sem.run_bind, run_sizeOf' hinfo, Result.andThen_ok, Sem.run_pure, hoff]
                rw [mkv_agg ha]
                congr 2
                apply Array.ext'
                simp [List.extract_eq_take_drop]
              | false =>
                have h1 : P.cellsOf f.type = 1 := by
                  have h2 := ht f hf
                  have h3 := hefT
                  cases d with
                  | zero => cases h3
                  | succ d =>
                    unfold tight at h2
                    unfold isAggB at ha
                    cases hq : under P f.type <;> rw [hq] at ha h2 <;> first | (simpa using h2; done) | cases ha
                rw [h1] at hzl ⊢
                match hm : (zs.drop o).take 1, hzl with
                | [v], _ =>
                  have hv : zs[o]? = some v := by
                    have := congrArg (fun l : List Value => l[0]?) hm
                    simpa using this
                  simp only [Bool.false_eq_true, if_false, hoff, List.getElem?_toArray, hv, Sem.run_pure]
                  unfold mkv
                  rw [ha]
            have hlx : ((xs.drop o).take (P.cellsOf f.type)).length = P.cellsOf f.type := (fitK_length hx1).trans hkl
            refine ⟨?_, by omega, ?_⟩
            · have h4 : ((us.drop o).take (P.cellsOf f.type)).length + ((us.drop o).drop (P.cellsOf f.type)).length = (us.drop o).length := by
                rw [← List.length_append, List.take_append_drop]
              rw [hl1, List.drop_drop, hlen] at h4
              omega
            · rw [Op.eqFields, if_pos hname]
              simp only [Sem.run_bind, hpart us hu1 hl1, hpart xs hx1 hlx, Result.andThen_ok, hr1]
              have split : us.drop o = xs.drop o ↔ (us.drop o).take (P.cellsOf f.type) = (xs.drop o).take (P.cellsOf f.type) ∧ us.drop (o + P.cellsOf f.type) = xs.drop (o + P.cellsOf f.type) := by
                constructor
                · intro e; rw [e, ← List.drop_drop, e, List.drop_drop]; exact ⟨rfl, rfl⟩
                · rintro ⟨e1, e2⟩
                  rw [← List.take_append_drop (P.cellsOf f.type) (us.drop o), ← List.take_append_drop (P.cellsOf f.type) (xs.drop o), e1, List.drop_drop, List.drop_drop, e2]
              cases b1 with
              | true =>
                refine ⟨b2, by simpa using hrest, ?_⟩
                rw [hb2, split]
                exact ⟨fun e => ⟨hb1.1 rfl, e⟩, fun e => e.2⟩
              | false =>
                refine ⟨false, by simp, ?_⟩
                rw [split]
                exact ⟨fun e => (by cases e), fun e => absurd (hb1.2 e.1) (by simp)⟩
      obtain ⟨hlen, _, b, hrun, hb⟩ := key fs.toList 0 _ (fun _ h => h) hgo vs ws (by simpa using hv) (by simpa using hw)
      refine ⟨by simpa using hlen, b, ?_, by simpa using hb⟩
      have hfo : P.fieldsOf t = fs := by simp [Program.fieldsOf, hut]
      rw [mkv_agg hag, mkv_agg hag, run_equalIn_struct w (d + j) t _ _ (by rw [hfo]; exact hut) hst, hfo]
      simpa using hrun
    | _ => unfold eqTy at he; rw [hd] at he; cases he
end
end Go.Eng
