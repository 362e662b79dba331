/-
  TEXTS OF MINE, JOINED: X7 X8 V1 W4 W5 V2.
-/
import Derived.Test.YtblghgacokoklaaK4
import Derived.Test.YtblghgacokoklaaK3
import Derived.Test.YtblghgacokoklaaK2
import Derived.Test.YtblghgacokoklaaProg
section

/-
  SPECS OF SORTING TABLES, 3: merging; the whole.
-/
set_option linter.unusedSimpArgs false
set_option linter.unusedVariables false
set_option maxRecDepth 100000
namespace Go.Eng.Ytblghgacokoklaa
theorem half {x y : Int} (h0 : 0 ≤ x + y) (h1 : x + y ≤ 1000000) : IntKind.wrap .i64 (shrI .u64 (IntKind.wrap .u64 (IntKind.wrap .i64 (x + y))) 1) = (x + y) / 2 := by
  rw [wr64 (x := x + y) (by omega) (by omega), wrap_u64 (by omega) (by omega)]
  unfold shrI
  have : (2 : Int) ^ (min (1 : Int).toNat (IntKind.bits .u64)) = 2 := by decide
  rw [this, Int.fdiv_eq_ediv_of_nonneg _ (by decide), wr64 (by omega) (by omega)]
theorem cut_at {α : Type} {l : List α} {k : Nat} (h : k ≤ l.length) : ∃ A B, l = A ++ B ∧ A.length = k := ⟨l.take k, l.drop k, (List.take_append_drop _ _).symm, by rw [List.length_take]; omega⟩
theorem split_i {α : Type} {l : List α} {i : Nat} (h : i < l.length) : ∃ A x B, l = A ++ x :: B ∧ A.length = i ∧ l[i]? = some x :=
  ⟨l.take i, l[i], l.drop (i + 1), by rw [← List.drop_eq_getElem_cons h, List.take_append_drop], by rw [List.length_take]; omega, List.getElem?_eq_getElem h⟩
theorem srt_app {P S : List Tab} (hP : Srt P) (hS : Srt S) (h : ∀ x ∈ P, ∀ y ∈ S, Le x.least y.least) : Srt (P ++ S) := List.pairwise_append.2 ⟨hP, hS, h⟩
theorem srt_l {P S : List Tab} (h : Srt (P ++ S)) : Srt P := (List.pairwise_append.1 h).1
theorem srt_r {P S : List Tab} (h : Srt (P ++ S)) : Srt S := (List.pairwise_append.1 h).2.1
theorem last_le {P : List Tab} {x : Tab} (h : Srt P) (hx : P[P.length - 1]? = some x) : ∀ z ∈ P, Le z.least x.least := by
  have hne : P ≠ [] := fun e => by subst e; simp at hx
  obtain ⟨P', y, rfl⟩ := snoc_of hne
  have : y = x := by simpa using hx
  subst this
  intro z hz
  rcases List.mem_append.1 hz with hz | hz
  · exact (List.pairwise_append.1 h).2.2 z hz y (List.mem_singleton.2 rfl)
  · rw [List.mem_singleton] at hz; subst hz; exact Le.refl _
theorem first_le {S : List Tab} {y : Tab} (h : Srt S) (hy : S[0]? = some y) : ∀ z ∈ S, Le y.least z.least := by
  cases S with
  | nil => simp at hy
  | cons a S =>
    have : a = y := by simpa using hy
    subst this
    intro z hz
    rcases List.mem_cons.1 hz with rfl | hz
    · exact Le.refl _
    · exact (List.pairwise_cons.1 h).1 z hz
/-- All of the one before all of the other, if the last and the first are so. -/
theorem cross {P S : List Tab} (hP : Srt P) (hS : Srt S) (h : P = [] ∨ S = [] ∨ ∃ x y, P[P.length - 1]? = some x ∧ S[0]? = some y ∧ Le x.least y.least) : ∀ x ∈ P, ∀ y ∈ S, Le x.least y.least := by
  rcases h with rfl | rfl | ⟨x, y, h1, h2, h3⟩
  · intro x hx; cases hx
  · intro x _ y hy; cases hy
  · exact fun z hz w hw => ((last_le hP h1 z hz).trans h3).trans (first_le hS h2 w hw)
theorem get_l {P S : List Tab} (h : P ≠ []) : (P ++ S)[P.length - 1]? = P[P.length - 1]? := List.getElem?_append_left (by have := List.length_pos_iff.2 h; omega)
theorem get_r {P S : List Tab} : (P ++ S)[P.length]? = S[0]? := by rw [List.getElem?_append_right (Nat.le_refl _), Nat.sub_self]
def MergeOk (l : Sl) (T : Sl → Int → Int → Int → PT) (N : Nat) : Prop := ∀ (A X Y B : List Tab) (a m b : Int) (h : Hp) (Q : Value → Hp → Prop), TB h l (A ++ (X ++ (Y ++ B))) → Srt X → Srt Y → 0 < X.length → 0 < Y.length → X.length + Y.length < N →
  a = (A.length : Int) → m = ((A.length + X.length : Nat) : Int) → b = ((A.length + X.length + Y.length : Nat) : Int) → (∀ h' Z, Sv h h' l (A ++ (Z ++ B)) → Z.Perm (X ++ Y) → Srt Z → Q (.tuple ⟨[]⟩) h') → T l a m b h Q
theorem merge_step {l : Sl} (hn : l.n ≤ 60000) {T : Sl → Int → Int → Int → PT} {N : Nat} (hT : MergeOk l T N) {A X Y B : List Tab} {a m b : Int} {h : Hp} {Q : Value → Hp → Prop} (Tb : TB h l (A ++ (X ++ (Y ++ B)))) (hX : Srt X) (hY : Srt Y) (x0 : 0 < X.length) (y0 : 0 < Y.length) (hN : X.length + Y.length ≤ N)
    (ea : a = (A.length : Int)) (em : m = ((A.length + X.length : Nat) : Int)) (eb : b = ((A.length + X.length + Y.length : Nat) : Int)) (hQ : ∀ h' Z, Sv h h' l (A ++ (Z ++ B)) → Z.Perm (X ++ Y) → Srt Z → Q (.tuple ⟨[]⟩) h') : F120.G T l a m b h Q := by
  have hl := Tb.n
  simp only [List.length_append] at hl
  unfold F120.G
  rw [wr64 (x := m - a) (by omega) (by omega), wr64 (x := b - m) (by omega) (by omega)]
  refine ⟨fun h1 => ?_, fun hne1 => ⟨fun h1 => ?_, fun hne2 => ?_⟩⟩
  · -- one on the left
    obtain ⟨x, rfl⟩ : ∃ x, X = [x] := by
      match X, x0 with
      | [x], _ => exact ⟨x, rfl⟩
      | _ :: _ :: _, _ => simp only [List.length_cons] at em; omega
    simp only [List.length_cons, List.length_nil] at em eb hl hN
    refine ⟨fun i j g => ∃ i' j' : Nat, i = m + (i' : Int) ∧ j = m + (j' : Int) ∧ i' ≤ j' ∧ j' ≤ Y.length ∧ (i' = 0 ∨ ∃ y, Y[i' - 1]? = some y ∧ Bl y.least x.least) ∧ (j' = Y.length ∨ ∃ y, Y[j']? = some y ∧ Le x.least y.least) ∧ h = g, fun i j _ => (j - i).toNat, ⟨0, Y.length, by omega, by omega, Nat.zero_le _, Nat.le_refl _, .inl rfl, .inl rfl, rfl⟩, ?_⟩
    rintro i j g ⟨i', j', rfl, rfl, hij, hj, f1, f2, rfl⟩
    refine ⟨fun hlt => ⟨by decide, ?_⟩, fun hge => ?_⟩
    · rw [half (x := m + (i' : Int)) (y := m + (j' : Int)) (by omega) (by omega)]
      obtain ⟨c, hc⟩ : ∃ c : Nat, (m + (i' : Int) + (m + (j' : Int))) / 2 = m + (c : Int) := ⟨((m + (i' : Int) + (m + (j' : Int))) / 2 - m).toNat, by omega⟩
      have c0 : i' ≤ c := by omega
      have c1 : c < j' := by omega
      rw [hc, wr64 (x := m + (c : Int) + 1) (by omega) (by omega)]
      obtain ⟨Y1, y, Y2, hYs, hy1, hyc⟩ := split_i (l := Y) (i := c) (by omega)
      refine Tb.rd (P := A ++ x :: Y1) (t := y) (R := Y2 ++ B) (by rw [hYs]; simp) (by simp; omega) fun b1 o1 => Tb.rd (P := A) (t := x) (R := Y ++ B) (by simp) ea fun b2 o2 => cmp_spec (fun hb n hn0 => ⟨n, rfl, fun _ => ?_, fun hc => absurd hn0 hc⟩) (fun hle n hn0 => ⟨n, rfl, fun hc => absurd hc hn0, fun _ => ?_⟩)
      · exact ⟨⟨c + 1, j', by omega, rfl, by omega, hj, .inr ⟨y, by simpa using hyc, hb⟩, f2, rfl⟩, by dsimp only; omega⟩
      · exact ⟨⟨i', c, rfl, rfl, by omega, by omega, f1, .inr ⟨y, hyc, hle⟩, rfl⟩, by dsimp only; omega⟩
    · have hij' : i' = j' := by omega
      subst hij'
      obtain ⟨Y1, Y2, hYs, hy1⟩ := cut_at (l := Y) hj
      subst hYs
      rw [wr64 (x := m + (i' : Int) - 1) (by omega) (by omega)]
      have srt : Srt (Y1 ++ x :: Y2) := by
        refine srt_app (srt_l hY) (srt_app (P := [x]) (List.pairwise_singleton _ _) (srt_r hY) (cross (List.pairwise_singleton _ _) (srt_r hY) ?_)) ?_
        · rcases f2 with f | ⟨y, f, g⟩
          · right; left; apply List.eq_nil_of_length_eq_zero; rw [List.length_append] at f; omega
          · right; right; rw [← hy1, get_r] at f; exact ⟨x, y, rfl, f, g⟩
        · refine cross (srt_l hY) ?_ ?_
          · exact srt_app (P := [x]) (List.pairwise_singleton _ _) (srt_r hY) (cross (List.pairwise_singleton _ _) (srt_r hY) (by
              rcases f2 with f | ⟨y, f, g⟩
              · right; left; apply List.eq_nil_of_length_eq_zero; rw [List.length_append] at f; omega
              · right; right; rw [← hy1, get_r] at f; exact ⟨x, y, rfl, f, g⟩))
          · rcases f1 with f | ⟨y, f, g⟩
            · left; exact List.eq_nil_of_length_eq_zero (by omega)
            · by_cases hne : Y1 = []
              · left; exact hne
              · right; right; rw [← hy1, get_l hne] at f; exact ⟨y, x, f, rfl, .of g⟩
      refine ⟨fun k g => ∃ W W', Y1 = W ++ W' ∧ k = ((A.length + W.length : Nat) : Int) ∧ Sv h g l (A ++ (W ++ x :: (W' ++ (Y2 ++ B)))), fun k _ => (m + (i' : Int) - k).toNat, ⟨[], Y1, rfl, by simp; omega, ⟨by simpa using Tb, Upd.refl _ _⟩⟩, ?_⟩
      rintro k g ⟨W, W', rfl, rfl, S⟩
      simp only [List.length_append] at hy1
      refine ⟨fun hlt => ?_, fun hge => ?_⟩
      · cases W' with
        | nil => simp only [List.length_nil] at hy1; omega
        | cons w W' =>
          simp only [List.length_cons] at hy1
          rw [wr64 (x := ((A.length + W.length : Nat) : Int) + 1) (by omega) (by omega)]
          have S1 : Sv h g l ((A ++ W) ++ x :: ([] ++ w :: (W' ++ (Y2 ++ B)))) := ⟨by simpa using S.b, S.up⟩
          refine S1.b.rd (P := (A ++ W) ++ x :: ([])) (t := w) (R := W' ++ (Y2 ++ B)) (by simp) (i := ((A.length + W.length : Nat) : Int) + 1) (by simp <;> omega) fun b1 o1 => S1.b.rd (P := (A ++ W)) (t := x) (R := [] ++ w :: (W' ++ (Y2 ++ B))) (by simp) (i := ((A.length + W.length : Nat) : Int)) (by simp <;> omega) fun b2 o2 => TB.wr S1.b (P := (A ++ W)) (x := x) (t := w) (R := [] ++ w :: (W' ++ (Y2 ++ B))) (by simp) (i := ((A.length + W.length : Nat) : Int)) (by simp <;> omega) fun b3 B3 p3 => TB.wr B3 (P := (A ++ W) ++ w :: ([])) (x := w) (t := x) (R := W' ++ (Y2 ++ B)) (by simp) (i := ((A.length + W.length : Nat) : Int) + 1) (by simp <;> omega) fun b4 B4 p4 => ?_
          have S2 : Sv h ((g.wr b3 (0 + (((A.length + W.length : Nat) : Int)).toNat * 6) [.int .u64 w.num, .int .i64 w.weight, .int .i64 w.bytes, .int .i64 w.entries, .string w.least, .string w.greatest]).wr b4 (0 + (((A.length + W.length : Nat) : Int) + 1).toNat * 6) [.int .u64 x.num, .int .i64 x.weight, .int .i64 x.bytes, .int .i64 x.entries, .string x.least, .string x.greatest]) l ((A ++ W) ++ w :: ([] ++ x :: (W' ++ (Y2 ++ B)))) := ⟨by simpa using B4, (S1.up.trans p3).trans p4⟩
          generalize ((g.wr b3 (0 + (((A.length + W.length : Nat) : Int)).toNat * 6) [.int .u64 w.num, .int .i64 w.weight, .int .i64 w.bytes, .int .i64 w.entries, .string w.least, .string w.greatest]).wr b4 (0 + (((A.length + W.length : Nat) : Int) + 1).toNat * 6) [.int .u64 x.num, .int .i64 x.weight, .int .i64 x.bytes, .int .i64 x.entries, .string x.least, .string x.greatest]) = g2 at S2 ⊢
          clear B3 p3 B4 p4 b1 b2 b3 b4 o1 o2
          exact ⟨⟨W ++ [w], W', by simp, by simp; omega, ⟨by simpa using S2.b, S2.up⟩⟩, by dsimp only; omega⟩
      · have hW : W' = [] := List.eq_nil_of_length_eq_zero (by omega)
        subst hW
        refine hQ g (W ++ x :: Y2) ⟨by simpa using S.b, S.up⟩ ?_ (by simpa using srt)
        simp only [List.append_nil, List.singleton_append]
        exact List.perm_middle
  · -- one on the right
    obtain ⟨y, rfl⟩ : ∃ y, Y = [y] := by
      match Y, y0 with
      | [y], _ => exact ⟨y, rfl⟩
      | _ :: _ :: _, _ => simp only [List.length_cons] at eb; omega
    simp only [List.length_cons, List.length_nil] at eb hl hN
    refine ⟨fun i j g => ∃ i' j' : Nat, i = a + (i' : Int) ∧ j = a + (j' : Int) ∧ i' ≤ j' ∧ j' ≤ X.length ∧ (i' = 0 ∨ ∃ x, X[i' - 1]? = some x ∧ Le x.least y.least) ∧ (j' = X.length ∨ ∃ x, X[j']? = some x ∧ Bl y.least x.least) ∧ h = g, fun i j _ => (j - i).toNat, ⟨0, X.length, by omega, by omega, Nat.zero_le _, Nat.le_refl _, .inl rfl, .inl rfl, rfl⟩, ?_⟩
    rintro i j g ⟨i', j', rfl, rfl, hij, hj, f1, f2, rfl⟩
    refine ⟨fun hlt => ⟨by decide, ?_⟩, fun hge => ?_⟩
    · rw [half (x := a + (i' : Int)) (y := a + (j' : Int)) (by omega) (by omega)]
      obtain ⟨c, hc⟩ : ∃ c : Nat, (a + (i' : Int) + (a + (j' : Int))) / 2 = a + (c : Int) := ⟨((a + (i' : Int) + (a + (j' : Int))) / 2 - a).toNat, by omega⟩
      have c0 : i' ≤ c := by omega
      have c1 : c < j' := by omega
      rw [hc, wr64 (x := a + (c : Int) + 1) (by omega) (by omega)]
      obtain ⟨X1, x, X2, hXs, hx1, hxc⟩ := split_i (l := X) (i := c) (by omega)
      refine Tb.rd (P := A ++ X) (t := y) (R := B) (by simp) (by simp; omega) fun b1 o1 => Tb.rd (P := A ++ X1) (t := x) (R := X2 ++ ([y] ++ B)) (by rw [hXs]; simp) (by simp; omega) fun b2 o2 => cmp_spec (fun hb n hn0 => ⟨n, rfl, fun _ => ?_, fun hc => absurd hn0 hc⟩) (fun hle n hn0 => ⟨n, rfl, fun hc => absurd hc hn0, fun _ => ?_⟩)
      · exact ⟨⟨i', c, rfl, rfl, by omega, by omega, f1, .inr ⟨x, hxc, hb⟩, rfl⟩, by dsimp only; omega⟩
      · exact ⟨⟨c + 1, j', by omega, rfl, by omega, hj, .inr ⟨x, by simpa using hxc, hle⟩, f2, rfl⟩, by dsimp only; omega⟩
    · have hij' : i' = j' := by omega
      subst hij'
      obtain ⟨X1, X2, hXs, hx1⟩ := cut_at (l := X) hj
      subst hXs
      have s2 : Srt ([y] ++ X2) := srt_app (List.pairwise_singleton _ _) (srt_r hX) (cross (List.pairwise_singleton _ _) (srt_r hX) (by
        rcases f2 with f | ⟨x, f, g⟩
        · right; left; apply List.eq_nil_of_length_eq_zero; rw [List.length_append] at f; omega
        · right; right; rw [← hx1, get_r] at f; exact ⟨y, x, rfl, f, .of g⟩))
      have srt : Srt (X1 ++ y :: X2) := by
        refine srt_app (srt_l hX) s2 (cross (srt_l hX) s2 ?_)
        rcases f1 with f | ⟨x, f, g⟩
        · left; exact List.eq_nil_of_length_eq_zero (by omega)
        · by_cases hne : X1 = []
          · left; exact hne
          · right; right; rw [← hx1, get_l hne] at f; exact ⟨x, y, f, rfl, g⟩
      simp only [List.length_append] at em eb hl
      refine ⟨fun k g => ∃ W W', X2 = W ++ W' ∧ k = ((A.length + X1.length + W.length : Nat) : Int) ∧ Sv h g l (A ++ (X1 ++ (W ++ y :: (W' ++ B)))), fun k _ => k.toNat, ⟨X2, [], by simp, by omega, ⟨by simpa using Tb, Upd.refl _ _⟩⟩, ?_⟩
      rintro k g ⟨W, W', rfl, rfl, S⟩
      simp only [List.length_append] at em eb hl
      refine ⟨fun hlt => ?_, fun hge => ?_⟩
      · have hne : W ≠ [] := fun e => by subst e; simp at hlt; omega
        obtain ⟨W0, w, rfl⟩ := snoc_of hne
        simp only [List.length_append, List.length_singleton] at em eb hl hlt
        have e1 : ((A.length + X1.length + (W0 ++ [w]).length : Nat) : Int) = ((A.length + X1.length + W0.length : Nat) : Int) + 1 := by simp; omega
        rw [e1, wr64 (x := ((A.length + X1.length + W0.length : Nat) : Int) + 1 - 1) (by omega) (by omega), show ((A.length + X1.length + W0.length : Nat) : Int) + 1 - 1 = ((A.length + X1.length + W0.length : Nat) : Int) by omega]
        have S1 : Sv h g l ((A ++ (X1 ++ W0)) ++ w :: ([] ++ y :: (W' ++ B))) := ⟨by simpa using S.b, S.up⟩
        refine S1.b.rd (P := (A ++ (X1 ++ W0))) (t := w) (R := [] ++ y :: (W' ++ B)) (by simp) (i := ((A.length + X1.length + W0.length : Nat) : Int)) (by simp <;> omega) fun b1 o1 => S1.b.rd (P := (A ++ (X1 ++ W0)) ++ w :: ([])) (t := y) (R := W' ++ B) (by simp) (i := ((A.length + X1.length + W0.length : Nat) : Int) + 1) (by simp <;> omega) fun b2 o2 => TB.wr S1.b (P := (A ++ (X1 ++ W0)) ++ w :: ([])) (x := y) (t := w) (R := W' ++ B) (by simp) (i := ((A.length + X1.length + W0.length : Nat) : Int) + 1) (by simp <;> omega) fun b3 B3 p3 => TB.wr B3 (P := (A ++ (X1 ++ W0))) (x := w) (t := y) (R := [] ++ w :: (W' ++ B)) (by simp) (i := ((A.length + X1.length + W0.length : Nat) : Int)) (by simp <;> omega) fun b4 B4 p4 => ?_
        have S2 : Sv h ((g.wr b3 (0 + (((A.length + X1.length + W0.length : Nat) : Int) + 1).toNat * 6) [.int .u64 w.num, .int .i64 w.weight, .int .i64 w.bytes, .int .i64 w.entries, .string w.least, .string w.greatest]).wr b4 (0 + (((A.length + X1.length + W0.length : Nat) : Int)).toNat * 6) [.int .u64 y.num, .int .i64 y.weight, .int .i64 y.bytes, .int .i64 y.entries, .string y.least, .string y.greatest]) l ((A ++ (X1 ++ W0)) ++ y :: ([] ++ w :: (W' ++ B))) := ⟨by simpa using B4, (S1.up.trans p3).trans p4⟩
        generalize ((g.wr b3 (0 + (((A.length + X1.length + W0.length : Nat) : Int) + 1).toNat * 6) [.int .u64 w.num, .int .i64 w.weight, .int .i64 w.bytes, .int .i64 w.entries, .string w.least, .string w.greatest]).wr b4 (0 + (((A.length + X1.length + W0.length : Nat) : Int)).toNat * 6) [.int .u64 y.num, .int .i64 y.weight, .int .i64 y.bytes, .int .i64 y.entries, .string y.least, .string y.greatest]) = g2 at S2 ⊢
        clear B3 p3 B4 p4 b1 b2 b3 b4 o1 o2
        exact ⟨⟨W0, w :: W', by simp, rfl, ⟨by simpa using S2.b, S2.up⟩⟩, by dsimp only; omega⟩
      · have hW : W = [] := List.eq_nil_of_length_eq_zero (by omega)
        subst hW
        refine hQ g (X1 ++ y :: W') ⟨by simpa using S.b, S.up⟩ ?_ (by simpa using srt)
        simp only [List.nil_append]
        rw [List.append_assoc]
        refine List.Perm.append_left X1 ?_
        exact (List.perm_append_comm (l₁ := [y]) (l₂ := W'))
  · -- more
    have hm := half (x := a) (y := b) (by omega) (by omega)
    rw [hm]
    obtain ⟨d, hd⟩ : ∃ d : Nat, (a + b) / 2 = ((A.length + d : Nat) : Int) := ⟨((a + b) / 2 - a).toNat, by omega⟩
    have d0 : 0 < d := by omega
    have d1 : 2 * d ≤ X.length + Y.length := by omega
    have d2 : X.length + Y.length ≤ 2 * d + 1 := by omega
    rw [hd]
    have hN2 : 3 ≤ X.length + Y.length := by omega
    generalize hmid : ((A.length + d : Nat) : Int) = mid
    rw [wr64 (x := mid + m) (by omega) (by omega), wr64 (x := mid + m - 1) (by omega) (by omega), wr64 (x := mid + m - b) (by omega) (by omega)]
    refine ⟨by decide, fun lo hi g => h = g ∧ ((mid < m ∧ lo = mid + m - b ∧ hi = mid) ∨ (m ≤ mid ∧ lo = a ∧ hi = m)), ?_, fun hc => ⟨rfl, .inl ⟨hc, rfl, rfl⟩⟩, fun hc => ⟨rfl, .inr ⟨by omega, rfl, rfl⟩⟩⟩
    rintro lo hi g ⟨rfl, hcase⟩
    have lo0 : a ≤ lo := by omega
    have hi0 : hi ≤ m := by omega
    have him : hi ≤ mid := by omega
    have lohi : lo ≤ hi := by omega
    have lob : mid + m - lo ≤ b := by omega
    have him2 : m ≤ mid + m - hi := by omega
    refine ⟨fun s r g => lo ≤ s ∧ s ≤ r ∧ r ≤ hi ∧ (s = lo ∨ ∃ x y, X[(s - 1 - a).toNat]? = some x ∧ Y[(mid - s).toNat]? = some y ∧ Le x.least y.least) ∧ (r = hi ∨ ∃ x y, X[(r - a).toNat]? = some x ∧ Y[(mid - 1 - r).toNat]? = some y ∧ Bl y.least x.least) ∧ h = g, fun s r _ => (r - s).toNat, ⟨Int.le_refl _, lohi, Int.le_refl _, .inl rfl, .inl rfl, rfl⟩, ?_⟩
    rintro s r g ⟨s0, s1, s2, f1, f2, rfl⟩
    refine ⟨fun hlt => ⟨by decide, ?_⟩, fun hge => ?_⟩
    · rw [half (x := s) (y := r) (by omega) (by omega)]
      obtain ⟨c, hc⟩ : ∃ c : Int, (s + r) / 2 = c := ⟨_, rfl⟩
      rw [hc, wr64 (x := mid + m - 1 - c) (by omega) (by omega), wr64 (x := c + 1) (by omega) (by omega)]
      have c0 : s ≤ c := by omega
      have c1 : c < r := by omega
      obtain ⟨X1, x, X2, hXs, hx1, hxc⟩ := split_i (l := X) (i := (c - a).toNat) (by omega)
      obtain ⟨Y1, y, Y2, hYs, hy1, hyc⟩ := split_i (l := Y) (i := (mid - 1 - c).toNat) (by omega)
      refine Tb.rd (P := A ++ (X ++ Y1)) (t := y) (R := Y2 ++ B) (by rw [hYs]; simp) (by simp; omega) fun b1 o1 => Tb.rd (P := A ++ X1) (t := x) (R := X2 ++ (Y ++ B)) (by rw [hXs]; simp) (by simp; omega) fun b2 o2 => cmp_spec (fun hb n hn0 => ⟨n, rfl, fun _ => ?_, fun hc => absurd hn0 hc⟩) (fun hle n hn0 => ⟨n, rfl, fun hc => absurd hc hn0, fun _ => ?_⟩)
      · exact ⟨⟨s0, by omega, by omega, f1, .inr ⟨x, y, hxc, hyc, hb⟩, rfl⟩, by dsimp only; omega⟩
      · exact ⟨⟨by omega, by omega, by omega, .inr ⟨x, y, by rw [show c + 1 - 1 - a = c - a by omega]; exact hxc, by rw [show mid - (c + 1) = mid - 1 - c by omega]; exact hyc, hle⟩, f2, rfl⟩, by dsimp only; omega⟩
    · have hsr : r = s := by omega
      subst hsr
      rw [wr64 (x := mid + m - r) (by omega) (by omega)]
      obtain ⟨X1, X2, hXs, hx1⟩ := cut_at (l := X) (k := (r - a).toNat) (by omega)
      obtain ⟨Y1, Y2, hYs, hy1⟩ := cut_at (l := Y) (k := (mid - r).toNat) (by omega)
      have hxl : X.length = X1.length + X2.length := by rw [hXs, List.length_append]
      have hyl : Y.length = Y1.length + Y2.length := by rw [hYs, List.length_append]
      subst hXs hYs
      have k1 : ∀ x ∈ X1, ∀ y ∈ Y2, Le x.least y.least := by
        refine cross (srt_l hX) (srt_r hY) ?_
        rcases f1 with f | ⟨x, y, fx, fy, g⟩
        · rcases hcase with ⟨c1, c2, c3⟩ | ⟨c1, c2, c3⟩
          · right; left; exact List.eq_nil_of_length_eq_zero (by omega)
          · left; exact List.eq_nil_of_length_eq_zero (by omega)
        · by_cases hne : X1 = []
          · left; exact hne
          · right; right
            refine ⟨x, y, ?_, ?_, g⟩
            · rw [← get_l (S := X2) hne, hx1, ← fx]; congr 1; omega
            · rw [← hy1, get_r] at fy; exact fy
      have k2 : ∀ y ∈ Y1, ∀ x ∈ X2, Le y.least x.least := by
        refine cross (srt_l hY) (srt_r hX) ?_
        rcases f2 with f | ⟨x, y, fx, fy, g⟩
        · rcases hcase with ⟨c1, c2, c3⟩ | ⟨c1, c2, c3⟩
          · left; exact List.eq_nil_of_length_eq_zero (by omega)
          · right; left; exact List.eq_nil_of_length_eq_zero (by omega)
        · by_cases hne : Y1 = []
          · left; exact hne
          · right; right
            refine ⟨y, x, ?_, ?_, .of g⟩
            · rw [← get_l (S := Y2) hne, hy1, ← fy]; congr 1; omega
            · rw [← hx1, get_r] at fx; exact fx
      have k3 := (List.pairwise_append.1 hX).2.2
      have k4 := (List.pairwise_append.1 hY).2.2
      refine ⟨fun g => Sv h g l (A ++ (X1 ++ (Y1 ++ (X2 ++ (Y2 ++ B))))), ?_, ?_⟩
      · intro g S
        refine ⟨fun g => ∃ Z1, Sv h g l (A ++ (Z1 ++ (X2 ++ (Y2 ++ B)))) ∧ Z1.Perm (X1 ++ Y1) ∧ Srt Z1, ?_, ?_⟩
        · rintro g ⟨Z1, S, hp1, hs1⟩
          have hz1 : Z1.length = d := by have := hp1.length_eq; rw [List.length_append] at this; omega
          have fin : ∀ {g : Hp} {Z2 : List Tab}, Sv h g l (A ++ (Z1 ++ (Z2 ++ B))) → Z2.Perm (X2 ++ Y2) → Srt Z2 → Q (.tuple ⟨[]⟩) g := by
            intro g Z2 S hp2 hs2
            refine hQ g (Z1 ++ Z2) ⟨by simpa using S.b, S.up⟩ ?_ (srt_app hs1 hs2 fun z hz w hw => ?_)
            · refine (hp1.append hp2).trans ?_
              have e1 : X1 ++ Y1 ++ (X2 ++ Y2) = X1 ++ ((Y1 ++ X2) ++ Y2) := by simp
              have e2 : X1 ++ X2 ++ (Y1 ++ Y2) = X1 ++ ((X2 ++ Y1) ++ Y2) := by simp
              rw [e1, e2]
              exact List.Perm.append_left X1 (List.Perm.append_right Y2 List.perm_append_comm)
            · have hz' := hp1.mem_iff.1 hz
              have hw' := hp2.mem_iff.1 hw
              rcases List.mem_append.1 hz' with hz' | hz' <;> rcases List.mem_append.1 hw' with hw' | hw'
              · exact k3 z hz' w hw'
              · exact k1 z hz' w hw'
              · exact k2 z hz' w hw'
              · exact k4 z hz' w hw'
          refine ⟨fun c1 => ⟨fun c2 => ?_, fun c2 => ?_⟩, fun c1 => ?_⟩
          · refine hT (A ++ Z1) X2 Y2 B mid (mid + m - r) b g _ (by simpa using S.b) (srt_r hX) (srt_r hY) (by omega) (by omega) (by omega) (by simp; omega) (by simp; omega) (by simp; omega) fun g2 Z2 S2 hp2 hs2 => fin ⟨by simpa using S2.b, S.up.trans S2.up⟩ hp2 hs2
          · have : Y2 = [] := List.eq_nil_of_length_eq_zero (by omega)
            subst this
            exact fin (Z2 := X2) (by simpa using S) (by simp) (srt_r hX)
          · have : X2 = [] := List.eq_nil_of_length_eq_zero (by omega)
            subst this
            exact fin (Z2 := Y2) (by simpa using S) (by simp) (srt_r hY)
        · refine ⟨fun c1 => ⟨fun c2 => ?_, fun c2 => ?_⟩, fun c1 => ?_⟩
          · refine hT A X1 Y1 (X2 ++ (Y2 ++ B)) a r mid g _ S.b (srt_l hX) (srt_l hY) (by omega) (by omega) (by omega) ea (by omega) (by omega) fun g2 Z1 S2 hp1 hs1 => ⟨Z1, ⟨S2.b, S.up.trans S2.up⟩, hp1, hs1⟩
          · have : Y1 = [] := List.eq_nil_of_length_eq_zero (by omega)
            subst this
            exact ⟨X1, by simpa using S, by simp, srt_l hX⟩
          · have : X1 = [] := List.eq_nil_of_length_eq_zero (by omega)
            subst this
            exact ⟨Y1, by simpa using S, by simp, srt_l hY⟩
      · refine ⟨fun c1 => ⟨fun c2 => ?_, fun c2 => ?_⟩, fun c1 => ?_⟩
        · refine rotate_t (A := A ++ X1) (U := X2) (V := Y1) (B := Y2 ++ B) (by simpa using Tb) (by omega) (by omega) (by simp; omega) (by simp; omega) (by simp; omega) hn fun g2 S2 => ⟨by simpa using S2.b, S2.up⟩
        · have : Y1 = [] := List.eq_nil_of_length_eq_zero (by omega)
          subst this
          exact ⟨by simpa using Tb, Upd.refl _ _⟩
        · have : X2 = [] := List.eq_nil_of_length_eq_zero (by omega)
          subst this
          exact ⟨by simpa using Tb, Upd.refl _ _⟩
theorem merge_ok {l : Sl} (hn : l.n ≤ 60000) : ∀ (nf : Nat), MergeOk l (F120.TN nf) nf
  | 0 => fun A X Y B a m b h Q T hX hY x0 y0 hN ea em eb hQ => absurd hN (by omega)
  | nf + 1 => fun A X Y B a m b h Q T hX hY x0 y0 hN ea em eb hQ => merge_step hn (merge_ok hn nf) T hX hY x0 y0 (by omega) ea em eb hQ
theorem merge_t {h : Hp} {l : Sl} (hn : l.n ≤ 60000) {A X Y B : List Tab} {a m b : Int} {Q : Value → Hp → Prop} (T : TB h l (A ++ (X ++ (Y ++ B)))) (hX : Srt X) (hY : Srt Y) (x0 : 0 < X.length) (y0 : 0 < Y.length)
    (ea : a = (A.length : Int)) (em : m = ((A.length + X.length : Nat) : Int)) (eb : b = ((A.length + X.length + Y.length : Nat) : Int)) (hQ : ∀ h' Z, Sv h h' l (A ++ (Z ++ B)) → Z.Perm (X ++ Y) → Srt Z → Q (.tuple ⟨[]⟩) h') : F120.T l a m b h Q :=
  ⟨X.length + Y.length + 1, merge_ok hn (X.length + Y.length + 1) A X Y B a m b h Q T hX hY x0 y0 (by omega) ea em eb hQ⟩
end Go.Eng.Ytblghgacokoklaa
end
section

/-
  SPECS OF SORTING TABLES, 4: the stable sort.
-/
set_option linter.unusedSimpArgs false
set_option linter.unusedVariables false
set_option maxRecDepth 100000
namespace Go.Eng.Ytblghgacokoklaa
def Blk (k : Nat) (bl : List (List Tab)) : Prop := ∀ b ∈ bl, Srt b ∧ b.length = k
theorem blk_len {k : Nat} : ∀ {bl : List (List Tab)}, Blk k bl → bl.flatten.length = bl.length * k
  | [], _ => by simp
  | b :: bl, h => by
    have h1 := (h b List.mem_cons_self).2
    have h2 := blk_len (bl := bl) fun c hc => h c (List.mem_cons_of_mem _ hc)
    rw [List.flatten_cons, List.length_append, h1, h2, List.length_cons, Nat.succ_mul]; omega
theorem blk_snoc {k : Nat} {bl : List (List Tab)} {b : List Tab} (h : Blk k bl) (h1 : Srt b) (h2 : b.length = k) : Blk k (bl ++ [b]) := fun c hc => by
  rcases List.mem_append.1 hc with hc | hc
  · exact h c hc
  · rw [List.mem_singleton] at hc; subst hc; exact ⟨h1, h2⟩
theorem fl_snoc (bl : List (List Tab)) (b : List Tab) : (bl ++ [b]).flatten = bl.flatten ++ b := by simp
/-- Sorted runs of k, and a shorter one. -/
def Runs (k : Nat) (ts : List Tab) : Prop := ∃ bl R, ts = bl.flatten ++ R ∧ Blk k bl ∧ Srt R ∧ R.length < k
theorem runs_end {k : Nat} {ts : List Tab} (h : Runs k ts) (hk : ts.length ≤ k) : Srt ts := by
  obtain ⟨bl, R, rfl, hb, hs, hl⟩ := h
  rw [List.length_append, blk_len hb] at hk
  match bl, hb with
  | [], _ => simpa using hs
  | [b], hb =>
    have := hb b List.mem_cons_self
    simp only [List.length_cons, List.length_nil] at hk
    have hR : R = [] := List.eq_nil_of_length_eq_zero (by omega)
    subst hR
    simpa using this.1
  | _ :: _ :: bl, _ =>
    exfalso
    simp only [List.length_cons] at hk
    have : (bl.length + 1 + 1) * k = bl.length * k + 2 * k := by rw [Nat.succ_mul, Nat.succ_mul]; omega
    have h0 : 0 ≤ bl.length * k := Nat.zero_le _
    omega
theorem stable_t {h : Hp} {l : Sl} {ts : List Tab} {Q : Value → Hp → Prop} (T : TB h l ts) (hn : l.n ≤ 60000) (hQ : ∀ h' us, Sv h h' l us → us.Perm ts → Srt us → Q (.tuple ⟨[]⟩) h') : F102.T l h Q := by
  have hl := T.n
  unfold F102.T F114.T
  refine ⟨fun a b g => ∃ bl R, Sv h g l (bl.flatten ++ R) ∧ (bl.flatten ++ R).Perm ts ∧ Blk 20 bl ∧ a = ((bl.flatten.length : Nat) : Int) ∧ b = a + 20 ∧ bl.flatten.length + R.length = l.n, fun a _ _ => ((l.n : Int) - a).toNat, ⟨[], ts, ⟨T, Upd.refl _ _⟩, List.Perm.refl _, fun b hb => (by cases hb), rfl, rfl, by simp; omega⟩, ?_⟩
  rintro a b g ⟨bl, R, S, hp, hb, rfl, rfl, hlen⟩
  refine ⟨fun hle => ?_, fun hgt => ?_⟩
  · obtain ⟨R1, R2, rfl, hr1⟩ := cut_at (l := R) (k := 20) (by omega)
    rw [List.length_append] at hlen
    rw [wr64 (by omega) (by omega)]
    refine insertion_t (A := bl.flatten) (M := R1) (B := R2) (by simpa using S.b) rfl (by omega) hn fun g2 M' S2 hp2 hs2 => ?_
    have hml := hp2.length_eq
    refine ⟨⟨bl ++ [M'], R2, ⟨by simpa using S2.b, S.up.trans S2.up⟩, ?_, blk_snoc hb hs2 (by omega), by rw [fl_snoc, List.length_append]; omega, by omega, by rw [fl_snoc, List.length_append]; omega⟩, by dsimp only; omega⟩
    refine List.Perm.trans ?_ hp
    have e1 : (bl ++ [M']).flatten ++ R2 = bl.flatten ++ (M' ++ R2) := by simp
    rw [e1]
    exact List.Perm.append_left _ (hp2.append_right R2)
  · refine insertion_t (A := bl.flatten) (M := R) (B := []) (by simpa using S.b) rfl (by omega) hn fun g2 M' S2 hp2 hs2 => ?_
    have hml := hp2.length_eq
    have hp' : (bl.flatten ++ M').Perm ts := (List.Perm.append_left _ hp2).trans hp
    have hruns : Runs 20 (bl.flatten ++ M') := ⟨bl, M', rfl, hb, hs2, by omega⟩
    have hlen' : (bl.flatten ++ M').length = l.n := by rw [List.length_append]; omega
    have S3 : Sv h g2 l (bl.flatten ++ M') := ⟨by simpa using S2.b, S.up.trans S2.up⟩
    generalize bl.flatten ++ M' = us at hp' hruns hlen' S3
    clear hp hb hlen hgt S S2 hp2 hs2 hml bl R M' g
    refine ⟨fun k g => ∃ us kk, k = ((kk : Nat) : Int) ∧ 20 ≤ kk ∧ kk ≤ 200000 ∧ Sv h g l us ∧ us.Perm ts ∧ Runs kk us, fun k _ => ((l.n : Int) - k).toNat, ⟨us, 20, rfl, by decide, by decide, S3, hp', hruns⟩, ?_⟩
    clear S3 hp' hruns hlen' us g2
    rintro k g ⟨us, kk, rfl, k0, k1, S, hp, hr⟩
    have hul : us.length = l.n := by have := S.b.n; omega
    refine ⟨fun hlt => ?_, fun hge => hQ g us S hp (runs_end hr (by omega))⟩
    rw [wr64 (x := 2 * (kk : Int)) (by omega) (by omega), wr64 (x := (kk : Int) * 2) (by omega) (by omega)]
    obtain ⟨bl, R, rfl, hb, hs, hR⟩ := hr
    refine ⟨fun a b g => ∃ d bl, Sv h g l (d.flatten ++ (bl.flatten ++ R)) ∧ (d.flatten ++ (bl.flatten ++ R)).Perm ts ∧ Blk (2 * kk) d ∧ Blk kk bl ∧ a = ((d.flatten.length : Nat) : Int) ∧ b = a + 2 * (kk : Int) ∧ d.flatten.length + (bl.flatten.length + R.length) = l.n, fun a _ _ => ((l.n : Int) - a).toNat, ⟨[], bl, by simpa using S, by simpa using hp, fun b hb => (by cases hb), hb, rfl, by simp, by rw [List.length_append] at hul; simp only [List.flatten_nil, List.length_nil]; omega⟩, ?_⟩
    clear hul hp hb S bl
    rintro a b g ⟨d, bl, S, hp, hd, hb, rfl, rfl, hlen⟩
    have hbl := blk_len hb
    have nxt : ∀ {g : Hp} {R' : List Tab}, Sv h g l (d.flatten ++ R') → R'.Perm (bl.flatten ++ R) → Srt R' → R'.length < 2 * kk → (∃ us kk_1, ((2 * kk : Nat) : Int) = ((kk_1 : Nat) : Int) ∧ 20 ≤ kk_1 ∧ kk_1 ≤ 200000 ∧ Sv h g l us ∧ us.Perm ts ∧ Runs kk_1 us) := fun Sg hp2 hs2 hl2 => ⟨_, 2 * kk, rfl, by omega, by omega, Sg, (List.Perm.append_left _ hp2).trans hp, d, _, rfl, hd, hs2, hl2⟩
    rw [wr64 (x := ((d.flatten.length : Nat) : Int) + (kk : Int)) (by omega) (by omega), wr64 (x := ((d.flatten.length : Nat) : Int) + 2 * (kk : Int) + 2 * (kk : Int)) (by omega) (by omega)]
    have ek : (kk : Int) * 2 = ((2 * kk : Nat) : Int) := by omega
    refine ⟨fun hle => ?_, fun hgt => ⟨fun hm => ?_, fun hm => ?_⟩⟩
    · match bl, hb with
      | [], hb => simp only [List.flatten_nil, List.length_nil] at hlen hbl; omega
      | [b0], hb =>
        simp only [List.length_cons, List.length_nil] at hbl
        omega
      | b0 :: b1 :: bl, hb =>
        have h0 := hb b0 List.mem_cons_self
        have h1 := hb b1 (List.mem_cons_of_mem _ List.mem_cons_self)
        have hlen2 : d.flatten.length + (b0.length + (b1.length + bl.flatten.length) + R.length) = l.n := by
          rw [List.flatten_cons, List.flatten_cons, List.length_append, List.length_append] at hlen; omega
        refine merge_t (A := d.flatten) (X := b0) (Y := b1) (B := bl.flatten ++ R) hn (by simpa using S.b) h0.1 h1.1 (by omega) (by omega) rfl (by omega) (by omega) fun g2 Z S2 hp2 hs2 => ?_
        have hzl := hp2.length_eq
        rw [List.length_append] at hzl
        refine ⟨⟨d ++ [Z], bl, ⟨by rw [fl_snoc]; simpa using S2.b, S.up.trans S2.up⟩, ?_, blk_snoc hd hs2 (by omega), fun c hc => hb c (List.mem_cons_of_mem _ (List.mem_cons_of_mem _ hc)), by rw [fl_snoc, List.length_append]; omega, by omega, by rw [fl_snoc, List.length_append]; omega⟩, by dsimp only; omega⟩
        refine List.Perm.trans ?_ hp
        have e1 : (d ++ [Z]).flatten ++ (bl.flatten ++ R) = d.flatten ++ (Z ++ (bl.flatten ++ R)) := by simp
        have e2 : d.flatten ++ ((b0 :: b1 :: bl).flatten ++ R) = d.flatten ++ ((b0 ++ b1) ++ (bl.flatten ++ R)) := by simp
        rw [e1, e2]
        exact List.Perm.append_left _ (hp2.append_right _)
    · match bl, hb with
      | [], hb => simp only [List.flatten_nil, List.length_nil] at hlen hbl; omega
      | [b0], hb =>
        have h0 := hb b0 List.mem_cons_self
        have e0 : [b0].flatten = b0 := by simp
        rw [e0] at S hp hlen hbl nxt
        refine merge_t (A := d.flatten) (X := b0) (Y := R) (B := []) hn (by simpa using S.b) h0.1 hs (by omega) (by omega) rfl (by omega) (by omega) fun g2 Z S2 hp2 hs2 => ?_
        have hzl := hp2.length_eq
        rw [List.length_append] at hzl
        rw [ek]
        exact ⟨nxt (R' := Z) ⟨by simpa using S2.b, S.up.trans S2.up⟩ hp2 hs2 (by omega), by dsimp only; omega⟩
      | b0 :: b1 :: bl, hb =>
        exfalso
        simp only [List.length_cons] at hbl
        have : (bl.length + 1 + 1) * kk = bl.length * kk + 2 * kk := by rw [Nat.succ_mul, Nat.succ_mul]; omega
        have h0 : 0 ≤ bl.length * kk := Nat.zero_le _
        omega
    · rw [ek]
      match bl, hb with
      | [], hb => exact ⟨nxt (R' := R) (by simpa using S) (by simp) hs (by omega), by dsimp only; omega⟩
      | [b0], hb =>
        have h0 := hb b0 List.mem_cons_self
        have e0 : [b0].flatten = b0 := by simp
        rw [e0] at S hp hlen hbl nxt
        have hR0 : R = [] := List.eq_nil_of_length_eq_zero (by omega)
        subst hR0
        exact ⟨nxt (R' := b0) (by simpa using S) (by simp) h0.1 (by omega), by dsimp only; omega⟩
      | b0 :: b1 :: bl, hb =>
        exfalso
        simp only [List.length_cons] at hbl
        have : (bl.length + 1 + 1) * kk = bl.length * kk + 2 * kk := by rw [Nat.succ_mul, Nat.succ_mul]; omega
        have h0 : 0 ≤ bl.length * kk := Nat.zero_le _
        omega
end Go.Eng.Ytblghgacokoklaa
end
section

/-
  SPECS OF VERSIONS, PLAINLY: the levels behind an edit.
-/
set_option linter.unusedSimpArgs false
set_option linter.unusedVariables false
namespace Go.Eng.Ytblghgacokoklaa
def Placed.tab (p : Placed) : Tab := ⟨p.num, p.weight, p.bytes, p.entries, p.least, p.greatest⟩
abbrev Lv := List (List Tab)
def blB (a b : ByteArray) : Bool := decide (cmpI a b < 0)
theorem blB_t {a b : ByteArray} : blB a b = true ↔ Bl a b := by unfold blB Bl; exact decide_eq_true_iff
/-- The list without the first table of that number. -/
def cutN (n : Int) : List Tab → Option (List Tab)
  | [] => none
  | t :: ts => if t.num = n then some ts else (cutN n ts).map (t :: ·)
theorem cutN_some {n : Int} : ∀ {P : List Tab} {x : Tab} {R : List Tab}, (∀ y ∈ P, y.num ≠ n) → x.num = n → cutN n (P ++ x :: R) = some (P ++ R)
  | [], x, R, _, hx => by simp [cutN, hx]
  | y :: P, x, R, hP, hx => by
    simp only [List.cons_append, cutN]
    rw [if_neg (hP y List.mem_cons_self), cutN_some (fun z hz => hP z (List.mem_cons_of_mem _ hz)) hx]
    rfl
theorem cutN_none {n : Int} : ∀ {ts : List Tab}, (∀ y ∈ ts, y.num ≠ n) → cutN n ts = none
  | [], _ => rfl
  | y :: P, hP => by
    simp only [cutN]
    rw [if_neg (hP y List.mem_cons_self), cutN_none (fun z hz => hP z (List.mem_cons_of_mem _ hz))]
    rfl
theorem cutN_sub {n : Int} : ∀ {ts us : List Tab}, cutN n ts = some us → us.length ≤ ts.length ∧ ∀ y ∈ us, y ∈ ts
  | [], us, h => by cases h
  | t :: ts, us, h => by
    simp only [cutN] at h
    by_cases ht : t.num = n
    · rw [if_pos ht] at h; cases h; exact ⟨by simp, fun y hy => List.mem_cons_of_mem _ hy⟩
    · rw [if_neg ht] at h
      cases hc : cutN n ts with
      | none => rw [hc] at h; cases h
      | some vs =>
        rw [hc] at h; cases h
        have := cutN_sub hc
        exact ⟨by simp; exact this.1, fun y hy => by
          rcases List.mem_cons.1 hy with rfl | hy
          · exact List.mem_cons_self
          · exact List.mem_cons_of_mem _ (this.2 y hy)⟩
def totL (lv : Lv) : Nat := (lv.map List.length).sum
def nums (lv : Lv) : List Int := lv.flatten.map Tab.num
def Hulls (lv : Lv) : Prop := ∀ l ∈ lv, ∀ t ∈ l, Le t.least t.greatest
def outM : List Place → Lv → Int × Lv
  | [], lv => (0, lv)
  | p :: ps, lv => if p.lv < 0 then (133, lv) else match lv[p.lv.toNat]? with
    | none => (133, lv)
    | some ts => match cutN p.num ts with
      | none => (130, lv)
      | some us => outM ps (lv.set p.lv.toNat us)
def inM : List Placed → Lv → Int × Lv
  | [], lv => (0, lv)
  | p :: ps, lv => if p.lv < 0 then (133, lv) else match lv[p.lv.toNat]? with
    | none => (133, lv)
    | some ts => if p.num ∈ nums lv then (131, lv) else if blB p.greatest p.least then (132, lv) else inM ps (lv.set p.lv.toNat (ts ++ [p.tab]))
theorem totL_set : ∀ {lv : Lv} {k : Nat} {ts us : List Tab}, lv[k]? = some ts → totL (lv.set k us) + ts.length = totL lv + us.length
  | [], k, ts, us, h => by simp at h
  | l :: lv, 0, ts, us, h => by
    simp only [List.getElem?_cons_zero, Option.some.injEq] at h
    subst h
    simp only [totL, List.set_cons_zero, List.map_cons, List.sum_cons]; omega
  | l :: lv, k + 1, ts, us, h => by
    simp only [List.getElem?_cons_succ] at h
    have := totL_set (us := us) h
    simp only [totL, List.set_cons_succ, List.map_cons, List.sum_cons] at this ⊢; omega
theorem totL_mem : ∀ {lv : Lv} {l : List Tab}, l ∈ lv → l.length ≤ totL lv
  | [], l, h => by cases h
  | m :: lv, l, h => by
    simp only [totL, List.map_cons, List.sum_cons]
    rcases List.mem_cons.1 h with rfl | h
    · omega
    · have := totL_mem h; unfold totL at this; omega
theorem Hulls.set {lv : Lv} (H : Hulls lv) {k : Nat} {us : List Tab} (hu : ∀ t ∈ us, Le t.least t.greatest) : Hulls (lv.set k us) := fun l hl => by
  rcases List.mem_or_eq_of_mem_set hl with h | rfl
  · exact H l h
  · exact hu
theorem outM_sum : ∀ (ps : List Place) (lv : Lv), totL (outM ps lv).2 ≤ totL lv ∧ (outM ps lv).2.length = lv.length ∧ (Hulls lv → Hulls (outM ps lv).2)
  | [], lv => ⟨Nat.le_refl _, rfl, id⟩
  | p :: ps, lv => by
    unfold outM
    split
    · exact ⟨Nat.le_refl _, rfl, id⟩
    · split
      · exact ⟨Nat.le_refl _, rfl, id⟩
      · next ts h =>
        split
        · exact ⟨Nat.le_refl _, rfl, id⟩
        · next us hc =>
          obtain ⟨h1, h2, h3⟩ := outM_sum ps (lv.set p.lv.toNat us)
          have h4 := totL_set (us := us) h
          have h5 := cutN_sub hc
          refine ⟨by omega, by rw [h2, List.length_set], fun H => h3 (H.set fun t ht => H ts (List.mem_of_getElem? h) t (h5.2 t ht))⟩
theorem inM_sum : ∀ (ps : List Placed) (lv : Lv), totL (inM ps lv).2 ≤ totL lv + ps.length ∧ (inM ps lv).2.length = lv.length ∧ (Hulls lv → Hulls (inM ps lv).2)
  | [], lv => ⟨Nat.le_refl _, rfl, id⟩
  | p :: ps, lv => by
    unfold inM
    split
    · exact ⟨Nat.le_add_right _ _, rfl, id⟩
    · split
      · exact ⟨Nat.le_add_right _ _, rfl, id⟩
      · next ts h =>
        split
        · exact ⟨Nat.le_add_right _ _, rfl, id⟩
        · split
          · exact ⟨Nat.le_add_right _ _, rfl, id⟩
          · next hb =>
            obtain ⟨h1, h2, h3⟩ := inM_sum ps (lv.set p.lv.toNat (ts ++ [p.tab]))
            have h4 := totL_set (us := ts ++ [p.tab]) h
            rw [List.length_append, List.length_singleton] at h4
            refine ⟨by simp only [List.length_cons]; omega, by rw [h2, List.length_set], fun H => h3 (H.set fun t ht => ?_)⟩
            rcases List.mem_append.1 ht with ht | ht
            · exact H ts (List.mem_of_getElem? h) t ht
            · rw [List.mem_singleton] at ht; subst ht
              intro hbl
              exact hb (blB_t.2 hbl)
/-! Levels that are sorted. -/
def Adj (us : List Tab) : Prop := ∀ i x y, us[i]? = some x → us[i + 1]? = some y → Bl x.greatest y.least
theorem adj_strict {us : List Tab} (A : Adj us) (H : ∀ t ∈ us, Le t.least t.greatest) : us.Pairwise fun x y => Bl x.least y.least := by
  rw [List.pairwise_iff_getElem]
  intro i j hi hj hij
  induction j with
  | zero => omega
  | succ j ih =>
    have h1 : Bl us[j].least us[j + 1].least := (H us[j] (List.getElem_mem _)).bl (A j _ _ (List.getElem?_eq_getElem (by omega)) (List.getElem?_eq_getElem hj))
    by_cases he : i = j
    · subst he; exact h1
    · exact (ih (by omega) (by omega)).trans h1
theorem srt_unique : ∀ {us vs : List Tab}, us.Perm vs → us.Pairwise (fun x y => Bl x.least y.least) → Srt vs → us = vs
  | [], vs, hp, _, _ => (List.nil_perm.1 hp).symm
  | x :: us, [], hp, _, _ => absurd hp.length_eq (by simp)
  | x :: us, y :: vs, hp, hu, hv => by
    rw [List.pairwise_cons] at hu
    have hv' := List.pairwise_cons.1 hv
    have hxy : x = y := by
      have h1 : x ∈ y :: vs := hp.mem_iff.1 List.mem_cons_self
      have h2 : y ∈ x :: us := hp.mem_iff.2 List.mem_cons_self
      rcases List.mem_cons.1 h1 with h1 | h1
      · exact h1
      · rcases List.mem_cons.1 h2 with h2 | h2
        · exact h2.symm
        · exact absurd (hu.1 y h2) (hv'.1 x h1)
    subst hxy
    rw [srt_unique (List.Perm.cons_inv hp) hu.2 hv'.2]
def Fine (ts us : List Tab) : Prop := us.Perm ts ∧ Srt us ∧ Adj us
def Bad (ts : List Tab) : Prop := ∃ us : List Tab, us.Perm ts ∧ Srt us ∧ ∃ (i : Nat) (x y : Tab), us[i]? = some x ∧ us[i + 1]? = some y ∧ ¬ Bl x.greatest y.least
theorem good_one {ts us vs : List Tab} (H : ∀ t ∈ ts, Le t.least t.greatest) (hu : Fine ts us) (hv : vs.Perm ts) (hs : Srt vs) : us = vs :=
  srt_unique (hu.1.trans hv.symm) (adj_strict hu.2.2 fun t ht => H t (hu.1.mem_iff.1 ht)) hs
theorem good_bad {ts us : List Tab} (H : ∀ t ∈ ts, Le t.least t.greatest) (hu : Fine ts us) : ¬ Bad ts := by
  rintro ⟨vs, hp, hs, i, x, y, h1, h2, h3⟩
  obtain rfl := good_one H hu hp hs
  exact h3 (hu.2.2 i x y h1 h2)
/-- Each level from 1 on is sorted, and nothing overlaps. -/
def Sorted (lv lw : Lv) : Prop := lw.length = lv.length ∧ lw[0]? = lv[0]? ∧ ∀ i ts us, 1 ≤ i → lv[i]? = some ts → lw[i]? = some us → Fine ts us
theorem Sorted.one {lv lw lx : Lv} (H : Hulls lv) (h : Sorted lv lw) (k : Sorted lv lx) : lw = lx := by
  apply List.ext_getElem?
  intro i
  rcases Nat.eq_zero_or_pos i with rfl | hi
  · rw [h.2.1, k.2.1]
  · by_cases hl : i < lv.length
    · have a1 := List.getElem?_eq_getElem hl
      have b1 := List.getElem?_eq_getElem (l := lw) (i := i) (by rw [h.1]; exact hl)
      have c1 := List.getElem?_eq_getElem (l := lx) (i := i) (by rw [k.1]; exact hl)
      rw [b1, c1, good_one (H _ (List.mem_of_getElem? a1)) (h.2.2 i _ _ hi a1 b1) (k.2.2 i _ _ hi a1 c1).1 (k.2.2 i _ _ hi a1 c1).2.1]
    · rw [List.getElem?_eq_none (by rw [h.1]; omega), List.getElem?_eq_none (by rw [k.1]; omega)]
/-- What an edit comes to: its error, or the levels behind it. -/
def Res (lv : Lv) (e : Edit) (c : Int) (lw : Lv) : Prop :=
  if e.ptr.length = lv.length then
    if (outM e.out lv).1 = 0 then
      if (inM e.inn (outM e.out lv).2).1 = 0 then
        (c = 132 ∧ ∃ i ts, 1 ≤ i ∧ (inM e.inn (outM e.out lv).2).2[i]? = some ts ∧ Bad ts) ∨ (c = 0 ∧ Sorted (inM e.inn (outM e.out lv).2).2 lw)
      else c = (inM e.inn (outM e.out lv).2).1
    else c = (outM e.out lv).1
  else c = 133
theorem Res.one {lv lw lx : Lv} {e : Edit} {c d : Int} (H : Hulls lv) (h : Res lv e c lw) (k : Res lv e d lx) : c = d ∧ (c = 0 → lw = lx) := by
  unfold Res at h k
  by_cases h1 : e.ptr.length = lv.length
  · rw [if_pos h1] at h k
    by_cases h2 : (outM e.out lv).1 = 0
    · rw [if_pos h2] at h k
      by_cases h3 : (inM e.inn (outM e.out lv).2).1 = 0
      · rw [if_pos h3] at h k
        have H2 : Hulls (inM e.inn (outM e.out lv).2).2 := (inM_sum _ _).2.2 ((outM_sum _ _).2.2 H)
        generalize (inM e.inn (outM e.out lv).2).2 = l2 at h k H2
        have no : ∀ {l3 : Lv}, Sorted l2 l3 → ¬ ∃ i ts, 1 ≤ i ∧ l2[i]? = some ts ∧ Bad ts := fun {l3} S => by
          rintro ⟨i, ts, hi, hts, hb⟩
          have hl : i < l3.length := by rw [S.1]; exact (List.getElem?_eq_some_iff.1 hts).1
          exact good_bad (H2 _ (List.mem_of_getElem? hts)) (S.2.2 i ts _ hi hts (List.getElem?_eq_getElem hl)) hb
        rcases h with ⟨rfl, hb⟩ | ⟨rfl, hs⟩ <;> rcases k with ⟨rfl, kb⟩ | ⟨rfl, ks⟩
        · exact ⟨rfl, fun h => absurd h (by decide)⟩
        · exact absurd hb (no ks)
        · exact absurd kb (no hs)
        · exact ⟨rfl, fun _ => hs.one H2 ks⟩
      · rw [if_neg h3] at h k
        exact ⟨h.trans k.symm, fun h0 => absurd (h.symm.trans h0) h3⟩
    · rw [if_neg h2] at h k
      exact ⟨h.trans k.symm, fun h0 => absurd (h.symm.trans h0) h2⟩
  · rw [if_neg h1] at h k
    exact ⟨h.trans k.symm, fun h0 => absurd (h.symm.trans h0) (by decide)⟩
theorem Sorted.hulls {lv lw : Lv} (H : Hulls lv) (h : Sorted lv lw) : Hulls lw := fun l hl t ht => by
  obtain ⟨i, hi, rfl⟩ := List.mem_iff_getElem.1 hl
  have hi' : i < lv.length := by rw [← h.1]; exact hi
  have a1 := List.getElem?_eq_getElem hi
  have b1 := List.getElem?_eq_getElem hi'
  rcases Nat.eq_zero_or_pos i with rfl | h0
  · have := h.2.1
    rw [a1, b1] at this
    simp only [Option.some.injEq] at this
    exact H _ (List.getElem_mem hi') t (by rw [← this]; exact ht)
  · exact H _ (List.getElem_mem hi') t ((h.2.2 i _ _ h0 b1 a1).1.mem_iff.1 ht)
theorem Sorted.totL {lv lw : Lv} (h : Sorted lv lw) : totL lw = totL lv := by
  have : lw.map List.length = lv.map List.length := by
    apply List.ext_getElem (by simp [h.1])
    intro i h1 h2
    simp only [List.length_map] at h1 h2
    simp only [List.getElem_map]
    have a1 := List.getElem?_eq_getElem h1
    have b1 := List.getElem?_eq_getElem h2
    rcases Nat.eq_zero_or_pos i with rfl | h0
    · have := h.2.1
      rw [a1, b1] at this
      simp only [Option.some.injEq] at this
      rw [this]
    · exact (h.2.2 i _ _ h0 b1 a1).1.length_eq
  unfold Go.Eng.Ytblghgacokoklaa.totL; rw [this]
theorem Res.ok {lv lw : Lv} {e : Edit} (h : Res lv e 0 lw) : e.ptr.length = lv.length ∧ ∃ l2, Sorted l2 lw ∧ totL l2 ≤ totL lv + e.inn.length ∧ l2.length = lv.length ∧ (Hulls lv → Hulls l2) := by
  unfold Res at h
  split at h
  · next h1 =>
    split at h
    · split at h
      · rcases h with ⟨h, _⟩ | ⟨_, h⟩
        · exact absurd h (by decide)
        · have a := outM_sum e.out lv
          have b := inM_sum e.inn (outM e.out lv).2
          exact ⟨h1, _, h, by omega, by omega, fun H => b.2.2 (a.2.2 H)⟩
      · next h3 => exact absurd h.symm h3
    · next h2 => exact absurd h.symm h2
  · exact absurd h (by decide)
end Go.Eng.Ytblghgacokoklaa
end
section

set_option maxRecDepth 100000
set_option linter.unusedVariables false
open Go.Proofs
namespace Go.Eng.Ytblghgacokoklaa
def F89.T (p : Option Addr) (n : Int) : PT := fun h Q =>
  par ((0 : Int) ≤ n) (∃ b o, (p : Option Addr) = some ⟨b, o, none⟩ ∧ ∃ l : Sl, h.at b o = some (.slice l.a l.n l.c) ∧ par (n < (l.n : Int)) (Q (.bool true) h) (Q (.bool false) h)) (Q (.bool false) h)
theorem F89.den (V : Value → List Value → PT) (p : Option Addr) (n : Int) : denF Try.prog [] [] V [] Try.f89 [.v (.pointer p), .v (.int .i64 n)] = F89.T p n := by kernel_rfl
def F89.W (T89 : Option Addr → Int → PT) (args : List Value) : PT := match args with
  | [.pointer p, .int .i64 n] => T89 p n
  | _ => fun _ _ => False
def F89.V : List Value → PT := F89.W F89.T
theorem F89.ok : FOk Try.prog 89 F89.V := by
  refine ⟨⟨_, Try.func89, rfl, rfl⟩, fun args => ?_⟩
  have hG : GOk Try.prog [] := GOk.nil
  have hV : VOk Try.prog noV := noV_ok
  unfold F89.V F89.W
  split
  · exact denF_okV hG hV Try.func89 (fun h Q hq => (F89.den _ _ _) ▸ hq)
  · exact fun h Q hq => hq.elim
def F101.T (p : Option Addr) (m : Option Nat) : PT := fun h Q =>
  ∃ b o, (p : Option Addr) = some ⟨b, o, none⟩ ∧ ∃ l : Sl, h.at b o = some (.slice l.a l.n l.c) ∧ ∃ (I : Int → Hp → Prop) (m1 : Int → Hp → Nat), I 0 h ∧ (∀ n : Int, ∀ h1 : Hp, I n h1 → par (n < (l.n : Int)) (∃ b1 o1, (l.a : Option Addr) = some ⟨b1, o1, none⟩ ∧ ((0 : Int) ≤ n ∧ n < (l.n : Int)) ∧ ∃ l1 : Sl, h1.at b1 (o1 + n.toNat) = some (.slice l1.a l1.n l1.c) ∧ ∃ (I1 : Int → Hp → Prop) (m2 : Int → Hp → Nat), I1 0 h1 ∧ (∀ n1 : Int, ∀ h2 : Hp, I1 n1 h2 → par (n1 < (l1.n : Int)) (∃ b2 o2, (l1.a : Option Addr) = some ⟨b2, o2, none⟩ ∧ ((0 : Int) ≤ n1 ∧ n1 < (l1.n : Int)) ∧ ∃ n2 : Int, h2.at b2 (o2 + n1.toNat * 6) = some (.int .u64 n2) ∧ ∃ n3 : Int, h2.at b2 ((o2 + n1.toNat * 6) + 1) = some (.int .i64 n3) ∧ ∃ n4 : Int, h2.at b2 ((o2 + n1.toNat * 6) + 2) = some (.int .i64 n4) ∧ ∃ n5 : Int, h2.at b2 ((o2 + n1.toNat * 6) + 3) = some (.int .i64 n5) ∧ ∃ s : ByteArray, h2.at b2 ((o2 + n1.toNat * 6) + 4) = some (.string s) ∧ ∃ s1 : ByteArray, h2.at b2 ((o2 + n1.toNat * 6) + 5) = some (.string s1) ∧ ∃ es c, h2.mp m es c ∧ keysFit (.int .u64 n2) es ∧ ∃ n6 : Int, (mget es (.int .u64 n2) (.int .i64 0)) = .int .i64 n6 ∧ ∃ b3 es1 c1, (m : Option Nat) = some b3 ∧ h2 b3 = some (.map es1 c1) ∧ keysFit (.int .u64 n2) es1 ∧ I1 (IntKind.wrap .i64 (n1 + 1)) (h2.new b3 (mPut es1 c1 (.int .u64 n2) (.int .i64 (IntKind.wrap .i64 (n6 + 1))))) ∧ m2 (IntKind.wrap .i64 (n1 + 1)) (h2.new b3 (mPut es1 c1 (.int .u64 n2) (.int .i64 (IntKind.wrap .i64 (n6 + 1))))) < m2 n1 h2) (I (IntKind.wrap .i64 (n + 1)) h2 ∧ m1 (IntKind.wrap .i64 (n + 1)) h2 < m1 n h1))) (Q (.tuple ⟨[]⟩) h1))
theorem F101.den (V : Value → List Value → PT) (p : Option Addr) (m : Option Nat) : denF Try.prog [7] [] V [(6, .loop [(13, .int .i64)] []), (1638, .loop [(19, .int .i64)] [])] Try.f101 [.v (.pointer p), .v (.map m)] = F101.T p m := by kernel_rfl
def F101.W (T101 : Option Addr → Option Nat → PT) (args : List Value) : PT := match args with
  | [.pointer p, .map m] => T101 p m
  | _ => fun _ _ => False
def F101.V : List Value → PT := F101.W F101.T
theorem F101.ok : FOk Try.prog 101 F101.V := by
  refine ⟨⟨_, Try.func101, rfl, rfl⟩, fun args => ?_⟩
  have hG : GOk Try.prog [] := GOk.nil
  have hV : VOk Try.prog noV := noV_ok
  unfold F101.V F101.W
  split
  · exact denF_okV hG hV Try.func101 (fun h Q hq => (F101.den _ _ _) ▸ hq)
  · exact fun h Q hq => hq.elim
def F99.T (n : Int) (n1 : Int) (n2 : Int) (n3 : Int) (s : ByteArray) (s1 : ByteArray) (b : Nat) (o : Nat) : PT := fun h Q =>
  ∃ n4 : Int, h.at b (o + 1) = some (.int .u64 n4) ∧ par (n = n4) (Q (.bool true) h) (Q (.bool false) h)
theorem F99.den (V : Value → List Value → PT) (n : Int) (n1 : Int) (n2 : Int) (n3 : Int) (s : ByteArray) (s1 : ByteArray) (b : Nat) (o : Nat) : denF Try.prog [2] [] V [] Try.f99 [.v (.agg ⟨[.int .u64 n, .int .i64 n1, .int .i64 n2, .int .i64 n3, .string s, .string s1]⟩), .p b o] = F99.T n n1 n2 n3 s s1 b o := by kernel_rfl
def F99.W (T99 : Int → Int → Int → Int → ByteArray → ByteArray → Nat → Nat → PT) (args : List Value) : PT := match args with
  | [.agg ⟨[.int .u64 n, .int .i64 n1, .int .i64 n2, .int .i64 n3, .string s, .string s1]⟩, .pointer (some ⟨b, o, none⟩)] => T99 n n1 n2 n3 s s1 b o
  | _ => fun _ _ => False
def F99.V : List Value → PT := F99.W F99.T
theorem F99.ok : FOk Try.prog 99 F99.V := by
  refine ⟨⟨_, Try.func99, rfl, rfl⟩, fun args => ?_⟩
  have hG : GOk Try.prog [] := GOk.nil
  have hV : VOk Try.prog noV := noV_ok
  unfold F99.V F99.W
  split
  · exact denF_okA (xs := [.v _, .p _ _]) hG hV Try.func99 (inStep_cons rfl (inStep_cons rfl (inStep_nil _))) (by intro x hx; simp only [List.mem_cons, List.not_mem_nil, or_false] at hx; rcases hx with rfl | rfl <;> rfl) (fun h Q hq => (F99.den _ _ _ _ _ _ _ _ _) ▸ hq)
  · exact fun h Q hq => hq.elim
def F98.T (l : Sl) (b : Nat) (o : Nat) : PT := fun h Q =>
  ∃ (I : Int → Hp → Prop) (m : Int → Hp → Nat), I 0 h ∧ (∀ n : Int, ∀ h1 : Hp, I n h1 → par (n < (l.n : Int)) (∃ b1 o1, (l.a : Option Addr) = some ⟨b1, o1, none⟩ ∧ ((0 : Int) ≤ n ∧ n < (l.n : Int)) ∧ ∃ n1 : Int, h1.at b1 (o1 + n.toNat * 6) = some (.int .u64 n1) ∧ ∃ n2 : Int, h1.at b1 ((o1 + n.toNat * 6) + 1) = some (.int .i64 n2) ∧ ∃ n3 : Int, h1.at b1 ((o1 + n.toNat * 6) + 2) = some (.int .i64 n3) ∧ ∃ n4 : Int, h1.at b1 ((o1 + n.toNat * 6) + 3) = some (.int .i64 n4) ∧ ∃ s : ByteArray, h1.at b1 ((o1 + n.toNat * 6) + 4) = some (.string s) ∧ ∃ s1 : ByteArray, h1.at b1 ((o1 + n.toNat * 6) + 5) = some (.string s1) ∧ F99.T n1 n2 n3 n4 s s1 b o h1 fun r h2 => ∃ b2 : Bool, r = .bool b2 ∧ parB b2 (Q (.int .i64 n) h2) (I (IntKind.wrap .i64 (n + 1)) h2 ∧ m (IntKind.wrap .i64 (n + 1)) h2 < m n h1)) (Q (.int .i64 (-1)) h1))
theorem F98.gen (V : Value → List Value → PT) (T99 : Int → Int → Int → Int → ByteArray → ByteArray → Nat → Nat → PT) (l : Sl) (b : Nat) (o : Nat) : denF Try.prog [] [(99, F99.W T99)] V [(26, .loop [(8, .int .i64)] [])] Try.f98 [.v (.slice l.a l.n l.c), .v (.func (.func 99) ⟨[]⟩ ⟨[.pointer (some ⟨b, o, none⟩)]⟩)] = fun h Q =>
  ∃ (I : Int → Hp → Prop) (m : Int → Hp → Nat), I 0 h ∧ (∀ n : Int, ∀ h1 : Hp, I n h1 → par (n < (l.n : Int)) (∃ b1 o1, (l.a : Option Addr) = some ⟨b1, o1, none⟩ ∧ ((0 : Int) ≤ n ∧ n < (l.n : Int)) ∧ ∃ n1 : Int, h1.at b1 (o1 + n.toNat * 6) = some (.int .u64 n1) ∧ ∃ n2 : Int, h1.at b1 ((o1 + n.toNat * 6) + 1) = some (.int .i64 n2) ∧ ∃ n3 : Int, h1.at b1 ((o1 + n.toNat * 6) + 2) = some (.int .i64 n3) ∧ ∃ n4 : Int, h1.at b1 ((o1 + n.toNat * 6) + 3) = some (.int .i64 n4) ∧ ∃ s : ByteArray, h1.at b1 ((o1 + n.toNat * 6) + 4) = some (.string s) ∧ ∃ s1 : ByteArray, h1.at b1 ((o1 + n.toNat * 6) + 5) = some (.string s1) ∧ T99 n1 n2 n3 n4 s s1 b o h1 fun r h2 => ∃ b2 : Bool, r = .bool b2 ∧ parB b2 (Q (.int .i64 n) h2) (I (IntKind.wrap .i64 (n + 1)) h2 ∧ m (IntKind.wrap .i64 (n + 1)) h2 < m n h1)) (Q (.int .i64 (-1)) h1)) := by kernel_rfl
theorem F98.den (V : Value → List Value → PT) (l : Sl) (b : Nat) (o : Nat) : denF Try.prog [] [(99, F99.V)] V [(26, .loop [(8, .int .i64)] [])] Try.f98 [.v (.slice l.a l.n l.c), .v (.func (.func 99) ⟨[]⟩ ⟨[.pointer (some ⟨b, o, none⟩)]⟩)] = F98.T l b o := F98.gen V F99.T l b o
def F98.W (T98 : Sl → Nat → Nat → PT) (args : List Value) : PT := match args with
  | [.slice l_a l_n l_c, .func (.func 99) ⟨[]⟩ ⟨[.pointer (some ⟨b, o, none⟩)]⟩] => T98 ⟨l_a, l_n, l_c⟩ b o
  | _ => fun _ _ => False
def F98.V : List Value → PT := F98.W F98.T
theorem F98.ok : FOk Try.prog 98 F98.V := by
  refine ⟨⟨_, Try.func98, rfl, rfl⟩, fun args => ?_⟩
  have hG : GOk Try.prog [(99, F99.V)] := GOk.cons F99.ok (GOk.nil)
  have hV : VOk Try.prog noV := noV_ok
  unfold F98.V F98.W
  split
  · exact denF_okV hG hV Try.func98 (fun h Q hq => (F98.den _ _ _ _) ▸ hq)
  · exact fun h Q hq => hq.elim
def F100.T (l : Sl) (n : Int) (n1 : Int) : PT := fun h Q =>
  Sl.okCut l n n1 (l.n : Int) ∧ par (n = n1) (Q (.slice l.a l.n l.c) h) (Sl.okCut l 0 n (l.c : Int) ∧ Sl.okCut l n1 (l.n : Int) (l.c : Int) ∧ ∃ vs, h.row ((Sl.cut l 6 n1 (l.n : Int) (l.c : Int)).a) (((Sl.cut l 6 n1 (l.n : Int) (l.c : Int)).n) * 6) vs ∧ (∀ v ∈ vs, Value.oneCell' v = true) ∧ appendD (Sl.cut l 6 0 n (l.c : Int)) 85 6 64 [.int .u64 0, .int .i64 0, .int .i64 0, .int .i64 0, .string (ByteArray.mk #[]), .string (ByteArray.mk #[])] ((Sl.cut l 6 n1 (l.n : Int) (l.c : Int)).n) vs h fun l1 h1 => Sl.okCut l1 (l1.n : Int) (l.n : Int) (l1.c : Int) ∧ h1.canWA ((Sl.cut l1 6 (l1.n : Int) (l.n : Int) (l1.c : Int)).a) (((Sl.cut l1 6 (l1.n : Int) (l.n : Int) (l1.c : Int)).n) * 6) ∧ Q (.slice l1.a l1.n l1.c) (h1.wrA ((Sl.cut l1 6 (l1.n : Int) (l.n : Int) (l1.c : Int)).a) (zerosV [.int .u64 0, .int .i64 0, .int .i64 0, .int .i64 0, .string (ByteArray.mk #[]), .string (ByteArray.mk #[])] ((Sl.cut l1 6 (l1.n : Int) (l.n : Int) (l1.c : Int)).n))))
theorem F100.den (V : Value → List Value → PT) (l : Sl) (n : Int) (n1 : Int) : denF Try.prog [] [] V [(62, .order [0, 1, 2, 3, 4, 5, 6, 7])] Try.f100 [.v (.slice l.a l.n l.c), .v (.int .i64 n), .v (.int .i64 n1)] = F100.T l n n1 := by kernel_rfl
def F100.W (T100 : Sl → Int → Int → PT) (args : List Value) : PT := match args with
  | [.slice l_a l_n l_c, .int .i64 n, .int .i64 n1] => T100 ⟨l_a, l_n, l_c⟩ n n1
  | _ => fun _ _ => False
def F100.V : List Value → PT := F100.W F100.T
theorem F100.ok : FOk Try.prog 100 F100.V := by
  refine ⟨⟨_, Try.func100, rfl, rfl⟩, fun args => ?_⟩
  have hG : GOk Try.prog [] := GOk.nil
  have hV : VOk Try.prog noV := noV_ok
  unfold F100.V F100.W
  split
  · exact denF_okV hG hV Try.func100 (fun h Q hq => (F100.den _ _ _ _) ▸ hq)
  · exact fun h Q hq => hq.elim
end Go.Eng.Ytblghgacokoklaa
end
section

set_option maxRecDepth 100000
set_option linter.unusedVariables false
open Go.Proofs
namespace Go.Eng.Ytblghgacokoklaa
def F82.T (p : Option Addr) : PT := fun h Q =>
  ∃ b o, (p : Option Addr) = some ⟨b, o, none⟩ ∧ ∃ l : Sl, h.at b o = some (.slice l.a l.n l.c) ∧ ((0 : Int) ≤ (l.n : Int) ∧ (l.n : Int) ≤ (l.n : Int) ∧ 24 * (l.n : Int) ≤ 281474976710656) ∧ ∀ b1, h b1 = none → ∃ b2 o1, (p : Option Addr) = some ⟨b2, o1, none⟩ ∧ ∃ l1 : Sl, (h.new b1 (.cells (Builtin.zeroCells (List.toArray [.slice none 0 0]) ((l.n : Int) : Int).toNat) 106 (0, 0))).at b2 o1 = some (.slice l1.a l1.n l1.c) ∧ ∃ (I : Int → Hp → Prop) (m : Int → Hp → Nat), I 0 (h.new b1 (.cells (Builtin.zeroCells (List.toArray [.slice none 0 0]) ((l.n : Int) : Int).toNat) 106 (0, 0))) ∧ (∀ n : Int, ∀ h1 : Hp, I n h1 → par (n < (l1.n : Int)) (∃ b3 o2, (l1.a : Option Addr) = some ⟨b3, o2, none⟩ ∧ ((0 : Int) ≤ n ∧ n < (l1.n : Int)) ∧ ∃ l2 : Sl, h1.at b3 (o2 + n.toNat) = some (.slice l2.a l2.n l2.c) ∧ ((0 : Int) ≤ (l2.n : Int) ∧ (l2.n : Int) ≤ (l2.n : Int) ∧ 64 * (l2.n : Int) ≤ 281474976710656) ∧ ∀ b4, h1 b4 = none → ∃ b5 o3, ((some ⟨b1, 0, none⟩) : Option Addr) = some ⟨b5, o3, none⟩ ∧ ((0 : Int) ≤ n ∧ n < (((l.n : Int) : Int).toNat : Int)) ∧ (h1.new b4 (.cells (Builtin.zeroCells (List.toArray [.int .u64 0, .int .i64 0, .int .i64 0, .int .i64 0, .string (ByteArray.mk #[]), .string (ByteArray.mk #[])]) ((l2.n : Int) : Int).toNat) 85 (0, 0))).canW b5 (o3 + n.toNat) 1 ∧ ∃ b6 o4, ((some ⟨b1, 0, none⟩) : Option Addr) = some ⟨b6, o4, none⟩ ∧ ((0 : Int) ≤ n ∧ n < (((l.n : Int) : Int).toNat : Int)) ∧ ∃ l3 : Sl, ((h1.new b4 (.cells (Builtin.zeroCells (List.toArray [.int .u64 0, .int .i64 0, .int .i64 0, .int .i64 0, .string (ByteArray.mk #[]), .string (ByteArray.mk #[])]) ((l2.n : Int) : Int).toNat) 85 (0, 0))).wr b5 (o3 + n.toNat) [.slice (some ⟨b4, 0, none⟩) ((l2.n : Int) : Int).toNat ((l2.n : Int) : Int).toNat]).at b6 (o4 + n.toNat) = some (.slice l3.a l3.n l3.c) ∧ ∃ vs, ((h1.new b4 (.cells (Builtin.zeroCells (List.toArray [.int .u64 0, .int .i64 0, .int .i64 0, .int .i64 0, .string (ByteArray.mk #[]), .string (ByteArray.mk #[])]) ((l2.n : Int) : Int).toNat) 85 (0, 0))).wr b5 (o3 + n.toNat) [.slice (some ⟨b4, 0, none⟩) ((l2.n : Int) : Int).toNat ((l2.n : Int) : Int).toNat]).row l2.a ((Nat.min l2.n l3.n) * 6) vs ∧ (∀ v ∈ vs, Value.oneCell' v = true) ∧ ((h1.new b4 (.cells (Builtin.zeroCells (List.toArray [.int .u64 0, .int .i64 0, .int .i64 0, .int .i64 0, .string (ByteArray.mk #[]), .string (ByteArray.mk #[])]) ((l2.n : Int) : Int).toNat) 85 (0, 0))).wr b5 (o3 + n.toNat) [.slice (some ⟨b4, 0, none⟩) ((l2.n : Int) : Int).toNat ((l2.n : Int) : Int).toNat]).canWA l3.a vs.length ∧ I (IntKind.wrap .i64 (n + 1)) (((h1.new b4 (.cells (Builtin.zeroCells (List.toArray [.int .u64 0, .int .i64 0, .int .i64 0, .int .i64 0, .string (ByteArray.mk #[]), .string (ByteArray.mk #[])]) ((l2.n : Int) : Int).toNat) 85 (0, 0))).wr b5 (o3 + n.toNat) [.slice (some ⟨b4, 0, none⟩) ((l2.n : Int) : Int).toNat ((l2.n : Int) : Int).toNat]).wrA l3.a vs) ∧ m (IntKind.wrap .i64 (n + 1)) (((h1.new b4 (.cells (Builtin.zeroCells (List.toArray [.int .u64 0, .int .i64 0, .int .i64 0, .int .i64 0, .string (ByteArray.mk #[]), .string (ByteArray.mk #[])]) ((l2.n : Int) : Int).toNat) 85 (0, 0))).wr b5 (o3 + n.toNat) [.slice (some ⟨b4, 0, none⟩) ((l2.n : Int) : Int).toNat ((l2.n : Int) : Int).toNat]).wrA l3.a vs) < m n h1) (∀ b7, h1 b7 = none → Q (.pointer (some ⟨b7, 0, none⟩)) (h1.new b7 (.cells ⟨[.slice (some ⟨b1, 0, none⟩) ((l.n : Int) : Int).toNat ((l.n : Int) : Int).toNat]⟩ 150 (0, 0)))))
theorem F82.den (V : Value → List Value → PT) (p : Option Addr) : denF Try.prog [] [] V [(58, .loop [(17, .int .i64)] [])] Try.f82 [.v (.pointer p)] = F82.T p := by kernel_rfl
def F82.W (T82 : Option Addr → PT) (args : List Value) : PT := match args with
  | [.pointer p] => T82 p
  | _ => fun _ _ => False
def F82.V : List Value → PT := F82.W F82.T
theorem F82.ok : FOk Try.prog 82 F82.V := by
  refine ⟨⟨_, Try.func82, rfl, rfl⟩, fun args => ?_⟩
  have hG : GOk Try.prog [] := GOk.nil
  have hV : VOk Try.prog noV := noV_ok
  unfold F82.V F82.W
  split
  · exact denF_okV hG hV Try.func82 (fun h Q hq => (F82.den _ _) ▸ hq)
  · exact fun h Q hq => hq.elim
def F83.T (p : Option Addr) (l : Sl) : PT := fun h Q =>
  ∃ (I : Int → Hp → Prop) (m : Int → Hp → Nat), I 0 h ∧ (∀ n : Int, ∀ h1 : Hp, I n h1 → par (n < (l.n : Int)) (∃ b o, (l.a : Option Addr) = some ⟨b, o, none⟩ ∧ ((0 : Int) ≤ n ∧ n < (l.n : Int)) ∧ ∃ n1 : Int, h1.at b (o + n.toNat * 2) = some (.int .i64 n1) ∧ ∃ n2 : Int, h1.at b ((o + n.toNat * 2) + 1) = some (.int .u64 n2) ∧ ∀ b1, h1 b1 = none → (h1.new b1 (.cells ⟨[.int .i64 0, .int .u64 0]⟩ 89 (0, 0))).canW b1 0 2 ∧ ∃ n3 : Int, ((h1.new b1 (.cells ⟨[.int .i64 0, .int .u64 0]⟩ 89 (0, 0))).wr b1 0 [.int .i64 n1, .int .u64 n2]).at b1 0 = some (.int .i64 n3) ∧ F89.T p n3 ((h1.new b1 (.cells ⟨[.int .i64 0, .int .u64 0]⟩ 89 (0, 0))).wr b1 0 [.int .i64 n1, .int .u64 n2]) fun r h2 => ∃ b2 : Bool, r = .bool b2 ∧ parB b2 (∃ b3 o1, (p : Option Addr) = some ⟨b3, o1, none⟩ ∧ ∃ l1 : Sl, h2.at b3 o1 = some (.slice l1.a l1.n l1.c) ∧ ∃ n4 : Int, h2.at b1 0 = some (.int .i64 n4) ∧ ∃ b4 o2, (l1.a : Option Addr) = some ⟨b4, o2, none⟩ ∧ ((0 : Int) ≤ n4 ∧ n4 < (l1.n : Int)) ∧ ∃ l2 : Sl, h2.at b4 (o2 + n4.toNat) = some (.slice l2.a l2.n l2.c) ∧ h2.at b3 o1 = some (.slice l1.a l1.n l1.c) ∧ h2.at b1 0 = some (.int .i64 n4) ∧ h2.at b4 (o2 + n4.toNat) = some (.slice l2.a l2.n l2.c) ∧ F98.T l2 b1 0 h2 fun r1 h3 => ∃ n5 : Int, r1 = .int .i64 n5 ∧ par (n5 < 0) (Q (.int .i64 130) h3) (∃ b5 o3, (p : Option Addr) = some ⟨b5, o3, none⟩ ∧ ∃ l3 : Sl, h3.at b5 o3 = some (.slice l3.a l3.n l3.c) ∧ ∃ n6 : Int, h3.at b1 0 = some (.int .i64 n6) ∧ ∃ b6 o4, (p : Option Addr) = some ⟨b6, o4, none⟩ ∧ ∃ l4 : Sl, h3.at b6 o4 = some (.slice l4.a l4.n l4.c) ∧ ∃ n7 : Int, h3.at b1 0 = some (.int .i64 n7) ∧ ∃ b7 o5, (l4.a : Option Addr) = some ⟨b7, o5, none⟩ ∧ ((0 : Int) ≤ n7 ∧ n7 < (l4.n : Int)) ∧ ∃ l5 : Sl, h3.at b7 (o5 + n7.toNat) = some (.slice l5.a l5.n l5.c) ∧ F100.T l5 n5 (IntKind.wrap .i64 (n5 + 1)) h3 fun r2 h4 => ∃ l6 : Sl, r2 = .slice l6.a l6.n l6.c ∧ h4.at b5 o3 = some (.slice l3.a l3.n l3.c) ∧ h4.at b1 0 = some (.int .i64 n6) ∧ ∃ b8 o6, (l3.a : Option Addr) = some ⟨b8, o6, none⟩ ∧ ((0 : Int) ≤ n6 ∧ n6 < (l3.n : Int)) ∧ h4.canW b8 (o6 + n6.toNat) 1 ∧ I (IntKind.wrap .i64 (n + 1)) (h4.wr b8 (o6 + n6.toNat) [.slice l6.a l6.n l6.c]) ∧ m (IntKind.wrap .i64 (n + 1)) (h4.wr b8 (o6 + n6.toNat) [.slice l6.a l6.n l6.c]) < m n h1)) (Q (.int .i64 133) h2)) (Q (.int .i64 0) h1))
theorem F83.gen (V : Value → List Value → PT) (T89 : Option Addr → Int → PT) (T98 : Sl → Nat → Nat → PT) (T100 : Sl → Int → Int → PT) (p : Option Addr) (l : Sl) : denF Try.prog [] [(89, F89.W T89), (98, F98.W T98), (100, F100.W T100)] V [(26, .loop [(10, .int .i64)] []), (6758, .order [0, 1, 2, 3, 4, 5, 6, 7, 8, 9, 10]), (13519, .order [0, 1, 2, 3, 4, 5, 6, 7, 8, 9, 10, 11, 12, 13, 14, 15, 16, 17, 18, 19])] Try.f83 [.v (.pointer p), .v (.slice l.a l.n l.c)] = fun h Q =>
  ∃ (I : Int → Hp → Prop) (m : Int → Hp → Nat), I 0 h ∧ (∀ n : Int, ∀ h1 : Hp, I n h1 → par (n < (l.n : Int)) (∃ b o, (l.a : Option Addr) = some ⟨b, o, none⟩ ∧ ((0 : Int) ≤ n ∧ n < (l.n : Int)) ∧ ∃ n1 : Int, h1.at b (o + n.toNat * 2) = some (.int .i64 n1) ∧ ∃ n2 : Int, h1.at b ((o + n.toNat * 2) + 1) = some (.int .u64 n2) ∧ ∀ b1, h1 b1 = none → (h1.new b1 (.cells ⟨[.int .i64 0, .int .u64 0]⟩ 89 (0, 0))).canW b1 0 2 ∧ ∃ n3 : Int, ((h1.new b1 (.cells ⟨[.int .i64 0, .int .u64 0]⟩ 89 (0, 0))).wr b1 0 [.int .i64 n1, .int .u64 n2]).at b1 0 = some (.int .i64 n3) ∧ T89 p n3 ((h1.new b1 (.cells ⟨[.int .i64 0, .int .u64 0]⟩ 89 (0, 0))).wr b1 0 [.int .i64 n1, .int .u64 n2]) fun r h2 => ∃ b2 : Bool, r = .bool b2 ∧ parB b2 (∃ b3 o1, (p : Option Addr) = some ⟨b3, o1, none⟩ ∧ ∃ l1 : Sl, h2.at b3 o1 = some (.slice l1.a l1.n l1.c) ∧ ∃ n4 : Int, h2.at b1 0 = some (.int .i64 n4) ∧ ∃ b4 o2, (l1.a : Option Addr) = some ⟨b4, o2, none⟩ ∧ ((0 : Int) ≤ n4 ∧ n4 < (l1.n : Int)) ∧ ∃ l2 : Sl, h2.at b4 (o2 + n4.toNat) = some (.slice l2.a l2.n l2.c) ∧ h2.at b3 o1 = some (.slice l1.a l1.n l1.c) ∧ h2.at b1 0 = some (.int .i64 n4) ∧ h2.at b4 (o2 + n4.toNat) = some (.slice l2.a l2.n l2.c) ∧ T98 l2 b1 0 h2 fun r1 h3 => ∃ n5 : Int, r1 = .int .i64 n5 ∧ par (n5 < 0) (Q (.int .i64 130) h3) (∃ b5 o3, (p : Option Addr) = some ⟨b5, o3, none⟩ ∧ ∃ l3 : Sl, h3.at b5 o3 = some (.slice l3.a l3.n l3.c) ∧ ∃ n6 : Int, h3.at b1 0 = some (.int .i64 n6) ∧ ∃ b6 o4, (p : Option Addr) = some ⟨b6, o4, none⟩ ∧ ∃ l4 : Sl, h3.at b6 o4 = some (.slice l4.a l4.n l4.c) ∧ ∃ n7 : Int, h3.at b1 0 = some (.int .i64 n7) ∧ ∃ b7 o5, (l4.a : Option Addr) = some ⟨b7, o5, none⟩ ∧ ((0 : Int) ≤ n7 ∧ n7 < (l4.n : Int)) ∧ ∃ l5 : Sl, h3.at b7 (o5 + n7.toNat) = some (.slice l5.a l5.n l5.c) ∧ T100 l5 n5 (IntKind.wrap .i64 (n5 + 1)) h3 fun r2 h4 => ∃ l6 : Sl, r2 = .slice l6.a l6.n l6.c ∧ h4.at b5 o3 = some (.slice l3.a l3.n l3.c) ∧ h4.at b1 0 = some (.int .i64 n6) ∧ ∃ b8 o6, (l3.a : Option Addr) = some ⟨b8, o6, none⟩ ∧ ((0 : Int) ≤ n6 ∧ n6 < (l3.n : Int)) ∧ h4.canW b8 (o6 + n6.toNat) 1 ∧ I (IntKind.wrap .i64 (n + 1)) (h4.wr b8 (o6 + n6.toNat) [.slice l6.a l6.n l6.c]) ∧ m (IntKind.wrap .i64 (n + 1)) (h4.wr b8 (o6 + n6.toNat) [.slice l6.a l6.n l6.c]) < m n h1)) (Q (.int .i64 133) h2)) (Q (.int .i64 0) h1)) := by kernel_rfl
theorem F83.den (V : Value → List Value → PT) (p : Option Addr) (l : Sl) : denF Try.prog [] [(89, F89.V), (98, F98.V), (100, F100.V)] V [(26, .loop [(10, .int .i64)] []), (6758, .order [0, 1, 2, 3, 4, 5, 6, 7, 8, 9, 10]), (13519, .order [0, 1, 2, 3, 4, 5, 6, 7, 8, 9, 10, 11, 12, 13, 14, 15, 16, 17, 18, 19])] Try.f83 [.v (.pointer p), .v (.slice l.a l.n l.c)] = F83.T p l := F83.gen V F89.T F98.T F100.T p l
def F83.W (T83 : Option Addr → Sl → PT) (args : List Value) : PT := match args with
  | [.pointer p, .slice l_a l_n l_c] => T83 p ⟨l_a, l_n, l_c⟩
  | _ => fun _ _ => False
def F83.V : List Value → PT := F83.W F83.T
theorem F83.ok : FOk Try.prog 83 F83.V := by
  refine ⟨⟨_, Try.func83, rfl, rfl⟩, fun args => ?_⟩
  have hG : GOk Try.prog [(89, F89.V), (98, F98.V), (100, F100.V)] := GOk.cons F89.ok (GOk.cons F98.ok (GOk.cons F100.ok (GOk.nil)))
  have hV : VOk Try.prog noV := noV_ok
  unfold F83.V F83.W
  split
  · exact denF_okV hG hV Try.func83 (fun h Q hq => (F83.den _ _ _) ▸ hq)
  · exact fun h Q hq => hq.elim
def F84.T (p : Option Addr) (l : Sl) : PT := fun h Q =>
  ∀ b, h b = none → F101.T p (some b) (h.new b (.map #[] 0)) fun r h1 => ∃ (I : Int → Hp → Prop) (m : Int → Hp → Nat), I 0 h1 ∧ (∀ n : Int, ∀ h2 : Hp, I n h2 → par (n < (l.n : Int)) (∃ b1 o, (l.a : Option Addr) = some ⟨b1, o, none⟩ ∧ ((0 : Int) ≤ n ∧ n < (l.n : Int)) ∧ ∃ n1 : Int, h2.at b1 (o + n.toNat * 7) = some (.int .i64 n1) ∧ ∃ n2 : Int, h2.at b1 ((o + n.toNat * 7) + 1) = some (.int .u64 n2) ∧ ∃ n3 : Int, h2.at b1 ((o + n.toNat * 7) + 2) = some (.int .i64 n3) ∧ ∃ n4 : Int, h2.at b1 ((o + n.toNat * 7) + 3) = some (.int .i64 n4) ∧ ∃ n5 : Int, h2.at b1 ((o + n.toNat * 7) + 4) = some (.int .i64 n5) ∧ ∃ s : ByteArray, h2.at b1 ((o + n.toNat * 7) + 5) = some (.string s) ∧ ∃ s1 : ByteArray, h2.at b1 ((o + n.toNat * 7) + 6) = some (.string s1) ∧ F89.T p n1 h2 fun r1 h3 => ∃ b2 : Bool, r1 = .bool b2 ∧ parB b2 (∃ es c, h3.mp (some b) es c ∧ keysFit (.int .u64 n2) es ∧ ∃ n6 : Int, (mget es (.int .u64 n2) (.int .i64 0)) = .int .i64 n6 ∧ par ((0 : Int) < n6) (Q (.int .i64 131) h3) (par (sLt s1 s) (Q (.int .i64 132) h3) (∃ es1 c1, h3.mp (some b) es1 c1 ∧ keysFit (.int .u64 n2) es1 ∧ ∃ n7 : Int, (mget es1 (.int .u64 n2) (.int .i64 0)) = .int .i64 n7 ∧ ∃ b3 es2 c2, ((some b) : Option Nat) = some b3 ∧ h3 b3 = some (.map es2 c2) ∧ keysFit (.int .u64 n2) es2 ∧ ∃ b4 o1, (p : Option Addr) = some ⟨b4, o1, none⟩ ∧ ∃ l1 : Sl, (h3.new b3 (mPut es2 c2 (.int .u64 n2) (.int .i64 (IntKind.wrap .i64 (n7 + 1))))).at b4 o1 = some (.slice l1.a l1.n l1.c) ∧ ∃ b5 o2, (p : Option Addr) = some ⟨b5, o2, none⟩ ∧ ∃ l2 : Sl, (h3.new b3 (mPut es2 c2 (.int .u64 n2) (.int .i64 (IntKind.wrap .i64 (n7 + 1))))).at b5 o2 = some (.slice l2.a l2.n l2.c) ∧ ∃ b6 o3, (l2.a : Option Addr) = some ⟨b6, o3, none⟩ ∧ ((0 : Int) ≤ n1 ∧ n1 < (l2.n : Int)) ∧ ∃ l3 : Sl, (h3.new b3 (mPut es2 c2 (.int .u64 n2) (.int .i64 (IntKind.wrap .i64 (n7 + 1))))).at b6 (o3 + n1.toNat) = some (.slice l3.a l3.n l3.c) ∧ (h3.new b3 (mPut es2 c2 (.int .u64 n2) (.int .i64 (IntKind.wrap .i64 (n7 + 1))))).at b4 o1 = some (.slice l1.a l1.n l1.c) ∧ (h3.new b3 (mPut es2 c2 (.int .u64 n2) (.int .i64 (IntKind.wrap .i64 (n7 + 1))))).at b5 o2 = some (.slice l2.a l2.n l2.c) ∧ (h3.new b3 (mPut es2 c2 (.int .u64 n2) (.int .i64 (IntKind.wrap .i64 (n7 + 1))))).at b6 (o3 + n1.toNat) = some (.slice l3.a l3.n l3.c) ∧ appendD l3 85 6 64 [.int .u64 0, .int .i64 0, .int .i64 0, .int .i64 0, .string (ByteArray.mk #[]), .string (ByteArray.mk #[])] 1 [.int .u64 n2, .int .i64 n3, .int .i64 n4, .int .i64 n5, .string s, .string s1] (h3.new b3 (mPut es2 c2 (.int .u64 n2) (.int .i64 (IntKind.wrap .i64 (n7 + 1))))) fun l4 h4 => h4.at b4 o1 = some (.slice l1.a l1.n l1.c) ∧ ∃ b7 o4, (l1.a : Option Addr) = some ⟨b7, o4, none⟩ ∧ ((0 : Int) ≤ n1 ∧ n1 < (l1.n : Int)) ∧ h4.canW b7 (o4 + n1.toNat) 1 ∧ I (IntKind.wrap .i64 (n + 1)) (h4.wr b7 (o4 + n1.toNat) [.slice l4.a l4.n l4.c]) ∧ m (IntKind.wrap .i64 (n + 1)) (h4.wr b7 (o4 + n1.toNat) [.slice l4.a l4.n l4.c]) < m n h2))) (Q (.int .i64 133) h3)) (∃ b8 o5, (p : Option Addr) = some ⟨b8, o5, none⟩ ∧ ∃ l5 : Sl, h2.at b8 o5 = some (.slice l5.a l5.n l5.c) ∧ Sl.okCut l5 1 (l5.n : Int) (l5.c : Int) ∧ ∃ (I1 : Int → Hp → Prop) (m1 : Int → Hp → Nat), I1 0 h2 ∧ (∀ n8 : Int, ∀ h5 : Hp, I1 n8 h5 → par (n8 < ((Sl.cut l5 1 1 (l5.n : Int) (l5.c : Int)).n : Int)) (∃ b9 o6, ((Sl.cut l5 1 1 (l5.n : Int) (l5.c : Int)).a : Option Addr) = some ⟨b9, o6, none⟩ ∧ ((0 : Int) ≤ n8 ∧ n8 < ((Sl.cut l5 1 1 (l5.n : Int) (l5.c : Int)).n : Int)) ∧ ∃ l6 : Sl, h5.at b9 (o6 + n8.toNat) = some (.slice l6.a l6.n l6.c) ∧ F102.T l6 h5 fun r2 h6 => ∃ (I2 : Int → Hp → Prop) (m2 : Int → Hp → Nat), I2 1 h6 ∧ (∀ n9 : Int, ∀ h7 : Hp, I2 n9 h7 → par (n9 < (l6.n : Int)) (∃ b10 o7, (l6.a : Option Addr) = some ⟨b10, o7, none⟩ ∧ ((0 : Int) ≤ n9 ∧ n9 < (l6.n : Int)) ∧ ∃ s2 : ByteArray, h7.at b10 ((o7 + n9.toNat * 6) + 4) = some (.string s2) ∧ ∃ b11 o8, (l6.a : Option Addr) = some ⟨b11, o8, none⟩ ∧ ((0 : Int) ≤ (IntKind.wrap .i64 (n9 - 1)) ∧ (IntKind.wrap .i64 (n9 - 1)) < (l6.n : Int)) ∧ ∃ s3 : ByteArray, h7.at b11 ((o8 + ((IntKind.wrap .i64 (n9 - 1))).toNat * 6) + 5) = some (.string s3) ∧ par (sLt s2 s3 ∨ s2 = s3) (Q (.int .i64 132) h7) (I2 (IntKind.wrap .i64 (n9 + 1)) h7 ∧ m2 (IntKind.wrap .i64 (n9 + 1)) h7 < m2 n9 h7)) (I1 (IntKind.wrap .i64 (n8 + 1)) h7 ∧ m1 (IntKind.wrap .i64 (n8 + 1)) h7 < m1 n8 h5))) (Q (.int .i64 0) h5))))
theorem F84.gen (V : Value → List Value → PT) (T89 : Option Addr → Int → PT) (T101 : Option Addr → Option Nat → PT) (T102 : Sl → PT) (p : Option Addr) (l : Sl) : denF Try.prog [7, 64] [(89, F89.W T89), (101, F101.W T101), (102, F102.W T102)] V [(122, .loop [(17, .int .i64)] []), (250, .loop [(74, .int .i64)] []), (31335, .order [0, 1, 2, 3, 4, 5, 6, 7, 8, 9, 10, 11, 12, 13, 14, 15, 16, 17, 18, 19]), (128206, .loop [(10, .int .i64)] []), (4102600, .order [0, 1, 2, 3, 4, 5, 6, 7, 8, 9, 10, 11])] Try.f84 [.v (.pointer p), .v (.slice l.a l.n l.c)] = fun h Q =>
  ∀ b, h b = none → T101 p (some b) (h.new b (.map #[] 0)) fun r h1 => ∃ (I : Int → Hp → Prop) (m : Int → Hp → Nat), I 0 h1 ∧ (∀ n : Int, ∀ h2 : Hp, I n h2 → par (n < (l.n : Int)) (∃ b1 o, (l.a : Option Addr) = some ⟨b1, o, none⟩ ∧ ((0 : Int) ≤ n ∧ n < (l.n : Int)) ∧ ∃ n1 : Int, h2.at b1 (o + n.toNat * 7) = some (.int .i64 n1) ∧ ∃ n2 : Int, h2.at b1 ((o + n.toNat * 7) + 1) = some (.int .u64 n2) ∧ ∃ n3 : Int, h2.at b1 ((o + n.toNat * 7) + 2) = some (.int .i64 n3) ∧ ∃ n4 : Int, h2.at b1 ((o + n.toNat * 7) + 3) = some (.int .i64 n4) ∧ ∃ n5 : Int, h2.at b1 ((o + n.toNat * 7) + 4) = some (.int .i64 n5) ∧ ∃ s : ByteArray, h2.at b1 ((o + n.toNat * 7) + 5) = some (.string s) ∧ ∃ s1 : ByteArray, h2.at b1 ((o + n.toNat * 7) + 6) = some (.string s1) ∧ T89 p n1 h2 fun r1 h3 => ∃ b2 : Bool, r1 = .bool b2 ∧ parB b2 (∃ es c, h3.mp (some b) es c ∧ keysFit (.int .u64 n2) es ∧ ∃ n6 : Int, (mget es (.int .u64 n2) (.int .i64 0)) = .int .i64 n6 ∧ par ((0 : Int) < n6) (Q (.int .i64 131) h3) (par (sLt s1 s) (Q (.int .i64 132) h3) (∃ es1 c1, h3.mp (some b) es1 c1 ∧ keysFit (.int .u64 n2) es1 ∧ ∃ n7 : Int, (mget es1 (.int .u64 n2) (.int .i64 0)) = .int .i64 n7 ∧ ∃ b3 es2 c2, ((some b) : Option Nat) = some b3 ∧ h3 b3 = some (.map es2 c2) ∧ keysFit (.int .u64 n2) es2 ∧ ∃ b4 o1, (p : Option Addr) = some ⟨b4, o1, none⟩ ∧ ∃ l1 : Sl, (h3.new b3 (mPut es2 c2 (.int .u64 n2) (.int .i64 (IntKind.wrap .i64 (n7 + 1))))).at b4 o1 = some (.slice l1.a l1.n l1.c) ∧ ∃ b5 o2, (p : Option Addr) = some ⟨b5, o2, none⟩ ∧ ∃ l2 : Sl, (h3.new b3 (mPut es2 c2 (.int .u64 n2) (.int .i64 (IntKind.wrap .i64 (n7 + 1))))).at b5 o2 = some (.slice l2.a l2.n l2.c) ∧ ∃ b6 o3, (l2.a : Option Addr) = some ⟨b6, o3, none⟩ ∧ ((0 : Int) ≤ n1 ∧ n1 < (l2.n : Int)) ∧ ∃ l3 : Sl, (h3.new b3 (mPut es2 c2 (.int .u64 n2) (.int .i64 (IntKind.wrap .i64 (n7 + 1))))).at b6 (o3 + n1.toNat) = some (.slice l3.a l3.n l3.c) ∧ (h3.new b3 (mPut es2 c2 (.int .u64 n2) (.int .i64 (IntKind.wrap .i64 (n7 + 1))))).at b4 o1 = some (.slice l1.a l1.n l1.c) ∧ (h3.new b3 (mPut es2 c2 (.int .u64 n2) (.int .i64 (IntKind.wrap .i64 (n7 + 1))))).at b5 o2 = some (.slice l2.a l2.n l2.c) ∧ (h3.new b3 (mPut es2 c2 (.int .u64 n2) (.int .i64 (IntKind.wrap .i64 (n7 + 1))))).at b6 (o3 + n1.toNat) = some (.slice l3.a l3.n l3.c) ∧ appendD l3 85 6 64 [.int .u64 0, .int .i64 0, .int .i64 0, .int .i64 0, .string (ByteArray.mk #[]), .string (ByteArray.mk #[])] 1 [.int .u64 n2, .int .i64 n3, .int .i64 n4, .int .i64 n5, .string s, .string s1] (h3.new b3 (mPut es2 c2 (.int .u64 n2) (.int .i64 (IntKind.wrap .i64 (n7 + 1))))) fun l4 h4 => h4.at b4 o1 = some (.slice l1.a l1.n l1.c) ∧ ∃ b7 o4, (l1.a : Option Addr) = some ⟨b7, o4, none⟩ ∧ ((0 : Int) ≤ n1 ∧ n1 < (l1.n : Int)) ∧ h4.canW b7 (o4 + n1.toNat) 1 ∧ I (IntKind.wrap .i64 (n + 1)) (h4.wr b7 (o4 + n1.toNat) [.slice l4.a l4.n l4.c]) ∧ m (IntKind.wrap .i64 (n + 1)) (h4.wr b7 (o4 + n1.toNat) [.slice l4.a l4.n l4.c]) < m n h2))) (Q (.int .i64 133) h3)) (∃ b8 o5, (p : Option Addr) = some ⟨b8, o5, none⟩ ∧ ∃ l5 : Sl, h2.at b8 o5 = some (.slice l5.a l5.n l5.c) ∧ Sl.okCut l5 1 (l5.n : Int) (l5.c : Int) ∧ ∃ (I1 : Int → Hp → Prop) (m1 : Int → Hp → Nat), I1 0 h2 ∧ (∀ n8 : Int, ∀ h5 : Hp, I1 n8 h5 → par (n8 < ((Sl.cut l5 1 1 (l5.n : Int) (l5.c : Int)).n : Int)) (∃ b9 o6, ((Sl.cut l5 1 1 (l5.n : Int) (l5.c : Int)).a : Option Addr) = some ⟨b9, o6, none⟩ ∧ ((0 : Int) ≤ n8 ∧ n8 < ((Sl.cut l5 1 1 (l5.n : Int) (l5.c : Int)).n : Int)) ∧ ∃ l6 : Sl, h5.at b9 (o6 + n8.toNat) = some (.slice l6.a l6.n l6.c) ∧ T102 l6 h5 fun r2 h6 => ∃ (I2 : Int → Hp → Prop) (m2 : Int → Hp → Nat), I2 1 h6 ∧ (∀ n9 : Int, ∀ h7 : Hp, I2 n9 h7 → par (n9 < (l6.n : Int)) (∃ b10 o7, (l6.a : Option Addr) = some ⟨b10, o7, none⟩ ∧ ((0 : Int) ≤ n9 ∧ n9 < (l6.n : Int)) ∧ ∃ s2 : ByteArray, h7.at b10 ((o7 + n9.toNat * 6) + 4) = some (.string s2) ∧ ∃ b11 o8, (l6.a : Option Addr) = some ⟨b11, o8, none⟩ ∧ ((0 : Int) ≤ (IntKind.wrap .i64 (n9 - 1)) ∧ (IntKind.wrap .i64 (n9 - 1)) < (l6.n : Int)) ∧ ∃ s3 : ByteArray, h7.at b11 ((o8 + ((IntKind.wrap .i64 (n9 - 1))).toNat * 6) + 5) = some (.string s3) ∧ par (sLt s2 s3 ∨ s2 = s3) (Q (.int .i64 132) h7) (I2 (IntKind.wrap .i64 (n9 + 1)) h7 ∧ m2 (IntKind.wrap .i64 (n9 + 1)) h7 < m2 n9 h7)) (I1 (IntKind.wrap .i64 (n8 + 1)) h7 ∧ m1 (IntKind.wrap .i64 (n8 + 1)) h7 < m1 n8 h5))) (Q (.int .i64 0) h5)))) := by kernel_rfl
theorem F84.den (V : Value → List Value → PT) (p : Option Addr) (l : Sl) : denF Try.prog [7, 64] [(89, F89.V), (101, F101.V), (102, F102.V)] V [(122, .loop [(17, .int .i64)] []), (250, .loop [(74, .int .i64)] []), (31335, .order [0, 1, 2, 3, 4, 5, 6, 7, 8, 9, 10, 11, 12, 13, 14, 15, 16, 17, 18, 19]), (128206, .loop [(10, .int .i64)] []), (4102600, .order [0, 1, 2, 3, 4, 5, 6, 7, 8, 9, 10, 11])] Try.f84 [.v (.pointer p), .v (.slice l.a l.n l.c)] = F84.T p l := F84.gen V F89.T F101.T F102.T p l
def F84.W (T84 : Option Addr → Sl → PT) (args : List Value) : PT := match args with
  | [.pointer p, .slice l_a l_n l_c] => T84 p ⟨l_a, l_n, l_c⟩
  | _ => fun _ _ => False
def F84.V : List Value → PT := F84.W F84.T
theorem F84.ok : FOk Try.prog 84 F84.V := by
  refine ⟨⟨_, Try.func84, rfl, rfl⟩, fun args => ?_⟩
  have hG : GOk Try.prog [(89, F89.V), (101, F101.V), (102, F102.V)] := GOk.cons F89.ok (GOk.cons F101.ok (GOk.cons F102.ok (GOk.nil)))
  have hV : VOk Try.prog noV := noV_ok
  unfold F84.V F84.W
  split
  · exact denF_okV hG hV Try.func84 (fun h Q hq => (F84.den _ _ _) ▸ hq)
  · exact fun h Q hq => hq.elim
def F85.T (p : Option Addr) (p1 : Option Addr) : PT := fun h Q =>
  ∃ b o, (p : Option Addr) = some ⟨b, o, none⟩ ∧ ∃ m : Option Nat, h.at b (o + 3) = some (.map m) ∧ ∃ es c, h.mp m es c ∧ ∃ b1 o1, (p : Option Addr) = some ⟨b1, o1, none⟩ ∧ ∃ p2 : Option Addr, (h.setM m (.map #[] c)).at b1 o1 = some (.pointer p2) ∧ ∃ b2 o2, (p : Option Addr) = some ⟨b2, o2, none⟩ ∧ ∃ m1 : Option Nat, (h.setM m (.map #[] c)).at b2 (o2 + 3) = some (.map m1) ∧ F101.T p2 m1 (h.setM m (.map #[] c)) fun r h1 => ∃ b3 o3, (p : Option Addr) = some ⟨b3, o3, none⟩ ∧ ∃ m2 : Option Nat, h1.at b3 (o3 + 1) = some (.map m2) ∧ ∃ es1 c1, h1.mp m2 es1 c1 ∧ ∀ b4, h1 b4 = none → ∃ (I : Hp → Prop) (m3 : Hp → Nat), I (h1.new b4 (.mapIter m2 c1 #[] c1)) ∧ (∀ h2 : Hp, I h2 → ∃ ri mi si sn la es2 c2, ((some ⟨b4, 0, none⟩) : Option Addr) = some ⟨ri, 0, none⟩ ∧ h2 ri = some (.mapIter mi si sn la) ∧ h2.mp mi es2 c2 ∧ nextOk es2 sn la = true ∧ (∀ e, e ∈ es2.toList → sn.contains e.born = false → ∃ ri1 b5 si1 sn1 es3 c3 st e1, ((some ⟨b4, 0, none⟩) : Option Addr) = some ⟨ri1, 0, none⟩ ∧ (h2.new ri (.mapIter mi si (sn.push e.born) c2)) ri1 = some (.mapIter (some b5) si1 sn1 c3) ∧ sn1.back? = some st ∧ (h2.new ri (.mapIter mi si (sn.push e.born) c2)) b5 = some (.map es3 c3) ∧ es3.find? (fun e => e.born == st) = some e1 ∧ ∃ p3 : Option Addr, ∃ n : Int, [e1.key, e1.val] = [.pointer p3, .int .i64 n] ∧ ∃ b6 o4, (p : Option Addr) = some ⟨b6, o4, none⟩ ∧ ∃ m4 : Option Nat, (h2.new ri (.mapIter mi si (sn.push e.born) c2)).at b6 (o4 + 3) = some (.map m4) ∧ F101.T p3 m4 (h2.new ri (.mapIter mi si (sn.push e.born) c2)) fun r1 h3 => I h3 ∧ m3 h3 < m3 h2) ∧ ((∀ e ∈ es2.toList, e.born < si → sn.contains e.born = true) → ∃ b7 o5, (p1 : Option Addr) = some ⟨b7, o5, none⟩ ∧ ∃ l : Sl, h2.at b7 o5 = some (.slice l.a l.n l.c) ∧ ∃ (I1 : Sl → Int → Hp → Prop) (m5 : Sl → Int → Hp → Nat), I1 ⟨none, 0, 0⟩ 0 h2 ∧ (∀ l1 : Sl, ∀ n1 : Int, ∀ h4 : Hp, I1 l1 n1 h4 → par (n1 < (l.n : Int)) (∃ b8 o6, (l.a : Option Addr) = some ⟨b8, o6, none⟩ ∧ ((0 : Int) ≤ n1 ∧ n1 < (l.n : Int)) ∧ ∃ l2 : Sl, h4.at b8 (o6 + n1.toNat) = some (.slice l2.a l2.n l2.c) ∧ ∃ (I2 : Sl → Int → Hp → Prop) (m6 : Sl → Int → Hp → Nat), I2 l1 0 h4 ∧ (∀ l3 : Sl, ∀ n2 : Int, ∀ h5 : Hp, I2 l3 n2 h5 → par (n2 < (l2.n : Int)) (∃ b9 o7, (l2.a : Option Addr) = some ⟨b9, o7, none⟩ ∧ ((0 : Int) ≤ n2 ∧ n2 < (l2.n : Int)) ∧ ∃ n3 : Int, h5.at b9 (o7 + n2.toNat * 6) = some (.int .u64 n3) ∧ ∃ n4 : Int, h5.at b9 ((o7 + n2.toNat * 6) + 1) = some (.int .i64 n4) ∧ ∃ n5 : Int, h5.at b9 ((o7 + n2.toNat * 6) + 2) = some (.int .i64 n5) ∧ ∃ n6 : Int, h5.at b9 ((o7 + n2.toNat * 6) + 3) = some (.int .i64 n6) ∧ ∃ s : ByteArray, h5.at b9 ((o7 + n2.toNat * 6) + 4) = some (.string s) ∧ ∃ s1 : ByteArray, h5.at b9 ((o7 + n2.toNat * 6) + 5) = some (.string s1) ∧ ∃ b10 o8, (p : Option Addr) = some ⟨b10, o8, none⟩ ∧ ∃ m7 : Option Nat, h5.at b10 (o8 + 3) = some (.map m7) ∧ ∃ es4 c4, h5.mp m7 es4 c4 ∧ keysFit (.int .u64 n3) es4 ∧ ∃ n7 : Int, (mget es4 (.int .u64 n3) (.int .i64 0)) = .int .i64 n7 ∧ par (n7 = 0) (appendD l3 55 1 8 [.int .u64 0] 1 [.int .u64 n3] h5 fun l4 h6 => I2 l4 (IntKind.wrap .i64 (n2 + 1)) h6 ∧ m6 l4 (IntKind.wrap .i64 (n2 + 1)) h6 < m6 l3 n2 h5) (I2 l3 (IntKind.wrap .i64 (n2 + 1)) h5 ∧ m6 l3 (IntKind.wrap .i64 (n2 + 1)) h5 < m6 l3 n2 h5)) (I1 l3 (IntKind.wrap .i64 (n1 + 1)) h5 ∧ m5 l3 (IntKind.wrap .i64 (n1 + 1)) h5 < m5 l1 n1 h4))) (F105.T l1 h4 fun r2 h7 => Q (.slice l1.a l1.n l1.c) h7))))
theorem F85.gen (V : Value → List Value → PT) (T101 : Option Addr → Option Nat → PT) (T105 : Sl → PT) (p : Option Addr) (p1 : Option Addr) : denF Try.prog [10, 65, 137446096899] [(101, F101.W T101), (105, F105.W T105)] V [(14, .order [0, 1, 2, 3, 4, 5, 6, 7, 8]), (122, .loop [] []), (506, .loop [(6, .sl), (44, .int .i64)] []), (129638, .loop [(6, .sl), (50, .int .i64)] []), (16593714, .order [0, 1, 2, 3, 4, 5, 6, 7])] Try.f85 [.v (.pointer p), .v (.pointer p1)] = fun h Q =>
  ∃ b o, (p : Option Addr) = some ⟨b, o, none⟩ ∧ ∃ m : Option Nat, h.at b (o + 3) = some (.map m) ∧ ∃ es c, h.mp m es c ∧ ∃ b1 o1, (p : Option Addr) = some ⟨b1, o1, none⟩ ∧ ∃ p2 : Option Addr, (h.setM m (.map #[] c)).at b1 o1 = some (.pointer p2) ∧ ∃ b2 o2, (p : Option Addr) = some ⟨b2, o2, none⟩ ∧ ∃ m1 : Option Nat, (h.setM m (.map #[] c)).at b2 (o2 + 3) = some (.map m1) ∧ T101 p2 m1 (h.setM m (.map #[] c)) fun r h1 => ∃ b3 o3, (p : Option Addr) = some ⟨b3, o3, none⟩ ∧ ∃ m2 : Option Nat, h1.at b3 (o3 + 1) = some (.map m2) ∧ ∃ es1 c1, h1.mp m2 es1 c1 ∧ ∀ b4, h1 b4 = none → ∃ (I : Hp → Prop) (m3 : Hp → Nat), I (h1.new b4 (.mapIter m2 c1 #[] c1)) ∧ (∀ h2 : Hp, I h2 → ∃ ri mi si sn la es2 c2, ((some ⟨b4, 0, none⟩) : Option Addr) = some ⟨ri, 0, none⟩ ∧ h2 ri = some (.mapIter mi si sn la) ∧ h2.mp mi es2 c2 ∧ nextOk es2 sn la = true ∧ (∀ e, e ∈ es2.toList → sn.contains e.born = false → ∃ ri1 b5 si1 sn1 es3 c3 st e1, ((some ⟨b4, 0, none⟩) : Option Addr) = some ⟨ri1, 0, none⟩ ∧ (h2.new ri (.mapIter mi si (sn.push e.born) c2)) ri1 = some (.mapIter (some b5) si1 sn1 c3) ∧ sn1.back? = some st ∧ (h2.new ri (.mapIter mi si (sn.push e.born) c2)) b5 = some (.map es3 c3) ∧ es3.find? (fun e => e.born == st) = some e1 ∧ ∃ p3 : Option Addr, ∃ n : Int, [e1.key, e1.val] = [.pointer p3, .int .i64 n] ∧ ∃ b6 o4, (p : Option Addr) = some ⟨b6, o4, none⟩ ∧ ∃ m4 : Option Nat, (h2.new ri (.mapIter mi si (sn.push e.born) c2)).at b6 (o4 + 3) = some (.map m4) ∧ T101 p3 m4 (h2.new ri (.mapIter mi si (sn.push e.born) c2)) fun r1 h3 => I h3 ∧ m3 h3 < m3 h2) ∧ ((∀ e ∈ es2.toList, e.born < si → sn.contains e.born = true) → ∃ b7 o5, (p1 : Option Addr) = some ⟨b7, o5, none⟩ ∧ ∃ l : Sl, h2.at b7 o5 = some (.slice l.a l.n l.c) ∧ ∃ (I1 : Sl → Int → Hp → Prop) (m5 : Sl → Int → Hp → Nat), I1 ⟨none, 0, 0⟩ 0 h2 ∧ (∀ l1 : Sl, ∀ n1 : Int, ∀ h4 : Hp, I1 l1 n1 h4 → par (n1 < (l.n : Int)) (∃ b8 o6, (l.a : Option Addr) = some ⟨b8, o6, none⟩ ∧ ((0 : Int) ≤ n1 ∧ n1 < (l.n : Int)) ∧ ∃ l2 : Sl, h4.at b8 (o6 + n1.toNat) = some (.slice l2.a l2.n l2.c) ∧ ∃ (I2 : Sl → Int → Hp → Prop) (m6 : Sl → Int → Hp → Nat), I2 l1 0 h4 ∧ (∀ l3 : Sl, ∀ n2 : Int, ∀ h5 : Hp, I2 l3 n2 h5 → par (n2 < (l2.n : Int)) (∃ b9 o7, (l2.a : Option Addr) = some ⟨b9, o7, none⟩ ∧ ((0 : Int) ≤ n2 ∧ n2 < (l2.n : Int)) ∧ ∃ n3 : Int, h5.at b9 (o7 + n2.toNat * 6) = some (.int .u64 n3) ∧ ∃ n4 : Int, h5.at b9 ((o7 + n2.toNat * 6) + 1) = some (.int .i64 n4) ∧ ∃ n5 : Int, h5.at b9 ((o7 + n2.toNat * 6) + 2) = some (.int .i64 n5) ∧ ∃ n6 : Int, h5.at b9 ((o7 + n2.toNat * 6) + 3) = some (.int .i64 n6) ∧ ∃ s : ByteArray, h5.at b9 ((o7 + n2.toNat * 6) + 4) = some (.string s) ∧ ∃ s1 : ByteArray, h5.at b9 ((o7 + n2.toNat * 6) + 5) = some (.string s1) ∧ ∃ b10 o8, (p : Option Addr) = some ⟨b10, o8, none⟩ ∧ ∃ m7 : Option Nat, h5.at b10 (o8 + 3) = some (.map m7) ∧ ∃ es4 c4, h5.mp m7 es4 c4 ∧ keysFit (.int .u64 n3) es4 ∧ ∃ n7 : Int, (mget es4 (.int .u64 n3) (.int .i64 0)) = .int .i64 n7 ∧ par (n7 = 0) (appendD l3 55 1 8 [.int .u64 0] 1 [.int .u64 n3] h5 fun l4 h6 => I2 l4 (IntKind.wrap .i64 (n2 + 1)) h6 ∧ m6 l4 (IntKind.wrap .i64 (n2 + 1)) h6 < m6 l3 n2 h5) (I2 l3 (IntKind.wrap .i64 (n2 + 1)) h5 ∧ m6 l3 (IntKind.wrap .i64 (n2 + 1)) h5 < m6 l3 n2 h5)) (I1 l3 (IntKind.wrap .i64 (n1 + 1)) h5 ∧ m5 l3 (IntKind.wrap .i64 (n1 + 1)) h5 < m5 l1 n1 h4))) (T105 l1 h4 fun r2 h7 => Q (.slice l1.a l1.n l1.c) h7)))) := by kernel_rfl
theorem F85.den (V : Value → List Value → PT) (p : Option Addr) (p1 : Option Addr) : denF Try.prog [10, 65, 137446096899] [(101, F101.V), (105, F105.V)] V [(14, .order [0, 1, 2, 3, 4, 5, 6, 7, 8]), (122, .loop [] []), (506, .loop [(6, .sl), (44, .int .i64)] []), (129638, .loop [(6, .sl), (50, .int .i64)] []), (16593714, .order [0, 1, 2, 3, 4, 5, 6, 7])] Try.f85 [.v (.pointer p), .v (.pointer p1)] = F85.T p p1 := F85.gen V F101.T F105.T p p1
def F85.W (T85 : Option Addr → Option Addr → PT) (args : List Value) : PT := match args with
  | [.pointer p, .pointer p1] => T85 p p1
  | _ => fun _ _ => False
def F85.V : List Value → PT := F85.W F85.T
theorem F85.ok : FOk Try.prog 85 F85.V := by
  refine ⟨⟨_, Try.func85, rfl, rfl⟩, fun args => ?_⟩
  have hG : GOk Try.prog [(101, F101.V), (105, F105.V)] := GOk.cons F101.ok (GOk.cons F105.ok (GOk.nil))
  have hV : VOk Try.prog noV := noV_ok
  unfold F85.V F85.W
  split
  · exact denF_okV hG hV Try.func85 (fun h Q hq => (F85.den _ _ _) ▸ hq)
  · exact fun h Q hq => hq.elim
def F54.T (p : Option Addr) (n : Int) (n1 : Int) (n2 : Int) (l : Sl) (l1 : Sl) (l2 : Sl) : PT := fun h Q =>
  ∃ b o, (p : Option Addr) = some ⟨b, o, none⟩ ∧ ∃ p1 : Option Addr, h.at b o = some (.pointer p1) ∧ ∃ b1 o1, (p1 : Option Addr) = some ⟨b1, o1, none⟩ ∧ ∃ l3 : Sl, h.at b1 o1 = some (.slice l3.a l3.n l3.c) ∧ par ((l2.n : Int) = (l3.n : Int)) (∃ b2 o2, (p : Option Addr) = some ⟨b2, o2, none⟩ ∧ ∃ p2 : Option Addr, h.at b2 o2 = some (.pointer p2) ∧ F82.T p2 h fun r h1 => ∃ p3 : Option Addr, r = .pointer p3 ∧ F83.T p3 l h1 fun r1 h2 => ∃ n3 : Int, r1 = .int .i64 n3 ∧ par (n3 = 0) (F84.T p3 l1 h2 fun r2 h3 => ∃ n4 : Int, r2 = .int .i64 n4 ∧ par (n4 = 0) (∃ b3 o3, (p : Option Addr) = some ⟨b3, o3, none⟩ ∧ ∃ p4 : Option Addr, h3.at b3 o3 = some (.pointer p4) ∧ ∃ b4 o4, (p : Option Addr) = some ⟨b4, o4, none⟩ ∧ h3.canW b4 o4 1 ∧ ∃ b5 o5, (p : Option Addr) = some ⟨b5, o5, none⟩ ∧ ∃ l4 : Sl, (h3.wr b4 o4 [.pointer p3]).at b5 (o5 + 2) = some (.slice l4.a l4.n l4.c) ∧ ∃ vs, (h3.wr b4 o4 [.pointer p3]).row l2.a ((Nat.min l2.n l4.n) * 1) vs ∧ (∀ v ∈ vs, Value.oneCell' v = true) ∧ (h3.wr b4 o4 [.pointer p3]).canWA l4.a vs.length ∧ F85.T p p4 ((h3.wr b4 o4 [.pointer p3]).wrA l4.a vs) fun r3 h4 => ∃ l5 : Sl, r3 = .slice l5.a l5.n l5.c ∧ Q (.tuple ⟨[.slice l5.a l5.n l5.c, .int .i64 0]⟩) h4) (Q (.tuple ⟨[.slice none 0 0, .int .i64 n4]⟩) h3)) (Q (.tuple ⟨[.slice none 0 0, .int .i64 n3]⟩) h2)) (Q (.tuple ⟨[.slice none 0 0, .int .i64 133]⟩) h)
theorem F54.gen (V : Value → List Value → PT) (T82 : Option Addr → PT) (T83 : Option Addr → Sl → PT) (T84 : Option Addr → Sl → PT) (T85 : Option Addr → Option Addr → PT) (p : Option Addr) (n : Int) (n1 : Int) (n2 : Int) (l : Sl) (l1 : Sl) (l2 : Sl) : denF Try.prog [3] [(82, F82.W T82), (83, F83.W T83), (84, F84.W T84), (85, F85.W T85)] V [(12, .order [0, 1, 2, 3, 4, 5, 6, 7, 8, 9, 10, 11]), (510, .order [0, 1, 2, 3, 4, 5, 6])] Try.f54 [.v (.pointer p), .v (.agg ⟨[.int .u64 n, .int .u64 n1, .int .u64 n2, .slice l.a l.n l.c, .slice l1.a l1.n l1.c, .slice l2.a l2.n l2.c]⟩)] = fun h Q =>
  ∃ b o, (p : Option Addr) = some ⟨b, o, none⟩ ∧ ∃ p1 : Option Addr, h.at b o = some (.pointer p1) ∧ ∃ b1 o1, (p1 : Option Addr) = some ⟨b1, o1, none⟩ ∧ ∃ l3 : Sl, h.at b1 o1 = some (.slice l3.a l3.n l3.c) ∧ par ((l2.n : Int) = (l3.n : Int)) (∃ b2 o2, (p : Option Addr) = some ⟨b2, o2, none⟩ ∧ ∃ p2 : Option Addr, h.at b2 o2 = some (.pointer p2) ∧ T82 p2 h fun r h1 => ∃ p3 : Option Addr, r = .pointer p3 ∧ T83 p3 l h1 fun r1 h2 => ∃ n3 : Int, r1 = .int .i64 n3 ∧ par (n3 = 0) (T84 p3 l1 h2 fun r2 h3 => ∃ n4 : Int, r2 = .int .i64 n4 ∧ par (n4 = 0) (∃ b3 o3, (p : Option Addr) = some ⟨b3, o3, none⟩ ∧ ∃ p4 : Option Addr, h3.at b3 o3 = some (.pointer p4) ∧ ∃ b4 o4, (p : Option Addr) = some ⟨b4, o4, none⟩ ∧ h3.canW b4 o4 1 ∧ ∃ b5 o5, (p : Option Addr) = some ⟨b5, o5, none⟩ ∧ ∃ l4 : Sl, (h3.wr b4 o4 [.pointer p3]).at b5 (o5 + 2) = some (.slice l4.a l4.n l4.c) ∧ ∃ vs, (h3.wr b4 o4 [.pointer p3]).row l2.a ((Nat.min l2.n l4.n) * 1) vs ∧ (∀ v ∈ vs, Value.oneCell' v = true) ∧ (h3.wr b4 o4 [.pointer p3]).canWA l4.a vs.length ∧ T85 p p4 ((h3.wr b4 o4 [.pointer p3]).wrA l4.a vs) fun r3 h4 => ∃ l5 : Sl, r3 = .slice l5.a l5.n l5.c ∧ Q (.tuple ⟨[.slice l5.a l5.n l5.c, .int .i64 0]⟩) h4) (Q (.tuple ⟨[.slice none 0 0, .int .i64 n4]⟩) h3)) (Q (.tuple ⟨[.slice none 0 0, .int .i64 n3]⟩) h2)) (Q (.tuple ⟨[.slice none 0 0, .int .i64 133]⟩) h) := by kernel_rfl
theorem F54.den (V : Value → List Value → PT) (p : Option Addr) (n : Int) (n1 : Int) (n2 : Int) (l : Sl) (l1 : Sl) (l2 : Sl) : denF Try.prog [3] [(82, F82.V), (83, F83.V), (84, F84.V), (85, F85.V)] V [(12, .order [0, 1, 2, 3, 4, 5, 6, 7, 8, 9, 10, 11]), (510, .order [0, 1, 2, 3, 4, 5, 6])] Try.f54 [.v (.pointer p), .v (.agg ⟨[.int .u64 n, .int .u64 n1, .int .u64 n2, .slice l.a l.n l.c, .slice l1.a l1.n l1.c, .slice l2.a l2.n l2.c]⟩)] = F54.T p n n1 n2 l l1 l2 := F54.gen V F82.T F83.T F84.T F85.T p n n1 n2 l l1 l2
def F54.W (T54 : Option Addr → Int → Int → Int → Sl → Sl → Sl → PT) (args : List Value) : PT := match args with
  | [.pointer p, .agg ⟨[.int .u64 n, .int .u64 n1, .int .u64 n2, .slice l_a l_n l_c, .slice l1_a l1_n l1_c, .slice l2_a l2_n l2_c]⟩] => T54 p n n1 n2 ⟨l_a, l_n, l_c⟩ ⟨l1_a, l1_n, l1_c⟩ ⟨l2_a, l2_n, l2_c⟩
  | _ => fun _ _ => False
def F54.V : List Value → PT := F54.W F54.T
theorem F54.ok : FOk Try.prog 54 F54.V := by
  refine ⟨⟨_, Try.func54, rfl, rfl⟩, fun args => ?_⟩
  have hG : GOk Try.prog [(82, F82.V), (83, F83.V), (84, F84.V), (85, F85.V)] := GOk.cons F82.ok (GOk.cons F83.ok (GOk.cons F84.ok (GOk.cons F85.ok (GOk.nil))))
  have hV : VOk Try.prog noV := noV_ok
  unfold F54.V F54.W
  split
  · exact denF_okV hG hV Try.func54 (fun h Q hq => (F54.den _ _ _ _ _ _ _ _) ▸ hq)
  · exact fun h Q hq => hq.elim
def F52.T (n : Int) : PT := fun h Q =>
  ((0 : Int) ≤ (iMin (iMax n 1) 5) ∧ (iMin (iMax n 1) 5) ≤ (iMin (iMax n 1) 5) ∧ 24 * (iMin (iMax n 1) 5) ≤ 281474976710656) ∧ ((0 : Int) ≤ (iMin (iMax n 1) 5) ∧ (iMin (iMax n 1) 5) ≤ (iMin (iMax n 1) 5) ∧ 16 * (iMin (iMax n 1) 5) ≤ 281474976710656) ∧ ((0 : Int) ≤ (iMin (iMax n 1) 5) ∧ (iMin (iMax n 1) 5) ≤ (iMin (iMax n 1) 5) ∧ 24 * (iMin (iMax n 1) 5) ≤ 281474976710656) ∧ ∀ b, h b = none → ((0 : Int) ≤ (iMin (iMax n 1) 5) ∧ (iMin (iMax n 1) 5) ≤ (iMin (iMax n 1) 5) ∧ 16 * (iMin (iMax n 1) 5) ≤ 281474976710656) ∧ ((0 : Int) ≤ (iMin (iMax n 1) 5) ∧ (iMin (iMax n 1) 5) ≤ (iMin (iMax n 1) 5) ∧ 16 * (iMin (iMax n 1) 5) ≤ 281474976710656) ∧ ∀ b1, (h.new b (.cells (Builtin.zeroCells (List.toArray [.slice none 0 0]) ((iMin (iMax n 1) 5) : Int).toNat) 106 (0, 0))) b1 = none → ((0 : Int) ≤ (iMin (iMax n 1) 5) ∧ (iMin (iMax n 1) 5) ≤ (iMin (iMax n 1) 5) ∧ 16 * (iMin (iMax n 1) 5) ≤ 281474976710656) ∧ ∀ b2, ((h.new b (.cells (Builtin.zeroCells (List.toArray [.slice none 0 0]) ((iMin (iMax n 1) 5) : Int).toNat) 106 (0, 0))).new b1 (.cells ⟨[.slice (some ⟨b, 0, none⟩) ((iMin (iMax n 1) 5) : Int).toNat ((iMin (iMax n 1) 5) : Int).toNat]⟩ 150 (0, 0))) b2 = none → ((0 : Int) ≤ (iMin (iMax n 1) 5) ∧ (iMin (iMax n 1) 5) ≤ (iMin (iMax n 1) 5) ∧ 16 * (iMin (iMax n 1) 5) ≤ 281474976710656) ∧ ((0 : Int) ≤ (iMin (iMax n 1) 5) ∧ (iMin (iMax n 1) 5) ≤ (iMin (iMax n 1) 5) ∧ 16 * (iMin (iMax n 1) 5) ≤ 281474976710656) ∧ ∀ b3, (((h.new b (.cells (Builtin.zeroCells (List.toArray [.slice none 0 0]) ((iMin (iMax n 1) 5) : Int).toNat) 106 (0, 0))).new b1 (.cells ⟨[.slice (some ⟨b, 0, none⟩) ((iMin (iMax n 1) 5) : Int).toNat ((iMin (iMax n 1) 5) : Int).toNat]⟩ 150 (0, 0))).new b2 (.map #[] 0)) b3 = none → ∀ b4, ((((h.new b (.cells (Builtin.zeroCells (List.toArray [.slice none 0 0]) ((iMin (iMax n 1) 5) : Int).toNat) 106 (0, 0))).new b1 (.cells ⟨[.slice (some ⟨b, 0, none⟩) ((iMin (iMax n 1) 5) : Int).toNat ((iMin (iMax n 1) 5) : Int).toNat]⟩ 150 (0, 0))).new b2 (.map #[] 0)).new b3 (.cells (Builtin.zeroCells (List.toArray [.string (ByteArray.mk #[])]) ((iMin (iMax n 1) 5) : Int).toNat) 9 (0, 0))) b4 = none → ∀ b5, (((((h.new b (.cells (Builtin.zeroCells (List.toArray [.slice none 0 0]) ((iMin (iMax n 1) 5) : Int).toNat) 106 (0, 0))).new b1 (.cells ⟨[.slice (some ⟨b, 0, none⟩) ((iMin (iMax n 1) 5) : Int).toNat ((iMin (iMax n 1) 5) : Int).toNat]⟩ 150 (0, 0))).new b2 (.map #[] 0)).new b3 (.cells (Builtin.zeroCells (List.toArray [.string (ByteArray.mk #[])]) ((iMin (iMax n 1) 5) : Int).toNat) 9 (0, 0))).new b4 (.map #[] 0)) b5 = none → Q (.pointer (some ⟨b5, 0, none⟩)) ((((((h.new b (.cells (Builtin.zeroCells (List.toArray [.slice none 0 0]) ((iMin (iMax n 1) 5) : Int).toNat) 106 (0, 0))).new b1 (.cells ⟨[.slice (some ⟨b, 0, none⟩) ((iMin (iMax n 1) 5) : Int).toNat ((iMin (iMax n 1) 5) : Int).toNat]⟩ 150 (0, 0))).new b2 (.map #[] 0)).new b3 (.cells (Builtin.zeroCells (List.toArray [.string (ByteArray.mk #[])]) ((iMin (iMax n 1) 5) : Int).toNat) 9 (0, 0))).new b4 (.map #[] 0)).new b5 (.cells ⟨[.pointer (some ⟨b1, 0, none⟩), .map (some b2), .slice (some ⟨b3, 0, none⟩) ((iMin (iMax n 1) 5) : Int).toNat ((iMin (iMax n 1) 5) : Int).toNat, .map (some b4)]⟩ 154 (0, 0)))
theorem F52.den (V : Value → List Value → PT) (n : Int) : denF Try.prog [] [] V [(14, .orderL [0, 5, 1, 2, 3, 4, 6, 7, 8, 9, 10] [1, 4, 6, 7])] Try.f52 [.v (.int .i64 n)] = F52.T n := by kernel_rfl
def F52.W (T52 : Int → PT) (args : List Value) : PT := match args with
  | [.int .i64 n] => T52 n
  | _ => fun _ _ => False
def F52.V : List Value → PT := F52.W F52.T
theorem F52.ok : FOk Try.prog 52 F52.V := by
  refine ⟨⟨_, Try.func52, rfl, rfl⟩, fun args => ?_⟩
  have hG : GOk Try.prog [] := GOk.nil
  have hV : VOk Try.prog noV := noV_ok
  unfold F52.V F52.W
  split
  · exact denF_okV hG hV Try.func52 (fun h Q hq => (F52.den _ _) ▸ hq)
  · exact fun h Q hq => hq.elim
def F88.T (l : Sl) : PT := fun h Q =>
  par ((l.a : Option Addr) = none) (Q (.slice none 0 0) h) (∀ b, h b = none → ∃ vs, (h.new b (.cells ⟨[]⟩ 9 (0, 0))).row l.a (l.n * 1) vs ∧ (∀ v ∈ vs, Value.oneCell' v = true) ∧ appendD ⟨(some ⟨b, 0, none⟩), 0, 0⟩ 9 1 16 [.string (ByteArray.mk #[])] l.n vs (h.new b (.cells ⟨[]⟩ 9 (0, 0))) fun l1 h1 => Q (.slice l1.a l1.n l1.c) h1)
theorem F88.den (V : Value → List Value → PT) (l : Sl) : denF Try.prog [] [] V [] Try.f88 [.v (.slice l.a l.n l.c)] = F88.T l := by kernel_rfl
def F88.W (T88 : Sl → PT) (args : List Value) : PT := match args with
  | [.slice l_a l_n l_c] => T88 ⟨l_a, l_n, l_c⟩
  | _ => fun _ _ => False
def F88.V : List Value → PT := F88.W F88.T
theorem F88.ok : FOk Try.prog 88 F88.V := by
  refine ⟨⟨_, Try.func88, rfl, rfl⟩, fun args => ?_⟩
  have hG : GOk Try.prog [] := GOk.nil
  have hV : VOk Try.prog noV := noV_ok
  unfold F88.V F88.W
  split
  · exact denF_okV hG hV Try.func88 (fun h Q hq => (F88.den _ _) ▸ hq)
  · exact fun h Q hq => hq.elim
def F61.T (p : Option Addr) : PT := fun h Q =>
  ∃ b o, (p : Option Addr) = some ⟨b, o, none⟩ ∧ ∃ l : Sl, h.at b (o + 2) = some (.slice l.a l.n l.c) ∧ F88.T l h fun r h1 => ∃ l1 : Sl, r = .slice l1.a l1.n l1.c ∧ Q (.slice l1.a l1.n l1.c) h1
theorem F61.gen (V : Value → List Value → PT) (T88 : Sl → PT) (p : Option Addr) : denF Try.prog [] [(88, F88.W T88)] V [] Try.f61 [.v (.pointer p)] = fun h Q =>
  ∃ b o, (p : Option Addr) = some ⟨b, o, none⟩ ∧ ∃ l : Sl, h.at b (o + 2) = some (.slice l.a l.n l.c) ∧ T88 l h fun r h1 => ∃ l1 : Sl, r = .slice l1.a l1.n l1.c ∧ Q (.slice l1.a l1.n l1.c) h1 := by kernel_rfl
theorem F61.den (V : Value → List Value → PT) (p : Option Addr) : denF Try.prog [] [(88, F88.V)] V [] Try.f61 [.v (.pointer p)] = F61.T p := F61.gen V F88.T p
def F61.W (T61 : Option Addr → PT) (args : List Value) : PT := match args with
  | [.pointer p] => T61 p
  | _ => fun _ _ => False
def F61.V : List Value → PT := F61.W F61.T
theorem F61.ok : FOk Try.prog 61 F61.V := by
  refine ⟨⟨_, Try.func61, rfl, rfl⟩, fun args => ?_⟩
  have hG : GOk Try.prog [(88, F88.V)] := GOk.cons F88.ok (GOk.nil)
  have hV : VOk Try.prog noV := noV_ok
  unfold F61.V F61.W
  split
  · exact denF_okV hG hV Try.func61 (fun h Q hq => (F61.den _ _) ▸ hq)
  · exact fun h Q hq => hq.elim
def F62.T (p : Option Addr) : PT := fun h Q =>
  ∃ b o, (p : Option Addr) = some ⟨b, o, none⟩ ∧ ∃ p1 : Option Addr, h.at b o = some (.pointer p1) ∧ Q (.pointer p1) h
theorem F62.den (V : Value → List Value → PT) (p : Option Addr) : denF Try.prog [] [] V [] Try.f62 [.v (.pointer p)] = F62.T p := by kernel_rfl
def F62.W (T62 : Option Addr → PT) (args : List Value) : PT := match args with
  | [.pointer p] => T62 p
  | _ => fun _ _ => False
def F62.V : List Value → PT := F62.W F62.T
theorem F62.ok : FOk Try.prog 62 F62.V := by
  refine ⟨⟨_, Try.func62, rfl, rfl⟩, fun args => ?_⟩
  have hG : GOk Try.prog [] := GOk.nil
  have hV : VOk Try.prog noV := noV_ok
  unfold F62.V F62.W
  split
  · exact denF_okV hG hV Try.func62 (fun h Q hq => (F62.den _ _) ▸ hq)
  · exact fun h Q hq => hq.elim
def F63.T (p : Option Addr) : PT := fun h Q =>
  ∃ b o, (p : Option Addr) = some ⟨b, o, none⟩ ∧ ∃ l : Sl, h.at b o = some (.slice l.a l.n l.c) ∧ Q (.int .i64 (l.n : Int)) h
theorem F63.den (V : Value → List Value → PT) (p : Option Addr) : denF Try.prog [] [] V [] Try.f63 [.v (.pointer p)] = F63.T p := by kernel_rfl
def F63.W (T63 : Option Addr → PT) (args : List Value) : PT := match args with
  | [.pointer p] => T63 p
  | _ => fun _ _ => False
def F63.V : List Value → PT := F63.W F63.T
theorem F63.ok : FOk Try.prog 63 F63.V := by
  refine ⟨⟨_, Try.func63, rfl, rfl⟩, fun args => ?_⟩
  have hG : GOk Try.prog [] := GOk.nil
  have hV : VOk Try.prog noV := noV_ok
  unfold F63.V F63.W
  split
  · exact denF_okV hG hV Try.func63 (fun h Q hq => (F63.den _ _) ▸ hq)
  · exact fun h Q hq => hq.elim
def F64.T (p : Option Addr) (n : Int) : PT := fun h Q =>
  F89.T p n h fun r h1 => ∃ b : Bool, r = .bool b ∧ parB b (∃ b1 o, (p : Option Addr) = some ⟨b1, o, none⟩ ∧ ∃ l : Sl, h1.at b1 o = some (.slice l.a l.n l.c) ∧ ∃ b2 o1, (l.a : Option Addr) = some ⟨b2, o1, none⟩ ∧ ((0 : Int) ≤ n ∧ n < (l.n : Int)) ∧ ∃ l1 : Sl, h1.at b2 (o1 + n.toNat) = some (.slice l1.a l1.n l1.c) ∧ ∃ vs, h1.row l1.a (l1.n * 6) vs ∧ (∀ v ∈ vs, Value.oneCell' v = true) ∧ appendD ⟨none, 0, 0⟩ 85 6 64 [.int .u64 0, .int .i64 0, .int .i64 0, .int .i64 0, .string (ByteArray.mk #[]), .string (ByteArray.mk #[])] l1.n vs h1 fun l2 h2 => Q (.slice l2.a l2.n l2.c) h2) (Q (.slice none 0 0) h1)
theorem F64.gen (V : Value → List Value → PT) (T89 : Option Addr → Int → PT) (p : Option Addr) (n : Int) : denF Try.prog [] [(89, F89.W T89)] V [] Try.f64 [.v (.pointer p), .v (.int .i64 n)] = fun h Q =>
  T89 p n h fun r h1 => ∃ b : Bool, r = .bool b ∧ parB b (∃ b1 o, (p : Option Addr) = some ⟨b1, o, none⟩ ∧ ∃ l : Sl, h1.at b1 o = some (.slice l.a l.n l.c) ∧ ∃ b2 o1, (l.a : Option Addr) = some ⟨b2, o1, none⟩ ∧ ((0 : Int) ≤ n ∧ n < (l.n : Int)) ∧ ∃ l1 : Sl, h1.at b2 (o1 + n.toNat) = some (.slice l1.a l1.n l1.c) ∧ ∃ vs, h1.row l1.a (l1.n * 6) vs ∧ (∀ v ∈ vs, Value.oneCell' v = true) ∧ appendD ⟨none, 0, 0⟩ 85 6 64 [.int .u64 0, .int .i64 0, .int .i64 0, .int .i64 0, .string (ByteArray.mk #[]), .string (ByteArray.mk #[])] l1.n vs h1 fun l2 h2 => Q (.slice l2.a l2.n l2.c) h2) (Q (.slice none 0 0) h1) := by kernel_rfl
theorem F64.den (V : Value → List Value → PT) (p : Option Addr) (n : Int) : denF Try.prog [] [(89, F89.V)] V [] Try.f64 [.v (.pointer p), .v (.int .i64 n)] = F64.T p n := F64.gen V F89.T p n
def F64.W (T64 : Option Addr → Int → PT) (args : List Value) : PT := match args with
  | [.pointer p, .int .i64 n] => T64 p n
  | _ => fun _ _ => False
def F64.V : List Value → PT := F64.W F64.T
theorem F64.ok : FOk Try.prog 64 F64.V := by
  refine ⟨⟨_, Try.func64, rfl, rfl⟩, fun args => ?_⟩
  have hG : GOk Try.prog [(89, F89.V)] := GOk.cons F89.ok (GOk.nil)
  have hV : VOk Try.prog noV := noV_ok
  unfold F64.V F64.W
  split
  · exact denF_okV hG hV Try.func64 (fun h Q hq => (F64.den _ _ _) ▸ hq)
  · exact fun h Q hq => hq.elim
def F24.T (p : Option Addr) (n : Int) (n1 : Int) (n2 : Int) (n3 : Int) : PT := fun h Q =>
  F61.T p h fun r h1 => ∃ l : Sl, r = .slice l.a l.n l.c ∧ ∀ b, h1 b = none → (h1.new b (.cells ⟨[.int .u64 0, .int .u64 0, .int .u64 0, .slice none 0 0, .slice none 0 0, .slice none 0 0]⟩ 60 (0, 0))).canW b 0 6 ∧ F62.T p ((h1.new b (.cells ⟨[.int .u64 0, .int .u64 0, .int .u64 0, .slice none 0 0, .slice none 0 0, .slice none 0 0]⟩ 60 (0, 0))).wr b 0 [.int .u64 n, .int .u64 n1, .int .u64 n2, .slice none 0 0, .slice none 0 0, .slice l.a l.n l.c]) fun r1 h2 => ∃ p1 : Option Addr, r1 = .pointer p1 ∧ F63.T p1 h2 fun r2 h3 => ∃ n4 : Int, r2 = .int .i64 n4 ∧ ∃ (I : Int → Hp → Prop) (m : Int → Hp → Nat), I 0 h3 ∧ (∀ n5 : Int, ∀ h4 : Hp, I n5 h4 → par (n5 < n4) (F64.T p1 n5 h4 fun r3 h5 => ∃ l1 : Sl, r3 = .slice l1.a l1.n l1.c ∧ ∃ (I1 : Int → Hp → Prop) (m1 : Int → Hp → Nat), I1 0 h5 ∧ (∀ n6 : Int, ∀ h6 : Hp, I1 n6 h6 → par (n6 < (l1.n : Int)) (∃ b1 o, (l1.a : Option Addr) = some ⟨b1, o, none⟩ ∧ ((0 : Int) ≤ n6 ∧ n6 < (l1.n : Int)) ∧ ∃ n7 : Int, h6.at b1 (o + n6.toNat * 6) = some (.int .u64 n7) ∧ ∃ n8 : Int, h6.at b1 ((o + n6.toNat * 6) + 1) = some (.int .i64 n8) ∧ ∃ n9 : Int, h6.at b1 ((o + n6.toNat * 6) + 2) = some (.int .i64 n9) ∧ ∃ n10 : Int, h6.at b1 ((o + n6.toNat * 6) + 3) = some (.int .i64 n10) ∧ ∃ s : ByteArray, h6.at b1 ((o + n6.toNat * 6) + 4) = some (.string s) ∧ ∃ s1 : ByteArray, h6.at b1 ((o + n6.toNat * 6) + 5) = some (.string s1) ∧ ∃ l2 : Sl, h6.at b 4 = some (.slice l2.a l2.n l2.c) ∧ appendD l2 87 7 72 [.int .i64 0, .int .u64 0, .int .i64 0, .int .i64 0, .int .i64 0, .string (ByteArray.mk #[]), .string (ByteArray.mk #[])] 1 [.int .i64 n5, .int .u64 n7, .int .i64 n8, .int .i64 n9, .int .i64 n10, .string s, .string s1] h6 fun l3 h7 => h7.canW b 4 1 ∧ I1 (IntKind.wrap .i64 (n6 + 1)) (h7.wr b 4 [.slice l3.a l3.n l3.c]) ∧ m1 (IntKind.wrap .i64 (n6 + 1)) (h7.wr b 4 [.slice l3.a l3.n l3.c]) < m1 n6 h6) (I (IntKind.wrap .i64 (n5 + 1)) h6 ∧ m (IntKind.wrap .i64 (n5 + 1)) h6 < m n5 h4))) (∃ n11 : Int, h4.at b 0 = some (.int .u64 n11) ∧ ∃ n12 : Int, h4.at b 1 = some (.int .u64 n12) ∧ ∃ n13 : Int, h4.at b 2 = some (.int .u64 n13) ∧ ∃ l4 : Sl, h4.at b 3 = some (.slice l4.a l4.n l4.c) ∧ ∃ l5 : Sl, h4.at b 4 = some (.slice l5.a l5.n l5.c) ∧ ∃ l6 : Sl, h4.at b 5 = some (.slice l6.a l6.n l6.c) ∧ Q (.agg ⟨[.int .u64 n11, .int .u64 n12, .int .u64 n13, .slice l4.a l4.n l4.c, .slice l5.a l5.n l5.c, .slice l6.a l6.n l6.c]⟩) h4))
theorem F24.gen (V : Value → List Value → PT) (T61 : Option Addr → PT) (T62 : Option Addr → PT) (T63 : Option Addr → PT) (T64 : Option Addr → Int → PT) (p : Option Addr) (n : Int) (n1 : Int) (n2 : Int) (n3 : Int) : denF Try.prog [3, 4, 9, 39] [(61, F61.W T61), (62, F62.W T62), (63, F63.W T63), (64, F64.W T64)] V [(6, .orderL [0, 1, 2, 3, 4, 5, 6, 7, 8, 9, 10] [9]), (122, .loop [(23, .int .i64)] []), (31334, .loop [(30, .int .i64)] [])] Try.f24 [.v (.pointer p), .v (.agg ⟨[.int .u64 n, .int .u64 n1, .int .u64 n2, .int .u64 n3]⟩)] = fun h Q =>
  T61 p h fun r h1 => ∃ l : Sl, r = .slice l.a l.n l.c ∧ ∀ b, h1 b = none → (h1.new b (.cells ⟨[.int .u64 0, .int .u64 0, .int .u64 0, .slice none 0 0, .slice none 0 0, .slice none 0 0]⟩ 60 (0, 0))).canW b 0 6 ∧ T62 p ((h1.new b (.cells ⟨[.int .u64 0, .int .u64 0, .int .u64 0, .slice none 0 0, .slice none 0 0, .slice none 0 0]⟩ 60 (0, 0))).wr b 0 [.int .u64 n, .int .u64 n1, .int .u64 n2, .slice none 0 0, .slice none 0 0, .slice l.a l.n l.c]) fun r1 h2 => ∃ p1 : Option Addr, r1 = .pointer p1 ∧ T63 p1 h2 fun r2 h3 => ∃ n4 : Int, r2 = .int .i64 n4 ∧ ∃ (I : Int → Hp → Prop) (m : Int → Hp → Nat), I 0 h3 ∧ (∀ n5 : Int, ∀ h4 : Hp, I n5 h4 → par (n5 < n4) (T64 p1 n5 h4 fun r3 h5 => ∃ l1 : Sl, r3 = .slice l1.a l1.n l1.c ∧ ∃ (I1 : Int → Hp → Prop) (m1 : Int → Hp → Nat), I1 0 h5 ∧ (∀ n6 : Int, ∀ h6 : Hp, I1 n6 h6 → par (n6 < (l1.n : Int)) (∃ b1 o, (l1.a : Option Addr) = some ⟨b1, o, none⟩ ∧ ((0 : Int) ≤ n6 ∧ n6 < (l1.n : Int)) ∧ ∃ n7 : Int, h6.at b1 (o + n6.toNat * 6) = some (.int .u64 n7) ∧ ∃ n8 : Int, h6.at b1 ((o + n6.toNat * 6) + 1) = some (.int .i64 n8) ∧ ∃ n9 : Int, h6.at b1 ((o + n6.toNat * 6) + 2) = some (.int .i64 n9) ∧ ∃ n10 : Int, h6.at b1 ((o + n6.toNat * 6) + 3) = some (.int .i64 n10) ∧ ∃ s : ByteArray, h6.at b1 ((o + n6.toNat * 6) + 4) = some (.string s) ∧ ∃ s1 : ByteArray, h6.at b1 ((o + n6.toNat * 6) + 5) = some (.string s1) ∧ ∃ l2 : Sl, h6.at b 4 = some (.slice l2.a l2.n l2.c) ∧ appendD l2 87 7 72 [.int .i64 0, .int .u64 0, .int .i64 0, .int .i64 0, .int .i64 0, .string (ByteArray.mk #[]), .string (ByteArray.mk #[])] 1 [.int .i64 n5, .int .u64 n7, .int .i64 n8, .int .i64 n9, .int .i64 n10, .string s, .string s1] h6 fun l3 h7 => h7.canW b 4 1 ∧ I1 (IntKind.wrap .i64 (n6 + 1)) (h7.wr b 4 [.slice l3.a l3.n l3.c]) ∧ m1 (IntKind.wrap .i64 (n6 + 1)) (h7.wr b 4 [.slice l3.a l3.n l3.c]) < m1 n6 h6) (I (IntKind.wrap .i64 (n5 + 1)) h6 ∧ m (IntKind.wrap .i64 (n5 + 1)) h6 < m n5 h4))) (∃ n11 : Int, h4.at b 0 = some (.int .u64 n11) ∧ ∃ n12 : Int, h4.at b 1 = some (.int .u64 n12) ∧ ∃ n13 : Int, h4.at b 2 = some (.int .u64 n13) ∧ ∃ l4 : Sl, h4.at b 3 = some (.slice l4.a l4.n l4.c) ∧ ∃ l5 : Sl, h4.at b 4 = some (.slice l5.a l5.n l5.c) ∧ ∃ l6 : Sl, h4.at b 5 = some (.slice l6.a l6.n l6.c) ∧ Q (.agg ⟨[.int .u64 n11, .int .u64 n12, .int .u64 n13, .slice l4.a l4.n l4.c, .slice l5.a l5.n l5.c, .slice l6.a l6.n l6.c]⟩) h4)) := by kernel_rfl
theorem F24.den (V : Value → List Value → PT) (p : Option Addr) (n : Int) (n1 : Int) (n2 : Int) (n3 : Int) : denF Try.prog [3, 4, 9, 39] [(61, F61.V), (62, F62.V), (63, F63.V), (64, F64.V)] V [(6, .orderL [0, 1, 2, 3, 4, 5, 6, 7, 8, 9, 10] [9]), (122, .loop [(23, .int .i64)] []), (31334, .loop [(30, .int .i64)] [])] Try.f24 [.v (.pointer p), .v (.agg ⟨[.int .u64 n, .int .u64 n1, .int .u64 n2, .int .u64 n3]⟩)] = F24.T p n n1 n2 n3 := F24.gen V F61.T F62.T F63.T F64.T p n n1 n2 n3
def F24.W (T24 : Option Addr → Int → Int → Int → Int → PT) (args : List Value) : PT := match args with
  | [.pointer p, .agg ⟨[.int .u64 n, .int .u64 n1, .int .u64 n2, .int .u64 n3]⟩] => T24 p n n1 n2 n3
  | _ => fun _ _ => False
def F24.V : List Value → PT := F24.W F24.T
theorem F24.ok : FOk Try.prog 24 F24.V := by
  refine ⟨⟨_, Try.func24, rfl, rfl⟩, fun args => ?_⟩
  have hG : GOk Try.prog [(61, F61.V), (62, F62.V), (63, F63.V), (64, F64.V)] := GOk.cons F61.ok (GOk.cons F62.ok (GOk.cons F63.ok (GOk.cons F64.ok (GOk.nil))))
  have hV : VOk Try.prog noV := noV_ok
  unfold F24.V F24.W
  split
  · exact denF_okV hG hV Try.func24 (fun h Q hq => (F24.den _ _ _ _ _ _) ▸ hq)
  · exact fun h Q hq => hq.elim
def F133.T (s : ByteArray) (s1 : ByteArray) : PT := fun h Q =>
  ∃ (I : Int → Hp → Prop) (m : Int → Hp → Nat), I 0 h ∧ (∀ n : Int, ∀ h1 : Hp, I n h1 → par (n < (s.size : Int)) (par (n < (s1.size : Int)) (((0 : Int) ≤ n ∧ n < (s.size : Int)) ∧ ((0 : Int) ≤ n ∧ n < (s1.size : Int)) ∧ par ((bt s n) = (bt s1 n)) (I (IntKind.wrap .i64 (n + 1)) h1 ∧ m (IntKind.wrap .i64 (n + 1)) h1 < m n h1) (((0 : Int) ≤ n ∧ n < (s.size : Int)) ∧ ((0 : Int) ≤ n ∧ n < (s1.size : Int)) ∧ par ((bt s n) < (bt s1 n)) (Q (.bool true) h1) (Q (.bool false) h1))) (par ((s.size : Int) < (s1.size : Int)) (Q (.bool true) h1) (Q (.bool false) h1))) (par ((s.size : Int) < (s1.size : Int)) (Q (.bool true) h1) (Q (.bool false) h1)))
theorem F133.den (V : Value → List Value → PT) (s : ByteArray) (s1 : ByteArray) : denF Try.prog [] [] V [(26, .loop [(5, .int .i64)] []), (840, .order [0, 1, 2, 3, 4, 5, 6]), (3364, .order [0, 1, 2, 3, 4, 5, 6, 7])] Try.f133 [.v (.string s), .v (.string s1)] = F133.T s s1 := by kernel_rfl
def F133.W (T133 : ByteArray → ByteArray → PT) (args : List Value) : PT := match args with
  | [.string s, .string s1] => T133 s s1
  | _ => fun _ _ => False
def F133.V : List Value → PT := F133.W F133.T
theorem F133.ok : FOk Try.prog 133 F133.V := by
  refine ⟨⟨_, Try.func133, rfl, rfl⟩, fun args => ?_⟩
  have hG : GOk Try.prog [] := GOk.nil
  have hV : VOk Try.prog noV := noV_ok
  unfold F133.V F133.W
  split
  · exact denF_okV hG hV Try.func133 (fun h Q hq => (F133.den _ _ _) ▸ hq)
  · exact fun h Q hq => hq.elim
def F118.T (s : ByteArray) (n : Int) (b : Bool) (s1 : ByteArray) (s2 : ByteArray) (n1 : Int) (b1 : Bool) (s3 : ByteArray) : PT := fun h Q =>
  F133.T s s2 h fun r h1 => ∃ b2 : Bool, r = .bool b2 ∧ parB b2 (Q (.int .i64 (-1)) h1) (F133.T s2 s h1 fun r1 h2 => ∃ b3 : Bool, r1 = .bool b3 ∧ parB b3 (Q (.int .i64 1) h2) (par (n1 < n) (Q (.int .i64 (-1)) h2) (par (n < n1) (Q (.int .i64 1) h2) (Q (.int .i64 0) h2))))
theorem F118.gen (V : Value → List Value → PT) (T133 : ByteArray → ByteArray → PT) (s : ByteArray) (n : Int) (b : Bool) (s1 : ByteArray) (s2 : ByteArray) (n1 : Int) (b1 : Bool) (s3 : ByteArray) : denF Try.prog [2, 3] [(133, F133.W T133)] V [] Try.f118 [.v (.agg ⟨[.string s, .int .u64 n, .bool b, .string s1]⟩), .v (.agg ⟨[.string s2, .int .u64 n1, .bool b1, .string s3]⟩)] = fun h Q =>
  T133 s s2 h fun r h1 => ∃ b2 : Bool, r = .bool b2 ∧ parB b2 (Q (.int .i64 (-1)) h1) (T133 s2 s h1 fun r1 h2 => ∃ b3 : Bool, r1 = .bool b3 ∧ parB b3 (Q (.int .i64 1) h2) (par (n1 < n) (Q (.int .i64 (-1)) h2) (par (n < n1) (Q (.int .i64 1) h2) (Q (.int .i64 0) h2)))) := by kernel_rfl
theorem F118.den (V : Value → List Value → PT) (s : ByteArray) (n : Int) (b : Bool) (s1 : ByteArray) (s2 : ByteArray) (n1 : Int) (b1 : Bool) (s3 : ByteArray) : denF Try.prog [2, 3] [(133, F133.V)] V [] Try.f118 [.v (.agg ⟨[.string s, .int .u64 n, .bool b, .string s1]⟩), .v (.agg ⟨[.string s2, .int .u64 n1, .bool b1, .string s3]⟩)] = F118.T s n b s1 s2 n1 b1 s3 := F118.gen V F133.T s n b s1 s2 n1 b1 s3
def F118.W (T118 : ByteArray → Int → Bool → ByteArray → ByteArray → Int → Bool → ByteArray → PT) (args : List Value) : PT := match args with
  | [.agg ⟨[.string s, .int .u64 n, .bool b, .string s1]⟩, .agg ⟨[.string s2, .int .u64 n1, .bool b1, .string s3]⟩] => T118 s n b s1 s2 n1 b1 s3
  | _ => fun _ _ => False
def F118.V : List Value → PT := F118.W F118.T
theorem F118.ok : FOk Try.prog 118 F118.V := by
  refine ⟨⟨_, Try.func118, rfl, rfl⟩, fun args => ?_⟩
  have hG : GOk Try.prog [(133, F133.V)] := GOk.cons F133.ok (GOk.nil)
  have hV : VOk Try.prog noV := noV_ok
  unfold F118.V F118.W
  split
  · exact denF_okV hG hV Try.func118 (fun h Q hq => (F118.den _ _ _ _ _ _ _ _ _) ▸ hq)
  · exact fun h Q hq => hq.elim
def F108.T (s : ByteArray) (s1 : ByteArray) : PT := fun h Q =>
  F118.T s 0 false (ByteArray.mk #[]) s1 0 false (ByteArray.mk #[]) h fun r h1 => ∃ n : Int, r = .int .i64 n ∧ par ((0 : Int) < n) (Q (.bool true) h1) (Q (.bool false) h1)
theorem F108.gen (V : Value → List Value → PT) (T118 : ByteArray → Int → Bool → ByteArray → ByteArray → Int → Bool → ByteArray → PT) (s : ByteArray) (s1 : ByteArray) : denF Try.prog [] [(118, F118.W T118)] V [] Try.f108 [.v (.string s), .v (.string s1)] = fun h Q =>
  T118 s 0 false (ByteArray.mk #[]) s1 0 false (ByteArray.mk #[]) h fun r h1 => ∃ n : Int, r = .int .i64 n ∧ par ((0 : Int) < n) (Q (.bool true) h1) (Q (.bool false) h1) := by kernel_rfl
theorem F108.den (V : Value → List Value → PT) (s : ByteArray) (s1 : ByteArray) : denF Try.prog [] [(118, F118.V)] V [] Try.f108 [.v (.string s), .v (.string s1)] = F108.T s s1 := F108.gen V F118.T s s1
def F108.W (T108 : ByteArray → ByteArray → PT) (args : List Value) : PT := match args with
  | [.string s, .string s1] => T108 s s1
  | _ => fun _ _ => False
def F108.V : List Value → PT := F108.W F108.T
theorem F108.ok : FOk Try.prog 108 F108.V := by
  refine ⟨⟨_, Try.func108, rfl, rfl⟩, fun args => ?_⟩
  have hG : GOk Try.prog [(118, F118.V)] := GOk.cons F118.ok (GOk.nil)
  have hV : VOk Try.prog noV := noV_ok
  unfold F108.V F108.W
  split
  · exact denF_okV hG hV Try.func108 (fun h Q hq => (F108.den _ _ _) ▸ hq)
  · exact fun h Q hq => hq.elim
def F106.T (l : Sl) (n : Int) : PT := fun h Q =>
  ∃ (I : Int → Hp → Prop) (m : Int → Hp → Nat), I 0 h ∧ (∀ n1 : Int, ∀ h1 : Hp, I n1 h1 → par (n1 < (l.n : Int)) (∃ b o, (l.a : Option Addr) = some ⟨b, o, none⟩ ∧ ((0 : Int) ≤ n1 ∧ n1 < (l.n : Int)) ∧ ∃ n2 : Int, h1.at b (o + n1.toNat * 6) = some (.int .u64 n2) ∧ par (n2 = n) (Q (.int .i64 n1) h1) (I (IntKind.wrap .i64 (n1 + 1)) h1 ∧ m (IntKind.wrap .i64 (n1 + 1)) h1 < m n1 h1)) (Q (.int .i64 (-1)) h1))
theorem F106.den (V : Value → List Value → PT) (l : Sl) (n : Int) : denF Try.prog [] [] V [(26, .loop [(5, .int .i64)] [])] Try.f106 [.v (.slice l.a l.n l.c), .v (.int .u64 n)] = F106.T l n := by kernel_rfl
def F106.W (T106 : Sl → Int → PT) (args : List Value) : PT := match args with
  | [.slice l_a l_n l_c, .int .u64 n] => T106 ⟨l_a, l_n, l_c⟩ n
  | _ => fun _ _ => False
def F106.V : List Value → PT := F106.W F106.T
theorem F106.ok : FOk Try.prog 106 F106.V := by
  refine ⟨⟨_, Try.func106, rfl, rfl⟩, fun args => ?_⟩
  have hG : GOk Try.prog [] := GOk.nil
  have hV : VOk Try.prog noV := noV_ok
  unfold F106.V F106.W
  split
  · exact denF_okV hG hV Try.func106 (fun h Q hq => (F106.den _ _ _) ▸ hq)
  · exact fun h Q hq => hq.elim
def F107.T (l : Sl) (n : Int) : PT := fun h Q =>
  ∃ (I : Int → Hp → Prop) (m : Int → Hp → Nat), I 0 h ∧ (∀ n1 : Int, ∀ h1 : Hp, I n1 h1 → par (n1 < (l.n : Int)) (∃ b o, (l.a : Option Addr) = some ⟨b, o, none⟩ ∧ ((0 : Int) ≤ n1 ∧ n1 < (l.n : Int)) ∧ ∃ l1 : Sl, h1.at b (o + n1.toNat) = some (.slice l1.a l1.n l1.c) ∧ F106.T l1 n h1 fun r h2 => ∃ n2 : Int, r = .int .i64 n2 ∧ par ((0 : Int) ≤ n2) (Q (.bool true) h2) (I (IntKind.wrap .i64 (n1 + 1)) h2 ∧ m (IntKind.wrap .i64 (n1 + 1)) h2 < m n1 h1)) (Q (.bool false) h1))
theorem F107.gen (V : Value → List Value → PT) (T106 : Sl → Int → PT) (l : Sl) (n : Int) : denF Try.prog [] [(106, F106.W T106)] V [(26, .loop [(5, .int .i64)] [])] Try.f107 [.v (.slice l.a l.n l.c), .v (.int .u64 n)] = fun h Q =>
  ∃ (I : Int → Hp → Prop) (m : Int → Hp → Nat), I 0 h ∧ (∀ n1 : Int, ∀ h1 : Hp, I n1 h1 → par (n1 < (l.n : Int)) (∃ b o, (l.a : Option Addr) = some ⟨b, o, none⟩ ∧ ((0 : Int) ≤ n1 ∧ n1 < (l.n : Int)) ∧ ∃ l1 : Sl, h1.at b (o + n1.toNat) = some (.slice l1.a l1.n l1.c) ∧ T106 l1 n h1 fun r h2 => ∃ n2 : Int, r = .int .i64 n2 ∧ par ((0 : Int) ≤ n2) (Q (.bool true) h2) (I (IntKind.wrap .i64 (n1 + 1)) h2 ∧ m (IntKind.wrap .i64 (n1 + 1)) h2 < m n1 h1)) (Q (.bool false) h1)) := by kernel_rfl
theorem F107.den (V : Value → List Value → PT) (l : Sl) (n : Int) : denF Try.prog [] [(106, F106.V)] V [(26, .loop [(5, .int .i64)] [])] Try.f107 [.v (.slice l.a l.n l.c), .v (.int .u64 n)] = F107.T l n := F107.gen V F106.T l n
def F107.W (T107 : Sl → Int → PT) (args : List Value) : PT := match args with
  | [.slice l_a l_n l_c, .int .u64 n] => T107 ⟨l_a, l_n, l_c⟩ n
  | _ => fun _ _ => False
def F107.V : List Value → PT := F107.W F107.T
theorem F107.ok : FOk Try.prog 107 F107.V := by
  refine ⟨⟨_, Try.func107, rfl, rfl⟩, fun args => ?_⟩
  have hG : GOk Try.prog [(106, F106.V)] := GOk.cons F106.ok (GOk.nil)
  have hV : VOk Try.prog noV := noV_ok
  unfold F107.V F107.W
  split
  · exact denF_okV hG hV Try.func107 (fun h Q hq => (F107.den _ _ _) ▸ hq)
  · exact fun h Q hq => hq.elim
def F109.T (l : Sl) : PT := fun h Q =>
  ∃ (I : Sl → Int → Hp → Prop) (m : Sl → Int → Hp → Nat), I ⟨none, 0, 0⟩ 0 h ∧ (∀ l1 : Sl, ∀ n : Int, ∀ h1 : Hp, I l1 n h1 → par (n < (l.n : Int)) (∃ (I1 : Int → Hp → Prop) (m1 : Int → Hp → Nat), I1 (l1.n : Int) h1 ∧ (∀ n1 : Int, ∀ h2 : Hp, I1 n1 h2 → par ((0 : Int) < n1) (∃ b o, (l1.a : Option Addr) = some ⟨b, o, none⟩ ∧ ((0 : Int) ≤ (IntKind.wrap .i64 (n1 - 1)) ∧ (IntKind.wrap .i64 (n1 - 1)) < (l1.n : Int)) ∧ ∃ s : ByteArray, h2.at b ((o + ((IntKind.wrap .i64 (n1 - 1))).toNat * 6) + 4) = some (.string s) ∧ ∃ b1 o1, (l.a : Option Addr) = some ⟨b1, o1, none⟩ ∧ ((0 : Int) ≤ n ∧ n < (l.n : Int)) ∧ ∃ s1 : ByteArray, h2.at b1 ((o1 + n.toNat * 6) + 4) = some (.string s1) ∧ F108.T s s1 h2 fun r h3 => ∃ b2 : Bool, r = .bool b2 ∧ parB b2 (I1 (IntKind.wrap .i64 (n1 - 1)) h3 ∧ m1 (IntKind.wrap .i64 (n1 - 1)) h3 < m1 n1 h2) (Sl.okCut l1 0 n1 (l1.c : Int) ∧ ∃ vs, h3.row ((Sl.cut l1 6 0 n1 (l1.c : Int)).a) (((Sl.cut l1 6 0 n1 (l1.c : Int)).n) * 6) vs ∧ (∀ v ∈ vs, Value.oneCell' v = true) ∧ appendD ⟨none, 0, 0⟩ 85 6 64 [.int .u64 0, .int .i64 0, .int .i64 0, .int .i64 0, .string (ByteArray.mk #[]), .string (ByteArray.mk #[])] ((Sl.cut l1 6 0 n1 (l1.c : Int)).n) vs h3 fun l2 h4 => ∃ b3 o2, (l.a : Option Addr) = some ⟨b3, o2, none⟩ ∧ ((0 : Int) ≤ n ∧ n < (l.n : Int)) ∧ ∃ n2 : Int, h4.at b3 (o2 + n.toNat * 6) = some (.int .u64 n2) ∧ ∃ n3 : Int, h4.at b3 ((o2 + n.toNat * 6) + 1) = some (.int .i64 n3) ∧ ∃ n4 : Int, h4.at b3 ((o2 + n.toNat * 6) + 2) = some (.int .i64 n4) ∧ ∃ n5 : Int, h4.at b3 ((o2 + n.toNat * 6) + 3) = some (.int .i64 n5) ∧ ∃ s2 : ByteArray, h4.at b3 ((o2 + n.toNat * 6) + 4) = some (.string s2) ∧ ∃ s3 : ByteArray, h4.at b3 ((o2 + n.toNat * 6) + 5) = some (.string s3) ∧ appendD l2 85 6 64 [.int .u64 0, .int .i64 0, .int .i64 0, .int .i64 0, .string (ByteArray.mk #[]), .string (ByteArray.mk #[])] 1 [.int .u64 n2, .int .i64 n3, .int .i64 n4, .int .i64 n5, .string s2, .string s3] h4 fun l3 h5 => Sl.okCut l1 n1 (l1.n : Int) (l1.c : Int) ∧ ∃ vs1, h5.row ((Sl.cut l1 6 n1 (l1.n : Int) (l1.c : Int)).a) (((Sl.cut l1 6 n1 (l1.n : Int) (l1.c : Int)).n) * 6) vs1 ∧ (∀ v ∈ vs1, Value.oneCell' v = true) ∧ appendD l3 85 6 64 [.int .u64 0, .int .i64 0, .int .i64 0, .int .i64 0, .string (ByteArray.mk #[]), .string (ByteArray.mk #[])] ((Sl.cut l1 6 n1 (l1.n : Int) (l1.c : Int)).n) vs1 h5 fun l4 h6 => I l4 (IntKind.wrap .i64 (n + 1)) h6 ∧ m l4 (IntKind.wrap .i64 (n + 1)) h6 < m l1 n h1)) (Sl.okCut l1 0 n1 (l1.c : Int) ∧ ∃ vs2, h2.row ((Sl.cut l1 6 0 n1 (l1.c : Int)).a) (((Sl.cut l1 6 0 n1 (l1.c : Int)).n) * 6) vs2 ∧ (∀ v ∈ vs2, Value.oneCell' v = true) ∧ appendD ⟨none, 0, 0⟩ 85 6 64 [.int .u64 0, .int .i64 0, .int .i64 0, .int .i64 0, .string (ByteArray.mk #[]), .string (ByteArray.mk #[])] ((Sl.cut l1 6 0 n1 (l1.c : Int)).n) vs2 h2 fun l5 h7 => ∃ b4 o3, (l.a : Option Addr) = some ⟨b4, o3, none⟩ ∧ ((0 : Int) ≤ n ∧ n < (l.n : Int)) ∧ ∃ n6 : Int, h7.at b4 (o3 + n.toNat * 6) = some (.int .u64 n6) ∧ ∃ n7 : Int, h7.at b4 ((o3 + n.toNat * 6) + 1) = some (.int .i64 n7) ∧ ∃ n8 : Int, h7.at b4 ((o3 + n.toNat * 6) + 2) = some (.int .i64 n8) ∧ ∃ n9 : Int, h7.at b4 ((o3 + n.toNat * 6) + 3) = some (.int .i64 n9) ∧ ∃ s4 : ByteArray, h7.at b4 ((o3 + n.toNat * 6) + 4) = some (.string s4) ∧ ∃ s5 : ByteArray, h7.at b4 ((o3 + n.toNat * 6) + 5) = some (.string s5) ∧ appendD l5 85 6 64 [.int .u64 0, .int .i64 0, .int .i64 0, .int .i64 0, .string (ByteArray.mk #[]), .string (ByteArray.mk #[])] 1 [.int .u64 n6, .int .i64 n7, .int .i64 n8, .int .i64 n9, .string s4, .string s5] h7 fun l6 h8 => Sl.okCut l1 n1 (l1.n : Int) (l1.c : Int) ∧ ∃ vs3, h8.row ((Sl.cut l1 6 n1 (l1.n : Int) (l1.c : Int)).a) (((Sl.cut l1 6 n1 (l1.n : Int) (l1.c : Int)).n) * 6) vs3 ∧ (∀ v ∈ vs3, Value.oneCell' v = true) ∧ appendD l6 85 6 64 [.int .u64 0, .int .i64 0, .int .i64 0, .int .i64 0, .string (ByteArray.mk #[]), .string (ByteArray.mk #[])] ((Sl.cut l1 6 n1 (l1.n : Int) (l1.c : Int)).n) vs3 h8 fun l7 h9 => I l7 (IntKind.wrap .i64 (n + 1)) h9 ∧ m l7 (IntKind.wrap .i64 (n + 1)) h9 < m l1 n h1))) (Q (.slice l1.a l1.n l1.c) h1))
theorem F109.gen (V : Value → List Value → PT) (T108 : ByteArray → ByteArray → PT) (l : Sl) : denF Try.prog [43] [(108, F108.W T108)] V [(58, .loop [(3, .sl), (4, .int .i64)] []), (7460, .loop [(5, .int .i64)] []), (59680, .order [0, 1, 2, 3, 4, 5, 6, 7, 8, 9, 10, 11, 12, 13, 14, 15])] Try.f109 [.v (.slice l.a l.n l.c)] = fun h Q =>
  ∃ (I : Sl → Int → Hp → Prop) (m : Sl → Int → Hp → Nat), I ⟨none, 0, 0⟩ 0 h ∧ (∀ l1 : Sl, ∀ n : Int, ∀ h1 : Hp, I l1 n h1 → par (n < (l.n : Int)) (∃ (I1 : Int → Hp → Prop) (m1 : Int → Hp → Nat), I1 (l1.n : Int) h1 ∧ (∀ n1 : Int, ∀ h2 : Hp, I1 n1 h2 → par ((0 : Int) < n1) (∃ b o, (l1.a : Option Addr) = some ⟨b, o, none⟩ ∧ ((0 : Int) ≤ (IntKind.wrap .i64 (n1 - 1)) ∧ (IntKind.wrap .i64 (n1 - 1)) < (l1.n : Int)) ∧ ∃ s : ByteArray, h2.at b ((o + ((IntKind.wrap .i64 (n1 - 1))).toNat * 6) + 4) = some (.string s) ∧ ∃ b1 o1, (l.a : Option Addr) = some ⟨b1, o1, none⟩ ∧ ((0 : Int) ≤ n ∧ n < (l.n : Int)) ∧ ∃ s1 : ByteArray, h2.at b1 ((o1 + n.toNat * 6) + 4) = some (.string s1) ∧ T108 s s1 h2 fun r h3 => ∃ b2 : Bool, r = .bool b2 ∧ parB b2 (I1 (IntKind.wrap .i64 (n1 - 1)) h3 ∧ m1 (IntKind.wrap .i64 (n1 - 1)) h3 < m1 n1 h2) (Sl.okCut l1 0 n1 (l1.c : Int) ∧ ∃ vs, h3.row ((Sl.cut l1 6 0 n1 (l1.c : Int)).a) (((Sl.cut l1 6 0 n1 (l1.c : Int)).n) * 6) vs ∧ (∀ v ∈ vs, Value.oneCell' v = true) ∧ appendD ⟨none, 0, 0⟩ 85 6 64 [.int .u64 0, .int .i64 0, .int .i64 0, .int .i64 0, .string (ByteArray.mk #[]), .string (ByteArray.mk #[])] ((Sl.cut l1 6 0 n1 (l1.c : Int)).n) vs h3 fun l2 h4 => ∃ b3 o2, (l.a : Option Addr) = some ⟨b3, o2, none⟩ ∧ ((0 : Int) ≤ n ∧ n < (l.n : Int)) ∧ ∃ n2 : Int, h4.at b3 (o2 + n.toNat * 6) = some (.int .u64 n2) ∧ ∃ n3 : Int, h4.at b3 ((o2 + n.toNat * 6) + 1) = some (.int .i64 n3) ∧ ∃ n4 : Int, h4.at b3 ((o2 + n.toNat * 6) + 2) = some (.int .i64 n4) ∧ ∃ n5 : Int, h4.at b3 ((o2 + n.toNat * 6) + 3) = some (.int .i64 n5) ∧ ∃ s2 : ByteArray, h4.at b3 ((o2 + n.toNat * 6) + 4) = some (.string s2) ∧ ∃ s3 : ByteArray, h4.at b3 ((o2 + n.toNat * 6) + 5) = some (.string s3) ∧ appendD l2 85 6 64 [.int .u64 0, .int .i64 0, .int .i64 0, .int .i64 0, .string (ByteArray.mk #[]), .string (ByteArray.mk #[])] 1 [.int .u64 n2, .int .i64 n3, .int .i64 n4, .int .i64 n5, .string s2, .string s3] h4 fun l3 h5 => Sl.okCut l1 n1 (l1.n : Int) (l1.c : Int) ∧ ∃ vs1, h5.row ((Sl.cut l1 6 n1 (l1.n : Int) (l1.c : Int)).a) (((Sl.cut l1 6 n1 (l1.n : Int) (l1.c : Int)).n) * 6) vs1 ∧ (∀ v ∈ vs1, Value.oneCell' v = true) ∧ appendD l3 85 6 64 [.int .u64 0, .int .i64 0, .int .i64 0, .int .i64 0, .string (ByteArray.mk #[]), .string (ByteArray.mk #[])] ((Sl.cut l1 6 n1 (l1.n : Int) (l1.c : Int)).n) vs1 h5 fun l4 h6 => I l4 (IntKind.wrap .i64 (n + 1)) h6 ∧ m l4 (IntKind.wrap .i64 (n + 1)) h6 < m l1 n h1)) (Sl.okCut l1 0 n1 (l1.c : Int) ∧ ∃ vs2, h2.row ((Sl.cut l1 6 0 n1 (l1.c : Int)).a) (((Sl.cut l1 6 0 n1 (l1.c : Int)).n) * 6) vs2 ∧ (∀ v ∈ vs2, Value.oneCell' v = true) ∧ appendD ⟨none, 0, 0⟩ 85 6 64 [.int .u64 0, .int .i64 0, .int .i64 0, .int .i64 0, .string (ByteArray.mk #[]), .string (ByteArray.mk #[])] ((Sl.cut l1 6 0 n1 (l1.c : Int)).n) vs2 h2 fun l5 h7 => ∃ b4 o3, (l.a : Option Addr) = some ⟨b4, o3, none⟩ ∧ ((0 : Int) ≤ n ∧ n < (l.n : Int)) ∧ ∃ n6 : Int, h7.at b4 (o3 + n.toNat * 6) = some (.int .u64 n6) ∧ ∃ n7 : Int, h7.at b4 ((o3 + n.toNat * 6) + 1) = some (.int .i64 n7) ∧ ∃ n8 : Int, h7.at b4 ((o3 + n.toNat * 6) + 2) = some (.int .i64 n8) ∧ ∃ n9 : Int, h7.at b4 ((o3 + n.toNat * 6) + 3) = some (.int .i64 n9) ∧ ∃ s4 : ByteArray, h7.at b4 ((o3 + n.toNat * 6) + 4) = some (.string s4) ∧ ∃ s5 : ByteArray, h7.at b4 ((o3 + n.toNat * 6) + 5) = some (.string s5) ∧ appendD l5 85 6 64 [.int .u64 0, .int .i64 0, .int .i64 0, .int .i64 0, .string (ByteArray.mk #[]), .string (ByteArray.mk #[])] 1 [.int .u64 n6, .int .i64 n7, .int .i64 n8, .int .i64 n9, .string s4, .string s5] h7 fun l6 h8 => Sl.okCut l1 n1 (l1.n : Int) (l1.c : Int) ∧ ∃ vs3, h8.row ((Sl.cut l1 6 n1 (l1.n : Int) (l1.c : Int)).a) (((Sl.cut l1 6 n1 (l1.n : Int) (l1.c : Int)).n) * 6) vs3 ∧ (∀ v ∈ vs3, Value.oneCell' v = true) ∧ appendD l6 85 6 64 [.int .u64 0, .int .i64 0, .int .i64 0, .int .i64 0, .string (ByteArray.mk #[]), .string (ByteArray.mk #[])] ((Sl.cut l1 6 n1 (l1.n : Int) (l1.c : Int)).n) vs3 h8 fun l7 h9 => I l7 (IntKind.wrap .i64 (n + 1)) h9 ∧ m l7 (IntKind.wrap .i64 (n + 1)) h9 < m l1 n h1))) (Q (.slice l1.a l1.n l1.c) h1)) := by kernel_rfl
theorem F109.den (V : Value → List Value → PT) (l : Sl) : denF Try.prog [43] [(108, F108.V)] V [(58, .loop [(3, .sl), (4, .int .i64)] []), (7460, .loop [(5, .int .i64)] []), (59680, .order [0, 1, 2, 3, 4, 5, 6, 7, 8, 9, 10, 11, 12, 13, 14, 15])] Try.f109 [.v (.slice l.a l.n l.c)] = F109.T l := F109.gen V F108.T l
def F109.W (T109 : Sl → PT) (args : List Value) : PT := match args with
  | [.slice l_a l_n l_c] => T109 ⟨l_a, l_n, l_c⟩
  | _ => fun _ _ => False
def F109.V : List Value → PT := F109.W F109.T
theorem F109.ok : FOk Try.prog 109 F109.V := by
  refine ⟨⟨_, Try.func109, rfl, rfl⟩, fun args => ?_⟩
  have hG : GOk Try.prog [(108, F108.V)] := GOk.cons F108.ok (GOk.nil)
  have hV : VOk Try.prog noV := noV_ok
  unfold F109.V F109.W
  split
  · exact denF_okV hG hV Try.func109 (fun h Q hq => (F109.den _ _) ▸ hq)
  · exact fun h Q hq => hq.elim
def F110.T (p : Option Addr) (n : Int) : PT := fun h Q =>
  ∃ b o, (p : Option Addr) = some ⟨b, o, none⟩ ∧ ∃ l : Sl, h.at b (o + 1) = some (.slice l.a l.n l.c) ∧ F107.T l n h fun r h1 => ∃ b1 : Bool, r = .bool b1 ∧ parB b1 (Q (.bool true) h1) (Q (.bool false) h1)
theorem F110.gen (V : Value → List Value → PT) (T107 : Sl → Int → PT) (p : Option Addr) (n : Int) : denF Try.prog [] [(107, F107.W T107)] V [] Try.f110 [.v (.pointer p), .v (.int .u64 n)] = fun h Q =>
  ∃ b o, (p : Option Addr) = some ⟨b, o, none⟩ ∧ ∃ l : Sl, h.at b (o + 1) = some (.slice l.a l.n l.c) ∧ T107 l n h fun r h1 => ∃ b1 : Bool, r = .bool b1 ∧ parB b1 (Q (.bool true) h1) (Q (.bool false) h1) := by kernel_rfl
theorem F110.den (V : Value → List Value → PT) (p : Option Addr) (n : Int) : denF Try.prog [] [(107, F107.V)] V [] Try.f110 [.v (.pointer p), .v (.int .u64 n)] = F110.T p n := F110.gen V F107.T p n
def F110.W (T110 : Option Addr → Int → PT) (args : List Value) : PT := match args with
  | [.pointer p, .int .u64 n] => T110 p n
  | _ => fun _ _ => False
def F110.V : List Value → PT := F110.W F110.T
theorem F110.ok : FOk Try.prog 110 F110.V := by
  refine ⟨⟨_, Try.func110, rfl, rfl⟩, fun args => ?_⟩
  have hG : GOk Try.prog [(107, F107.V)] := GOk.cons F107.ok (GOk.nil)
  have hV : VOk Try.prog noV := noV_ok
  unfold F110.V F110.W
  split
  · exact denF_okV hG hV Try.func110 (fun h Q hq => (F110.den _ _ _) ▸ hq)
  · exact fun h Q hq => hq.elim
def F111.T (l : Sl) (n : Int) : PT := fun h Q =>
  ∃ (I : Sl → Int → Hp → Prop) (m : Sl → Int → Hp → Nat), I ⟨none, 0, 0⟩ 0 h ∧ (∀ l1 : Sl, ∀ n1 : Int, ∀ h1 : Hp, I l1 n1 h1 → par (n1 < (l.n : Int)) (∃ b o, (l.a : Option Addr) = some ⟨b, o, none⟩ ∧ ((0 : Int) ≤ n1 ∧ n1 < (l.n : Int)) ∧ ∃ n2 : Int, h1.at b (o + n1.toNat) = some (.int .u64 n2) ∧ par (n2 < n) (∃ b1 o1, (l.a : Option Addr) = some ⟨b1, o1, none⟩ ∧ ((0 : Int) ≤ n1 ∧ n1 < (l.n : Int)) ∧ ∃ n3 : Int, h1.at b1 (o1 + n1.toNat) = some (.int .u64 n3) ∧ appendD l1 55 1 8 [.int .u64 0] 1 [.int .u64 n3] h1 fun l2 h2 => I l2 (IntKind.wrap .i64 (n1 + 1)) h2 ∧ m l2 (IntKind.wrap .i64 (n1 + 1)) h2 < m l1 n1 h1) (appendD l1 55 1 8 [.int .u64 0] 1 [.int .u64 n] h1 fun l3 h3 => Sl.okCut l n1 (l.n : Int) (l.c : Int) ∧ ∃ vs, h3.row ((Sl.cut l 1 n1 (l.n : Int) (l.c : Int)).a) (((Sl.cut l 1 n1 (l.n : Int) (l.c : Int)).n) * 1) vs ∧ (∀ v ∈ vs, Value.oneCell' v = true) ∧ appendD l3 55 1 8 [.int .u64 0] ((Sl.cut l 1 n1 (l.n : Int) (l.c : Int)).n) vs h3 fun l4 h4 => Q (.slice l4.a l4.n l4.c) h4)) (appendD l1 55 1 8 [.int .u64 0] 1 [.int .u64 n] h1 fun l5 h5 => Sl.okCut l n1 (l.n : Int) (l.c : Int) ∧ ∃ vs1, h5.row ((Sl.cut l 1 n1 (l.n : Int) (l.c : Int)).a) (((Sl.cut l 1 n1 (l.n : Int) (l.c : Int)).n) * 1) vs1 ∧ (∀ v ∈ vs1, Value.oneCell' v = true) ∧ appendD l5 55 1 8 [.int .u64 0] ((Sl.cut l 1 n1 (l.n : Int) (l.c : Int)).n) vs1 h5 fun l6 h6 => Q (.slice l6.a l6.n l6.c) h6))
theorem F111.den (V : Value → List Value → PT) (l : Sl) (n : Int) : denF Try.prog [24, 30] [] V [(60, .loop [(5, .sl), (6, .int .i64)] [])] Try.f111 [.v (.slice l.a l.n l.c), .v (.int .u64 n)] = F111.T l n := by kernel_rfl
def F111.W (T111 : Sl → Int → PT) (args : List Value) : PT := match args with
  | [.slice l_a l_n l_c, .int .u64 n] => T111 ⟨l_a, l_n, l_c⟩ n
  | _ => fun _ _ => False
def F111.V : List Value → PT := F111.W F111.T
theorem F111.ok : FOk Try.prog 111 F111.V := by
  refine ⟨⟨_, Try.func111, rfl, rfl⟩, fun args => ?_⟩
  have hG : GOk Try.prog [] := GOk.nil
  have hV : VOk Try.prog noV := noV_ok
  unfold F111.V F111.W
  split
  · exact denF_okV hG hV Try.func111 (fun h Q hq => (F111.den _ _ _) ▸ hq)
  · exact fun h Q hq => hq.elim
def F86.T (l : Sl) (n : Int) (n1 : Int) (n2 : Int) (l1 : Sl) (l2 : Sl) (l3 : Sl) : PT := fun h Q =>
  ∃ (I : Sl → Int → Hp → Prop) (m : Sl → Int → Hp → Nat), I ⟨none, 0, 0⟩ 0 h ∧ (∀ l4 : Sl, ∀ n3 : Int, ∀ h1 : Hp, I l4 n3 h1 → par (n3 < (l.n : Int)) (∃ b o, (l.a : Option Addr) = some ⟨b, o, none⟩ ∧ ((0 : Int) ≤ n3 ∧ n3 < (l.n : Int)) ∧ ∃ l5 : Sl, h1.at b (o + n3.toNat) = some (.slice l5.a l5.n l5.c) ∧ ∃ vs, h1.row l5.a (l5.n * 6) vs ∧ (∀ v ∈ vs, Value.oneCell' v = true) ∧ appendD ⟨none, 0, 0⟩ 85 6 64 [.int .u64 0, .int .i64 0, .int .i64 0, .int .i64 0, .string (ByteArray.mk #[]), .string (ByteArray.mk #[])] l5.n vs h1 fun l6 h2 => appendD l4 106 1 24 [.slice none 0 0] 1 [.slice l6.a l6.n l6.c] h2 fun l7 h3 => I l7 (IntKind.wrap .i64 (n3 + 1)) h3 ∧ m l7 (IntKind.wrap .i64 (n3 + 1)) h3 < m l4 n3 h1) (par ((l3.n : Int) = (l4.n : Int)) (∃ (I1 : Int → Hp → Prop) (m1 : Int → Hp → Nat), I1 0 h1 ∧ (∀ n4 : Int, ∀ h4 : Hp, I1 n4 h4 → par (n4 < (l1.n : Int)) (∃ b1 o1, (l1.a : Option Addr) = some ⟨b1, o1, none⟩ ∧ ((0 : Int) ≤ n4 ∧ n4 < (l1.n : Int)) ∧ ∃ n5 : Int, h4.at b1 (o1 + n4.toNat * 2) = some (.int .i64 n5) ∧ par (n5 < 0) (Q (.tuple ⟨[.slice none 0 0, .int .i64 133]⟩) h4) (par ((l4.n : Int) ≤ n5) (Q (.tuple ⟨[.slice none 0 0, .int .i64 133]⟩) h4) (∃ b2 o2, (l4.a : Option Addr) = some ⟨b2, o2, none⟩ ∧ ((0 : Int) ≤ n5 ∧ n5 < (l4.n : Int)) ∧ ∃ l8 : Sl, h4.at b2 (o2 + n5.toNat) = some (.slice l8.a l8.n l8.c) ∧ ∃ b3 o3, (l1.a : Option Addr) = some ⟨b3, o3, none⟩ ∧ ((0 : Int) ≤ n4 ∧ n4 < (l1.n : Int)) ∧ ∃ n6 : Int, h4.at b3 ((o3 + n4.toNat * 2) + 1) = some (.int .u64 n6) ∧ F106.T l8 n6 h4 fun r h5 => ∃ n7 : Int, r = .int .i64 n7 ∧ par (n7 < 0) (Q (.tuple ⟨[.slice none 0 0, .int .i64 130]⟩) h5) (∃ b4 o4, (l4.a : Option Addr) = some ⟨b4, o4, none⟩ ∧ ((0 : Int) ≤ n5 ∧ n5 < (l4.n : Int)) ∧ ∃ l9 : Sl, h5.at b4 (o4 + n5.toNat) = some (.slice l9.a l9.n l9.c) ∧ Sl.okCut l9 0 n7 (l9.c : Int) ∧ ∃ vs1, h5.row ((Sl.cut l9 6 0 n7 (l9.c : Int)).a) (((Sl.cut l9 6 0 n7 (l9.c : Int)).n) * 6) vs1 ∧ (∀ v ∈ vs1, Value.oneCell' v = true) ∧ appendD ⟨none, 0, 0⟩ 85 6 64 [.int .u64 0, .int .i64 0, .int .i64 0, .int .i64 0, .string (ByteArray.mk #[]), .string (ByteArray.mk #[])] ((Sl.cut l9 6 0 n7 (l9.c : Int)).n) vs1 h5 fun l10 h6 => ∃ b5 o5, (l4.a : Option Addr) = some ⟨b5, o5, none⟩ ∧ ((0 : Int) ≤ n5 ∧ n5 < (l4.n : Int)) ∧ ∃ l11 : Sl, h6.at b5 (o5 + n5.toNat) = some (.slice l11.a l11.n l11.c) ∧ Sl.okCut l11 (IntKind.wrap .i64 (n7 + 1)) (l11.n : Int) (l11.c : Int) ∧ ∃ vs2, h6.row ((Sl.cut l11 6 (IntKind.wrap .i64 (n7 + 1)) (l11.n : Int) (l11.c : Int)).a) (((Sl.cut l11 6 (IntKind.wrap .i64 (n7 + 1)) (l11.n : Int) (l11.c : Int)).n) * 6) vs2 ∧ (∀ v ∈ vs2, Value.oneCell' v = true) ∧ appendD l10 85 6 64 [.int .u64 0, .int .i64 0, .int .i64 0, .int .i64 0, .string (ByteArray.mk #[]), .string (ByteArray.mk #[])] ((Sl.cut l11 6 (IntKind.wrap .i64 (n7 + 1)) (l11.n : Int) (l11.c : Int)).n) vs2 h6 fun l12 h7 => ∃ b6 o6, (l4.a : Option Addr) = some ⟨b6, o6, none⟩ ∧ ((0 : Int) ≤ n5 ∧ n5 < (l4.n : Int)) ∧ h7.canW b6 (o6 + n5.toNat) 1 ∧ I1 (IntKind.wrap .i64 (n4 + 1)) (h7.wr b6 (o6 + n5.toNat) [.slice l12.a l12.n l12.c]) ∧ m1 (IntKind.wrap .i64 (n4 + 1)) (h7.wr b6 (o6 + n5.toNat) [.slice l12.a l12.n l12.c]) < m1 n4 h4)))) (∃ (I2 : Int → Hp → Prop) (m2 : Int → Hp → Nat), I2 0 h4 ∧ (∀ n8 : Int, ∀ h8 : Hp, I2 n8 h8 → par (n8 < (l2.n : Int)) (∃ b7 o7, (l2.a : Option Addr) = some ⟨b7, o7, none⟩ ∧ ((0 : Int) ≤ n8 ∧ n8 < (l2.n : Int)) ∧ ∃ n9 : Int, h8.at b7 (o7 + n8.toNat * 7) = some (.int .i64 n9) ∧ par (n9 < 0) (Q (.tuple ⟨[.slice none 0 0, .int .i64 133]⟩) h8) (par ((l4.n : Int) ≤ n9) (Q (.tuple ⟨[.slice none 0 0, .int .i64 133]⟩) h8) (∃ b8 o8, (l2.a : Option Addr) = some ⟨b8, o8, none⟩ ∧ ((0 : Int) ≤ n8 ∧ n8 < (l2.n : Int)) ∧ ∃ n10 : Int, h8.at b8 ((o8 + n8.toNat * 7) + 1) = some (.int .u64 n10) ∧ F107.T l4 n10 h8 fun r1 h9 => ∃ b9 : Bool, r1 = .bool b9 ∧ parB b9 (Q (.tuple ⟨[.slice none 0 0, .int .i64 131]⟩) h9) (∃ b10 o9, (l2.a : Option Addr) = some ⟨b10, o9, none⟩ ∧ ((0 : Int) ≤ n8 ∧ n8 < (l2.n : Int)) ∧ ∃ s : ByteArray, h9.at b10 (((o9 + n8.toNat * 7) + 1) + 4) = some (.string s) ∧ ∃ b11 o10, (l2.a : Option Addr) = some ⟨b11, o10, none⟩ ∧ ((0 : Int) ≤ n8 ∧ n8 < (l2.n : Int)) ∧ ∃ s1 : ByteArray, h9.at b11 (((o10 + n8.toNat * 7) + 1) + 5) = some (.string s1) ∧ F108.T s s1 h9 fun r2 h10 => ∃ b12 : Bool, r2 = .bool b12 ∧ parB b12 (Q (.tuple ⟨[.slice none 0 0, .int .i64 132]⟩) h10) (∃ b13 o11, (l4.a : Option Addr) = some ⟨b13, o11, none⟩ ∧ ((0 : Int) ≤ n9 ∧ n9 < (l4.n : Int)) ∧ ∃ l13 : Sl, h10.at b13 (o11 + n9.toNat) = some (.slice l13.a l13.n l13.c) ∧ ∃ b14 o12, (l2.a : Option Addr) = some ⟨b14, o12, none⟩ ∧ ((0 : Int) ≤ n8 ∧ n8 < (l2.n : Int)) ∧ ∃ n11 : Int, h10.at b14 ((o12 + n8.toNat * 7) + 1) = some (.int .u64 n11) ∧ ∃ n12 : Int, h10.at b14 (((o12 + n8.toNat * 7) + 1) + 1) = some (.int .i64 n12) ∧ ∃ n13 : Int, h10.at b14 (((o12 + n8.toNat * 7) + 1) + 2) = some (.int .i64 n13) ∧ ∃ n14 : Int, h10.at b14 (((o12 + n8.toNat * 7) + 1) + 3) = some (.int .i64 n14) ∧ ∃ s2 : ByteArray, h10.at b14 (((o12 + n8.toNat * 7) + 1) + 4) = some (.string s2) ∧ ∃ s3 : ByteArray, h10.at b14 (((o12 + n8.toNat * 7) + 1) + 5) = some (.string s3) ∧ h10.at b13 (o11 + n9.toNat) = some (.slice l13.a l13.n l13.c) ∧ appendD l13 85 6 64 [.int .u64 0, .int .i64 0, .int .i64 0, .int .i64 0, .string (ByteArray.mk #[]), .string (ByteArray.mk #[])] 1 [.int .u64 n11, .int .i64 n12, .int .i64 n13, .int .i64 n14, .string s2, .string s3] h10 fun l14 h11 => ∃ b15 o13, (l4.a : Option Addr) = some ⟨b15, o13, none⟩ ∧ ((0 : Int) ≤ n9 ∧ n9 < (l4.n : Int)) ∧ h11.canW b15 (o13 + n9.toNat) 1 ∧ I2 (IntKind.wrap .i64 (n8 + 1)) (h11.wr b15 (o13 + n9.toNat) [.slice l14.a l14.n l14.c]) ∧ m2 (IntKind.wrap .i64 (n8 + 1)) (h11.wr b15 (o13 + n9.toNat) [.slice l14.a l14.n l14.c]) < m2 n8 h8))))) (∃ (I3 : Int → Hp → Prop) (m3 : Int → Hp → Nat), I3 1 h8 ∧ (∀ n15 : Int, ∀ h12 : Hp, I3 n15 h12 → par (n15 < (l4.n : Int)) (∃ b16 o14, (l4.a : Option Addr) = some ⟨b16, o14, none⟩ ∧ ((0 : Int) ≤ n15 ∧ n15 < (l4.n : Int)) ∧ ∃ l15 : Sl, h12.at b16 (o14 + n15.toNat) = some (.slice l15.a l15.n l15.c) ∧ F109.T l15 h12 fun r3 h13 => ∃ l16 : Sl, r3 = .slice l16.a l16.n l16.c ∧ ∃ b17 o15, (l4.a : Option Addr) = some ⟨b17, o15, none⟩ ∧ ((0 : Int) ≤ n15 ∧ n15 < (l4.n : Int)) ∧ h13.canW b17 (o15 + n15.toNat) 1 ∧ ∃ (I4 : Int → Hp → Prop) (m4 : Int → Hp → Nat), I4 1 (h13.wr b17 (o15 + n15.toNat) [.slice l16.a l16.n l16.c]) ∧ (∀ n16 : Int, ∀ h14 : Hp, I4 n16 h14 → ∃ b18 o16, (l4.a : Option Addr) = some ⟨b18, o16, none⟩ ∧ ((0 : Int) ≤ n15 ∧ n15 < (l4.n : Int)) ∧ ∃ l17 : Sl, h14.at b18 (o16 + n15.toNat) = some (.slice l17.a l17.n l17.c) ∧ par (n16 < (l17.n : Int)) (∃ b19 o17, (l4.a : Option Addr) = some ⟨b19, o17, none⟩ ∧ ((0 : Int) ≤ n15 ∧ n15 < (l4.n : Int)) ∧ ∃ l18 : Sl, h14.at b19 (o17 + n15.toNat) = some (.slice l18.a l18.n l18.c) ∧ ∃ b20 o18, (l18.a : Option Addr) = some ⟨b20, o18, none⟩ ∧ ((0 : Int) ≤ n16 ∧ n16 < (l18.n : Int)) ∧ ∃ s4 : ByteArray, h14.at b20 ((o18 + n16.toNat * 6) + 4) = some (.string s4) ∧ ∃ b21 o19, (l4.a : Option Addr) = some ⟨b21, o19, none⟩ ∧ ((0 : Int) ≤ n15 ∧ n15 < (l4.n : Int)) ∧ ∃ l19 : Sl, h14.at b21 (o19 + n15.toNat) = some (.slice l19.a l19.n l19.c) ∧ ∃ b22 o20, (l19.a : Option Addr) = some ⟨b22, o20, none⟩ ∧ ((0 : Int) ≤ (IntKind.wrap .i64 (n16 - 1)) ∧ (IntKind.wrap .i64 (n16 - 1)) < (l19.n : Int)) ∧ ∃ s5 : ByteArray, h14.at b22 ((o20 + ((IntKind.wrap .i64 (n16 - 1))).toNat * 6) + 5) = some (.string s5) ∧ F108.T s4 s5 h14 fun r4 h15 => ∃ b23 : Bool, r4 = .bool b23 ∧ parB b23 (I4 (IntKind.wrap .i64 (n16 + 1)) h15 ∧ m4 (IntKind.wrap .i64 (n16 + 1)) h15 < m4 n16 h14) (Q (.tuple ⟨[.slice none 0 0, .int .i64 132]⟩) h15)) (I3 (IntKind.wrap .i64 (n15 + 1)) h14 ∧ m3 (IntKind.wrap .i64 (n15 + 1)) h14 < m3 n15 h12))) (Q (.tuple ⟨[.slice l4.a l4.n l4.c, .int .i64 0]⟩) h12))))))) (Q (.tuple ⟨[.slice none 0 0, .int .i64 133]⟩) h1)))
theorem F86.gen (V : Value → List Value → PT) (T106 : Sl → Int → PT) (T107 : Sl → Int → PT) (T108 : ByteArray → ByteArray → PT) (T109 : Sl → PT) (l : Sl) (n : Int) (n1 : Int) (n2 : Int) (l1 : Sl) (l2 : Sl) (l3 : Sl) : denF Try.prog [3, 30, 149] [(106, F106.W T106), (107, F107.W T107), (108, F108.W T108), (109, F109.W T109)] V [(58, .loop [(6, .sl), (7, .int .i64)] []), (250, .loop [(9, .int .i64)] []), (506, .loop [(13, .int .i64)] []), (1018, .loop [(15, .int .i64)] []), (32038, .order [0, 1, 2, 3, 4, 5, 6, 7, 8, 9, 10, 11]), (129615, .order [0, 1, 2, 3, 4, 5, 6, 7, 8, 9, 10, 11, 12, 13, 14, 15]), (130342, .loop [(16, .int .i64)] []), (259228, .order [0, 1, 2, 3, 4, 5, 6, 7, 8, 9, 10, 11, 12, 13, 14]), (4170952, .order [0, 1, 2, 3, 4, 5, 6, 7, 8, 9, 10, 11, 12, 13, 14, 15, 16, 17, 18])] Try.f86 [.v (.slice l.a l.n l.c), .v (.agg ⟨[.int .u64 n, .int .u64 n1, .int .u64 n2, .slice l1.a l1.n l1.c, .slice l2.a l2.n l2.c, .slice l3.a l3.n l3.c]⟩)] = fun h Q =>
  ∃ (I : Sl → Int → Hp → Prop) (m : Sl → Int → Hp → Nat), I ⟨none, 0, 0⟩ 0 h ∧ (∀ l4 : Sl, ∀ n3 : Int, ∀ h1 : Hp, I l4 n3 h1 → par (n3 < (l.n : Int)) (∃ b o, (l.a : Option Addr) = some ⟨b, o, none⟩ ∧ ((0 : Int) ≤ n3 ∧ n3 < (l.n : Int)) ∧ ∃ l5 : Sl, h1.at b (o + n3.toNat) = some (.slice l5.a l5.n l5.c) ∧ ∃ vs, h1.row l5.a (l5.n * 6) vs ∧ (∀ v ∈ vs, Value.oneCell' v = true) ∧ appendD ⟨none, 0, 0⟩ 85 6 64 [.int .u64 0, .int .i64 0, .int .i64 0, .int .i64 0, .string (ByteArray.mk #[]), .string (ByteArray.mk #[])] l5.n vs h1 fun l6 h2 => appendD l4 106 1 24 [.slice none 0 0] 1 [.slice l6.a l6.n l6.c] h2 fun l7 h3 => I l7 (IntKind.wrap .i64 (n3 + 1)) h3 ∧ m l7 (IntKind.wrap .i64 (n3 + 1)) h3 < m l4 n3 h1) (par ((l3.n : Int) = (l4.n : Int)) (∃ (I1 : Int → Hp → Prop) (m1 : Int → Hp → Nat), I1 0 h1 ∧ (∀ n4 : Int, ∀ h4 : Hp, I1 n4 h4 → par (n4 < (l1.n : Int)) (∃ b1 o1, (l1.a : Option Addr) = some ⟨b1, o1, none⟩ ∧ ((0 : Int) ≤ n4 ∧ n4 < (l1.n : Int)) ∧ ∃ n5 : Int, h4.at b1 (o1 + n4.toNat * 2) = some (.int .i64 n5) ∧ par (n5 < 0) (Q (.tuple ⟨[.slice none 0 0, .int .i64 133]⟩) h4) (par ((l4.n : Int) ≤ n5) (Q (.tuple ⟨[.slice none 0 0, .int .i64 133]⟩) h4) (∃ b2 o2, (l4.a : Option Addr) = some ⟨b2, o2, none⟩ ∧ ((0 : Int) ≤ n5 ∧ n5 < (l4.n : Int)) ∧ ∃ l8 : Sl, h4.at b2 (o2 + n5.toNat) = some (.slice l8.a l8.n l8.c) ∧ ∃ b3 o3, (l1.a : Option Addr) = some ⟨b3, o3, none⟩ ∧ ((0 : Int) ≤ n4 ∧ n4 < (l1.n : Int)) ∧ ∃ n6 : Int, h4.at b3 ((o3 + n4.toNat * 2) + 1) = some (.int .u64 n6) ∧ T106 l8 n6 h4 fun r h5 => ∃ n7 : Int, r = .int .i64 n7 ∧ par (n7 < 0) (Q (.tuple ⟨[.slice none 0 0, .int .i64 130]⟩) h5) (∃ b4 o4, (l4.a : Option Addr) = some ⟨b4, o4, none⟩ ∧ ((0 : Int) ≤ n5 ∧ n5 < (l4.n : Int)) ∧ ∃ l9 : Sl, h5.at b4 (o4 + n5.toNat) = some (.slice l9.a l9.n l9.c) ∧ Sl.okCut l9 0 n7 (l9.c : Int) ∧ ∃ vs1, h5.row ((Sl.cut l9 6 0 n7 (l9.c : Int)).a) (((Sl.cut l9 6 0 n7 (l9.c : Int)).n) * 6) vs1 ∧ (∀ v ∈ vs1, Value.oneCell' v = true) ∧ appendD ⟨none, 0, 0⟩ 85 6 64 [.int .u64 0, .int .i64 0, .int .i64 0, .int .i64 0, .string (ByteArray.mk #[]), .string (ByteArray.mk #[])] ((Sl.cut l9 6 0 n7 (l9.c : Int)).n) vs1 h5 fun l10 h6 => ∃ b5 o5, (l4.a : Option Addr) = some ⟨b5, o5, none⟩ ∧ ((0 : Int) ≤ n5 ∧ n5 < (l4.n : Int)) ∧ ∃ l11 : Sl, h6.at b5 (o5 + n5.toNat) = some (.slice l11.a l11.n l11.c) ∧ Sl.okCut l11 (IntKind.wrap .i64 (n7 + 1)) (l11.n : Int) (l11.c : Int) ∧ ∃ vs2, h6.row ((Sl.cut l11 6 (IntKind.wrap .i64 (n7 + 1)) (l11.n : Int) (l11.c : Int)).a) (((Sl.cut l11 6 (IntKind.wrap .i64 (n7 + 1)) (l11.n : Int) (l11.c : Int)).n) * 6) vs2 ∧ (∀ v ∈ vs2, Value.oneCell' v = true) ∧ appendD l10 85 6 64 [.int .u64 0, .int .i64 0, .int .i64 0, .int .i64 0, .string (ByteArray.mk #[]), .string (ByteArray.mk #[])] ((Sl.cut l11 6 (IntKind.wrap .i64 (n7 + 1)) (l11.n : Int) (l11.c : Int)).n) vs2 h6 fun l12 h7 => ∃ b6 o6, (l4.a : Option Addr) = some ⟨b6, o6, none⟩ ∧ ((0 : Int) ≤ n5 ∧ n5 < (l4.n : Int)) ∧ h7.canW b6 (o6 + n5.toNat) 1 ∧ I1 (IntKind.wrap .i64 (n4 + 1)) (h7.wr b6 (o6 + n5.toNat) [.slice l12.a l12.n l12.c]) ∧ m1 (IntKind.wrap .i64 (n4 + 1)) (h7.wr b6 (o6 + n5.toNat) [.slice l12.a l12.n l12.c]) < m1 n4 h4)))) (∃ (I2 : Int → Hp → Prop) (m2 : Int → Hp → Nat), I2 0 h4 ∧ (∀ n8 : Int, ∀ h8 : Hp, I2 n8 h8 → par (n8 < (l2.n : Int)) (∃ b7 o7, (l2.a : Option Addr) = some ⟨b7, o7, none⟩ ∧ ((0 : Int) ≤ n8 ∧ n8 < (l2.n : Int)) ∧ ∃ n9 : Int, h8.at b7 (o7 + n8.toNat * 7) = some (.int .i64 n9) ∧ par (n9 < 0) (Q (.tuple ⟨[.slice none 0 0, .int .i64 133]⟩) h8) (par ((l4.n : Int) ≤ n9) (Q (.tuple ⟨[.slice none 0 0, .int .i64 133]⟩) h8) (∃ b8 o8, (l2.a : Option Addr) = some ⟨b8, o8, none⟩ ∧ ((0 : Int) ≤ n8 ∧ n8 < (l2.n : Int)) ∧ ∃ n10 : Int, h8.at b8 ((o8 + n8.toNat * 7) + 1) = some (.int .u64 n10) ∧ T107 l4 n10 h8 fun r1 h9 => ∃ b9 : Bool, r1 = .bool b9 ∧ parB b9 (Q (.tuple ⟨[.slice none 0 0, .int .i64 131]⟩) h9) (∃ b10 o9, (l2.a : Option Addr) = some ⟨b10, o9, none⟩ ∧ ((0 : Int) ≤ n8 ∧ n8 < (l2.n : Int)) ∧ ∃ s : ByteArray, h9.at b10 (((o9 + n8.toNat * 7) + 1) + 4) = some (.string s) ∧ ∃ b11 o10, (l2.a : Option Addr) = some ⟨b11, o10, none⟩ ∧ ((0 : Int) ≤ n8 ∧ n8 < (l2.n : Int)) ∧ ∃ s1 : ByteArray, h9.at b11 (((o10 + n8.toNat * 7) + 1) + 5) = some (.string s1) ∧ T108 s s1 h9 fun r2 h10 => ∃ b12 : Bool, r2 = .bool b12 ∧ parB b12 (Q (.tuple ⟨[.slice none 0 0, .int .i64 132]⟩) h10) (∃ b13 o11, (l4.a : Option Addr) = some ⟨b13, o11, none⟩ ∧ ((0 : Int) ≤ n9 ∧ n9 < (l4.n : Int)) ∧ ∃ l13 : Sl, h10.at b13 (o11 + n9.toNat) = some (.slice l13.a l13.n l13.c) ∧ ∃ b14 o12, (l2.a : Option Addr) = some ⟨b14, o12, none⟩ ∧ ((0 : Int) ≤ n8 ∧ n8 < (l2.n : Int)) ∧ ∃ n11 : Int, h10.at b14 ((o12 + n8.toNat * 7) + 1) = some (.int .u64 n11) ∧ ∃ n12 : Int, h10.at b14 (((o12 + n8.toNat * 7) + 1) + 1) = some (.int .i64 n12) ∧ ∃ n13 : Int, h10.at b14 (((o12 + n8.toNat * 7) + 1) + 2) = some (.int .i64 n13) ∧ ∃ n14 : Int, h10.at b14 (((o12 + n8.toNat * 7) + 1) + 3) = some (.int .i64 n14) ∧ ∃ s2 : ByteArray, h10.at b14 (((o12 + n8.toNat * 7) + 1) + 4) = some (.string s2) ∧ ∃ s3 : ByteArray, h10.at b14 (((o12 + n8.toNat * 7) + 1) + 5) = some (.string s3) ∧ h10.at b13 (o11 + n9.toNat) = some (.slice l13.a l13.n l13.c) ∧ appendD l13 85 6 64 [.int .u64 0, .int .i64 0, .int .i64 0, .int .i64 0, .string (ByteArray.mk #[]), .string (ByteArray.mk #[])] 1 [.int .u64 n11, .int .i64 n12, .int .i64 n13, .int .i64 n14, .string s2, .string s3] h10 fun l14 h11 => ∃ b15 o13, (l4.a : Option Addr) = some ⟨b15, o13, none⟩ ∧ ((0 : Int) ≤ n9 ∧ n9 < (l4.n : Int)) ∧ h11.canW b15 (o13 + n9.toNat) 1 ∧ I2 (IntKind.wrap .i64 (n8 + 1)) (h11.wr b15 (o13 + n9.toNat) [.slice l14.a l14.n l14.c]) ∧ m2 (IntKind.wrap .i64 (n8 + 1)) (h11.wr b15 (o13 + n9.toNat) [.slice l14.a l14.n l14.c]) < m2 n8 h8))))) (∃ (I3 : Int → Hp → Prop) (m3 : Int → Hp → Nat), I3 1 h8 ∧ (∀ n15 : Int, ∀ h12 : Hp, I3 n15 h12 → par (n15 < (l4.n : Int)) (∃ b16 o14, (l4.a : Option Addr) = some ⟨b16, o14, none⟩ ∧ ((0 : Int) ≤ n15 ∧ n15 < (l4.n : Int)) ∧ ∃ l15 : Sl, h12.at b16 (o14 + n15.toNat) = some (.slice l15.a l15.n l15.c) ∧ T109 l15 h12 fun r3 h13 => ∃ l16 : Sl, r3 = .slice l16.a l16.n l16.c ∧ ∃ b17 o15, (l4.a : Option Addr) = some ⟨b17, o15, none⟩ ∧ ((0 : Int) ≤ n15 ∧ n15 < (l4.n : Int)) ∧ h13.canW b17 (o15 + n15.toNat) 1 ∧ ∃ (I4 : Int → Hp → Prop) (m4 : Int → Hp → Nat), I4 1 (h13.wr b17 (o15 + n15.toNat) [.slice l16.a l16.n l16.c]) ∧ (∀ n16 : Int, ∀ h14 : Hp, I4 n16 h14 → ∃ b18 o16, (l4.a : Option Addr) = some ⟨b18, o16, none⟩ ∧ ((0 : Int) ≤ n15 ∧ n15 < (l4.n : Int)) ∧ ∃ l17 : Sl, h14.at b18 (o16 + n15.toNat) = some (.slice l17.a l17.n l17.c) ∧ par (n16 < (l17.n : Int)) (∃ b19 o17, (l4.a : Option Addr) = some ⟨b19, o17, none⟩ ∧ ((0 : Int) ≤ n15 ∧ n15 < (l4.n : Int)) ∧ ∃ l18 : Sl, h14.at b19 (o17 + n15.toNat) = some (.slice l18.a l18.n l18.c) ∧ ∃ b20 o18, (l18.a : Option Addr) = some ⟨b20, o18, none⟩ ∧ ((0 : Int) ≤ n16 ∧ n16 < (l18.n : Int)) ∧ ∃ s4 : ByteArray, h14.at b20 ((o18 + n16.toNat * 6) + 4) = some (.string s4) ∧ ∃ b21 o19, (l4.a : Option Addr) = some ⟨b21, o19, none⟩ ∧ ((0 : Int) ≤ n15 ∧ n15 < (l4.n : Int)) ∧ ∃ l19 : Sl, h14.at b21 (o19 + n15.toNat) = some (.slice l19.a l19.n l19.c) ∧ ∃ b22 o20, (l19.a : Option Addr) = some ⟨b22, o20, none⟩ ∧ ((0 : Int) ≤ (IntKind.wrap .i64 (n16 - 1)) ∧ (IntKind.wrap .i64 (n16 - 1)) < (l19.n : Int)) ∧ ∃ s5 : ByteArray, h14.at b22 ((o20 + ((IntKind.wrap .i64 (n16 - 1))).toNat * 6) + 5) = some (.string s5) ∧ T108 s4 s5 h14 fun r4 h15 => ∃ b23 : Bool, r4 = .bool b23 ∧ parB b23 (I4 (IntKind.wrap .i64 (n16 + 1)) h15 ∧ m4 (IntKind.wrap .i64 (n16 + 1)) h15 < m4 n16 h14) (Q (.tuple ⟨[.slice none 0 0, .int .i64 132]⟩) h15)) (I3 (IntKind.wrap .i64 (n15 + 1)) h14 ∧ m3 (IntKind.wrap .i64 (n15 + 1)) h14 < m3 n15 h12))) (Q (.tuple ⟨[.slice l4.a l4.n l4.c, .int .i64 0]⟩) h12))))))) (Q (.tuple ⟨[.slice none 0 0, .int .i64 133]⟩) h1))) := by kernel_rfl
theorem F86.den (V : Value → List Value → PT) (l : Sl) (n : Int) (n1 : Int) (n2 : Int) (l1 : Sl) (l2 : Sl) (l3 : Sl) : denF Try.prog [3, 30, 149] [(106, F106.V), (107, F107.V), (108, F108.V), (109, F109.V)] V [(58, .loop [(6, .sl), (7, .int .i64)] []), (250, .loop [(9, .int .i64)] []), (506, .loop [(13, .int .i64)] []), (1018, .loop [(15, .int .i64)] []), (32038, .order [0, 1, 2, 3, 4, 5, 6, 7, 8, 9, 10, 11]), (129615, .order [0, 1, 2, 3, 4, 5, 6, 7, 8, 9, 10, 11, 12, 13, 14, 15]), (130342, .loop [(16, .int .i64)] []), (259228, .order [0, 1, 2, 3, 4, 5, 6, 7, 8, 9, 10, 11, 12, 13, 14]), (4170952, .order [0, 1, 2, 3, 4, 5, 6, 7, 8, 9, 10, 11, 12, 13, 14, 15, 16, 17, 18])] Try.f86 [.v (.slice l.a l.n l.c), .v (.agg ⟨[.int .u64 n, .int .u64 n1, .int .u64 n2, .slice l1.a l1.n l1.c, .slice l2.a l2.n l2.c, .slice l3.a l3.n l3.c]⟩)] = F86.T l n n1 n2 l1 l2 l3 := F86.gen V F106.T F107.T F108.T F109.T l n n1 n2 l1 l2 l3
def F86.W (T86 : Sl → Int → Int → Int → Sl → Sl → Sl → PT) (args : List Value) : PT := match args with
  | [.slice l_a l_n l_c, .agg ⟨[.int .u64 n, .int .u64 n1, .int .u64 n2, .slice l1_a l1_n l1_c, .slice l2_a l2_n l2_c, .slice l3_a l3_n l3_c]⟩] => T86 ⟨l_a, l_n, l_c⟩ n n1 n2 ⟨l1_a, l1_n, l1_c⟩ ⟨l2_a, l2_n, l2_c⟩ ⟨l3_a, l3_n, l3_c⟩
  | _ => fun _ _ => False
def F86.V : List Value → PT := F86.W F86.T
theorem F86.ok : FOk Try.prog 86 F86.V := by
  refine ⟨⟨_, Try.func86, rfl, rfl⟩, fun args => ?_⟩
  have hG : GOk Try.prog [(106, F106.V), (107, F107.V), (108, F108.V), (109, F109.V)] := GOk.cons F106.ok (GOk.cons F107.ok (GOk.cons F108.ok (GOk.cons F109.ok (GOk.nil))))
  have hV : VOk Try.prog noV := noV_ok
  unfold F86.V F86.W
  split
  · exact denF_okV hG hV Try.func86 (fun h Q hq => (F86.den _ _ _ _ _ _ _ _) ▸ hq)
  · exact fun h Q hq => hq.elim
def F87.T (p : Option Addr) (p1 : Option Addr) : PT := fun h Q =>
  ∃ (I : Sl → Int → Hp → Prop) (m : Sl → Int → Hp → Nat), I ⟨none, 0, 0⟩ 0 h ∧ (∀ l : Sl, ∀ n : Int, ∀ h1 : Hp, I l n h1 → ∃ b o, (p1 : Option Addr) = some ⟨b, o, none⟩ ∧ ∃ l1 : Sl, h1.at b (o + 1) = some (.slice l1.a l1.n l1.c) ∧ par (n < (l1.n : Int)) (∃ (I1 : Sl → Int → Hp → Prop) (m1 : Sl → Int → Hp → Nat), I1 l 0 h1 ∧ (∀ l2 : Sl, ∀ n1 : Int, ∀ h2 : Hp, I1 l2 n1 h2 → ∃ b1 o1, (p1 : Option Addr) = some ⟨b1, o1, none⟩ ∧ ∃ l3 : Sl, h2.at b1 (o1 + 1) = some (.slice l3.a l3.n l3.c) ∧ ∃ b2 o2, (l3.a : Option Addr) = some ⟨b2, o2, none⟩ ∧ ((0 : Int) ≤ n ∧ n < (l3.n : Int)) ∧ ∃ l4 : Sl, h2.at b2 (o2 + n.toNat) = some (.slice l4.a l4.n l4.c) ∧ par (n1 < (l4.n : Int)) (∃ b3 o3, (p1 : Option Addr) = some ⟨b3, o3, none⟩ ∧ ∃ l5 : Sl, h2.at b3 (o3 + 1) = some (.slice l5.a l5.n l5.c) ∧ ∃ b4 o4, (l5.a : Option Addr) = some ⟨b4, o4, none⟩ ∧ ((0 : Int) ≤ n ∧ n < (l5.n : Int)) ∧ ∃ l6 : Sl, h2.at b4 (o4 + n.toNat) = some (.slice l6.a l6.n l6.c) ∧ ∃ b5 o5, (l6.a : Option Addr) = some ⟨b5, o5, none⟩ ∧ ((0 : Int) ≤ n1 ∧ n1 < (l6.n : Int)) ∧ ∃ n2 : Int, h2.at b5 (o5 + n1.toNat * 6) = some (.int .u64 n2) ∧ ∃ b6 o6, (p : Option Addr) = some ⟨b6, o6, none⟩ ∧ ∃ p2 : Option Addr, h2.at b6 o6 = some (.pointer p2) ∧ F110.T p2 n2 h2 fun r h3 => ∃ b7 : Bool, r = .bool b7 ∧ parB b7 (∃ (I2 : Bool → Int → Hp → Prop) (m2 : Bool → Int → Hp → Nat), I2 true 0 h3 ∧ ((∀ n3 : Int, ∀ h4 : Hp, I2 true n3 h4 → ∃ b9 o7, (p : Option Addr) = some ⟨b9, o7, none⟩ ∧ ∃ l7 : Sl, h4.at b9 (o7 + 1) = some (.slice l7.a l7.n l7.c) ∧ par (n3 < (l7.n : Int)) (I1 l2 (IntKind.wrap .i64 (n1 + 1)) h4 ∧ m1 l2 (IntKind.wrap .i64 (n1 + 1)) h4 < m1 l2 n1 h2) (I1 l2 (IntKind.wrap .i64 (n1 + 1)) h4 ∧ m1 l2 (IntKind.wrap .i64 (n1 + 1)) h4 < m1 l2 n1 h2)) ∧ (∀ n3 : Int, ∀ h4 : Hp, I2 false n3 h4 → ∃ b10 o8, (p : Option Addr) = some ⟨b10, o8, none⟩ ∧ ∃ l8 : Sl, h4.at b10 (o8 + 1) = some (.slice l8.a l8.n l8.c) ∧ par (n3 < (l8.n : Int)) (∃ b11 o9, (p : Option Addr) = some ⟨b11, o9, none⟩ ∧ ∃ l9 : Sl, h4.at b11 (o9 + 2) = some (.slice l9.a l9.n l9.c) ∧ ∃ b12 o10, (l9.a : Option Addr) = some ⟨b12, o10, none⟩ ∧ ((0 : Int) ≤ n3 ∧ n3 < (l9.n : Int)) ∧ ∃ n4 : Int, h4.at b12 (o10 + n3.toNat) = some (.int .i64 n4) ∧ par ((0 : Int) < n4) (∃ b13 o11, (p : Option Addr) = some ⟨b13, o11, none⟩ ∧ ∃ l10 : Sl, h4.at b13 (o11 + 1) = some (.slice l10.a l10.n l10.c) ∧ ∃ b14 o12, (l10.a : Option Addr) = some ⟨b14, o12, none⟩ ∧ ((0 : Int) ≤ n3 ∧ n3 < (l10.n : Int)) ∧ ∃ p3 : Option Addr, h4.at b14 (o12 + n3.toNat) = some (.pointer p3) ∧ F110.T p3 n2 h4 fun r1 h5 => ∃ b15 : Bool, r1 = .bool b15 ∧ parB b15 (I2 true (IntKind.wrap .i64 (n3 + 1)) h5 ∧ m2 true (IntKind.wrap .i64 (n3 + 1)) h5 < m2 false n3 h4) (I2 false (IntKind.wrap .i64 (n3 + 1)) h5 ∧ m2 false (IntKind.wrap .i64 (n3 + 1)) h5 < m2 false n3 h4)) (I2 false (IntKind.wrap .i64 (n3 + 1)) h4 ∧ m2 false (IntKind.wrap .i64 (n3 + 1)) h4 < m2 false n3 h4)) (F111.T l2 n2 h4 fun r2 h6 => ∃ l11 : Sl, r2 = .slice l11.a l11.n l11.c ∧ I1 l11 (IntKind.wrap .i64 (n1 + 1)) h6 ∧ m1 l11 (IntKind.wrap .i64 (n1 + 1)) h6 < m1 l2 n1 h2)))) (∃ (I3 : Bool → Int → Hp → Prop) (m3 : Bool → Int → Hp → Nat), I3 false 0 h3 ∧ ((∀ n5 : Int, ∀ h7 : Hp, I3 true n5 h7 → ∃ b17 o13, (p : Option Addr) = some ⟨b17, o13, none⟩ ∧ ∃ l12 : Sl, h7.at b17 (o13 + 1) = some (.slice l12.a l12.n l12.c) ∧ par (n5 < (l12.n : Int)) (I1 l2 (IntKind.wrap .i64 (n1 + 1)) h7 ∧ m1 l2 (IntKind.wrap .i64 (n1 + 1)) h7 < m1 l2 n1 h2) (I1 l2 (IntKind.wrap .i64 (n1 + 1)) h7 ∧ m1 l2 (IntKind.wrap .i64 (n1 + 1)) h7 < m1 l2 n1 h2)) ∧ (∀ n5 : Int, ∀ h7 : Hp, I3 false n5 h7 → ∃ b18 o14, (p : Option Addr) = some ⟨b18, o14, none⟩ ∧ ∃ l13 : Sl, h7.at b18 (o14 + 1) = some (.slice l13.a l13.n l13.c) ∧ par (n5 < (l13.n : Int)) (∃ b19 o15, (p : Option Addr) = some ⟨b19, o15, none⟩ ∧ ∃ l14 : Sl, h7.at b19 (o15 + 2) = some (.slice l14.a l14.n l14.c) ∧ ∃ b20 o16, (l14.a : Option Addr) = some ⟨b20, o16, none⟩ ∧ ((0 : Int) ≤ n5 ∧ n5 < (l14.n : Int)) ∧ ∃ n6 : Int, h7.at b20 (o16 + n5.toNat) = some (.int .i64 n6) ∧ par ((0 : Int) < n6) (∃ b21 o17, (p : Option Addr) = some ⟨b21, o17, none⟩ ∧ ∃ l15 : Sl, h7.at b21 (o17 + 1) = some (.slice l15.a l15.n l15.c) ∧ ∃ b22 o18, (l15.a : Option Addr) = some ⟨b22, o18, none⟩ ∧ ((0 : Int) ≤ n5 ∧ n5 < (l15.n : Int)) ∧ ∃ p4 : Option Addr, h7.at b22 (o18 + n5.toNat) = some (.pointer p4) ∧ F110.T p4 n2 h7 fun r3 h8 => ∃ b23 : Bool, r3 = .bool b23 ∧ parB b23 (I3 true (IntKind.wrap .i64 (n5 + 1)) h8 ∧ m3 true (IntKind.wrap .i64 (n5 + 1)) h8 < m3 false n5 h7) (I3 false (IntKind.wrap .i64 (n5 + 1)) h8 ∧ m3 false (IntKind.wrap .i64 (n5 + 1)) h8 < m3 false n5 h7)) (I3 false (IntKind.wrap .i64 (n5 + 1)) h7 ∧ m3 false (IntKind.wrap .i64 (n5 + 1)) h7 < m3 false n5 h7)) (F111.T l2 n2 h7 fun r4 h9 => ∃ l16 : Sl, r4 = .slice l16.a l16.n l16.c ∧ I1 l16 (IntKind.wrap .i64 (n1 + 1)) h9 ∧ m1 l16 (IntKind.wrap .i64 (n1 + 1)) h9 < m1 l2 n1 h2))))) (I l2 (IntKind.wrap .i64 (n + 1)) h2 ∧ m l2 (IntKind.wrap .i64 (n + 1)) h2 < m l n h1))) (Q (.slice l.a l.n l.c) h1))
theorem F87.gen (V : Value → List Value → PT) (T110 : Option Addr → Int → PT) (T111 : Sl → Int → PT) (p : Option Addr) (p1 : Option Addr) : denF Try.prog [] [(110, F110.W T110), (111, F111.W T111)] V [(58, .loop [(5, .sl), (6, .int .i64)] []), (3730, .loop [(5, .sl), (7, .int .i64)] []), (1909914, .loop [(9, .bool), (10, .int .i64)] [])] Try.f87 [.v (.pointer p), .v (.pointer p1)] = fun h Q =>
  ∃ (I : Sl → Int → Hp → Prop) (m : Sl → Int → Hp → Nat), I ⟨none, 0, 0⟩ 0 h ∧ (∀ l : Sl, ∀ n : Int, ∀ h1 : Hp, I l n h1 → ∃ b o, (p1 : Option Addr) = some ⟨b, o, none⟩ ∧ ∃ l1 : Sl, h1.at b (o + 1) = some (.slice l1.a l1.n l1.c) ∧ par (n < (l1.n : Int)) (∃ (I1 : Sl → Int → Hp → Prop) (m1 : Sl → Int → Hp → Nat), I1 l 0 h1 ∧ (∀ l2 : Sl, ∀ n1 : Int, ∀ h2 : Hp, I1 l2 n1 h2 → ∃ b1 o1, (p1 : Option Addr) = some ⟨b1, o1, none⟩ ∧ ∃ l3 : Sl, h2.at b1 (o1 + 1) = some (.slice l3.a l3.n l3.c) ∧ ∃ b2 o2, (l3.a : Option Addr) = some ⟨b2, o2, none⟩ ∧ ((0 : Int) ≤ n ∧ n < (l3.n : Int)) ∧ ∃ l4 : Sl, h2.at b2 (o2 + n.toNat) = some (.slice l4.a l4.n l4.c) ∧ par (n1 < (l4.n : Int)) (∃ b3 o3, (p1 : Option Addr) = some ⟨b3, o3, none⟩ ∧ ∃ l5 : Sl, h2.at b3 (o3 + 1) = some (.slice l5.a l5.n l5.c) ∧ ∃ b4 o4, (l5.a : Option Addr) = some ⟨b4, o4, none⟩ ∧ ((0 : Int) ≤ n ∧ n < (l5.n : Int)) ∧ ∃ l6 : Sl, h2.at b4 (o4 + n.toNat) = some (.slice l6.a l6.n l6.c) ∧ ∃ b5 o5, (l6.a : Option Addr) = some ⟨b5, o5, none⟩ ∧ ((0 : Int) ≤ n1 ∧ n1 < (l6.n : Int)) ∧ ∃ n2 : Int, h2.at b5 (o5 + n1.toNat * 6) = some (.int .u64 n2) ∧ ∃ b6 o6, (p : Option Addr) = some ⟨b6, o6, none⟩ ∧ ∃ p2 : Option Addr, h2.at b6 o6 = some (.pointer p2) ∧ T110 p2 n2 h2 fun r h3 => ∃ b7 : Bool, r = .bool b7 ∧ parB b7 (∃ (I2 : Bool → Int → Hp → Prop) (m2 : Bool → Int → Hp → Nat), I2 true 0 h3 ∧ ((∀ n3 : Int, ∀ h4 : Hp, I2 true n3 h4 → ∃ b9 o7, (p : Option Addr) = some ⟨b9, o7, none⟩ ∧ ∃ l7 : Sl, h4.at b9 (o7 + 1) = some (.slice l7.a l7.n l7.c) ∧ par (n3 < (l7.n : Int)) (I1 l2 (IntKind.wrap .i64 (n1 + 1)) h4 ∧ m1 l2 (IntKind.wrap .i64 (n1 + 1)) h4 < m1 l2 n1 h2) (I1 l2 (IntKind.wrap .i64 (n1 + 1)) h4 ∧ m1 l2 (IntKind.wrap .i64 (n1 + 1)) h4 < m1 l2 n1 h2)) ∧ (∀ n3 : Int, ∀ h4 : Hp, I2 false n3 h4 → ∃ b10 o8, (p : Option Addr) = some ⟨b10, o8, none⟩ ∧ ∃ l8 : Sl, h4.at b10 (o8 + 1) = some (.slice l8.a l8.n l8.c) ∧ par (n3 < (l8.n : Int)) (∃ b11 o9, (p : Option Addr) = some ⟨b11, o9, none⟩ ∧ ∃ l9 : Sl, h4.at b11 (o9 + 2) = some (.slice l9.a l9.n l9.c) ∧ ∃ b12 o10, (l9.a : Option Addr) = some ⟨b12, o10, none⟩ ∧ ((0 : Int) ≤ n3 ∧ n3 < (l9.n : Int)) ∧ ∃ n4 : Int, h4.at b12 (o10 + n3.toNat) = some (.int .i64 n4) ∧ par ((0 : Int) < n4) (∃ b13 o11, (p : Option Addr) = some ⟨b13, o11, none⟩ ∧ ∃ l10 : Sl, h4.at b13 (o11 + 1) = some (.slice l10.a l10.n l10.c) ∧ ∃ b14 o12, (l10.a : Option Addr) = some ⟨b14, o12, none⟩ ∧ ((0 : Int) ≤ n3 ∧ n3 < (l10.n : Int)) ∧ ∃ p3 : Option Addr, h4.at b14 (o12 + n3.toNat) = some (.pointer p3) ∧ T110 p3 n2 h4 fun r1 h5 => ∃ b15 : Bool, r1 = .bool b15 ∧ parB b15 (I2 true (IntKind.wrap .i64 (n3 + 1)) h5 ∧ m2 true (IntKind.wrap .i64 (n3 + 1)) h5 < m2 false n3 h4) (I2 false (IntKind.wrap .i64 (n3 + 1)) h5 ∧ m2 false (IntKind.wrap .i64 (n3 + 1)) h5 < m2 false n3 h4)) (I2 false (IntKind.wrap .i64 (n3 + 1)) h4 ∧ m2 false (IntKind.wrap .i64 (n3 + 1)) h4 < m2 false n3 h4)) (T111 l2 n2 h4 fun r2 h6 => ∃ l11 : Sl, r2 = .slice l11.a l11.n l11.c ∧ I1 l11 (IntKind.wrap .i64 (n1 + 1)) h6 ∧ m1 l11 (IntKind.wrap .i64 (n1 + 1)) h6 < m1 l2 n1 h2)))) (∃ (I3 : Bool → Int → Hp → Prop) (m3 : Bool → Int → Hp → Nat), I3 false 0 h3 ∧ ((∀ n5 : Int, ∀ h7 : Hp, I3 true n5 h7 → ∃ b17 o13, (p : Option Addr) = some ⟨b17, o13, none⟩ ∧ ∃ l12 : Sl, h7.at b17 (o13 + 1) = some (.slice l12.a l12.n l12.c) ∧ par (n5 < (l12.n : Int)) (I1 l2 (IntKind.wrap .i64 (n1 + 1)) h7 ∧ m1 l2 (IntKind.wrap .i64 (n1 + 1)) h7 < m1 l2 n1 h2) (I1 l2 (IntKind.wrap .i64 (n1 + 1)) h7 ∧ m1 l2 (IntKind.wrap .i64 (n1 + 1)) h7 < m1 l2 n1 h2)) ∧ (∀ n5 : Int, ∀ h7 : Hp, I3 false n5 h7 → ∃ b18 o14, (p : Option Addr) = some ⟨b18, o14, none⟩ ∧ ∃ l13 : Sl, h7.at b18 (o14 + 1) = some (.slice l13.a l13.n l13.c) ∧ par (n5 < (l13.n : Int)) (∃ b19 o15, (p : Option Addr) = some ⟨b19, o15, none⟩ ∧ ∃ l14 : Sl, h7.at b19 (o15 + 2) = some (.slice l14.a l14.n l14.c) ∧ ∃ b20 o16, (l14.a : Option Addr) = some ⟨b20, o16, none⟩ ∧ ((0 : Int) ≤ n5 ∧ n5 < (l14.n : Int)) ∧ ∃ n6 : Int, h7.at b20 (o16 + n5.toNat) = some (.int .i64 n6) ∧ par ((0 : Int) < n6) (∃ b21 o17, (p : Option Addr) = some ⟨b21, o17, none⟩ ∧ ∃ l15 : Sl, h7.at b21 (o17 + 1) = some (.slice l15.a l15.n l15.c) ∧ ∃ b22 o18, (l15.a : Option Addr) = some ⟨b22, o18, none⟩ ∧ ((0 : Int) ≤ n5 ∧ n5 < (l15.n : Int)) ∧ ∃ p4 : Option Addr, h7.at b22 (o18 + n5.toNat) = some (.pointer p4) ∧ T110 p4 n2 h7 fun r3 h8 => ∃ b23 : Bool, r3 = .bool b23 ∧ parB b23 (I3 true (IntKind.wrap .i64 (n5 + 1)) h8 ∧ m3 true (IntKind.wrap .i64 (n5 + 1)) h8 < m3 false n5 h7) (I3 false (IntKind.wrap .i64 (n5 + 1)) h8 ∧ m3 false (IntKind.wrap .i64 (n5 + 1)) h8 < m3 false n5 h7)) (I3 false (IntKind.wrap .i64 (n5 + 1)) h7 ∧ m3 false (IntKind.wrap .i64 (n5 + 1)) h7 < m3 false n5 h7)) (T111 l2 n2 h7 fun r4 h9 => ∃ l16 : Sl, r4 = .slice l16.a l16.n l16.c ∧ I1 l16 (IntKind.wrap .i64 (n1 + 1)) h9 ∧ m1 l16 (IntKind.wrap .i64 (n1 + 1)) h9 < m1 l2 n1 h2))))) (I l2 (IntKind.wrap .i64 (n + 1)) h2 ∧ m l2 (IntKind.wrap .i64 (n + 1)) h2 < m l n h1))) (Q (.slice l.a l.n l.c) h1)) := by kernel_rfl
theorem F87.den (V : Value → List Value → PT) (p : Option Addr) (p1 : Option Addr) : denF Try.prog [] [(110, F110.V), (111, F111.V)] V [(58, .loop [(5, .sl), (6, .int .i64)] []), (3730, .loop [(5, .sl), (7, .int .i64)] []), (1909914, .loop [(9, .bool), (10, .int .i64)] [])] Try.f87 [.v (.pointer p), .v (.pointer p1)] = F87.T p p1 := F87.gen V F110.T F111.T p p1
def F87.W (T87 : Option Addr → Option Addr → PT) (args : List Value) : PT := match args with
  | [.pointer p, .pointer p1] => T87 p p1
  | _ => fun _ _ => False
def F87.V : List Value → PT := F87.W F87.T
theorem F87.ok : FOk Try.prog 87 F87.V := by
  refine ⟨⟨_, Try.func87, rfl, rfl⟩, fun args => ?_⟩
  have hG : GOk Try.prog [(110, F110.V), (111, F111.V)] := GOk.cons F110.ok (GOk.cons F111.ok (GOk.nil))
  have hV : VOk Try.prog noV := noV_ok
  unfold F87.V F87.W
  split
  · exact denF_okV hG hV Try.func87 (fun h Q hq => (F87.den _ _ _) ▸ hq)
  · exact fun h Q hq => hq.elim
def F53.T (n : Int) : PT := fun h Q =>
  ∃ J : Int → Hp → Prop, (∀ n1 : Int, ∀ h1 : Hp, J n1 h1 → ∃ J1 : Int → Hp → Prop, (∀ n2 : Int, ∀ h2 : Hp, J1 n2 h2 → ∀ b, h2 b = none → ∀ b1, (h2.new b (.cells ⟨[.int .i64 0, .slice none 0 0]⟩ 156 (0, 0))) b1 = none → ∃ (I : Int → Hp → Prop) (m : Int → Hp → Nat), I 0 ((h2.new b (.cells ⟨[.int .i64 0, .slice none 0 0]⟩ 156 (0, 0))).new b1 (.cells ⟨[.pointer (some ⟨b, 0, none⟩), .slice none 0 0, .slice none 0 0, .slice none 0 0]⟩ 159 (0, 0))) ∧ (∀ n3 : Int, ∀ h3 : Hp, I n3 h3 → par (n3 < n2) (∃ p : Option Addr, h3.at b1 0 = some (.pointer p) ∧ ∃ p1 : Option Addr, h3.at b1 0 = some (.pointer p1) ∧ ∃ b2 o, (p1 : Option Addr) = some ⟨b2, o, none⟩ ∧ ∃ l : Sl, h3.at b2 (o + 1) = some (.slice l.a l.n l.c) ∧ h3.at b1 0 = some (.pointer p) ∧ h3.at b1 0 = some (.pointer p1) ∧ h3.at b2 (o + 1) = some (.slice l.a l.n l.c) ∧ appendD l 106 1 24 [.slice none 0 0] 1 [.slice none 0 0] h3 fun l1 h4 => h4.at b1 0 = some (.pointer p) ∧ ∃ b3 o1, (p : Option Addr) = some ⟨b3, o1, none⟩ ∧ h4.canW b3 (o1 + 1) 1 ∧ ∃ l2 : Sl, (h4.wr b3 (o1 + 1) [.slice l1.a l1.n l1.c]).at b1 3 = some (.slice l2.a l2.n l2.c) ∧ appendD l2 9 1 16 [.string (ByteArray.mk #[])] 1 [.string (ByteArray.mk #[])] (h4.wr b3 (o1 + 1) [.slice l1.a l1.n l1.c]) fun l3 h5 => h5.canW b1 3 1 ∧ I (IntKind.wrap .i64 (n3 + 1)) (h5.wr b1 3 [.slice l3.a l3.n l3.c]) ∧ m (IntKind.wrap .i64 (n3 + 1)) (h5.wr b1 3 [.slice l3.a l3.n l3.c]) < m n3 h3) (∃ l4 : Sl, h3.at b1 1 = some (.slice l4.a l4.n l4.c) ∧ ∃ p2 : Option Addr, h3.at b1 0 = some (.pointer p2) ∧ h3.at b1 1 = some (.slice l4.a l4.n l4.c) ∧ appendD l4 103 1 8 [.pointer none] 1 [.pointer p2] h3 fun l5 h6 => h6.canW b1 1 1 ∧ ∃ l6 : Sl, (h6.wr b1 1 [.slice l5.a l5.n l5.c]).at b1 2 = some (.slice l6.a l6.n l6.c) ∧ appendD l6 3 1 8 [.int .i64 0] 1 [.int .i64 0] (h6.wr b1 1 [.slice l5.a l5.n l5.c]) fun l7 h7 => h7.canW b1 2 1 ∧ Q (.pointer (some ⟨b1, 0, none⟩)) (h7.wr b1 2 [.slice l7.a l7.n l7.c])))) ∧ (par ((5 : Int) < n1) (J1 5 h1) (J1 n1 h1))) ∧ (par (n < 1) (J 1 h) (J n h))
theorem F53.den (V : Value → List Value → PT) (n : Int) : denF Try.prog [29, 38, 51, 60] [] V [(3, .join [(0, .int .i64)] []), (7, .join [(0, .int .i64)] []), (126, .order [0, 1, 2, 3, 4, 5, 6, 7, 8, 9, 10, 11, 12, 13]), (250, .loop [(4, .int .i64)] []), (8008, .order [0, 1, 2, 3, 4, 5, 6, 7, 8, 9, 10, 11, 12, 13, 14, 15])] Try.f53 [.v (.int .i64 n)] = F53.T n := by kernel_rfl
def F53.W (T53 : Int → PT) (args : List Value) : PT := match args with
  | [.int .i64 n] => T53 n
  | _ => fun _ _ => False
def F53.V : List Value → PT := F53.W F53.T
theorem F53.ok : FOk Try.prog 53 F53.V := by
  refine ⟨⟨_, Try.func53, rfl, rfl⟩, fun args => ?_⟩
  have hG : GOk Try.prog [] := GOk.nil
  have hV : VOk Try.prog noV := noV_ok
  unfold F53.V F53.W
  split
  · exact denF_okV hG hV Try.func53 (fun h Q hq => (F53.den _ _) ▸ hq)
  · exact fun h Q hq => hq.elim
def F55.T (p : Option Addr) (n : Int) (n1 : Int) (n2 : Int) (l : Sl) (l1 : Sl) (l2 : Sl) : PT := fun h Q =>
  ∃ b o, (p : Option Addr) = some ⟨b, o, none⟩ ∧ ∃ p1 : Option Addr, h.at b o = some (.pointer p1) ∧ ∃ b1 o1, (p1 : Option Addr) = some ⟨b1, o1, none⟩ ∧ ∃ l3 : Sl, h.at b1 (o1 + 1) = some (.slice l3.a l3.n l3.c) ∧ F86.T l3 n n1 n2 l l1 l2 h fun r h1 => ∃ l4 : Sl, ∃ n3 : Int, r = .tuple ⟨[.slice l4.a l4.n l4.c, .int .i64 n3]⟩ ∧ par (n3 = 0) (∃ b2 o2, (p : Option Addr) = some ⟨b2, o2, none⟩ ∧ ∃ p2 : Option Addr, h1.at b2 o2 = some (.pointer p2) ∧ ∃ b3 o3, (p : Option Addr) = some ⟨b3, o3, none⟩ ∧ ∃ l5 : Sl, h1.at b3 (o3 + 1) = some (.slice l5.a l5.n l5.c) ∧ ∀ b4, h1 b4 = none → ∃ b5 o4, (p : Option Addr) = some ⟨b5, o4, none⟩ ∧ (h1.new b4 (.cells ⟨[.int .i64 (l5.n : Int), .slice l4.a l4.n l4.c]⟩ 156 (0, 0))).canW b5 o4 1 ∧ ∃ b6 o5, (p : Option Addr) = some ⟨b6, o5, none⟩ ∧ ∃ l6 : Sl, ((h1.new b4 (.cells ⟨[.int .i64 (l5.n : Int), .slice l4.a l4.n l4.c]⟩ 156 (0, 0))).wr b5 o4 [.pointer (some ⟨b4, 0, none⟩)]).at b6 (o5 + 1) = some (.slice l6.a l6.n l6.c) ∧ ∃ b7 o6, (p : Option Addr) = some ⟨b7, o6, none⟩ ∧ ∃ p3 : Option Addr, ((h1.new b4 (.cells ⟨[.int .i64 (l5.n : Int), .slice l4.a l4.n l4.c]⟩ 156 (0, 0))).wr b5 o4 [.pointer (some ⟨b4, 0, none⟩)]).at b7 o6 = some (.pointer p3) ∧ ((h1.new b4 (.cells ⟨[.int .i64 (l5.n : Int), .slice l4.a l4.n l4.c]⟩ 156 (0, 0))).wr b5 o4 [.pointer (some ⟨b4, 0, none⟩)]).at b6 (o5 + 1) = some (.slice l6.a l6.n l6.c) ∧ appendD l6 103 1 8 [.pointer none] 1 [.pointer p3] ((h1.new b4 (.cells ⟨[.int .i64 (l5.n : Int), .slice l4.a l4.n l4.c]⟩ 156 (0, 0))).wr b5 o4 [.pointer (some ⟨b4, 0, none⟩)]) fun l7 h2 => ∃ b8 o7, (p : Option Addr) = some ⟨b8, o7, none⟩ ∧ h2.canW b8 (o7 + 1) 1 ∧ ∃ b9 o8, (p : Option Addr) = some ⟨b9, o8, none⟩ ∧ ∃ l8 : Sl, (h2.wr b8 (o7 + 1) [.slice l7.a l7.n l7.c]).at b9 (o8 + 2) = some (.slice l8.a l8.n l8.c) ∧ appendD l8 3 1 8 [.int .i64 0] 1 [.int .i64 0] (h2.wr b8 (o7 + 1) [.slice l7.a l7.n l7.c]) fun l9 h3 => ∃ b10 o9, (p : Option Addr) = some ⟨b10, o9, none⟩ ∧ h3.canW b10 (o9 + 2) 1 ∧ ∃ vs, (h3.wr b10 (o9 + 2) [.slice l9.a l9.n l9.c]).row l2.a (l2.n * 1) vs ∧ (∀ v ∈ vs, Value.oneCell' v = true) ∧ appendD ⟨none, 0, 0⟩ 9 1 16 [.string (ByteArray.mk #[])] l2.n vs (h3.wr b10 (o9 + 2) [.slice l9.a l9.n l9.c]) fun l10 h4 => ∃ b11 o10, (p : Option Addr) = some ⟨b11, o10, none⟩ ∧ h4.canW b11 (o10 + 3) 1 ∧ F87.T p p2 (h4.wr b11 (o10 + 3) [.slice l10.a l10.n l10.c]) fun r1 h5 => ∃ l11 : Sl, r1 = .slice l11.a l11.n l11.c ∧ Q (.tuple ⟨[.slice l11.a l11.n l11.c, .int .i64 0]⟩) h5) (Q (.tuple ⟨[.slice none 0 0, .int .i64 n3]⟩) h1)
theorem F55.gen (V : Value → List Value → PT) (T86 : Sl → Int → Int → Int → Sl → Sl → Sl → PT) (T87 : Option Addr → Option Addr → PT) (p : Option Addr) (n : Int) (n1 : Int) (n2 : Int) (l : Sl) (l1 : Sl) (l2 : Sl) : denF Try.prog [3, 49, 58] [(86, F86.W T86), (87, F87.W T87)] V [(6, .order [0, 1, 2, 3, 4, 5, 6, 7, 8, 9, 10, 11, 12, 13]), (126, .order [0, 1, 2, 3, 4, 5, 6, 7, 8, 9, 10, 11, 12, 13])] Try.f55 [.v (.pointer p), .v (.agg ⟨[.int .u64 n, .int .u64 n1, .int .u64 n2, .slice l.a l.n l.c, .slice l1.a l1.n l1.c, .slice l2.a l2.n l2.c]⟩)] = fun h Q =>
  ∃ b o, (p : Option Addr) = some ⟨b, o, none⟩ ∧ ∃ p1 : Option Addr, h.at b o = some (.pointer p1) ∧ ∃ b1 o1, (p1 : Option Addr) = some ⟨b1, o1, none⟩ ∧ ∃ l3 : Sl, h.at b1 (o1 + 1) = some (.slice l3.a l3.n l3.c) ∧ T86 l3 n n1 n2 l l1 l2 h fun r h1 => ∃ l4 : Sl, ∃ n3 : Int, r = .tuple ⟨[.slice l4.a l4.n l4.c, .int .i64 n3]⟩ ∧ par (n3 = 0) (∃ b2 o2, (p : Option Addr) = some ⟨b2, o2, none⟩ ∧ ∃ p2 : Option Addr, h1.at b2 o2 = some (.pointer p2) ∧ ∃ b3 o3, (p : Option Addr) = some ⟨b3, o3, none⟩ ∧ ∃ l5 : Sl, h1.at b3 (o3 + 1) = some (.slice l5.a l5.n l5.c) ∧ ∀ b4, h1 b4 = none → ∃ b5 o4, (p : Option Addr) = some ⟨b5, o4, none⟩ ∧ (h1.new b4 (.cells ⟨[.int .i64 (l5.n : Int), .slice l4.a l4.n l4.c]⟩ 156 (0, 0))).canW b5 o4 1 ∧ ∃ b6 o5, (p : Option Addr) = some ⟨b6, o5, none⟩ ∧ ∃ l6 : Sl, ((h1.new b4 (.cells ⟨[.int .i64 (l5.n : Int), .slice l4.a l4.n l4.c]⟩ 156 (0, 0))).wr b5 o4 [.pointer (some ⟨b4, 0, none⟩)]).at b6 (o5 + 1) = some (.slice l6.a l6.n l6.c) ∧ ∃ b7 o6, (p : Option Addr) = some ⟨b7, o6, none⟩ ∧ ∃ p3 : Option Addr, ((h1.new b4 (.cells ⟨[.int .i64 (l5.n : Int), .slice l4.a l4.n l4.c]⟩ 156 (0, 0))).wr b5 o4 [.pointer (some ⟨b4, 0, none⟩)]).at b7 o6 = some (.pointer p3) ∧ ((h1.new b4 (.cells ⟨[.int .i64 (l5.n : Int), .slice l4.a l4.n l4.c]⟩ 156 (0, 0))).wr b5 o4 [.pointer (some ⟨b4, 0, none⟩)]).at b6 (o5 + 1) = some (.slice l6.a l6.n l6.c) ∧ appendD l6 103 1 8 [.pointer none] 1 [.pointer p3] ((h1.new b4 (.cells ⟨[.int .i64 (l5.n : Int), .slice l4.a l4.n l4.c]⟩ 156 (0, 0))).wr b5 o4 [.pointer (some ⟨b4, 0, none⟩)]) fun l7 h2 => ∃ b8 o7, (p : Option Addr) = some ⟨b8, o7, none⟩ ∧ h2.canW b8 (o7 + 1) 1 ∧ ∃ b9 o8, (p : Option Addr) = some ⟨b9, o8, none⟩ ∧ ∃ l8 : Sl, (h2.wr b8 (o7 + 1) [.slice l7.a l7.n l7.c]).at b9 (o8 + 2) = some (.slice l8.a l8.n l8.c) ∧ appendD l8 3 1 8 [.int .i64 0] 1 [.int .i64 0] (h2.wr b8 (o7 + 1) [.slice l7.a l7.n l7.c]) fun l9 h3 => ∃ b10 o9, (p : Option Addr) = some ⟨b10, o9, none⟩ ∧ h3.canW b10 (o9 + 2) 1 ∧ ∃ vs, (h3.wr b10 (o9 + 2) [.slice l9.a l9.n l9.c]).row l2.a (l2.n * 1) vs ∧ (∀ v ∈ vs, Value.oneCell' v = true) ∧ appendD ⟨none, 0, 0⟩ 9 1 16 [.string (ByteArray.mk #[])] l2.n vs (h3.wr b10 (o9 + 2) [.slice l9.a l9.n l9.c]) fun l10 h4 => ∃ b11 o10, (p : Option Addr) = some ⟨b11, o10, none⟩ ∧ h4.canW b11 (o10 + 3) 1 ∧ T87 p p2 (h4.wr b11 (o10 + 3) [.slice l10.a l10.n l10.c]) fun r1 h5 => ∃ l11 : Sl, r1 = .slice l11.a l11.n l11.c ∧ Q (.tuple ⟨[.slice l11.a l11.n l11.c, .int .i64 0]⟩) h5) (Q (.tuple ⟨[.slice none 0 0, .int .i64 n3]⟩) h1) := by kernel_rfl
theorem F55.den (V : Value → List Value → PT) (p : Option Addr) (n : Int) (n1 : Int) (n2 : Int) (l : Sl) (l1 : Sl) (l2 : Sl) : denF Try.prog [3, 49, 58] [(86, F86.V), (87, F87.V)] V [(6, .order [0, 1, 2, 3, 4, 5, 6, 7, 8, 9, 10, 11, 12, 13]), (126, .order [0, 1, 2, 3, 4, 5, 6, 7, 8, 9, 10, 11, 12, 13])] Try.f55 [.v (.pointer p), .v (.agg ⟨[.int .u64 n, .int .u64 n1, .int .u64 n2, .slice l.a l.n l.c, .slice l1.a l1.n l1.c, .slice l2.a l2.n l2.c]⟩)] = F55.T p n n1 n2 l l1 l2 := F55.gen V F86.T F87.T p n n1 n2 l l1 l2
def F55.W (T55 : Option Addr → Int → Int → Int → Sl → Sl → Sl → PT) (args : List Value) : PT := match args with
  | [.pointer p, .agg ⟨[.int .u64 n, .int .u64 n1, .int .u64 n2, .slice l_a l_n l_c, .slice l1_a l1_n l1_c, .slice l2_a l2_n l2_c]⟩] => T55 p n n1 n2 ⟨l_a, l_n, l_c⟩ ⟨l1_a, l1_n, l1_c⟩ ⟨l2_a, l2_n, l2_c⟩
  | _ => fun _ _ => False
def F55.V : List Value → PT := F55.W F55.T
theorem F55.ok : FOk Try.prog 55 F55.V := by
  refine ⟨⟨_, Try.func55, rfl, rfl⟩, fun args => ?_⟩
  have hG : GOk Try.prog [(86, F86.V), (87, F87.V)] := GOk.cons F86.ok (GOk.cons F87.ok (GOk.nil))
  have hV : VOk Try.prog noV := noV_ok
  unfold F55.V F55.W
  split
  · exact denF_okV hG hV Try.func55 (fun h Q hq => (F55.den _ _ _ _ _ _ _ _) ▸ hq)
  · exact fun h Q hq => hq.elim
def F56.T (p : Option Addr) : PT := fun h Q =>
  ∃ b o, (p : Option Addr) = some ⟨b, o, none⟩ ∧ ∃ l : Sl, h.at b (o + 3) = some (.slice l.a l.n l.c) ∧ ∃ vs, h.row l.a (l.n * 1) vs ∧ (∀ v ∈ vs, Value.oneCell' v = true) ∧ appendD ⟨none, 0, 0⟩ 9 1 16 [.string (ByteArray.mk #[])] l.n vs h fun l1 h1 => Q (.slice l1.a l1.n l1.c) h1
theorem F56.den (V : Value → List Value → PT) (p : Option Addr) : denF Try.prog [] [] V [] Try.f56 [.v (.pointer p)] = F56.T p := by kernel_rfl
def F56.W (T56 : Option Addr → PT) (args : List Value) : PT := match args with
  | [.pointer p] => T56 p
  | _ => fun _ _ => False
def F56.V : List Value → PT := F56.W F56.T
theorem F56.ok : FOk Try.prog 56 F56.V := by
  refine ⟨⟨_, Try.func56, rfl, rfl⟩, fun args => ?_⟩
  have hG : GOk Try.prog [] := GOk.nil
  have hV : VOk Try.prog noV := noV_ok
  unfold F56.V F56.W
  split
  · exact denF_okV hG hV Try.func56 (fun h Q hq => (F56.den _ _) ▸ hq)
  · exact fun h Q hq => hq.elim
def F57.T (p : Option Addr) : PT := fun h Q =>
  ∃ b o, (p : Option Addr) = some ⟨b, o, none⟩ ∧ ∃ p1 : Option Addr, h.at b o = some (.pointer p1) ∧ Q (.pointer p1) h
theorem F57.den (V : Value → List Value → PT) (p : Option Addr) : denF Try.prog [] [] V [] Try.f57 [.v (.pointer p)] = F57.T p := by kernel_rfl
def F57.W (T57 : Option Addr → PT) (args : List Value) : PT := match args with
  | [.pointer p] => T57 p
  | _ => fun _ _ => False
def F57.V : List Value → PT := F57.W F57.T
theorem F57.ok : FOk Try.prog 57 F57.V := by
  refine ⟨⟨_, Try.func57, rfl, rfl⟩, fun args => ?_⟩
  have hG : GOk Try.prog [] := GOk.nil
  have hV : VOk Try.prog noV := noV_ok
  unfold F57.V F57.W
  split
  · exact denF_okV hG hV Try.func57 (fun h Q hq => (F57.den _ _) ▸ hq)
  · exact fun h Q hq => hq.elim
def F58.T (p : Option Addr) : PT := fun h Q =>
  ∃ b o, (p : Option Addr) = some ⟨b, o, none⟩ ∧ ∃ l : Sl, h.at b (o + 1) = some (.slice l.a l.n l.c) ∧ Q (.int .i64 (l.n : Int)) h
theorem F58.den (V : Value → List Value → PT) (p : Option Addr) : denF Try.prog [] [] V [] Try.f58 [.v (.pointer p)] = F58.T p := by kernel_rfl
def F58.W (T58 : Option Addr → PT) (args : List Value) : PT := match args with
  | [.pointer p] => T58 p
  | _ => fun _ _ => False
def F58.V : List Value → PT := F58.W F58.T
theorem F58.ok : FOk Try.prog 58 F58.V := by
  refine ⟨⟨_, Try.func58, rfl, rfl⟩, fun args => ?_⟩
  have hG : GOk Try.prog [] := GOk.nil
  have hV : VOk Try.prog noV := noV_ok
  unfold F58.V F58.W
  split
  · exact denF_okV hG hV Try.func58 (fun h Q hq => (F58.den _ _) ▸ hq)
  · exact fun h Q hq => hq.elim
def F59.T (p : Option Addr) (n : Int) : PT := fun h Q =>
  par (n < 0) (Q (.slice none 0 0) h) (∃ b o, (p : Option Addr) = some ⟨b, o, none⟩ ∧ ∃ l : Sl, h.at b (o + 1) = some (.slice l.a l.n l.c) ∧ par ((l.n : Int) ≤ n) (Q (.slice none 0 0) h) (∃ b1 o1, (p : Option Addr) = some ⟨b1, o1, none⟩ ∧ ∃ l1 : Sl, h.at b1 (o1 + 1) = some (.slice l1.a l1.n l1.c) ∧ ∃ b2 o2, (l1.a : Option Addr) = some ⟨b2, o2, none⟩ ∧ ((0 : Int) ≤ n ∧ n < (l1.n : Int)) ∧ ∃ l2 : Sl, h.at b2 (o2 + n.toNat) = some (.slice l2.a l2.n l2.c) ∧ ∃ vs, h.row l2.a (l2.n * 6) vs ∧ (∀ v ∈ vs, Value.oneCell' v = true) ∧ appendD ⟨none, 0, 0⟩ 85 6 64 [.int .u64 0, .int .i64 0, .int .i64 0, .int .i64 0, .string (ByteArray.mk #[]), .string (ByteArray.mk #[])] l2.n vs h fun l3 h1 => Q (.slice l3.a l3.n l3.c) h1))
theorem F59.den (V : Value → List Value → PT) (p : Option Addr) (n : Int) : denF Try.prog [] [] V [] Try.f59 [.v (.pointer p), .v (.int .i64 n)] = F59.T p n := by kernel_rfl
def F59.W (T59 : Option Addr → Int → PT) (args : List Value) : PT := match args with
  | [.pointer p, .int .i64 n] => T59 p n
  | _ => fun _ _ => False
def F59.V : List Value → PT := F59.W F59.T
theorem F59.ok : FOk Try.prog 59 F59.V := by
  refine ⟨⟨_, Try.func59, rfl, rfl⟩, fun args => ?_⟩
  have hG : GOk Try.prog [] := GOk.nil
  have hV : VOk Try.prog noV := noV_ok
  unfold F59.V F59.W
  split
  · exact denF_okV hG hV Try.func59 (fun h Q hq => (F59.den _ _ _) ▸ hq)
  · exact fun h Q hq => hq.elim
def F22.T (p : Option Addr) (n : Int) (n1 : Int) (n2 : Int) (n3 : Int) : PT := fun h Q =>
  F56.T p h fun r h1 => ∃ l : Sl, r = .slice l.a l.n l.c ∧ ∀ b, h1 b = none → (h1.new b (.cells ⟨[.int .u64 0, .int .u64 0, .int .u64 0, .slice none 0 0, .slice none 0 0, .slice none 0 0]⟩ 60 (0, 0))).canW b 0 6 ∧ F57.T p ((h1.new b (.cells ⟨[.int .u64 0, .int .u64 0, .int .u64 0, .slice none 0 0, .slice none 0 0, .slice none 0 0]⟩ 60 (0, 0))).wr b 0 [.int .u64 n, .int .u64 n1, .int .u64 n2, .slice none 0 0, .slice none 0 0, .slice l.a l.n l.c]) fun r1 h2 => ∃ p1 : Option Addr, r1 = .pointer p1 ∧ ∃ (I : Int → Hp → Prop) (m : Int → Hp → Nat), I 0 h2 ∧ (∀ n4 : Int, ∀ h3 : Hp, I n4 h3 → F58.T p1 h3 fun r2 h4 => ∃ n5 : Int, r2 = .int .i64 n5 ∧ par (n4 < n5) (F59.T p1 n4 h4 fun r3 h5 => ∃ l1 : Sl, r3 = .slice l1.a l1.n l1.c ∧ ∃ (I1 : Int → Hp → Prop) (m1 : Int → Hp → Nat), I1 0 h5 ∧ (∀ n6 : Int, ∀ h6 : Hp, I1 n6 h6 → par (n6 < (l1.n : Int)) (∃ l2 : Sl, h6.at b 4 = some (.slice l2.a l2.n l2.c) ∧ ∃ b1 o, (l1.a : Option Addr) = some ⟨b1, o, none⟩ ∧ ((0 : Int) ≤ n6 ∧ n6 < (l1.n : Int)) ∧ ∃ n7 : Int, h6.at b1 (o + n6.toNat * 6) = some (.int .u64 n7) ∧ ∃ n8 : Int, h6.at b1 ((o + n6.toNat * 6) + 1) = some (.int .i64 n8) ∧ ∃ n9 : Int, h6.at b1 ((o + n6.toNat * 6) + 2) = some (.int .i64 n9) ∧ ∃ n10 : Int, h6.at b1 ((o + n6.toNat * 6) + 3) = some (.int .i64 n10) ∧ ∃ s : ByteArray, h6.at b1 ((o + n6.toNat * 6) + 4) = some (.string s) ∧ ∃ s1 : ByteArray, h6.at b1 ((o + n6.toNat * 6) + 5) = some (.string s1) ∧ h6.at b 4 = some (.slice l2.a l2.n l2.c) ∧ h6.at b 4 = some (.slice l2.a l2.n l2.c) ∧ appendD l2 87 7 72 [.int .i64 0, .int .u64 0, .int .i64 0, .int .i64 0, .int .i64 0, .string (ByteArray.mk #[]), .string (ByteArray.mk #[])] 1 [.int .i64 n4, .int .u64 n7, .int .i64 n8, .int .i64 n9, .int .i64 n10, .string s, .string s1] h6 fun l3 h7 => h7.canW b 4 1 ∧ I1 (IntKind.wrap .i64 (n6 + 1)) (h7.wr b 4 [.slice l3.a l3.n l3.c]) ∧ m1 (IntKind.wrap .i64 (n6 + 1)) (h7.wr b 4 [.slice l3.a l3.n l3.c]) < m1 n6 h6) (I (IntKind.wrap .i64 (n4 + 1)) h6 ∧ m (IntKind.wrap .i64 (n4 + 1)) h6 < m n4 h3))) (∃ n11 : Int, h4.at b 0 = some (.int .u64 n11) ∧ ∃ n12 : Int, h4.at b 1 = some (.int .u64 n12) ∧ ∃ n13 : Int, h4.at b 2 = some (.int .u64 n13) ∧ ∃ l4 : Sl, h4.at b 3 = some (.slice l4.a l4.n l4.c) ∧ ∃ l5 : Sl, h4.at b 4 = some (.slice l5.a l5.n l5.c) ∧ ∃ l6 : Sl, h4.at b 5 = some (.slice l6.a l6.n l6.c) ∧ Q (.agg ⟨[.int .u64 n11, .int .u64 n12, .int .u64 n13, .slice l4.a l4.n l4.c, .slice l5.a l5.n l5.c, .slice l6.a l6.n l6.c]⟩) h4))
theorem F22.gen (V : Value → List Value → PT) (T56 : Option Addr → PT) (T57 : Option Addr → PT) (T58 : Option Addr → PT) (T59 : Option Addr → Int → PT) (p : Option Addr) (n : Int) (n1 : Int) (n2 : Int) (n3 : Int) : denF Try.prog [3, 4, 44] [(56, F56.W T56), (57, F57.W T57), (58, F58.W T58), (59, F59.W T59)] V [(6, .orderL [0, 1, 2, 3, 4, 5, 6, 7, 8, 9, 10] [9]), (122, .loop [(7, .int .i64)] []), (15654, .loop [(9, .int .i64)] []), (250468, .order [0, 1, 2, 3, 4, 5, 6, 7, 8, 9, 10, 11])] Try.f22 [.v (.pointer p), .v (.agg ⟨[.int .u64 n, .int .u64 n1, .int .u64 n2, .int .u64 n3]⟩)] = fun h Q =>
  T56 p h fun r h1 => ∃ l : Sl, r = .slice l.a l.n l.c ∧ ∀ b, h1 b = none → (h1.new b (.cells ⟨[.int .u64 0, .int .u64 0, .int .u64 0, .slice none 0 0, .slice none 0 0, .slice none 0 0]⟩ 60 (0, 0))).canW b 0 6 ∧ T57 p ((h1.new b (.cells ⟨[.int .u64 0, .int .u64 0, .int .u64 0, .slice none 0 0, .slice none 0 0, .slice none 0 0]⟩ 60 (0, 0))).wr b 0 [.int .u64 n, .int .u64 n1, .int .u64 n2, .slice none 0 0, .slice none 0 0, .slice l.a l.n l.c]) fun r1 h2 => ∃ p1 : Option Addr, r1 = .pointer p1 ∧ ∃ (I : Int → Hp → Prop) (m : Int → Hp → Nat), I 0 h2 ∧ (∀ n4 : Int, ∀ h3 : Hp, I n4 h3 → T58 p1 h3 fun r2 h4 => ∃ n5 : Int, r2 = .int .i64 n5 ∧ par (n4 < n5) (T59 p1 n4 h4 fun r3 h5 => ∃ l1 : Sl, r3 = .slice l1.a l1.n l1.c ∧ ∃ (I1 : Int → Hp → Prop) (m1 : Int → Hp → Nat), I1 0 h5 ∧ (∀ n6 : Int, ∀ h6 : Hp, I1 n6 h6 → par (n6 < (l1.n : Int)) (∃ l2 : Sl, h6.at b 4 = some (.slice l2.a l2.n l2.c) ∧ ∃ b1 o, (l1.a : Option Addr) = some ⟨b1, o, none⟩ ∧ ((0 : Int) ≤ n6 ∧ n6 < (l1.n : Int)) ∧ ∃ n7 : Int, h6.at b1 (o + n6.toNat * 6) = some (.int .u64 n7) ∧ ∃ n8 : Int, h6.at b1 ((o + n6.toNat * 6) + 1) = some (.int .i64 n8) ∧ ∃ n9 : Int, h6.at b1 ((o + n6.toNat * 6) + 2) = some (.int .i64 n9) ∧ ∃ n10 : Int, h6.at b1 ((o + n6.toNat * 6) + 3) = some (.int .i64 n10) ∧ ∃ s : ByteArray, h6.at b1 ((o + n6.toNat * 6) + 4) = some (.string s) ∧ ∃ s1 : ByteArray, h6.at b1 ((o + n6.toNat * 6) + 5) = some (.string s1) ∧ h6.at b 4 = some (.slice l2.a l2.n l2.c) ∧ h6.at b 4 = some (.slice l2.a l2.n l2.c) ∧ appendD l2 87 7 72 [.int .i64 0, .int .u64 0, .int .i64 0, .int .i64 0, .int .i64 0, .string (ByteArray.mk #[]), .string (ByteArray.mk #[])] 1 [.int .i64 n4, .int .u64 n7, .int .i64 n8, .int .i64 n9, .int .i64 n10, .string s, .string s1] h6 fun l3 h7 => h7.canW b 4 1 ∧ I1 (IntKind.wrap .i64 (n6 + 1)) (h7.wr b 4 [.slice l3.a l3.n l3.c]) ∧ m1 (IntKind.wrap .i64 (n6 + 1)) (h7.wr b 4 [.slice l3.a l3.n l3.c]) < m1 n6 h6) (I (IntKind.wrap .i64 (n4 + 1)) h6 ∧ m (IntKind.wrap .i64 (n4 + 1)) h6 < m n4 h3))) (∃ n11 : Int, h4.at b 0 = some (.int .u64 n11) ∧ ∃ n12 : Int, h4.at b 1 = some (.int .u64 n12) ∧ ∃ n13 : Int, h4.at b 2 = some (.int .u64 n13) ∧ ∃ l4 : Sl, h4.at b 3 = some (.slice l4.a l4.n l4.c) ∧ ∃ l5 : Sl, h4.at b 4 = some (.slice l5.a l5.n l5.c) ∧ ∃ l6 : Sl, h4.at b 5 = some (.slice l6.a l6.n l6.c) ∧ Q (.agg ⟨[.int .u64 n11, .int .u64 n12, .int .u64 n13, .slice l4.a l4.n l4.c, .slice l5.a l5.n l5.c, .slice l6.a l6.n l6.c]⟩) h4)) := by kernel_rfl
theorem F22.den (V : Value → List Value → PT) (p : Option Addr) (n : Int) (n1 : Int) (n2 : Int) (n3 : Int) : denF Try.prog [3, 4, 44] [(56, F56.V), (57, F57.V), (58, F58.V), (59, F59.V)] V [(6, .orderL [0, 1, 2, 3, 4, 5, 6, 7, 8, 9, 10] [9]), (122, .loop [(7, .int .i64)] []), (15654, .loop [(9, .int .i64)] []), (250468, .order [0, 1, 2, 3, 4, 5, 6, 7, 8, 9, 10, 11])] Try.f22 [.v (.pointer p), .v (.agg ⟨[.int .u64 n, .int .u64 n1, .int .u64 n2, .int .u64 n3]⟩)] = F22.T p n n1 n2 n3 := F22.gen V F56.T F57.T F58.T F59.T p n n1 n2 n3
def F22.W (T22 : Option Addr → Int → Int → Int → Int → PT) (args : List Value) : PT := match args with
  | [.pointer p, .agg ⟨[.int .u64 n, .int .u64 n1, .int .u64 n2, .int .u64 n3]⟩] => T22 p n n1 n2 n3
  | _ => fun _ _ => False
def F22.V : List Value → PT := F22.W F22.T
theorem F22.ok : FOk Try.prog 22 F22.V := by
  refine ⟨⟨_, Try.func22, rfl, rfl⟩, fun args => ?_⟩
  have hG : GOk Try.prog [(56, F56.V), (57, F57.V), (58, F58.V), (59, F59.V)] := GOk.cons F56.ok (GOk.cons F57.ok (GOk.cons F58.ok (GOk.cons F59.ok (GOk.nil))))
  have hV : VOk Try.prog noV := noV_ok
  unfold F22.V F22.W
  split
  · exact denF_okV hG hV Try.func22 (fun h Q hq => (F22.den _ _ _ _ _ _) ▸ hq)
  · exact fun h Q hq => hq.elim
end Go.Eng.Ytblghgacokoklaa
end
section

/-
  SPECS OF VERSIONS, 2: lists of lists of tables in memory.
-/
set_option linter.unusedSimpArgs false
set_option linter.unusedVariables false
set_option maxRecDepth 100000
namespace Go.Eng.Ytblghgacokoklaa
theorem wr_nil (h : Hp) (b o : Nat) : h.wr b o [] = h := by
  funext k
  unfold Hp.wr
  by_cases hk : k = b
  · subst hk
    rw [if_pos rfl]
    split
    · next c t f e => rw [e]; simp [setL]
    · rfl
  · rw [if_neg hk]
theorem bufWr' {h : Hp} {s : Sl} {sz t b : Nat} {A U V B : List Value} (Bf : Buf h s sz t (A ++ (U ++ B))) (hu : U.length = V.length) (hb : s.a = some ⟨b, 0, none⟩) :
    h.canWA (some ⟨b, A.length, none⟩) V.length ∧ Upd h (h.wrA (some ⟨b, A.length, none⟩) V) s s ∧ Buf (h.wrA (some ⟨b, A.length, none⟩) V) s sz t (A ++ (V ++ B)) := by
  rcases Nat.eq_zero_or_pos U.length with h0 | h0
  · have hU : U = [] := List.eq_nil_of_length_eq_zero h0
    have hV : V = [] := List.eq_nil_of_length_eq_zero (by omega)
    subst hU hV
    refine ⟨.inl rfl, ?_⟩
    show Upd h (h.wr b A.length []) s s ∧ Buf (h.wr b A.length []) s sz t _
    rw [wr_nil]
    exact ⟨Upd.refl _ _, Bf⟩
  · obtain ⟨b', hb', hc, Up, Bw⟩ := bufWr Bf hu h0
    rw [hb] at hb'
    simp only [Option.some.injEq, Addr.mk.injEq, and_true] at hb'
    subst hb'
    exact ⟨.inr ⟨_, _, rfl, hc⟩, Up, Bw⟩
theorem buf_shrink {h : Hp} {s : Sl} {sz t k : Nat} {A B : List Value} (Bf : Buf h s sz t (A ++ B)) (hA : A.length = k * sz) (hk : k ≤ s.n) : Buf h ⟨s.a, k, s.c⟩ sz t A := by
  refine ⟨hA, Nat.le_trans hk Bf.cap, Bf.own.imp id ?_⟩
  rintro ⟨b, c, f, h1, h2, h3, h4, h5⟩
  refine ⟨b, c, f, h1, h2, h3, h4, ?_⟩
  have := congrArg (List.take A.length) h5
  rw [List.take_take, List.take_left' rfl, List.length_append, Nat.min_eq_left (Nat.le_add_right _ _)] at this
  exact this
theorem tabV_app (P R : List Tab) : tabV (P ++ R) = tabV P ++ tabV R := by unfold tabV; simp
theorem tabV_cons (x : Tab) (R : List Tab) : tabV (x :: R) = x.cells ++ tabV R := by unfold tabV; simp
theorem tab_one : ∀ (ts : List Tab), ∀ v ∈ tabV ts, Value.oneCell' v = true
  | [], v, h => by cases h
  | t :: ts, v, h => by
    rw [tabV_cons, List.mem_append] at h
    rcases h with h | h
    · simp only [Tab.cells, List.mem_cons, List.not_mem_nil, or_false] at h
      rcases h with rfl | rfl | rfl | rfl | rfl | rfl <;> rfl
    · exact tab_one ts v h
def zT : Tab := ⟨0, 0, 0, 0, ⟨#[]⟩, ⟨#[]⟩⟩
theorem zeros_tab (n : Nat) : zerosV [.int .u64 0, .int .i64 0, .int .i64 0, .int .i64 0, .string (ByteArray.mk #[]), .string (ByteArray.mk #[])] n = tabV (List.replicate n zT) := by
  apply List.ext_getElem
  · rw [zerosV_length, tabV_len, List.length_replicate]; rfl
  · intro i h1 h2
    rw [tabV_len, List.length_replicate] at h2
    have hg : (tabV (List.replicate n zT))[i / 6 * 6 + i % 6]? = (Tab.cells zT)[i % 6]? := by
      have := flat_get Tab.cells 6 (fun _ => rfl) (List.replicate n zT) (i / 6) (i % 6) (by rw [List.length_replicate]; omega) (by omega)
      rw [List.getElem_replicate] at this
      exact this
    have he : i / 6 * 6 + i % 6 = i := by omega
    rw [he] at hg
    rw [← Option.some_inj, ← List.getElem?_eq_getElem, ← List.getElem?_eq_getElem, hg]
    unfold zerosV Builtin.zeroCells
    have hi : i < n * 6 := h2
    rw [Array.toList_map, Array.toList_range]
    simp only [List.getElem?_map, List.size_toArray, List.length_cons, List.length_nil]
    rw [List.getElem?_range (by simpa using hi)]
    simp only [Option.map_some]
    have hm : i % 6 < 6 := Nat.mod_lt _ (by decide)
    generalize i % 6 = j at hm
    match j, hm with
    | 0, _ => rfl
    | 1, _ => rfl
    | 2, _ => rfl
    | 3, _ => rfl
    | 4, _ => rfl
    | 5, _ => rfl
theorem off_upd {h h1 : Hp} {s s' y : Sl} {sz t : Nat} {vs : List Value} (U : Upd h h1 s s') (B : Buf h y sz t vs) (o : Off s y ∧ Off y s) : Off s' y ∧ Off y s' := by
  rcases U.at_ with e | ⟨b, e, hn⟩
  · exact ⟨fun k p q a => o.1 k p q (by rw [← e]; exact a), fun k p q a a' => o.2 k p q a (by rw [← e]; exact a')⟩
  · have := NewN.off (s := s') (.inr ⟨b, e, hn⟩) B
    exact ⟨this.2, this.1⟩
/-- Levels that are one's own: all that they lie in is new. -/
structure Lvs (g h : Hp) (ls : Sl) (xs : List (Sl × List Tab)) : Prop where
  k : Keep g h
  nl : NewN g ls
  l : Buf h ls 1 106 (slV (xs.map (·.1)))
  t : ∀ x ∈ xs, TB h x.1 x.2
  n : ∀ x ∈ xs, NewN g x.1
  d : ∀ (i j : Nat) x y, xs[i]? = some x → xs[j]? = some y → i ≠ j → Off x.1 y.1
variable {g h h1 : Hp} {ls : Sl} {xs : List (Sl × List Tab)}
theorem Lvs.len (L : Lvs g h ls xs) : ls.n = xs.length := by have := L.l.len; rw [slV_length, List.length_map] at this; omega
theorem Lvs.ck {κ : List Nat} (L : Lvs g h ls xs) (C : Ck κ h h1) (K : Keep g h1) (a : 108 ∉ κ) (b : 87 ∉ κ) : Lvs g h1 ls xs :=
  ⟨K, L.nl, C.buf a L.l, fun x hx => C.buf b (L.t x hx), L.n, L.d⟩
theorem Lvs.keep (L : Lvs g h ls xs) (K : Keep h h1) : Lvs g h1 ls xs := L.ck (κ := []) (Ck.of_keep K) (L.k.trans K) (by simp) (by simp)
theorem Lvs.rd (L : Lvs g h ls xs) {i : Nat} {x : Sl × List Tab} (hx : xs[i]? = some x) : ∃ b, ls.a = some ⟨b, 0, none⟩ ∧ h.at b i = some (.slice x.1.a x.1.n x.1.c) := by
  have hi : i < xs.length := (List.getElem?_eq_some_iff.1 hx).1
  obtain ⟨b, ha, hat, _⟩ := buf_set L.l (k := i) (by rw [slV_length, List.length_map]; exact hi)
  refine ⟨b, ha, ?_⟩
  rw [hat]
  unfold slV
  rw [List.getElem?_map, List.getElem?_map, hx]
  rfl
theorem set_get {α : Type} {xs : List α} {i j : Nat} {a y : α} (h : (xs.set i a)[j]? = some y) : (j = i ∧ y = a ∧ i < xs.length) ∨ (j ≠ i ∧ xs[j]? = some y) := by
  rw [List.getElem?_set] at h
  by_cases hj : i = j
  · rw [if_pos hj] at h
    split at h
    · next hl => exact .inl ⟨hj.symm, (Option.some.inj h).symm, hl⟩
    · cases h
  · rw [if_neg hj] at h
    exact .inr ⟨fun e => hj e.symm, h⟩
/-- Another list in a place. -/
theorem Lvs.put (L : Lvs g h ls xs) {i : Nat} {x : Sl × List Tab} (hx : xs[i]? = some x) {s' : Sl} {us : List Tab} (U : Upd h h1 x.1 s') (T : TB h1 s' us) :
    ∃ b, ls.a = some ⟨b, 0, none⟩ ∧ h1.at b i = some (.slice x.1.a x.1.n x.1.c) ∧ h1.canW b i 1 ∧ Lvs g (h1.wr b i [.slice s'.a s'.n s'.c]) ls (xs.set i (s', us)) ∧ Ck [87, 108] h (h1.wr b i [.slice s'.a s'.n s'.c]) := by
  have hm : x ∈ xs := List.mem_of_getElem? hx
  have hi : i < xs.length := (List.getElem?_eq_some_iff.1 hx).1
  have C1 : Ck [87] h h1 := Ck.of_upd (L.t x hm) U
  have B1 := C1.buf (by decide) L.l
  obtain ⟨K1, N1⟩ := (L.n x hm).upd L.k U
  obtain ⟨b, ha, hat, hc, hw⟩ := buf_set B1 (k := i) (by rw [slV_length, List.length_map]; exact hi)
  obtain ⟨U2, B2⟩ := hw (.slice s'.a s'.n s'.c)
  have C2 : Ck [108] h1 _ := Ck.of_upd B1 U2
  refine ⟨b, ha, ?_, hc, ⟨(L.nl.upd K1 U2).1, L.nl, ?_, ?_, ?_, ?_⟩, (C1.mono (by simp)).trans (C2.mono (by simp))⟩
  · rw [hat]; unfold slV; rw [List.getElem?_map, List.getElem?_map, hx]; rfl
  · have e : (slV (xs.map (·.1))).set i (.slice s'.a s'.n s'.c) = slV ((xs.set i (s', us)).map (·.1)) := by
      unfold slV; rw [List.map_set, List.map_set]
    rw [← e]; exact B2
  · intro y hy
    obtain ⟨j, hj⟩ := List.mem_iff_getElem?.1 hy
    rcases set_get hj with ⟨_, rfl, _⟩ | ⟨hne, hj⟩
    · exact C2.buf (by decide) T
    · exact C2.buf (by decide) ((L.t y (List.mem_of_getElem? hj)).upd U (L.d j i y x hj hx hne))
  · intro y hy
    obtain ⟨j, hj⟩ := List.mem_iff_getElem?.1 hy
    rcases set_get hj with ⟨_, rfl, _⟩ | ⟨hne, hj⟩
    · exact N1
    · exact L.n y (List.mem_of_getElem? hj)
  · intro p q y z hp hq hpq
    rcases set_get hp with ⟨rfl, rfl, _⟩ | ⟨hne, hp'⟩ <;> rcases set_get hq with ⟨rfl, rfl, _⟩ | ⟨hne2, hq'⟩
    · exact absurd rfl hpq
    · exact (off_upd U (L.t z (List.mem_of_getElem? hq')) ⟨L.d _ _ x z hx hq' hpq, L.d _ _ z x hq' hx (Ne.symm hpq)⟩).1
    · exact (off_upd U (L.t y (List.mem_of_getElem? hp')) ⟨L.d _ _ x y hx hp' (Ne.symm hpq), L.d _ _ y x hp' hx hpq⟩).2
    · exact L.d p q y z hp' hq' hpq
/-- A list is written. -/
theorem Lvs.fill (L : Lvs g h ls xs) {i : Nat} {x : Sl × List Tab} (hx : xs[i]? = some x) {us : List Tab} (U : Upd h h1 x.1 x.1) (T : TB h1 x.1 us) : Lvs g h1 ls (xs.set i (x.1, us)) ∧ Ck [87] h h1 := by
  have hm : x ∈ xs := List.mem_of_getElem? hx
  have C1 : Ck [87] h h1 := Ck.of_upd (L.t x hm) U
  obtain ⟨K1, N1⟩ := (L.n x hm).upd L.k U
  have eq1 : (xs.set i (x.1, us)).map (·.1) = xs.map (·.1) := by
    rw [List.map_set]
    apply List.ext_getElem?
    intro j
    rw [List.getElem?_set]
    by_cases hj : i = j
    · subst hj
      rw [if_pos rfl, List.getElem?_map, hx]
      simp [(List.getElem?_eq_some_iff.1 hx).1]
    · rw [if_neg hj]
  refine ⟨⟨K1, L.nl, by rw [eq1]; exact C1.buf (by decide) L.l, ?_, ?_, ?_⟩, C1⟩
  · intro y hy
    obtain ⟨j, hj⟩ := List.mem_iff_getElem?.1 hy
    rcases set_get hj with ⟨_, rfl, _⟩ | ⟨hne, hj⟩
    · exact T
    · exact (L.t y (List.mem_of_getElem? hj)).upd U (L.d j i y x hj hx hne)
  · intro y hy
    obtain ⟨j, hj⟩ := List.mem_iff_getElem?.1 hy
    rcases set_get hj with ⟨_, rfl, _⟩ | ⟨hne, hj⟩
    · exact N1
    · exact L.n y (List.mem_of_getElem? hj)
  · intro p q y z hp hq hpq
    rcases set_get hp with ⟨rfl, rfl, _⟩ | ⟨hne, hp'⟩ <;> rcases set_get hq with ⟨rfl, rfl, _⟩ | ⟨hne2, hq'⟩
    · exact absurd rfl hpq
    · exact L.d _ _ x z hx hq' hpq
    · exact L.d _ _ y x hp' hx hpq
    · exact L.d p q y z hp' hq' hpq
end Go.Eng.Ytblghgacokoklaa
end
