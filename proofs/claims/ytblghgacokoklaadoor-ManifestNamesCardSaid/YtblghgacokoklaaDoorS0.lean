/-
  SPECS, 0: rows of a heap; buffers of bytes; what a step keeps. Plain Lean; no program in sight.
-/
import Derived.Test.YtblghgacokoklaaDoorE17
set_option linter.unusedSimpArgs false
set_option linter.unusedVariables false
namespace Go.Eng

/-! ### 1. What stays -/
/-- All that was there stands. -/
def Keep (h h' : Hp) : Prop := ∀ b o, h b = some o → h' b = some o
theorem Keep.refl (h : Hp) : Keep h h := fun _ _ h => h
theorem Keep.trans {a b c : Hp} (h : Keep a b) (k : Keep b c) : Keep a c := fun x o e => k x o (h x o e)
theorem Keep.new {h : Hp} {b : Nat} (hb : h b = none) (o : Obj) : Keep h (h.new b o) := by
  intro k x hk
  unfold Hp.new
  by_cases hkb : k = b
  · subst hkb; rw [hb] at hk; cases hk
  · rw [if_neg hkb]; exact hk
theorem Keep.at {h h' : Hp} (k : Keep h h') {b o : Nat} {v : Value} (ha : h.at b o = some v) : h'.at b o = some v := by
  unfold Hp.at at ha ⊢
  cases hb : h b with
  | none => rw [hb] at ha; cases ha
  | some x => rw [k b x hb]; rw [hb] at ha; exact ha
theorem Keep.row {h h' : Hp} (k : Keep h h') {A : Option Addr} {n : Nat} {vs : List Value} (hr : h.row A n vs) : h'.row A n vs := by
  refine ⟨hr.1, hr.2.imp id ?_⟩
  rintro ⟨b, o, hA, hat⟩
  refine ⟨b, o, hA, fun j hj => ?_⟩
  have h1 := hat j hj
  have hl : j < vs.length := by rw [hr.1]; exact hj
  rw [List.getElem?_eq_getElem hl] at h1 ⊢
  exact k.at h1
theorem at_new_ne {h : Hp} {b k : Nat} {o : Obj} (hne : k ≠ b) (j : Nat) : (h.new b o).at k j = h.at k j := by
  unfold Hp.at Hp.new
  rw [if_neg hne]
theorem at_new {h : Hp} {b : Nat} {c : Array Value} {t : Nat} {f : Nat × Nat} (j : Nat) : (h.new b (.cells c t f)).at b j = c[j]? := by
  unfold Hp.at Hp.new
  rw [if_pos rfl]

/-! ### 2. Buffers: rows that may grow -/
/-- A slice over a block of its own: its cells are vs; it may be written, and grown into its room. -/
structure Buf (h : Hp) (s : Sl) (sz t : Nat) (vs : List Value) : Prop where
  len : vs.length = s.n * sz
  cap : s.n ≤ s.c
  own : (s.a = none ∧ s.c = 0) ∨ ∃ b c f, s.a = some ⟨b, 0, none⟩ ∧ h b = some (.cells c t f) ∧ s.c * sz ≤ c.size ∧ (∀ j, j < c.size → ¬ (f.1 ≤ j ∧ j < f.2)) ∧ c.toList.take vs.length = vs
/-- All stands but the block of this slice; the slice is where it was, or in a block that was not there. -/
structure Upd (h h' : Hp) (s s' : Sl) : Prop where
  keep : ∀ k x, (∀ o, s.a ≠ some ⟨k, o, none⟩) → h k = some x → h' k = some x
  at_ : s'.a = s.a ∨ ∃ b, s'.a = some ⟨b, 0, none⟩ ∧ h b = none
  dom : ∀ k, h' k = none → h k = none
theorem Upd.refl (h : Hp) (s : Sl) : Upd h h s s := ⟨fun _ _ _ e => e, .inl rfl, fun _ e => e⟩
theorem Upd.trans {h h1 h2 : Hp} {s s1 s2 : Sl} (U : Upd h h1 s s1) (V : Upd h1 h2 s1 s2) : Upd h h2 s s2 := by
  refine ⟨fun k x hk e => V.keep k x (fun o hs => ?_) (U.keep k x hk e), ?_, fun k e => U.dom k (V.dom k e)⟩
  · rcases U.at_ with h0 | ⟨b, hb, hn⟩
    · exact hk o (by rw [← h0]; exact hs)
    · rw [hb] at hs
      simp only [Option.some.injEq, Addr.mk.injEq] at hs
      rw [hs.1, e] at hn; cases hn
  · rcases V.at_ with h0 | ⟨b, hb, hn⟩
    · rw [h0]; exact U.at_
    · exact .inr ⟨b, hb, U.dom b hn⟩
/-- With a slice that lies nowhere, all stands. -/
theorem Upd.keepNil {h h' : Hp} {s s' : Sl} (U : Upd h h' s s') (hs : s.a = none) : Keep h h' := fun b o e => U.keep b o (fun o' => by rw [hs]; simp) e
theorem Upd.of_new {h : Hp} {b : Nat} (hb : h b = none) (o : Obj) (s : Sl) : Upd h (h.new b o) s s := by
  refine ⟨fun k x _ e => Keep.new hb o k x e, .inl rfl, fun k e => ?_⟩
  unfold Hp.new at e
  by_cases hk : k = b
  · rw [hk]; exact hb
  · rw [if_neg hk] at e; exact e
theorem Buf.nil (h : Hp) (sz t : Nat) : Buf h ⟨none, 0, 0⟩ sz t [] := ⟨by simp, Nat.le_refl _, .inl ⟨rfl, rfl⟩⟩
theorem Buf.row {h : Hp} {s : Sl} {sz t : Nat} {vs : List Value} (B : Buf h s sz t vs) : h.row s.a (s.n * sz) vs := by
  refine ⟨B.len, ?_⟩
  rcases B.own with ⟨ha, hc⟩ | ⟨b, c, f, ha, hb, hsz, hf, ht⟩
  · have : s.n = 0 := by have := B.cap; omega
    exact .inl (by rw [this]; simp)
  · refine .inr ⟨b, 0, ha, fun j hj => ?_⟩
    unfold Hp.at
    rw [hb]
    simp only [Nat.zero_add]
    rw [← ht, List.getElem?_take, if_pos (by rw [B.len]; exact hj), Array.getElem?_toList]
theorem zerosV_length {z : List Value} (n : Nat) : (zerosV z n).length = n * z.length := by
  unfold zerosV Builtin.zeroCells
  simp
theorem setL_get' (vs : List Value) : ∀ (c : List Value) (o j : Nat), o + vs.length ≤ c.length → (setL c o vs)[j]? = if o ≤ j ∧ j < o + vs.length then vs[j - o]? else c[j]? := by
  induction vs with
  | nil => intro c o j h; simp only [setL, List.length_nil, Nat.add_zero]; rw [if_neg (by omega)]
  | cons v vs ih =>
    intro c o j h
    simp only [List.length_cons] at h
    simp only [setL]
    rw [ih _ _ _ (by simp; omega)]
    by_cases h1 : o + 1 ≤ j ∧ j < o + 1 + vs.length
    · rw [if_pos h1, if_pos (by simp; omega)]
      rw [show j - o = (j - (o + 1)) + 1 by omega, List.getElem?_cons_succ]
    · rw [if_neg h1]
      by_cases h2 : j = o
      · subst h2
        rw [if_pos (by simp), List.getElem?_set_self (by omega)]
        simp
      · rw [if_neg (by simp; omega), List.getElem?_set_ne (Ne.symm h2)]
theorem Keep.dom {h h' : Hp} (k : Keep h h') : ∀ b, h' b = none → h b = none := by
  intro b hb
  cases hh : h b with
  | none => rfl
  | some o => rw [k b o hh] at hb; cases hb
theorem Upd.of_keep {h h' : Hp} (k : Keep h h') (s : Sl) : Upd h h' s s := ⟨fun b o _ e => k b o e, .inl rfl, k.dom⟩
theorem Buf.keep {h h' : Hp} (k : Keep h h') {s : Sl} {sz t : Nat} {vs : List Value} (B : Buf h s sz t vs) : Buf h' s sz t vs := by
  refine ⟨B.len, B.cap, B.own.imp id ?_⟩
  rintro ⟨b, c, f, h1, h2, h3, h4, h5⟩
  exact ⟨b, c, f, h1, k _ _ h2, h3, h4, h5⟩
/-- s lies in no block of t's. -/
def Off (s t : Sl) : Prop := ∀ b o o', s.a = some ⟨b, o, none⟩ → t.a ≠ some ⟨b, o', none⟩
theorem row_upd {h h' : Hp} {s s' r : Sl} (U : Upd h h' s s') {n : Nat} (ho : n = 0 ∨ Off r s) {vs : List Value} (hr : h.row r.a n vs) : h'.row r.a n vs := by
  rcases ho with h0 | ho
  · exact ⟨hr.1, .inl h0⟩
  refine ⟨hr.1, hr.2.imp id ?_⟩
  rintro ⟨b, o, hA, hat⟩
  refine ⟨b, o, hA, fun j hj => ?_⟩
  rw [← hat j hj]
  have h1 := hat j hj
  have hl : j < vs.length := by rw [hr.1]; exact hj
  rw [List.getElem?_eq_getElem hl] at h1
  unfold Hp.at at h1 ⊢
  cases hb : h b with
  | none => rw [hb] at h1; cases h1
  | some x => rw [U.keep b x (fun o' => ho b o o' hA) hb]
/-- What lies in a row is in no block that was not there. -/
theorem off_fresh {h : Hp} {r s : Sl} {n : Nat} {vs : List Value} (hr : h.row r.a n vs) {b : Nat} (hs : s.a = some ⟨b, 0, none⟩) (hb : h b = none) : n = 0 ∨ Off r s := by
  rcases Nat.eq_zero_or_pos n with h0 | h0
  · exact .inl h0
  · refine .inr fun b' o o' e1 e2 => ?_
    rw [hs] at e2
    simp only [Option.some.injEq, Addr.mk.injEq] at e2
    rcases hr.2 with h1 | ⟨k, o2, hA, hat⟩
    · omega
    · rw [hA] at e1
      simp only [Option.some.injEq, Addr.mk.injEq] at e1
      have h1 := hat 0 h0
      have hl : 0 < vs.length := by rw [hr.1]; exact h0
      rw [List.getElem?_eq_getElem hl] at h1
      unfold Hp.at at h1
      rw [e1.1, ← e2.1, hb] at h1
      cases h1
theorem row_get {h : Hp} {A : Option Addr} {n : Nat} {vs : List Value} (hr : h.row A n vs) {i : Nat} (hi : i < n) : ∃ b o, A = some ⟨b, o, none⟩ ∧ ∀ j, j < n → h.at b (o + j) = vs[j]? := by
  rcases hr.2 with h0 | h1
  · omega
  · exact h1
/-- GROWING A BUFFER. -/
theorem append_buf {h : Hp} {s : Sl} {sz t bytes m : Nat} {z vs us : List Value} {K : Sl → Hp → Prop} (B : Buf h s sz t vs) (hz : z.length = sz) (hu : us.length = m * sz) (hb : (s.n + m) * bytes ≤ 140737488355328)
    (hK : ∀ s' h', Buf h' s' sz t (vs ++ us) → s'.n = s.n + m → Upd h h' s s' → K s' h') : appendD s t sz bytes z m us h K := by
  refine ⟨hb, fun hle => ?_, fun hlt => ⟨vs, B.row, fun b c hbn hc => ?_⟩⟩
  · rcases B.own with ⟨ha, hc⟩ | ⟨b, c, f, ha, hbb, hsz, hf, ht⟩
    · have hm : m = 0 ∧ s.n = 0 := by omega
      have hus : us = [] := List.eq_nil_of_length_eq_zero (by rw [hu, hm.1]; simp)
      subst hus
      refine ⟨.inl rfl, hK _ _ ⟨?_, by show s.n + m ≤ s.c; omega, .inl ⟨ha, hc⟩⟩ rfl ⟨fun k x _ e => ?_, .inl rfl, fun k e => ?_⟩⟩
      · have := B.len; simp only [List.append_nil, this, hm.1, Nat.add_zero]
      · rw [wrA_nil]; exact e
      · rw [wrA_nil] at e; exact e
    · have hmul : s.n * sz + m * sz ≤ c.size := by
        rw [← Nat.add_mul]
        exact Nat.le_trans (Nat.mul_le_mul_right _ hle) hsz
      have haddr : s.a.map (·.add (s.n * sz)) = some ⟨b, s.n * sz, none⟩ := by rw [ha]; simp [addr_add]
      rw [haddr]
      have hcl : c.toList.length = c.size := by simp
      refine ⟨.inr ⟨b, s.n * sz, rfl, c, t, f, hbb, by omega, fun j h1 h2 => hf j (by omega)⟩, hK _ _ ⟨?_, by show s.n + m ≤ s.c; exact hle, .inr ⟨b, (setL c.toList (s.n * sz) us).toArray, f, ha, ?_, ?_, ?_, ?_⟩⟩ rfl ⟨fun k x hk e => ?_, .inl rfl, fun k e => ?_⟩⟩
      · simp only [List.length_append, B.len, hu, Nat.add_mul]
      · simp only [Hp.wrA, Hp.wr, if_pos, hbb]
      · simp only [List.size_toArray, setL_length, hcl]; exact hsz
      · intro j hj
        simp only [List.size_toArray, setL_length, hcl] at hj
        exact hf j hj
      · apply List.ext_getElem?
        intro j
        rw [List.getElem?_take]
        simp only [List.toList_toArray] 
        rw [setL_get' _ _ _ _ (by rw [hcl, hu]; exact hmul)]
        have hl := B.len
        by_cases h1 : j < (vs ++ us).length
        · rw [if_pos h1]
          simp only [List.length_append] at h1
          by_cases h2 : s.n * sz ≤ j
          · rw [if_pos ⟨h2, by omega⟩, List.getElem?_append_right (by omega), hl]
          · rw [if_neg (by omega), List.getElem?_append_left (by omega)]
            rw [← ht, List.getElem?_take, if_pos (by omega)]
        · rw [if_neg h1, List.getElem?_eq_none (by omega)]
      · simp only [Hp.wrA, Hp.wr]
        rw [if_neg (fun e => hk 0 (by rw [e]; exact ha))]
        exact e
      · simp only [Hp.wrA, Hp.wr] at e
        by_cases hkb : k = b
        · rw [if_pos hkb, hbb] at e; cases e
        · rw [if_neg hkb] at e; exact e
  · have hsize : (vs ++ us ++ zerosV z (c - (s.n + m))).length = c * sz := by
      simp only [List.length_append, B.len, hu, zerosV_length, hz]
      rw [← Nat.add_mul, ← Nat.add_mul]
      congr 1
      omega
    refine hK _ _ ⟨?_, hc, .inr ⟨b, _, (0, 0), rfl, by unfold Hp.new; rw [if_pos rfl], ?_, fun j _ => by simp, ?_⟩⟩ rfl ⟨fun k x _ e => Keep.new hbn _ k x e, .inr ⟨b, rfl, hbn⟩, (Upd.of_new hbn _ s).dom⟩
    · simp only [List.length_append, B.len, hu, Nat.add_mul]
    · simp only [List.size_toArray, hsize, Nat.le_refl]
    · simp only [List.toList_toArray]
      rw [List.take_left' rfl]

/-- Buffers of two types lie in two blocks. -/
theorem buf_off {h : Hp} {s1 s2 : Sl} {sz1 t1 sz2 t2 : Nat} {v1 v2 : List Value} (B1 : Buf h s1 sz1 t1 v1) (B2 : Buf h s2 sz2 t2 v2) (ht : t1 ≠ t2) : Off s1 s2 := by
  intro b o o' e1 e2
  rcases B1.own with ⟨ha, _⟩ | ⟨b1, c1, f1, ha1, hb1, _⟩
  · rw [ha] at e1; cases e1
  rcases B2.own with ⟨ha, _⟩ | ⟨b2, c2, f2, ha2, hb2, _⟩
  · rw [ha] at e2; cases e2
  rw [ha1] at e1
  rw [ha2] at e2
  simp only [Option.some.injEq, Addr.mk.injEq] at e1 e2
  rw [e1.1] at hb1
  rw [e2.1, hb1] at hb2
  simp only [Option.some.injEq, Obj.cells.injEq] at hb2
  exact ht hb2.2.1
theorem Buf.upd {h h' : Hp} {s s' r : Sl} {sz t : Nat} {vs : List Value} (U : Upd h h' s s') (ho : Off r s) (B : Buf h r sz t vs) : Buf h' r sz t vs := by
  refine ⟨B.len, B.cap, B.own.imp id ?_⟩
  rintro ⟨b, c, f, h1, h2, h3, h4, h5⟩
  exact ⟨b, c, f, h1, U.keep b _ (fun o => ho b 0 o h1) h2, h3, h4, h5⟩

/-! ### 3. Whole numbers of a machine's kinds -/
theorem wrap_i64 {n : Int} (h0 : -9223372036854775808 ≤ n) (h1 : n < 9223372036854775808) : IntKind.wrap .i64 n = n := by
  simp [IntKind.wrap, IntKind.signed, IntKind.bits]
  omega
theorem wrap_u64 {n : Int} (h0 : 0 ≤ n) (h1 : n < 18446744073709551616) : IntKind.wrap .u64 n = n := by
  simp [IntKind.wrap, IntKind.signed, IntKind.bits]
  omega
end Go.Eng
