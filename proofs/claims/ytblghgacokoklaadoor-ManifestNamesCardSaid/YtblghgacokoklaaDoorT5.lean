/-
  SPECS, 5: rows cut; the records of an edit.
-/
import Derived.Test.YtblghgacokoklaaDoorT4
set_option linter.unusedSimpArgs false
set_option linter.unusedVariables false
namespace Go.Eng.YtblghgacokoklaaDoor
/-- A row's first elements. -/
theorem row_take {h : Hp} {A : Option Addr} {n k : Nat} {vs : List Value} (hr : h.row A n vs) (hk : k ≤ n) : h.row A k (vs.take k) := by
  refine ⟨by rw [List.length_take, hr.1]; omega, ?_⟩
  rcases hr.2 with h0 | ⟨b, o, hA, hat⟩
  · exact .inl (by omega)
  · refine .inr ⟨b, o, hA, fun j hj => ?_⟩
    rw [hat j (by omega), List.getElem?_take, if_pos hj]
/-- A row's last elements. -/
theorem row_drop {h : Hp} {A : Option Addr} {n k : Nat} {vs : List Value} (hr : h.row A n vs) (hk : k ≤ n) : h.row (A.map (·.add k)) (n - k) (vs.drop k) := by
  refine ⟨by rw [List.length_drop, hr.1], ?_⟩
  rcases hr.2 with h0 | ⟨b, o, hA, hat⟩
  · exact .inl (by omega)
  · refine .inr ⟨b, o + k, by rw [hA]; simp [addr_add], fun j hj => ?_⟩
    rw [Nat.add_assoc, hat (k + j) (by omega), List.getElem?_drop]
theorem row_congr {h : Hp} {A B : Option Addr} {n : Nat} {vs : List Value} (hr : h.row A n vs) (e : n = 0 ∨ A = B) : h.row B n vs := by
  rcases e with h0 | rfl
  · exact ⟨hr.1, .inl h0⟩
  · exact hr
/-- s[:k:k] -/
theorem cut_front {h : Hp} {s : Sl} {sz k : Nat} {vs : List Value} (hr : h.row s.a (s.n * sz) vs) (hk : k ≤ s.n) : h.row (Sl.cut s sz 0 (k : Int) (k : Int)).a ((Sl.cut s sz 0 (k : Int) (k : Int)).n * sz) (vs.take (k * sz)) := by
  have h1 := row_take hr (Nat.mul_le_mul_right sz hk)
  have hn : (Sl.cut s sz 0 (k : Int) (k : Int)).n = k := by simp [Sl.cut]
  rw [hn]
  refine row_congr h1 ?_
  unfold Sl.cut
  simp only [Int.toNat_natCast, Int.toNat_zero, Nat.zero_mul]
  by_cases hk0 : k = 0
  · left; rw [hk0]; simp
  · right
    rw [if_neg hk0]
    cases hA : s.a with
    | none => rfl
    | some ad => simp [Addr.add]
/-- s[k:] -/
theorem cut_back {h : Hp} {s : Sl} {sz k : Nat} {vs : List Value} (hr : h.row s.a (s.n * sz) vs) (hk : k ≤ s.n) (hc : s.n ≤ s.c) : h.row (Sl.cut s sz (k : Int) (s.n : Int) (s.c : Int)).a ((Sl.cut s sz (k : Int) (s.n : Int) (s.c : Int)).n * sz) (vs.drop (k * sz)) := by
  have h1 := row_drop hr (Nat.mul_le_mul_right sz hk)
  have hn : (Sl.cut s sz (k : Int) (s.n : Int) (s.c : Int)).n = s.n - k := by simp [Sl.cut]
  rw [hn, Nat.sub_mul]
  refine row_congr h1 ?_
  unfold Sl.cut
  simp only [Int.toNat_natCast]
  by_cases hck : s.c = k
  · left; have : s.n = k := by omega
    rw [this]; simp
  · right; rw [if_neg hck]
/-! ### The records of an edit -/
def front (e : Edit) : Edit := { e with out := e.out.take 256, inn := e.inn.take (256 - min e.out.length 256) }
def behind (e : Edit) : Edit := { e with out := e.out.drop 256, inn := e.inn.drop (256 - min e.out.length 256) }
def putF : Nat → Edit → List (List Int)
  | 0, _ => []
  | f + 1, e => if (behind e).out.length + (behind e).inn.length = 0 then [recB (front e) true] else recB { front e with ptr := [] } false :: putF f (behind e)
/-- The records of an edit. -/
def putS (e : Edit) : List (List Int) := if e.told then putF (e.out.length + e.inn.length + 1) e else []
/-- Buffers of bytes, behind a row of slices. -/
def RowsAt (h : Hp) (ss : List Sl) (bs : List (List Int)) : Prop := ss.length = bs.length ∧ ∀ (i : Nat) (hi : i < ss.length) (hj : i < bs.length), Buf h ss[i] 1 5 (bv bs[i])
def slV (ss : List Sl) : List Value := ss.map fun s => .slice s.a s.n s.c
theorem slV_length (ss : List Sl) : (slV ss).length = ss.length := List.length_map _
theorem RowsAt.keep {h h' : Hp} (k : Keep h h') {ss : List Sl} {bs : List (List Int)} (R : RowsAt h ss bs) : RowsAt h' ss bs := ⟨R.1, fun i hi hj => (R.2 i hi hj).keep k⟩
theorem RowsAt.upd {h h' : Hp} {s s' : Sl} {sz t : Nat} {vs : List Value} (U : Upd h h' s s') (B : Buf h s sz t vs) (ht : (5 : Nat) ≠ t) {ss : List Sl} {bs : List (List Int)} (R : RowsAt h ss bs) : RowsAt h' ss bs := ⟨R.1, fun i hi hj => (R.2 i hi hj).upd U (buf_off (R.2 i hi hj) B ht)⟩
theorem RowsAt.nil (h : Hp) : RowsAt h [] [] := ⟨rfl, fun i hi => absurd hi (Nat.not_lt_zero i)⟩
theorem RowsAt.snoc {h : Hp} {ss : List Sl} {bs : List (List Int)} (R : RowsAt h ss bs) {s : Sl} {b : List Int} (hr : Buf h s 1 5 (bv b)) : RowsAt h (ss ++ [s]) (bs ++ [b]) := by
  refine ⟨by simp [R.1], fun i hi hj => ?_⟩
  by_cases hl : i < ss.length
  · rw [List.getElem_append_left hl, List.getElem_append_left (by rw [← R.1]; exact hl)]
    exact R.2 i hl _
  · have h1 : i = ss.length := by simp at hi; omega
    subst h1
    have h2 : bs.length = ss.length := R.1.symm
    rw [List.getElem_append_right (Nat.le_refl _), List.getElem_append_right (by omega)]
    simp only [Nat.sub_self, h2, List.getElem_cons_zero]
    exact hr
/-- A list that lies nowhere, or in new memory, grows. -/
theorem keep_grow {h h1 h2 : Hp} {s s' : Sl} (K : Keep h h1) (N : s.a = none ∨ New h s) (U : Upd h1 h2 s s') : Keep h h2 ∧ (s'.a = none ∨ New h s') := by
  refine ⟨fun k x e => U.keep k x (fun o hs => ?_) (K k x e), ?_⟩
  · rcases N with h0 | ⟨b, hb, hn⟩
    · rw [h0] at hs; cases hs
    · rw [hb] at hs
      simp only [Option.some.injEq, Addr.mk.injEq] at hs
      rw [← hs.1, hn] at e; cases e
  · rcases U.at_ with h0 | ⟨b, hb, hn⟩
    · rcases N with h3 | ⟨b, hb, hn⟩
      · exact .inl (by rw [h0]; exact h3)
      · exact .inr ⟨b, by rw [h0]; exact hb, hn⟩
    · exact .inr ⟨b, hb, K.dom b hn⟩
theorem EdAt.keep {h h' : Hp} {e : Edit} {l l1 l2 : Sl} (k : Keep h h') (E : EdAt h e l l1 l2) : EdAt h' e l l1 l2 := ⟨k.row E.out, k.row E.inn, k.row E.ptr⟩
theorem record_f' {h : Hp} {e : Edit} {l l1 l2 : Sl} {a b c : Int} {Q : Value → Hp → Prop} (ha : e.log = a) (hb : e.next = b) (hc : e.seq = c) (E : EdAt h e l l1 l2) (S : e.small)
    (hQ : ∀ r h', Buf h' r 1 5 (bv (recB e false)) → Keep h h' → New h r → Q (.slice r.a r.n r.c) h') : F63.Tf a b c l l1 l2 h Q := by
  subst ha hb hc; exact record_f E S hQ
theorem record_t' {h : Hp} {e : Edit} {l l1 l2 : Sl} {a b c : Int} {Q : Value → Hp → Prop} (ha : e.log = a) (hb : e.next = b) (hc : e.seq = c) (E : EdAt h e l l1 l2) (S : e.small)
    (hQ : ∀ r h', Buf h' r 1 5 (bv (recB e true)) → Keep h h' → New h r → Q (.slice r.a r.n r.c) h') : F63.Tt a b c l l1 l2 h Q := by
  subst ha hb hc; exact record_t E S hQ
end Go.Eng.YtblghgacokoklaaDoor
