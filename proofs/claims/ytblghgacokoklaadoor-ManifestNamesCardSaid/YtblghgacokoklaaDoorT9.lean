/-
  SPECS, 9: are rows of bytes alike; same.
-/
import Derived.Test.YtblghgacokoklaaDoorT8
set_option linter.unusedSimpArgs false
set_option linter.unusedVariables false
namespace Go.Eng.YtblghgacokoklaaDoor
theorem take_step {α : Type} {a b : List α} {i : Nat} (ha : i < a.length) (hb : i < b.length) (h : a.take i = b.take i) (he : a[i] = b[i]) : a.take (i + 1) = b.take (i + 1) := by
  rw [List.take_succ_eq_append_getElem ha, List.take_succ_eq_append_getElem hb, h, he]
theorem ne_at {α : Type} {a b : List α} {i : Nat} (ha : i < a.length) (hb : i < b.length) (he : a[i] ≠ b[i]) : a ≠ b := by
  intro h
  subst h
  exact he rfl
theorem all_take {α : Type} {a b : List α} (hl : a.length = b.length) (h : a.take a.length = b.take a.length) : a = b := by
  rw [List.take_length] at h
  rw [hl, List.take_length] at h
  exact h
theorem all_take2 {α : Type} {a b : List α} {i : Nat} (hl : a.length = b.length) (hi : i = a.length) (h : a.take i = b.take i) : a = b := by
  subst hi
  exact all_take hl h
theorem bytes_eq {h : Hp} {l l1 : Sl} {a b : List Int} {Q : Value → Hp → Prop} (ha : h.row l.a l.n (bv a)) (hb : h.row l1.a l1.n (bv b)) (hs : b.length ≤ 1000000000000)
    (hT : a = b → Q (.bool true) h) (hF : a ≠ b → Q (.bool false) h) : F127.T l l1 h Q := by
  have hla : l.n = a.length := by have := ha.1; rw [bv_length] at this; exact this.symm
  have hlb : l1.n = b.length := by have := hb.1; rw [bv_length] at this; exact this.symm
  unfold F127.T
  refine ⟨fun he => ?_, fun hne => hF fun e => hne (by rw [hla, hlb, e])⟩
  have hl : a.length = b.length := by omega
  refine ⟨fun n h1 => h1 = h ∧ ∃ i : Nat, n = (i : Int) ∧ i ≤ a.length ∧ a.take i = b.take i, fun n _ => a.length - n.toNat, ⟨rfl, 0, rfl, Nat.zero_le _, by simp⟩, ?_⟩
  rintro n h1 ⟨rfl, i, rfl, hi, ht⟩
  refine ⟨fun hlt => ?_, fun hge => hT (all_take2 hl (by omega) ht)⟩
  have ia : i < a.length := by omega
  have ib : i < b.length := by omega
  obtain ⟨b0, o0, ha0, hat⟩ := row_get ha (i := i) (by omega)
  obtain ⟨b1, o1, hb1, hbt⟩ := row_get hb (i := i) (by omega)
  refine ⟨b0, o0, ha0, ⟨by omega, hlt⟩, a[i], ?_, b1, o1, hb1, ⟨by omega, by omega⟩, b[i], ?_, fun e => ⟨⟨rfl, i + 1, next_i ia (by omega), ia, take_step ia ib ht e⟩, ?_⟩, fun e => hF (ne_at ia ib e)⟩
  · rw [Int.toNat_natCast, hat i (by omega)]; simp [bv, ia]
  · rw [Int.toNat_natCast, hbt i (by omega)]; simp [bv, ib]
  · rw [next_i ia (by omega)]
    show a.length - ((i + 1 : Nat) : Int).toNat < a.length - (i : Int).toNat
    omega
theorem sameBytes_eq {h : Hp} {l l1 : Sl} {a b : List Int} {Q : Value → Hp → Prop} (ha : h.row l.a l.n (bv a)) (hb : h.row l1.a l1.n (bv b)) (hs : b.length ≤ 1000000000000)
    (hT : a = b → Q (.bool true) h) (hF : a ≠ b → Q (.bool false) h) : F10.T l l1 h Q := bytes_eq ha hb hs hT hF
/-- Rows of bytes, behind a row of slices (read alone). -/
def Rows (h : Hp) (ss : List Sl) (bs : List (List Int)) : Prop := ss.length = bs.length ∧ ∀ (i : Nat) (hi : i < ss.length) (hj : i < bs.length), h.row ss[i].a ss[i].n (bv bs[i])
theorem RowsAt.rows {h : Hp} {ss : List Sl} {bs : List (List Int)} (R : RowsAt h ss bs) : Rows h ss bs := ⟨R.1, fun i hi hj => by have := (R.2 i hi hj).row; rw [Nat.mul_one] at this; exact this⟩
theorem Rows.keep {h h' : Hp} (k : Keep h h') {ss : List Sl} {bs : List (List Int)} (R : Rows h ss bs) : Rows h' ss bs := ⟨R.1, fun i hi hj => k.row (R.2 i hi hj)⟩
theorem Rows.mid {h : Hp} {ss : List Sl} {bs : List (List Int)} (R : Rows h ss bs) (i k : Nat) : Rows h ((ss.drop i).take k) ((bs.drop i).take k) := by
  refine ⟨by simp [R.1], fun j hj hk => ?_⟩
  simp only [List.length_take, List.length_drop] at hj hk
  have := R.2 (i + j) (by omega) (by omega)
  simpa using this
theorem eqF_spec {h : Hp} {l l1 : Sl} {ss ts : List Sl} {xs ys : List (List Int)} {Q : Value → Hp → Prop} (hl : h.row l.a l.n (slV ss)) (R1 : Rows h ss xs) (hl1 : h.row l1.a l1.n (slV ts)) (R2 : Rows h ts ys) (hs : ys.length ≤ 1000000000000) (hy : ∀ y ∈ ys, y.length ≤ 1000000000000)
    (hT : xs = ys → Q (.bool true) h) (hF : xs ≠ ys → Q (.bool false) h) : F126.T l l1 h Q := by
  have n1 : l.n = xs.length := by have := hl.1; rw [slV_length, R1.1] at this; exact this.symm
  have n2 : l1.n = ys.length := by have := hl1.1; rw [slV_length, R2.1] at this; exact this.symm
  have s1 : ss.length = xs.length := R1.1
  have s2 : ts.length = ys.length := R2.1
  unfold F126.T
  refine ⟨fun he => ?_, fun hne => hF fun e => hne (by rw [n1, n2, e])⟩
  have hl2 : xs.length = ys.length := by omega
  refine ⟨fun n h1 => h1 = h ∧ ∃ i : Nat, n = (i : Int) ∧ i ≤ xs.length ∧ xs.take i = ys.take i, fun n _ => xs.length - n.toNat, ⟨rfl, 0, rfl, Nat.zero_le _, by simp⟩, ?_⟩
  rintro n h1 ⟨rfl, i, rfl, hi, ht⟩
  refine ⟨fun hlt => ?_, fun hge => hT (all_take2 hl2 (by omega) ht)⟩
  have ia : i < xs.length := by omega
  have ib : i < ys.length := by omega
  obtain ⟨b0, o0, ha0, hat⟩ := row_get hl (i := i) (by omega)
  obtain ⟨b1, o1, hb1, hbt⟩ := row_get hl1 (i := i) (by omega)
  refine ⟨b0, o0, ha0, ⟨by omega, hlt⟩, ss[i], ?_, b1, o1, hb1, ⟨by omega, by omega⟩, ts[i], ?_, ?_⟩
  · rw [Int.toNat_natCast, hat i (by omega)]; simp [slV, s1, ia]
  · rw [Int.toNat_natCast, hbt i (by omega)]; simp [slV, s2, ib]
  refine bytes_eq (R1.2 i (by omega) ia) (R2.2 i (by omega) ib) (hy _ (List.getElem_mem ib)) (fun e => ⟨true, rfl, fun _ => ⟨⟨rfl, i + 1, next_i ia (by omega), ia, take_step ia ib ht e⟩, ?_⟩, fun h0 => (by cases h0)⟩) (fun e => ⟨false, rfl, fun h0 => (by cases h0), fun _ => hF (ne_at ia ib e)⟩)
  rw [next_i ia (by omega)]
  show xs.length - ((i + 1 : Nat) : Int).toNat < xs.length - (i : Int).toNat
  omega
/-- Are these just the first records of an edit? -/
def sameP (e : Edit) (recs : List (List Int)) (whole : Bool) : Bool :=
  if (putS e).length < recs.length then false else if whole = true ∧ (putS e).length ≠ recs.length then false else decide ((putS e).take recs.length = recs)
theorem cut_row {h : Hp} {l : Sl} {ss : List Sl} (hr : h.row l.a l.n (slV ss)) {i j m : Nat} (hi : i ≤ j) (hj : j ≤ l.n) (hm : l.n ≤ m) : h.row (Sl.cut l 1 (i : Int) (j : Int) (m : Int)).a (Sl.cut l 1 (i : Int) (j : Int) (m : Int)).n (slV ((ss.drop i).take (j - i))) := by
  have := cut_mid hr hi hj hm
  have e : slV ((ss.drop i).take (j - i)) = ((slV ss).drop i).take (j - i) := by unfold slV; rw [List.map_take, List.map_drop]
  rw [e]; exact this
theorem same_end {h : Hp} {e : Edit} {l3 l4 : Sl} {ss ts : List Sl} {recs : List (List Int)} {Q : Value → Hp → Prop} {w : Bool} (B : Buf h l4 1 23 (slV ts)) (R4 : RowsAt h ts (putS e)) (hl : h.row l3.a l3.n (slV ss)) (R : Rows h ss recs) (hs : recs.length ≤ 1000000000000) (hy : ∀ y ∈ recs, y.length ≤ 1000000000000)
    (h1 : ¬ (putS e).length < recs.length) (h2 : w = true → (putS e).length = recs.length) (hQ : Q (.bool (sameP e recs w)) h) :
    Sl.okCut l4 0 (l3.n : Int) (l4.c : Int) ∧ F126.T (Sl.cut l4 1 0 (l3.n : Int) (l4.c : Int)) l3 h fun r1 h2 => ∃ b : Bool, r1 = .bool b ∧ parB b (Q (.bool true) h2) (Q (.bool false) h2) := by
  have n3 : l3.n = recs.length := by have := hl.1; rw [slV_length, R.1] at this; exact this.symm
  have n4 : l4.n = (putS e).length := by have := B.len; rw [slV_length, R4.1] at this; omega
  have hc := B.cap
  have hp : sameP e recs w = decide ((putS e).take recs.length = recs) := by
    unfold sameP
    rw [if_neg h1, if_neg (fun hh => hh.2 (h2 hh.1))]
  rw [hp] at hQ
  have hB := B.row
  rw [Nat.mul_one] at hB
  have hrow := cut_row hB (i := 0) (j := l3.n) (m := l4.c) (Nat.zero_le _) (by omega) hc
  have hR : Rows h ((ts.drop 0).take (l3.n - 0)) ((putS e).take recs.length) := by
    have := R4.rows.mid 0 (l3.n - 0)
    rw [n3] at this ⊢
    exact this
  refine ⟨⟨by decide, by omega, by omega, by omega⟩, ?_⟩
  refine eqF_spec hrow hR hl R hs hy (fun he => ⟨true, rfl, fun _ => ?_, fun h0 => (by cases h0)⟩) (fun he => ⟨false, rfl, fun h0 => (by cases h0), fun _ => ?_⟩)
  · rw [decide_eq_true he] at hQ; exact hQ
  · rw [decide_eq_false he] at hQ; exact hQ
theorem same_t {h : Hp} {e : Edit} {l l1 l2 l3 : Sl} {ss : List Sl} {recs : List (List Int)} {Q : Value → Hp → Prop} (E : EdAt h e l l1 l2) (c1 : l.n ≤ l.c) (c2 : l1.n ≤ l1.c) (V : e.valid) (n1 : e.out.length + e.inn.length ≤ 1000000000000) (n3 : e.ptr.length < 9223372036854775807)
    (hl : h.row l3.a l3.n (slV ss)) (R : Rows h ss recs) (hs : recs.length ≤ 1000000000000) (hy : ∀ y ∈ recs, y.length ≤ 1000000000000) (hQ : ∀ h', Keep h h' → Q (.bool (sameP e recs true)) h') : F103.Tt e.log e.next e.seq l l1 l2 l3 h Q := by
  unfold F103.Tt
  have m3 : l3.n = recs.length := by have := hl.1; rw [slV_length, R.1] at this; exact this.symm
  refine put_spec E c1 c2 V n1 n3 fun l4 h1 ts B R4 K N => ⟨l4, rfl, fun hlt => ?_, fun hge => ⟨fun heq => ?_, fun hne => ?_⟩⟩
  all_goals have n4 : l4.n = (putS e).length := by have := B.len; rw [slV_length, R4.1] at this; omega
  · have := hQ h1 K
    unfold sameP at this
    rw [if_pos (by omega)] at this
    exact this
  · exact same_end B R4 (K.row hl) (R.keep K) hs hy (by omega) (fun _ => by omega) (hQ h1 K)
  · have := hQ h1 K
    unfold sameP at this
    rw [if_neg (by omega), if_pos ⟨rfl, by omega⟩] at this
    exact this
theorem same_f {h : Hp} {e : Edit} {l l1 l2 l3 : Sl} {ss : List Sl} {recs : List (List Int)} {Q : Value → Hp → Prop} (E : EdAt h e l l1 l2) (c1 : l.n ≤ l.c) (c2 : l1.n ≤ l1.c) (V : e.valid) (n1 : e.out.length + e.inn.length ≤ 1000000000000) (n3 : e.ptr.length < 9223372036854775807)
    (hl : h.row l3.a l3.n (slV ss)) (R : Rows h ss recs) (hs : recs.length ≤ 1000000000000) (hy : ∀ y ∈ recs, y.length ≤ 1000000000000) (hQ : ∀ h', Keep h h' → Q (.bool (sameP e recs false)) h') : F103.Tf e.log e.next e.seq l l1 l2 l3 h Q := by
  unfold F103.Tf
  have m3 : l3.n = recs.length := by have := hl.1; rw [slV_length, R.1] at this; exact this.symm
  refine put_spec E c1 c2 V n1 n3 fun l4 h1 ts B R4 K N => ⟨l4, rfl, fun hlt => ?_, fun hge => ?_⟩
  all_goals have n4 : l4.n = (putS e).length := by have := B.len; rw [slV_length, R4.1] at this; omega
  · have := hQ h1 K
    unfold sameP at this
    rw [if_pos (by omega)] at this
    exact this
  · exact same_end B R4 (K.row hl) (R.keep K) hs hy (by omega) (fun h0 => by cases h0) (hQ h1 K)
end Go.Eng.YtblghgacokoklaaDoor
