/-
  SPECS OF THE NAMES, 5: frames that are read; what current points to.
-/
import Derived.Test.YtblghgacokoklaaDoorD4
set_option linter.unusedSimpArgs false
set_option linter.unusedVariables false
namespace Go.Eng.YtblghgacokoklaaDoor
/-- s[i:j:m] of single cells. -/
theorem cut1 {h : Hp} {s : Sl} {vs : List Value} (hr : h.row s.a s.n vs) {i j m : Nat} (hi : i ≤ j) (hj : j ≤ s.n) (hm : j ≤ m) : h.row (Sl.cut s 1 (i : Int) (j : Int) (m : Int)).a (Sl.cut s 1 (i : Int) (j : Int) (m : Int)).n ((vs.drop i).take (j - i)) ∧ (Sl.cut s 1 (i : Int) (j : Int) (m : Int)).n = j - i ∧ (Sl.cut s 1 (i : Int) (j : Int) (m : Int)).c = m - i := by
  have h1 := row_take (row_drop hr (k := i) (by omega)) (k := j - i) (by omega)
  have hn : (Sl.cut s 1 (i : Int) (j : Int) (m : Int)).n = j - i := by simp [Sl.cut]
  refine ⟨?_, hn, by simp [Sl.cut]⟩
  rw [hn]
  refine row_congr h1 ?_
  unfold Sl.cut
  simp only [Int.toNat_natCast]
  by_cases hmi : m = i
  · left; omega
  · right; rw [if_neg hmi, Nat.mul_one]
/-- New memory that holds a row's bytes. -/
theorem twin_of {h : Hp} {l : Sl} {bs : List Int} {Q : Value → Hp → Prop} (hr : h.row l.a l.n (bv bs)) (hs : bs.length ≤ 1000000)
    (hQ : ∀ (l' : Sl) (h' : Hp), h'.row l'.a l'.n (bv bs) → Keep h h' → Q (.slice l'.a l'.n l'.c) h') : F88.T l 0 h Q := by
  have hln : l.n = bs.length := by have := hr.1; rw [bv_length] at this; exact this.symm
  have hw : IntKind.wrap .i64 ((l.n : Int) + 0) = ((bs.length : Nat) : Int) := by rw [wrap_i64 (by omega) (by omega)]; omega
  unfold F88.T
  rw [hw]
  refine ⟨⟨by omega, by omega, by omega⟩, fun b hb => ?_⟩
  have hz : (Builtin.zeroCells (List.toArray [Value.int .u8 0]) (((bs.length : Nat) : Int)).toNat).size = bs.length := by
    rw [Int.toNat_natCast]; unfold Builtin.zeroCells; simp
  have hmin : Nat.min l.n (((l.n : Int) : Int).toNat) * 1 = l.n := by rw [Int.toNat_natCast, Nat.mul_one]; exact Nat.min_self _
  generalize hA : (Builtin.zeroCells (List.toArray [Value.int .u8 0]) (((bs.length : Nat) : Int)).toNat) = A at hz ⊢
  have k0 := Keep.new hb (.cells A 5 (0, 0))
  have hc : (h.new b (.cells A 5 (0, 0))) b = some (.cells A 5 (0, 0)) := by unfold Hp.new; rw [if_pos rfl]
  refine ⟨bv bs, by rw [hmin]; exact k0.row hr, bv_one bs, .inr ⟨b, 0, rfl, A, 5, (0, 0), hc, by rw [bv_length, hz]; omega, fun j _ _ => by simp⟩, ?_⟩
  refine hQ ⟨some ⟨b, 0, none⟩, ((l.n : Int)).toNat, (((bs.length : Nat) : Int)).toNat⟩ _ ?_ ?_
  · refine ⟨by rw [bv_length]; show bs.length = ((l.n : Int)).toNat; omega, .inr ⟨b, 0, rfl, fun j hj => ?_⟩⟩
    have hj : j < ((l.n : Int)).toNat := hj
    rw [Nat.zero_add]
    unfold Hp.at
    rw [show ((h.new b (.cells A 5 (0, 0))).wrA (some ⟨b, 0, none⟩) (bv bs)) b = _ from wr_at hc]
    show (List.toArray _)[j]? = _
    rw [List.getElem?_toArray, setL_get' _ _ _ _ (by have h9 : A.toList.length = bs.length := hz; rw [h9, bv_length]; omega), if_pos (by rw [bv_length]; omega), Nat.sub_zero]
  · intro x o hx
    have hne : x ≠ b := fun e => by rw [e, hb] at hx; cases hx
    show ((h.new b (.cells A 5 (0, 0))).wr b 0 (bv bs)) x = _
    unfold Hp.wr Hp.new
    rw [if_neg hne, if_neg hne]
    exact hx
/-- A frame that is read: its body, how many bytes it takes, the error. -/
def unF (bs : List Int) : List Int × Nat × Int :=
  if (uR 0 0 bs).2.2 = 0 then
    if 262144 < (uR 0 0 bs).1 then ([], 0, 22)
    else if bs.length < (uR 0 0 bs).2.1 + (uR 0 0 bs).1.toNat + 4 then ([], 0, 20)
    else if fourB (sumB (bs.take ((uR 0 0 bs).2.1 + (uR 0 0 bs).1.toNat))) = (bs.drop ((uR 0 0 bs).2.1 + (uR 0 0 bs).1.toNat)).take 4 then
      ((bs.drop (uR 0 0 bs).2.1).take (uR 0 0 bs).1.toNat, (uR 0 0 bs).2.1 + (uR 0 0 bs).1.toNat + 4, 0)
    else ([], 0, 23)
  else ([], 0, (uR 0 0 bs).2.2)
theorem ok_take {l : List Int} (h : okB8 l) (k : Nat) : okB8 (l.take k) := fun c hc => h c (List.mem_of_mem_take hc)
theorem ok_drop {l : List Int} (h : okB8 l) (k : Nat) : okB8 (l.drop k) := fun c hc => h c (List.mem_of_mem_drop hc)
theorem unF_ok {bs : List Int} (h : okB8 bs) : okB8 (unF bs).1 := by
  have nil : okB8 [] := fun c hc => by cases hc
  unfold unF
  split
  · split
    · exact nil
    · split
      · exact nil
      · split
        · exact ok_take (ok_drop h _) _
        · exact nil
  · exact nil
theorem unF_len (bs : List Int) : (unF bs).1.length ≤ 262144 := by
  unfold unF
  split
  · split
    · simp
    · rename_i h
      split
      · simp
      · split
        · simp only [List.length_take]
          have := (uR_ok bs 0 0).1
          omega
        · simp
  · simp
theorem toB_inj {a b : List Int} (ha : okB8 a) (hb : okB8 b) (h : toB a = toB b) : a = b := by
  have h1 := toB_V ha
  have h2 := toB_V hb
  rw [h] at h1
  have h3 : bv a = bv b := h1.symm.trans h2
  have : ∀ (a b : List Int), bv a = bv b → a = b := by
    intro a
    induction a with
    | nil => intro b h; cases b with
      | nil => rfl
      | cons _ _ => simp [bv] at h
    | cons x a ih => intro b h; cases b with
      | nil => simp [bv] at h
      | cons y b =>
        simp only [bv, List.map_cons, List.cons.injEq, Value.int.injEq, true_and] at h
        rw [h.1, ih b h.2]
  exact this a b h3
theorem ends_of {h : Hp} {l l1 : Sl} {bs four : List Int} {Q : Value → Hp → Prop} (T : Tab h) (hr : h.row l.a l.n (bv bs)) (hc : l.c = l.n) (hr1 : h.row l1.a l1.n (bv four)) (hok : okB8 bs) (hok1 : okB8 four) (hs : bs.length + 4 ≤ 140737488355328)
    (hQ : ∀ (b : Bool) h', (b = true ↔ fourB (sumB bs) = four) → Keep h h' → Q (.bool b) h') : F87.T l l1 h Q := by
  have hln : l.n = bs.length := by have := hr.1; rw [bv_length] at this; exact this.symm
  refine ⟨toB four, by rw [toB_V hok1]; exact hr1, sum_full T hr hc hok hs fun l2 h2 B2 K2 N2 => ?_⟩
  have l2n : l2.n = bs.length + 4 := by have := B2.len; rw [bv_length, List.length_append] at this; simp [fourB] at this; omega
  have r2 := B2.row
  rw [Nat.mul_one] at r2
  have hcap := B2.cap
  obtain ⟨rc, _, _⟩ := cut1 r2 (i := l.n) (j := l2.n) (m := l2.c) (by omega) (Nat.le_refl _) hcap
  have e : ((bv (bs ++ fourB (sumB bs))).drop l.n).take (l2.n - l.n) = bv (fourB (sumB bs)) := by
    rw [bv_append, List.drop_append_of_le_length (by rw [bv_length]; omega), List.drop_of_length_le (by rw [bv_length]; omega), List.nil_append]
    exact List.take_of_length_le (by rw [bv_length]; show 4 ≤ _; omega)
  rw [e] at rc
  refine ⟨l2, rfl, by rw [toB_V hok1]; exact K2.row hr1, ⟨by omega, by omega, by omega, by omega⟩, toB (fourB (sumB bs)), by rw [toB_V (fourB_ok _)]; exact rc, fun he => ?_, fun hne => ?_⟩
  · exact hQ true h2 ⟨fun _ => toB_inj (fourB_ok _) hok1 he, fun _ => rfl⟩ K2
  · exact hQ false h2 ⟨fun q => (by cases q), fun q => absurd (by rw [q]) hne⟩ K2
theorem unframe_of {h : Hp} {l : Sl} {bs : List Int} {Q : Value → Hp → Prop} (T : Tab h) (hr : h.row l.a l.n (bv bs)) (hc : l.n ≤ l.c) (hok : okB8 bs) (hs : bs.length + 20 ≤ 140737488355328)
    (hQ : ∀ (l' : Sl) (h' : Hp), h'.row l'.a l'.n (bv (unF bs).1) → Keep h h' → Q (.tuple ⟨[.slice l'.a l'.n l'.c, .int .i64 ((unF bs).2.1 : Int), .int .i64 (unF bs).2.2]⟩) h') : F42.T l h Q := by
  have hln : l.n = bs.length := by have := hr.1; rw [bv_length] at this; exact this.symm
  have none_ : ∀ (e : Int) h', unF bs = ([], 0, e) → Keep h h' → Q (.tuple ⟨[.slice none 0 0, .int .i64 0, .int .i64 e]⟩) h' := fun e h' he K => by
    have := hQ ⟨none, 0, 0⟩ h'
    rw [he] at this
    exact this ⟨rfl, .inl rfl⟩ K
  refine uint_spec hr ⟨_, _, _, rfl, fun h0 => ⟨fun hbig => ?_, fun hbig => ⟨fun hsh => ?_, fun hsh => ?_⟩⟩, fun h0 => ?_⟩
  · exact none_ 22 h (by unfold unF; rw [if_pos h0, if_pos hbig]) (Keep.refl h)
  all_goals have hu := uR_ok bs 0 0
  rotate_right
  · exact none_ _ h (by unfold unF; rw [if_neg h0]) (Keep.refl h)
  all_goals
    have hk := uR_take bs 0 0 h0
    obtain ⟨n, hn⟩ : ∃ n : Nat, (uR 0 0 bs).1 = (n : Int) := ⟨(uR 0 0 bs).1.toNat, by have := hu.1; omega⟩
    generalize hkk : (uR 0 0 bs).2.1 = k at *
    have hn1 : n ≤ 262144 := by rw [hn] at hbig; omega
    have w1 : IntKind.wrap .u64 (IntKind.wrap .i64 ((l.n : Int) - (k : Int))) = ((bs.length - k : Nat) : Int) := by
      rw [wrap_i64 (by omega) (by omega), wrap_u64 (by omega) (by omega)]; omega
    have w2 : IntKind.wrap .u64 ((uR 0 0 bs).1 + 4) = ((n + 4 : Nat) : Int) := by rw [hn, wrap_u64 (by omega) (by omega)]; omega
    have w3 : IntKind.wrap .i64 ((k : Int) + IntKind.wrap .i64 (uR 0 0 bs).1) = ((k + n : Nat) : Int) := by rw [hn, wrap_i64 (n := (n : Int)) (by omega) (by omega), wrap_i64 (by omega) (by omega)]; omega
    rw [w1, w2] at hsh
  · exact none_ 20 h (by unfold unF; rw [if_pos h0, if_neg hbig, hkk, hn, Int.toNat_natCast, if_pos (by omega)]) (Keep.refl h)
  · have hle : k + n + 4 ≤ bs.length := by omega
    have w4 : IntKind.wrap .i64 (((k + n : Nat) : Int) + 4) = ((k + n + 4 : Nat) : Int) := by rw [wrap_i64 (by omega) (by omega)]; omega
    rw [w3, w4]
    obtain ⟨c1, c1n, c1c⟩ := cut1 hr (i := 0) (j := k + n) (m := k + n) (by omega) (by omega) (Nat.le_refl _)
    obtain ⟨c2, c2n, _⟩ := cut1 hr (i := k + n) (j := k + n + 4) (m := l.c) (by omega) (by omega) (by omega)
    obtain ⟨c3, c3n, _⟩ := cut1 hr (i := k) (j := k + n) (m := l.c) (by omega) (by omega) (by omega)
    have e1 : ((bv bs).drop 0).take (k + n - 0) = bv (bs.take (k + n)) := by unfold bv; rw [List.drop_zero, Nat.sub_zero, List.map_take]
    have e2 : ((bv bs).drop (k + n)).take (k + n + 4 - (k + n)) = bv ((bs.drop (k + n)).take 4) := by
      unfold bv; rw [List.map_take, List.map_drop, Nat.add_sub_cancel_left]
    have e3 : ((bv bs).drop k).take (k + n - k) = bv ((bs.drop k).take n) := by
      unfold bv; rw [List.map_take, List.map_drop, Nat.add_sub_cancel_left]
    rw [e1] at c1; rw [e2] at c2; rw [e3] at c3
    have c1n : (Sl.cut l 1 (0 : Int) ((k + n : Nat) : Int) ((k + n : Nat) : Int)).n = k + n - 0 := c1n
    have c1c : (Sl.cut l 1 (0 : Int) ((k + n : Nat) : Int) ((k + n : Nat) : Int)).c = k + n - 0 := c1c
    refine ⟨⟨by omega, by omega, by omega, by omega⟩, ⟨by omega, by omega, by omega, by omega⟩, ends_of T c1 (by omega) c2 (ok_take hok _) (ok_take (ok_drop hok _) _) (by rw [List.length_take]; omega) fun b h1 hb K => ⟨b, rfl, fun ht => ⟨⟨by omega, by omega, by omega, by omega⟩, twin_of (K.row c3) (by rw [List.length_take]; omega) fun l' h2 r' K2 => ⟨l', rfl, ?_⟩⟩, fun hf => ?_⟩⟩
    · have e := hb.1 ht
      have he : unF bs = ((bs.drop k).take n, k + n + 4, 0) := by
        unfold unF; rw [if_pos h0, if_neg hbig, hkk, hn, Int.toNat_natCast, if_neg (by omega), if_pos e]
      have := hQ l' h2
      rw [he] at this
      exact this r' (K.trans K2)
    · have e : ¬ fourB (sumB (bs.take (k + n))) = (bs.drop (k + n)).take 4 := fun q => by have := hb.2 q; rw [this] at hf; cases hf
      exact none_ 23 h1 (by unfold unF; rw [if_pos h0, if_neg hbig, hkk, hn, Int.toNat_natCast, if_neg (by omega), if_neg e]) K
end Go.Eng.YtblghgacokoklaaDoor
