/-
  SPECS OF THE NAMES, 8: the law.
-/
import Derived.Test.YtblghgacokoklaaDoorD7
set_option linter.unusedSimpArgs false
set_option linter.unusedVariables false
set_option maxRecDepth 100000
namespace Go.Eng.YtblghgacokoklaaDoor
theorem cutA (s : Sl) (k m : Int) {sz : Nat} : (Sl.cut s sz 0 k m).a = s.a := by
  unfold Sl.cut
  simp only [Int.toNat_zero, Nat.zero_mul]
  split
  · rfl
  · cases s.a with
    | none => rfl
    | some a => simp [Addr.add]
theorem One.on {h0 h h' : Hp} {pb : Nat} {w n s : Sl} {r : List Int} (O : One h0 h pb w n s r) (k : Keep h h') : One h0 h' pb w n s r :=
  ⟨k _ _ O.cell, O.keep.trans k, O.W.keep k, O.N.keep k, O.S.keep k, O.snew⟩
def f1 (c : Int) : Int := bitsI .xor .u8 c 1
theorem f1_ok {l : List Int} : okB8 (l.map f1) := by
  intro c hc
  obtain ⟨d, _, rfl⟩ := List.mem_map.1 hc
  unfold f1 bitsI
  simp only [IntKind.wrap_u8]
  omega
def flipI (i : Nat) (r : List Int) : List Int := (r.take i).map f1 ++ r.drop i
theorem flipI_len (i : Nat) (r : List Int) : (flipI i r).length = r.length := by
  unfold flipI
  rw [List.length_append, List.length_map, List.length_take, List.length_drop]
  omega
theorem flipI_at {i : Nat} {r : List Int} (hi : i < r.length) (t : List Int) : (bv (flipI i r ++ t))[i]? = some (.int .u8 r[i]) := by
  have h1 : ((r.take i).map f1).length = i := by rw [List.length_map, List.length_take]; omega
  unfold bv flipI
  rw [List.getElem?_map, List.append_assoc, List.getElem?_append_right (by omega), h1, Nat.sub_self, List.getElem?_append_left (by rw [List.length_drop]; omega), List.getElem?_drop, Nat.add_zero, List.getElem?_eq_getElem hi]
  rfl
theorem flipI_set {i : Nat} {r : List Int} (hi : i < r.length) (t : List Int) : (bv (flipI i r ++ t)).set i (.int .u8 (f1 r[i])) = bv (flipI (i + 1) r ++ t) := by
  have h1 : ((r.take i).map f1).length = i := by rw [List.length_map, List.length_take]; omega
  unfold bv flipI
  rw [← List.map_set, List.append_assoc, List.set_append_right _ _ (by omega), h1, Nat.sub_self, List.drop_eq_getElem_cons hi, List.cons_append, List.set_cons_zero, List.take_succ_eq_append_getElem hi]
  simp only [List.map_append, List.map_cons, List.map_nil, List.append_assoc, List.cons_append, List.nil_append]
theorem frameB_len (bs : List Int) : (frameB bs).length ≤ bs.length + 14 := by
  unfold frameB
  have := encU_len bs.length
  simp only [List.length_append, fourB, List.length_cons, List.length_nil]
  omega
theorem names_rest {h4 : Hp} {l : Sl} {s : ByteArray} {r : List Int} {Q : Value → Hp → Prop} (T : Tab h4) (hr : h4.row l.a l.n (bv r)) (hc : l.n ≤ l.c) (hok : okB8 r) (hs : r.length + 700 ≤ 140737488355328) (hsz : s.size + 20 ≤ 140737488355328)
    (hQ : ∀ h', Keep h4 h' → Q (.bool true) h') : F11.T s h4 fun r4 h5 => ∃ l1 : Sl, r4 = .slice l1.a l1.n l1.c ∧ F12.T s h5 fun r5 h6 => ∃ l2 : Sl, r5 = .slice l2.a l2.n l2.c ∧ F10.T l1 l2 h6 fun r6 h7 => ∃ b2 : Bool, r6 = .bool b2 ∧ parB b2 (∀ b3, h7 b3 = none → F13.T (some ⟨b3, 0, none⟩) l (h7.new b3 (.cells ⟨[.slice none 0 0, .slice none 0 0, .slice none 0 0, .slice none 0 0, .slice none 0 0, .slice none 0 0, .slice none 0 0, .slice none 0 0, .slice none 0 0, .slice none 0 0, .slice none 0 0, .slice none 0 0, .slice none 0 0, .slice none 0 0, .slice none 0 0, .slice none 0 0, .slice none 0 0, .slice none 0 0, .slice none 0 0, .slice none 0 0, .slice none 0 0, .slice none 0 0, .slice none 0 0, .slice none 0 0, .slice none 0 0, .slice none 0 0, .slice none 0 0, .slice none 0 0]⟩ 46 (0, 0))) fun r7 h8 => ∃ l3 : Sl, r7 = .slice l3.a l3.n l3.c ∧ ∃ (I : Int → Hp → Prop) (m : Int → Hp → Nat), I 0 h8 ∧ (∀ n6 : Int, ∀ h9 : Hp, I n6 h9 → par (n6 < 2) (F14.T l3 h9 fun r8 h10 => ∃ s3 : ByteArray, ∃ n7 : Int, r8 = .tuple ⟨[.string s3, .int .i64 n7]⟩ ∧ F15.T l h10 fun r9 h11 => ∃ s4 : ByteArray, ∃ n8 : Int, r9 = .tuple ⟨[.string s4, .int .i64 n8]⟩ ∧ par (s3 = s4) (par (n7 = n8) (I (IntKind.wrap .i64 (n6 + 1)) h11 ∧ m (IntKind.wrap .i64 (n6 + 1)) h11 < m n6 h9) (Q (.bool false) h11)) (Q (.bool false) h11)) (F10.T l3 l h9 fun r10 h12 => ∃ b4 : Bool, r10 = .bool b4 ∧ parB b4 (F16.T (some ⟨b3, 0, none⟩) h12 fun r11 h13 => ∃ b5 : Bool, r11 = .bool b5 ∧ parB b5 (∃ (I1 : Int → Hp → Prop) (m1 : Int → Hp → Nat), I1 0 h13 ∧ (∀ n9 : Int, ∀ h14 : Hp, I1 n9 h14 → par (n9 < (l3.n : Int)) (∃ b6 o, (l3.a : Option Addr) = some ⟨b6, o, none⟩ ∧ ((0 : Int) ≤ n9 ∧ n9 < (l3.n : Int)) ∧ ∃ n10 : Int, h14.at b6 (o + n9.toNat) = some (.int .u8 n10) ∧ ∃ b7 o1, (l3.a : Option Addr) = some ⟨b7, o1, none⟩ ∧ ((0 : Int) ≤ n9 ∧ n9 < (l3.n : Int)) ∧ h14.canW b7 (o1 + n9.toNat) 1 ∧ I1 (IntKind.wrap .i64 (n9 + 1)) (h14.wr b7 (o1 + n9.toNat) [.int .u8 (bitsI .xor .u8 n10 1)]) ∧ m1 (IntKind.wrap .i64 (n9 + 1)) (h14.wr b7 (o1 + n9.toNat) [.int .u8 (bitsI .xor .u8 n10 1)]) < m1 n9 h14) (F14.T l3 h14 fun r12 h15 => ∃ s5 : ByteArray, ∃ n11 : Int, r12 = .tuple ⟨[.string s5, .int .i64 n11]⟩ ∧ ∃ vs, h15.row l3.a (l3.n * 1) vs ∧ (∀ v ∈ vs, Value.oneCell' v = true) ∧ appendD ⟨none, 0, 0⟩ 5 1 1 [.int .u8 0] l3.n vs h15 fun l4 h16 => F15.T l4 h16 fun r13 h17 => ∃ s6 : ByteArray, ∃ n12 : Int, r13 = .tuple ⟨[.string s6, .int .i64 n12]⟩ ∧ par (s5 = s6) (par (n11 = n12) (Q (.bool true) h17) (Q (.bool false) h17)) (Q (.bool false) h17)))) (Q (.bool false) h13)) (Q (.bool false) h12)))) (Q (.bool false) h7) := by
  have hln : l.n = r.length := by have := hr.1; rw [bv_length] at this; exact this.symm
  refine current_of T hsz fun l1 h5 B1 K5 N1 => ⟨l1, rfl, current_doc hsz fun l2 h7 B2 K7 => ⟨l2, rfl, ?_⟩⟩
  have rA := (B1.keep K7).row
  have rB := B2.row
  rw [Nat.mul_one] at rA rB
  have hfl := frameB_len (bI s)
  rw [bI_length] at hfl
  refine same_of rA rB (by omega) ⟨true, rfl, fun _ b3 hb3 => ?_, fun h0 => by cases h0⟩
  have K47 := K5.trans K7
  have hr7 := K47.row hr
  refine lay_one (h0 := h7) (newSelf _ _ _) hb3 (Keep.new hb3 _) hr7 (by omega) fun h8 w n' sp O hsn hsc => ⟨_, rfl, Sl.cut sp 1 0 (l.n : Int) (sp.n : Int), rfl, ?_⟩
  have cutrow : ∀ (hh : Hp) (t : List Int), t.length = r.length → Buf hh sp 1 5 (bv (t ++ lots 600)) → hh.row (Sl.cut sp 1 0 (l.n : Int) (sp.n : Int)).a (Sl.cut sp 1 0 (l.n : Int) (sp.n : Int)).n (bv t) := by
    intro hh t ht B
    have rb := B.row
    rw [Nat.mul_one] at rb
    obtain ⟨c1, _, _⟩ := cut1 rb (i := 0) (j := l.n) (m := sp.n) (by omega) (by omega) (by omega)
    have e : ((bv (t ++ lots 600)).drop 0).take (l.n - 0) = bv t := by
      rw [List.drop_zero, Nat.sub_zero, bv_append]
      exact List.take_left' (by rw [bv_length]; omega)
    rw [e] at c1
    exact c1
  have l3n : (Sl.cut sp 1 0 (l.n : Int) (sp.n : Int)).n = l.n := by simp [Sl.cut]
  have l3c : (Sl.cut sp 1 0 (l.n : Int) (sp.n : Int)).c = sp.n := by simp [Sl.cut]
  have l3a : (Sl.cut sp 1 0 (l.n : Int) (sp.n : Int)).a = sp.a := cutA ..
  generalize Sl.cut sp 1 0 (l.n : Int) (sp.n : Int) = l3 at cutrow l3n l3c l3a ⊢
  refine ⟨fun n6 h9 => ∃ i : Nat, n6 = (i : Int) ∧ i ≤ 2 ∧ Keep h8 h9, fun n6 _ => 2 - n6.toNat, ⟨0, rfl, by decide, Keep.refl _⟩, ?_⟩
  rintro n6 h9 ⟨i, rfl, hi, K9⟩
  have O9 := O.on K9
  have K49 := K47.trans O9.keep
  have T9 := T.keep K49
  have r3 := cutrow h9 r rfl O9.S
  have rl := K49.row hr
  refine ⟨fun hlt => ?_, fun hge => ?_⟩
  · refine points_of T9 r3 (by omega) hok (by omega) fun h10 K10 => ⟨_, _, rfl, points_doc (K10.row rl) hc hok (by omega) fun h11 K11 => ⟨_, _, rfl, fun _ => ⟨fun _ => ?_, fun hne => absurd rfl hne⟩, fun hne => absurd rfl hne⟩⟩
    rw [next_b (n := 2) (by omega) (by decide)]
    exact ⟨⟨i + 1, rfl, by omega, (K9.trans K10).trans K11⟩, by dsimp only; omega⟩
  refine same_of r3 rl (by omega) ⟨true, rfl, fun _ => ?_, fun h0 => by cases h0⟩
  refine hold_one O9 (by omega) ⟨true, rfl, fun _ => ?_, fun h0 => by cases h0⟩
  refine ⟨fun n9 h14 => ∃ i : Nat, n9 = (i : Int) ∧ i ≤ r.length ∧ Buf h14 sp 1 5 (bv (flipI i r ++ lots 600)) ∧ Keep h7 h14, fun n9 _ => r.length - n9.toNat, ⟨0, rfl, Nat.zero_le _, by unfold flipI; simpa using O9.S, O9.keep⟩, ?_⟩
  rintro n9 h14 ⟨k, rfl, hk, B, K14⟩
  refine ⟨fun hlt => ?_, fun hge => ?_⟩
  · have hk1 : k < r.length := by omega
    obtain ⟨b, hb, h1, h2, h3⟩ := bufSet B (k := k) (by rw [bv_length, List.length_append, flipI_len]; omega)
    obtain ⟨U, B'⟩ := h3 (.int .u8 (f1 r[k]))
    rw [flipI_set hk1] at B'
    have c1 : h14.at b (0 + ((k : Int)).toNat) = some (.int .u8 r[k]) := by rw [Int.toNat_natCast, Nat.zero_add, h1]; exact flipI_at hk1 _
    refine ⟨b, 0, by rw [l3a]; exact hb, ⟨by omega, by omega⟩, _, c1, b, 0, by rw [l3a]; exact hb, ⟨by omega, by omega⟩, by rw [Int.toNat_natCast, Nat.zero_add]; exact h2, ?_⟩
    rw [Int.toNat_natCast, Nat.zero_add, next_b hk1 (by omega)]
    exact ⟨⟨k + 1, rfl, hk1, B', (keep_grow K14 (.inr O9.snew) U).1⟩, by dsimp only; omega⟩
  · have hkl : k = r.length := by omega
    subst hkl
    have e : flipI r.length r = r.map f1 := by unfold flipI; rw [List.take_length, List.drop_length, List.append_nil]
    rw [e] at B
    have hml : (r.map f1).length = r.length := List.length_map _
    have K414 := K47.trans K14
    have r14 := cutrow h14 (r.map f1) hml B
    refine points_of (T.keep K414) r14 (by omega) f1_ok (by omega) fun h15 K15 => ⟨_, _, rfl, bv (r.map f1), by rw [Nat.mul_one]; exact K15.row r14, bv_one _, ?_⟩
    refine append_buf (Buf.nil h15 1 5) rfl (by rw [bv_length]; omega) (by show (0 + _) * 1 ≤ _; omega) fun l4 h16 B4 hn4 U4 => ?_
    rw [List.nil_append] at B4
    have r4 := B4.row
    rw [Nat.mul_one] at r4
    exact points_doc r4 B4.cap f1_ok (by omega) fun h17 K17 => ⟨_, _, rfl, fun _ => ⟨fun _ => hQ h17 (((K414.trans K15).trans (U4.keepNil rfl)).trans K17), fun hne => absurd rfl hne⟩, fun hne => absurd rfl hne⟩
theorem names_spec {h : Hp} {k : Int} {m : Nat} {l : Sl} {s : ByteArray} {r : List Int} {Q : Value → Hp → Prop} (T : Tab h) (hm : m < 18446744073709551616) (hr : h.row l.a l.n (bv r)) (hc : l.n ≤ l.c) (hok : okB8 r) (hs : r.length + 700 ≤ 140737488355328) (hsz : s.size + 20 ≤ 140737488355328)
    (hQ : ∀ h', Keep h h' → Q (.bool true) h') : F3.T k (m : Int) s l h Q := by
  refine number_of fun h1 K1 => ⟨(numL (bI s)).1, (numL (bI s)).2.1, (numL (bI s)).2.2, fun ht => ⟨by unfold numV; rw [ht], number_of' ⟨(numL (bI s)).1, (numL (bI s)).2.1, (numL (bI s)).2.2, fun _ => ⟨by unfold numV; rw [ht], ?_⟩, fun hf => (by rw [ht] at hf; cases hf)⟩⟩,
    fun hf => ⟨by unfold numV; rw [hf], number_of' ⟨(numL (bI s)).1, (numL (bI s)).2.1, (numL (bI s)).2.2, fun ht => (by rw [ht] at hf; cases hf), fun _ => ⟨by unfold numV; rw [hf], ?_⟩⟩⟩⟩
  · refine name_of hm fun h3 K3 => ⟨_, rfl, name_of' hm fun h4 K4 => ⟨_, rfl, fun _ => ⟨fun _ => ⟨fun _ => ⟨fun _ => ?_, fun hne => absurd rfl hne⟩, fun hne => absurd rfl hne⟩, fun hne => absurd rfl hne⟩, fun hne => absurd rfl hne⟩⟩
    have K := (K1.trans K3).trans K4
    exact names_rest (T.keep K) (K.row hr) hc hok hs hsz fun h' K' => hQ h' (K.trans K')
  · refine name_of hm fun h3 K3 => ⟨_, rfl, name_of' hm fun h4 K4 => ⟨_, rfl, fun _ => ⟨fun _ => ⟨fun _ => ⟨fun _ => ?_, fun hne => absurd rfl hne⟩, fun hne => absurd rfl hne⟩, fun hne => absurd rfl hne⟩, fun hne => absurd rfl hne⟩⟩
    have K := (K1.trans K3).trans K4
    exact names_rest (T.keep K) (K.row hr) hc hok hs hsz fun h' K' => hQ h' (K.trans K')
end Go.Eng.YtblghgacokoklaaDoor
