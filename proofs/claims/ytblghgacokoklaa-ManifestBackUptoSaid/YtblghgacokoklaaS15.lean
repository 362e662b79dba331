/-
  SPECS, 15: edits as they are handed in; few; place; copied.
-/
import Derived.Test.YtblghgacokoklaaS14
import Derived.Test.YtblghgacokoklaaM1
set_option linter.unusedSimpArgs false
set_option linter.unusedVariables false
namespace Go.Eng.Ytblghgacokoklaa
def iI (n : Int) : Prop := -9223372036854775808 ≤ n ∧ n < 9223372036854775808
/-- An edit whose numbers fit their kinds. -/
structure Raw (e : Edit) : Prop where
  log : okU e.log
  next : okU e.next
  seq : okU e.seq
  out : ∀ p ∈ e.out, iI p.lv ∧ okU p.num
  inn : ∀ p ∈ e.inn, iI p.lv ∧ okU p.num ∧ iI p.weight ∧ iI p.bytes ∧ iI p.entries ∧ p.least.size ≤ 9223372036854775807 ∧ p.greatest.size ≤ 9223372036854775807
  ptr : ∀ p ∈ e.ptr, p.size ≤ 9223372036854775807
/-- A list of edits that was handed in. -/
structure Args (h : Hp) (l : Sl) (L : List EdS) : Prop where
  row : h.row l.a (l.n * 6) (edV L)
  at_ : ∀ x ∈ L, EdAt h x.e x.a x.b x.c
  raw : ∀ x ∈ L, Raw x.e
  big : ∀ x ∈ L, x.e.out.length ≤ 9223372036854775807 ∧ x.e.inn.length ≤ 9223372036854775807 ∧ x.e.ptr.length ≤ 9223372036854775807
theorem Args.keep {h h' : Hp} (k : Keep h h') {l : Sl} {L : List EdS} (A : Args h l L) : Args h' l L := ⟨k.row A.row, fun x hx => (A.at_ x hx).keep k, A.raw, A.big⟩
theorem Args.n {h : Hp} {l : Sl} {L : List EdS} (A : Args h l L) : l.n = L.length := by
  have h1 := A.row.1
  unfold edV at h1
  rw [flat_length EdS.cells 6 (fun _ => rfl)] at h1
  omega
def adv (c m : Int) : Int := if 0 ≤ c then c - m else c
theorem add_q {h0 h : Hp} {b : Nat} {c n m : Int} {Q : Value → Hp → Prop} (hb0 : h0 b = none) (K : Keep h0 h) (hb : h b = some (.cells ⟨[.int .i64 c]⟩ 113 (0, 0))) (hn : n = IntKind.wrap .i64 m) (hm0 : 0 ≤ m) (hm1 : m ≤ 9223372036854775808) (hc : c ≤ 1000000)
    (hQ : ∀ r h', Keep h0 h' → h' b = some (.cells ⟨[.int .i64 (adv c m)]⟩ 113 (0, 0)) → Q (.bool r) h') : F66.T (some ⟨b, 0, none⟩) n h Q := by
  have hat2 : h.at b 0 = some (.int .i64 c) := by unfold Hp.at; rw [hb]; rfl
  refine ⟨b, 0, rfl, c, hat2, fun hc0 => ⟨b, 0, rfl, c, hat2, ?_⟩, fun hc0 => ⟨b, 0, rfl, c, hat2, fun h0 => absurd h0 hc0, fun h0 => ?_⟩⟩
  · have w2 : IntKind.wrap .i64 (c - n) = c - m := by
      rw [hn]
      simp [IntKind.wrap, IntKind.signed, IntKind.bits]
      omega
    rw [w2]
    have hw := wr_at (o := 0) (vs := [.int .i64 (c - m)]) hb
    have kw := keep_wr_new hb0 K 0 [.int .i64 (c - m)]
    have ha : adv c m = c - m := by unfold adv; rw [if_pos hc0]
    rw [ha] at hQ
    exact ⟨b, 0, rfl, ⟨_, _, _, hb, Nat.le_of_ble_eq_true rfl, fun j _ _ => by simp⟩, b, 0, rfl, c - m, by unfold Hp.at; rw [hw]; rfl, fun _ => hQ true _ kw hw, fun _ => hQ false _ kw hw⟩
  · have ha : adv c m = c := by unfold adv; rw [if_neg hc0]
    rw [ha] at hQ
    exact hQ false h K hb
theorem text_q {h0 h : Hp} {b : Nat} {c : Int} {s : ByteArray} {Q : Value → Hp → Prop} (hb0 : h0 b = none) (K : Keep h0 h) (hb : h b = some (.cells ⟨[.int .i64 c]⟩ 113 (0, 0))) (hs : s.size ≤ 9223372036854775807) (hc : c ≤ 1000000)
    (hQ : ∀ h', Keep h0 h' → h' b = some (.cells ⟨[.int .i64 (adv c (1 + (s.size : Int)))]⟩ 113 (0, 0)) → Q (.tuple ⟨[]⟩) h') : F95.T (some ⟨b, 0, none⟩) s h Q :=
  add_q hb0 K hb rfl (by omega) (by omega) hc fun r h' K' hb' => ⟨r, rfl, fun _ => hQ h' K' hb', fun _ => hQ h' K' hb'⟩
theorem wrap_id {n : Nat} (h : n ≤ 9223372036854775807) : (n : Int) = IntKind.wrap .i64 (n : Int) := (wrap_i64 (by omega) (by omega)).symm
theorem ptr_q {h0 h : Hp} {l2 : Sl} {ptr : List ByteArray} {b : Nat} {c d : Int} {Q : Value → Hp → Prop} (hr : h0.row l2.a l2.n (ptrV ptr)) (hs : ∀ s ∈ ptr, s.size ≤ 9223372036854775807) (hb0 : h0 b = none) (K : Keep h0 h) (hb : h b = some (.cells ⟨[.int .i64 c]⟩ 113 (0, 0))) (hc : c ≤ 1000000) (hd : 0 ≤ c → c ≤ d)
    (hQ : ∀ h' c', Keep h0 h' → h' b = some (.cells ⟨[.int .i64 c']⟩ 113 (0, 0)) → c' ≤ 1000000 → (0 ≤ c' → c' + (ptr.length : Int) ≤ d) → Q (.tuple ⟨[]⟩) h') :
    ∃ (I : Int → Hp → Prop) (m : Int → Hp → Nat), I 0 h ∧ (∀ n3 : Int, ∀ h3 : Hp, I n3 h3 → par (n3 < (l2.n : Int)) (F28.T (some ⟨b, 0, none⟩) h3 fun r1 h4 => ∃ b1 : Bool, r1 = .bool b1 ∧ parB b1 (∃ b2 o, (l2.a : Option Addr) = some ⟨b2, o, none⟩ ∧ ((0 : Int) ≤ n3 ∧ n3 < (l2.n : Int)) ∧ ∃ s : ByteArray, h4.at b2 (o + n3.toNat) = some (.string s) ∧ F95.T (some ⟨b, 0, none⟩) s h4 fun r2 h5 => I (IntKind.wrap .i64 (n3 + 1)) h5 ∧ m (IntKind.wrap .i64 (n3 + 1)) h5 < m n3 h3) (Q (.tuple ⟨[]⟩) h4)) (Q (.tuple ⟨[]⟩) h3)) := by
  have hln : l2.n = ptr.length := by have := hr.1; unfold ptrV at this; rw [List.length_map] at this; exact this.symm
  refine ⟨fun n h1 => ∃ (i : Nat) (c1 : Int), n = (i : Int) ∧ i ≤ ptr.length ∧ Keep h0 h1 ∧ h1 b = some (.cells ⟨[.int .i64 c1]⟩ 113 (0, 0)) ∧ c1 ≤ 1000000 ∧ (0 ≤ c1 → c1 + (i : Int) ≤ c), fun n _ => ptr.length - n.toNat, ⟨0, c, rfl, Nat.zero_le _, K, hb, hc, fun h => by omega⟩, ?_⟩
  rintro n h1 ⟨i, c1, rfl, hi, K1, hb1, hc1, hsum⟩
  refine ⟨fun hlt => ?_, fun hge => hQ h1 c1 K1 hb1 hc1 fun h0' => by have := hsum h0'; have := hd (by omega); omega⟩
  have ia : i < ptr.length := by omega
  refine ok_q hb1 (fun hp => ⟨true, rfl, fun _ => ?_, fun h0' => (by cases h0')⟩) (fun hp => ⟨false, rfl, fun h0' => (by cases h0'), fun _ => hQ h1 c1 K1 hb1 hc1 fun h0' => absurd h0' hp⟩)
  obtain ⟨b0, o0, ha0, hat⟩ := row_get (K1.row hr) (i := i) (by omega)
  have hsz := hs _ (List.getElem_mem ia)
  have hsm := hsum hp
  have w3 : IntKind.wrap .i64 ((i : Int) + 1) = ((i + 1 : Nat) : Int) := by rw [wrap_i64 (by omega) (by omega)]; omega
  refine ⟨b0, o0, ha0, ⟨by omega, hlt⟩, ptr[i], by rw [Int.toNat_natCast, hat i (by omega)]; simp [ptrV, ia], ?_⟩
  refine text_q hb0 K1 hb1 hsz hc1 fun h' K' hb' => ?_
  rw [w3]
  refine ⟨⟨i + 1, _, rfl, ia, K', hb', ?_, ?_⟩, by dsimp only; omega⟩
  · unfold adv; rw [if_pos hp]; omega
  · unfold adv; rw [if_pos hp]; intro _; omega
theorem inn_q {h0 h : Hp} {l1 : Sl} {inn : List Placed} {b : Nat} {c d : Int} {J : Hp → Prop} (hr : h0.row l1.a (l1.n * 7) (inV inn)) (hs : ∀ p ∈ inn, p.least.size ≤ 9223372036854775807 ∧ p.greatest.size ≤ 9223372036854775807) (hb0 : h0 b = none) (K : Keep h0 h) (hb : h b = some (.cells ⟨[.int .i64 c]⟩ 113 (0, 0))) (hc : c ≤ 1000000) (hd : 0 ≤ c → c ≤ d)
    (hJ : ∀ h' c', Keep h0 h' → h' b = some (.cells ⟨[.int .i64 c']⟩ 113 (0, 0)) → c' ≤ 1000000 → (0 ≤ c' → c' + (inn.length : Int) ≤ d) → J h') :
    ∃ (I1 : Int → Hp → Prop) (m1 : Int → Hp → Nat), I1 0 h ∧ (∀ n4 : Int, ∀ h6 : Hp, I1 n4 h6 → par (n4 < (l1.n : Int)) (F28.T (some ⟨b, 0, none⟩) h6 fun r3 h7 => ∃ b3 : Bool, r3 = .bool b3 ∧ parB b3 (∃ b4 o1, (l1.a : Option Addr) = some ⟨b4, o1, none⟩ ∧ ((0 : Int) ≤ n4 ∧ n4 < (l1.n : Int)) ∧ ∃ s1 : ByteArray, h7.at b4 (((o1 + n4.toNat * 7) + 1) + 4) = some (.string s1) ∧ F95.T (some ⟨b, 0, none⟩) s1 h7 fun r4 h8 => ∃ b5 o2, (l1.a : Option Addr) = some ⟨b5, o2, none⟩ ∧ ((0 : Int) ≤ n4 ∧ n4 < (l1.n : Int)) ∧ ∃ s2 : ByteArray, h8.at b5 (((o2 + n4.toNat * 7) + 1) + 5) = some (.string s2) ∧ F66.T (some ⟨b, 0, none⟩) (s2.size : Int) h8 fun r5 h9 => ∃ b6 : Bool, r5 = .bool b6 ∧ parB b6 (I1 (IntKind.wrap .i64 (n4 + 1)) h9 ∧ m1 (IntKind.wrap .i64 (n4 + 1)) h9 < m1 n4 h6) (I1 (IntKind.wrap .i64 (n4 + 1)) h9 ∧ m1 (IntKind.wrap .i64 (n4 + 1)) h9 < m1 n4 h6)) (J h7)) (J h6)) := by
  have hln : l1.n = inn.length := by
    have h1 := hr.1
    unfold inV at h1
    rw [flat_length Placed.cells 7 (fun _ => rfl)] at h1
    omega
  refine ⟨fun n h1 => ∃ (i : Nat) (c1 : Int), n = (i : Int) ∧ i ≤ inn.length ∧ Keep h0 h1 ∧ h1 b = some (.cells ⟨[.int .i64 c1]⟩ 113 (0, 0)) ∧ c1 ≤ 1000000 ∧ (0 ≤ c1 → c1 + (i : Int) ≤ c), fun n _ => inn.length - n.toNat, ⟨0, c, rfl, Nat.zero_le _, K, hb, hc, fun h => by omega⟩, ?_⟩
  rintro n h1 ⟨i, c1, rfl, hi, K1, hb1, hc1, hsum⟩
  refine ⟨fun hlt => ?_, fun hge => hJ h1 c1 K1 hb1 hc1 fun h0' => by have := hsum h0'; have := hd (by omega); omega⟩
  have ia : i < inn.length := by omega
  refine ok_q hb1 (fun hp => ⟨true, rfl, fun _ => ?_, fun h0' => (by cases h0')⟩) (fun hp => ⟨false, rfl, fun h0' => (by cases h0'), fun _ => hJ h1 c1 K1 hb1 hc1 fun h0' => absurd h0' hp⟩)
  obtain ⟨b0, o0, ha0, hat⟩ := row_get (hr) (i := i * 7) (by omega)
  have cc : ∀ j, j < 7 → h0.at b0 ((o0 + i * 7) + j) = (Placed.cells inn[i])[j]? := fun j hj => by
    rw [Nat.add_assoc, hat _ (by omega)]
    exact flat_get Placed.cells 7 (fun _ => rfl) inn i j ia hj
  have hsz := hs _ (List.getElem_mem ia)
  have hsm := hsum hp
  have w3 : IntKind.wrap .i64 ((i : Int) + 1) = ((i + 1 : Nat) : Int) := by rw [wrap_i64 (by omega) (by omega)]; omega
  refine ⟨b0, o0, ha0, ⟨by omega, hlt⟩, inn[i].least, by rw [Int.toNat_natCast]; exact K1.at (cc 5 (by decide)), ?_⟩
  refine text_q hb0 K1 hb1 hsz.1 hc1 fun h2 K2 hb2 => ?_
  refine ⟨b0, o0, ha0, ⟨by omega, hlt⟩, inn[i].greatest, by rw [Int.toNat_natCast]; exact K2.at (cc 6 (by decide)), ?_⟩
  have ha : adv c1 (1 + (inn[i].least.size : Int)) = c1 - (1 + (inn[i].least.size : Int)) := by unfold adv; rw [if_pos hp]
  rw [ha] at hb2
  refine add_q hb0 K2 hb2 (wrap_id hsz.2) (by omega) (by omega) (by omega) fun r h3 K3 hb3 => ?_
  rw [w3]
  have fin : (∃ (i' : Nat) (c1' : Int), ((i + 1 : Nat) : Int) = (i' : Int) ∧ i' ≤ inn.length ∧ Keep h0 h3 ∧ h3 b = some (.cells ⟨[.int .i64 c1']⟩ 113 (0, 0)) ∧ c1' ≤ 1000000 ∧ (0 ≤ c1' → c1' + (i' : Int) ≤ c)) ∧ inn.length - (((i + 1 : Nat) : Int)).toNat < inn.length - ((i : Int)).toNat := by
    refine ⟨⟨i + 1, _, rfl, ia, K3, hb3, ?_, ?_⟩, by omega⟩
    · unfold adv; split <;> omega
    · unfold adv; split <;> (intro _; omega)
  exact ⟨r, rfl, fun _ => fin, fun _ => fin⟩
theorem edit_q {h0 h : Hp} {x : EdS} {b : Nat} {c : Int} {Q : Value → Hp → Prop} (E : EdAt h0 x.e x.a x.b x.c) (R : Raw x.e) (hbig : x.e.out.length ≤ 9223372036854775807) (hb0 : h0 b = none) (K : Keep h0 h) (hb : h b = some (.cells ⟨[.int .i64 c]⟩ 113 (0, 0))) (hc : c ≤ 1000000)
    (hQ : ∀ h' c', Keep h0 h' → h' b = some (.cells ⟨[.int .i64 c']⟩ 113 (0, 0)) → c' ≤ 1000000 → (0 ≤ c' → c' + (1 + (x.e.out.length : Int) + x.e.inn.length + x.e.ptr.length) ≤ c) → Q (.tuple ⟨[]⟩) h') : F79.T (some ⟨b, 0, none⟩) x.e.log x.e.next x.e.seq x.a x.b x.c h Q := by
  have n1 := E.nout
  have go : ∀ h1 : Hp, Keep h0 h1 → h1 b = some (.cells ⟨[.int .i64 (adv c (1 + (x.e.out.length : Int)))]⟩ 113 (0, 0)) → (∃ J : Hp → Prop, (∀ h2 : Hp, J h2 → ∃ (I : Int → Hp → Prop) (m : Int → Hp → Nat), I 0 h2 ∧ (∀ n3 : Int, ∀ h3 : Hp, I n3 h3 → par (n3 < (x.c.n : Int)) (F28.T (some ⟨b, 0, none⟩) h3 fun r1 h4 => ∃ b1 : Bool, r1 = .bool b1 ∧ parB b1 (∃ b2 o, (x.c.a : Option Addr) = some ⟨b2, o, none⟩ ∧ ((0 : Int) ≤ n3 ∧ n3 < (x.c.n : Int)) ∧ ∃ s : ByteArray, h4.at b2 (o + n3.toNat) = some (.string s) ∧ F95.T (some ⟨b, 0, none⟩) s h4 fun r2 h5 => I (IntKind.wrap .i64 (n3 + 1)) h5 ∧ m (IntKind.wrap .i64 (n3 + 1)) h5 < m n3 h3) (Q (.tuple ⟨[]⟩) h4)) (Q (.tuple ⟨[]⟩) h3))) ∧ (∃ (I1 : Int → Hp → Prop) (m1 : Int → Hp → Nat), I1 0 h1 ∧ (∀ n4 : Int, ∀ h6 : Hp, I1 n4 h6 → par (n4 < (x.b.n : Int)) (F28.T (some ⟨b, 0, none⟩) h6 fun r3 h7 => ∃ b3 : Bool, r3 = .bool b3 ∧ parB b3 (∃ b4 o1, (x.b.a : Option Addr) = some ⟨b4, o1, none⟩ ∧ ((0 : Int) ≤ n4 ∧ n4 < (x.b.n : Int)) ∧ ∃ s1 : ByteArray, h7.at b4 (((o1 + n4.toNat * 7) + 1) + 4) = some (.string s1) ∧ F95.T (some ⟨b, 0, none⟩) s1 h7 fun r4 h8 => ∃ b5 o2, (x.b.a : Option Addr) = some ⟨b5, o2, none⟩ ∧ ((0 : Int) ≤ n4 ∧ n4 < (x.b.n : Int)) ∧ ∃ s2 : ByteArray, h8.at b5 (((o2 + n4.toNat * 7) + 1) + 5) = some (.string s2) ∧ F66.T (some ⟨b, 0, none⟩) (s2.size : Int) h8 fun r5 h9 => ∃ b6 : Bool, r5 = .bool b6 ∧ parB b6 (I1 (IntKind.wrap .i64 (n4 + 1)) h9 ∧ m1 (IntKind.wrap .i64 (n4 + 1)) h9 < m1 n4 h6) (I1 (IntKind.wrap .i64 (n4 + 1)) h9 ∧ m1 (IntKind.wrap .i64 (n4 + 1)) h9 < m1 n4 h6)) (J h7)) (J h6)))) := by
    intro h1 K1 hb1
    have hc1 : adv c (1 + (x.e.out.length : Int)) ≤ 1000000 := by unfold adv; split <;> omega
    have hd1 : 0 ≤ adv c (1 + (x.e.out.length : Int)) → adv c (1 + (x.e.out.length : Int)) + (1 + (x.e.out.length : Int)) ≤ c := by unfold adv; split <;> (intro _; omega)
    refine ⟨fun h2 => ∃ c2, Keep h0 h2 ∧ h2 b = some (.cells ⟨[.int .i64 c2]⟩ 113 (0, 0)) ∧ c2 ≤ 1000000 ∧ (0 ≤ c2 → c2 + (x.e.inn.length : Int) ≤ adv c (1 + (x.e.out.length : Int))), ?_, ?_⟩
    · rintro h2 ⟨c2, K2, hb2, hc2, hs2⟩
      refine ptr_q (d := c2) E.ptr R.ptr hb0 K2 hb2 hc2 (fun _ => Int.le_refl _) fun h3 c3 K3 hb3 hc3 hs3 => hQ h3 c3 K3 hb3 hc3 fun h0' => ?_
      have := hs3 h0'
      have := hs2 (by omega)
      have := hd1 (by omega)
      omega
    · exact inn_q (d := adv c (1 + (x.e.out.length : Int))) E.inn (fun p hp => (R.inn p hp).2.2.2.2.2) hb0 K1 hb1 hc1 (fun _ => Int.le_refl _) fun h3 c3 K3 hb3 hc3 hs3 => ⟨c3, K3, hb3, hc3, hs3⟩
  refine add_q hb0 K hb (m := 1 + (x.e.out.length : Int)) (by rw [n1]) (by omega) (by omega) hc fun r h1 K1 hb1 => ⟨r, rfl, fun _ => go h1 K1 hb1, fun _ => go h1 K1 hb1⟩
/-- How many parts. -/
def parts (L : List EdS) : Nat := (L.map fun x => 1 + x.e.out.length + x.e.inn.length + x.e.ptr.length).sum
theorem parts_succ {L : List EdS} {i : Nat} (h : i < L.length) : parts (L.take (i + 1)) = parts (L.take i) + (1 + L[i].e.out.length + L[i].e.inn.length + L[i].e.ptr.length) := by
  rw [List.take_succ_eq_append_getElem h]
  unfold parts
  rw [List.map_append, List.sum_append]
  simp only [List.map_cons, List.map_nil, List.sum_cons, List.sum_nil, Nat.add_zero]
theorem parts_cons (x : EdS) (L : List EdS) : parts (x :: L) = 1 + x.e.out.length + x.e.inn.length + x.e.ptr.length + parts L := by simp [parts]
theorem parts_len (L : List EdS) : L.length ≤ parts L := by
  induction L with
  | nil => simp
  | cons a l ih => rw [parts_cons, List.length_cons]; omega
theorem parts_mem {L : List EdS} {x : EdS} (h : x ∈ L) : 1 + x.e.out.length + x.e.inn.length + x.e.ptr.length ≤ parts L := by
  induction L with
  | nil => cases h
  | cons a l ih =>
    rw [parts_cons]
    rcases List.mem_cons.1 h with rfl | h
    · omega
    · have := ih h; omega
theorem few_spec {h : Hp} {l : Sl} {L : List EdS} {Q : Value → Hp → Prop} (A : Args h l L) (hT : ∀ h', Keep h h' → parts L ≤ 10000 → Q (.bool true) h') (hF : ∀ h', Keep h h' → Q (.bool false) h') : F16.T l h Q := by
  have hln := A.n
  intro b hb
  refine ⟨some ⟨b, 0, none⟩, rfl, ?_⟩
  have hb1 : (h.new b (.cells ⟨[.int .i64 10000]⟩ 113 (0, 0))) b = some (.cells ⟨[.int .i64 10000]⟩ 113 (0, 0)) := new_self _ _ _
  have fin : ∀ h' c, Keep h h' → h' b = some (.cells ⟨[.int .i64 c]⟩ 113 (0, 0)) → (0 ≤ c → parts L ≤ 10000) → F28.T (some ⟨b, 0, none⟩) h' fun r2 h3 => ∃ b : Bool, r2 = .bool b ∧ parB b (Q (.bool true) h3) (Q (.bool false) h3) := fun h' c K' hc ht =>
    ok_q hc (fun h0 => ⟨true, rfl, fun _ => hT h' K' (ht h0), fun h1 => (by cases h1)⟩) (fun h0 => ⟨false, rfl, fun h1 => (by cases h1), fun _ => hF h' K'⟩)
  refine ⟨fun n h1 => ∃ (i : Nat) (c : Int), n = (i : Int) ∧ i ≤ L.length ∧ Keep h h1 ∧ h1 b = some (.cells ⟨[.int .i64 c]⟩ 113 (0, 0)) ∧ c ≤ 1000000 ∧ (0 ≤ c → c + (parts (L.take i) : Int) ≤ 10000), fun n _ => L.length - n.toNat, ⟨0, 10000, rfl, Nat.zero_le _, Keep.new hb _, hb1, by decide, fun _ => by simp [parts]⟩, ?_⟩
  rintro n h1 ⟨i, c, rfl, hi, K1, hbc, hc, hsum⟩
  refine ⟨fun hlt => ?_, fun hge => ?_⟩
  · have ia : i < L.length := by omega
    refine ok_q hbc (fun hp => ⟨true, rfl, fun _ => ?_, fun h0 => (by cases h0)⟩) (fun hp => ⟨false, rfl, fun h0 => (by cases h0), fun _ => fin h1 c K1 hbc fun h0 => absurd h0 hp⟩)
    obtain ⟨b0, o0, ha0, hat⟩ := row_get (K1.row A.row) (i := i * 6) (by omega)
    have cc : ∀ j, j < 6 → h1.at b0 ((o0 + i * 6) + j) = (EdS.cells L[i])[j]? := fun j hj => by
      rw [Nat.add_assoc, hat _ (by omega)]
      exact flat_get EdS.cells 6 (fun _ => rfl) L i j ia hj
    have hx := List.getElem_mem ia
    have hs := hsum hp
    have hpl := parts_len (L.take i)
    rw [List.length_take, Nat.min_eq_left hi] at hpl
    have hps := parts_succ ia
    have w3 : IntKind.wrap .i64 ((i : Int) + 1) = ((i + 1 : Nat) : Int) := by rw [wrap_i64 (by omega) (by omega)]; omega
    rw [Int.toNat_natCast, w3]
    refine ⟨b0, o0, ha0, ⟨by omega, hlt⟩, _, cc 0 (by decide), _, cc 1 (by decide), _, cc 2 (by decide), _, cc 3 (by decide), _, cc 4 (by decide), _, cc 5 (by decide), ?_⟩
    refine edit_q (x := L[i]) (A.at_ _ hx) (A.raw _ hx) (A.big _ hx).1 hb K1 hbc hc fun h2 c2 K2 hb2 hc2 hs2 => ⟨⟨i + 1, c2, rfl, ia, K2, hb2, hc2, fun h0 => ?_⟩, by dsimp only; omega⟩
    have := hs2 h0
    rw [hps]
    omega
  · have hie : i = L.length := by omega
    subst hie
    rw [List.take_length] at hsum
    exact fin h1 c K1 hbc fun h0 => by have := hsum h0; omega
theorem place_spec {h : Hp} {n m : Int} {Q : Value → Hp → Prop} (hn : iI n) (hm : 0 < m) (hQ : ∀ r, 0 ≤ r → r < m → Q (.int .i64 r) h) : F19.T n m h Q := by
  have key : ∀ a : Int, 0 ≤ a → 0 ≤ Int.tmod a m ∧ Int.tmod a m < m := fun a ha => ⟨Int.tmod_nonneg m ha, Int.tmod_lt_of_pos a hm⟩
  have h1 := hn.1
  have h2 := hn.2
  refine ⟨fun hlt => ⟨by omega, ?_⟩, fun hge => ⟨by omega, ?_⟩⟩
  · have w1 : IntKind.wrap .i64 (n + 1) = n + 1 := wrap_i64 (by omega) (by omega)
    have w2 : IntKind.wrap .i64 (0 - (n + 1)) = 0 - (n + 1) := wrap_i64 (by omega) (by omega)
    rw [w1, w2]
    have := key (0 - (n + 1)) (by omega)
    exact hQ _ this.1 this.2
  · have := key n (by omega)
    exact hQ _ this.1 this.2
end Go.Eng.Ytblghgacokoklaa
