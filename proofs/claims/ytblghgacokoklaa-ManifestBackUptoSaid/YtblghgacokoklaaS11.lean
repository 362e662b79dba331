/-
  SPECS, 11: are edits alike; a name; the chapter's example; are there few enough.
-/
import Derived.Test.YtblghgacokoklaaS10
set_option linter.unusedSimpArgs false
set_option linter.unusedVariables false
namespace Go.Eng.Ytblghgacokoklaa
theorem texts_eq {h : Hp} {l l1 : Sl} {a b : List ByteArray} {Q : Value → Hp → Prop} (ha : h.row l.a l.n (ptrV a)) (hb : h.row l1.a l1.n (ptrV b)) (hs : b.length ≤ 1000000000000)
    (hT : a = b → Q (.bool true) h) (hF : a ≠ b → Q (.bool false) h) : F60.T l l1 h Q := by
  have hla : l.n = a.length := by have := ha.1; unfold ptrV at this; rw [List.length_map] at this; exact this.symm
  have hlb : l1.n = b.length := by have := hb.1; unfold ptrV at this; rw [List.length_map] at this; exact this.symm
  unfold F60.T
  refine ⟨fun he => ?_, fun hne => hF fun e => hne (by rw [hla, hlb, e])⟩
  have hl : a.length = b.length := by omega
  refine ⟨fun n h1 => h1 = h ∧ ∃ i : Nat, n = (i : Int) ∧ i ≤ a.length ∧ a.take i = b.take i, fun n _ => a.length - n.toNat, ⟨rfl, 0, rfl, Nat.zero_le _, by simp⟩, ?_⟩
  rintro n h1 ⟨rfl, i, rfl, hi, ht⟩
  refine ⟨fun hlt => ?_, fun hge => hT (all_take2 hl (by omega) ht)⟩
  have ia : i < a.length := by omega
  have ib : i < b.length := by omega
  obtain ⟨b0, o0, ha0, hat⟩ := row_get ha (i := i) (by omega)
  obtain ⟨b1, o1, hb1, hbt⟩ := row_get hb (i := i) (by omega)
  refine ⟨b0, o0, ha0, ⟨by omega, hlt⟩, a[i], ?_, b1, o1, hb1, ⟨by omega, by omega⟩, b[i], ?_, fun e => ⟨⟨rfl, i + 1, next_i ia (by omega), ia, take_step ia ib ht e⟩, ?_⟩, fun e => hF (ne_at ia ib e)⟩
  · rw [Int.toNat_natCast, hat i (by omega)]; simp [ptrV, ia]
  · rw [Int.toNat_natCast, hbt i (by omega)]; simp [ptrV, ib]
  · rw [next_i ia (by omega)]
    show a.length - ((i + 1 : Nat) : Int).toNat < a.length - (i : Int).toNat
    omega
theorem place_inj {p q : Place} (h : p.cells = q.cells) : p = q := by
  cases p; cases q
  simp only [Place.cells, List.cons.injEq, Value.int.injEq, true_and, and_true] at h
  rw [h.1, h.2]
theorem placed_inj {p q : Placed} (h : p.cells = q.cells) : p = q := by
  cases p; cases q
  simp only [Placed.cells, List.cons.injEq, Value.int.injEq, Value.string.injEq, true_and, and_true] at h
  obtain ⟨h1, h2, h3, h4, h5, h6, h7⟩ := h
  rw [h1, h2, h3, h4, h5, h6, h7]
theorem edit_eq {h : Hp} {e g : Edit} {l l1 l2 m m1 m2 : Sl} {Q : Value → Hp → Prop} (E : EdAt h e l l1 l2) (G : EdAt h g m m1 m2) (n1 : g.out.length ≤ 1000000000000) (n2 : g.inn.length ≤ 1000000000000) (n3 : g.ptr.length ≤ 1000000000000)
    (hT : e = g → Q (.bool true) h) (hF : e ≠ g → Q (.bool false) h) : F23.T e.log e.next e.seq l l1 l2 g.log g.next g.seq m m1 m2 h Q := by
  have e1 := E.nout; have e2 := E.ninn; have g1 := G.nout; have g2 := G.ninn
  unfold F23.T
  refine ⟨fun h1 => ⟨fun h2 => ⟨fun h3 => ⟨fun h4 => ⟨fun h5 => ?_, fun h5 => hF fun q => h5 (by rw [e2, g2, q])⟩, fun h4 => hF fun q => h4 (by rw [e1, g1, q])⟩, fun h3 => hF fun q => h3 (by rw [q])⟩, fun h2 => hF fun q => h2 (by rw [q])⟩, fun h1 => hF fun q => h1 (by rw [q])⟩
  refine texts_eq E.ptr G.ptr n3 (fun hp => ⟨true, rfl, fun _ => ?_, fun h0 => (by cases h0)⟩) (fun hp => ⟨false, rfl, fun h0 => (by cases h0), fun _ => hF fun q => hp (by rw [q])⟩)
  have lo : e.out.length = g.out.length := by omega
  have li : e.inn.length = g.inn.length := by omega
  refine ⟨fun n h1 => h1 = h ∧ ∃ i : Nat, n = (i : Int) ∧ i ≤ e.out.length ∧ e.out.take i = g.out.take i, fun n _ => e.out.length - n.toNat, ⟨rfl, 0, rfl, Nat.zero_le _, by simp⟩, ?_⟩
  rintro n h1 ⟨rfl, i, rfl, hi, ht⟩
  refine ⟨fun hlt => ?_, fun hge => ?_⟩
  · have ia : i < e.out.length := by omega
    have ib : i < g.out.length := by omega
    obtain ⟨b0, o0, ha0, hat⟩ := row_get E.out (i := i * 2) (by omega)
    obtain ⟨b1, o1, hb1, hbt⟩ := row_get G.out (i := i * 2) (by omega)
    have cc : ∀ j, j < 2 → h1.at b0 ((o0 + i * 2) + j) = (Place.cells e.out[i])[j]? := fun j hj => by
      rw [Nat.add_assoc, hat _ (by omega)]
      exact flat_get Place.cells 2 (fun _ => rfl) e.out i j ia hj
    have dd : ∀ j, j < 2 → h1.at b1 ((o1 + i * 2) + j) = (Place.cells g.out[i])[j]? := fun j hj => by
      rw [Nat.add_assoc, hbt _ (by omega)]
      exact flat_get Place.cells 2 (fun _ => rfl) g.out i j ib hj
    rw [Int.toNat_natCast, next_i ia (by omega)]
    refine ⟨b0, o0, ha0, ⟨by omega, hlt⟩, e.out[i].lv, cc 0 (by decide), e.out[i].num, cc 1 (by decide), b1, o1, hb1, ⟨by omega, by omega⟩, g.out[i].lv, dd 0 (by decide), g.out[i].num, dd 1 (by decide), fun q => ⟨⟨rfl, i + 1, rfl, ia, take_step ia ib ht (place_inj q)⟩, by dsimp only; omega⟩, fun q => hF fun r => ?_⟩
    have hne : e.out[i] ≠ g.out[i] := fun t => q (show Place.cells e.out[i] = Place.cells g.out[i] by rw [t])
    exact ne_at ia ib hne (by rw [r])
  have heo : e.out = g.out := all_take2 lo (by omega) ht
  refine ⟨fun n h2 => h2 = h1 ∧ ∃ i : Nat, n = (i : Int) ∧ i ≤ e.inn.length ∧ e.inn.take i = g.inn.take i, fun n _ => e.inn.length - n.toNat, ⟨rfl, 0, rfl, Nat.zero_le _, by simp⟩, ?_⟩
  rintro n h2 ⟨rfl, i, rfl, hi, ht⟩
  refine ⟨fun hlt => ?_, fun hge => ?_⟩
  · have ia : i < e.inn.length := by omega
    have ib : i < g.inn.length := by omega
    obtain ⟨b0, o0, ha0, hat⟩ := row_get E.inn (i := i * 7) (by omega)
    obtain ⟨b1, o1, hb1, hbt⟩ := row_get G.inn (i := i * 7) (by omega)
    have cc : ∀ j, j < 7 → h2.at b0 ((o0 + i * 7) + j) = (Placed.cells e.inn[i])[j]? := fun j hj => by
      rw [Nat.add_assoc, hat _ (by omega)]
      exact flat_get Placed.cells 7 (fun _ => rfl) e.inn i j ia hj
    have dd : ∀ j, j < 7 → h2.at b1 ((o1 + i * 7) + j) = (Placed.cells g.inn[i])[j]? := fun j hj => by
      rw [Nat.add_assoc, hbt _ (by omega)]
      exact flat_get Placed.cells 7 (fun _ => rfl) g.inn i j ib hj
    rw [Int.toNat_natCast, next_i ia (by omega)]
    refine ⟨b0, o0, ha0, ⟨by omega, hlt⟩, _, cc 0 (by decide), _, cc 1 (by decide), _, cc 2 (by decide), _, cc 3 (by decide), _, cc 4 (by decide), _, cc 5 (by decide), _, cc 6 (by decide), b1, o1, hb1, ⟨by omega, by omega⟩, _, dd 0 (by decide), _, dd 1 (by decide), _, dd 2 (by decide), _, dd 3 (by decide), _, dd 4 (by decide), _, dd 5 (by decide), _, dd 6 (by decide), fun q => ⟨⟨rfl, i + 1, rfl, ia, take_step ia ib ht (placed_inj q)⟩, by dsimp only; omega⟩, fun q => hF fun r => ?_⟩
    have hne : e.inn[i] ≠ g.inn[i] := fun t => q (show Placed.cells e.inn[i] = Placed.cells g.inn[i] by rw [t])
    exact ne_at ia ib hne (by rw [r])
  have hei : e.inn = g.inn := all_take2 li (by omega) ht
  refine hT ?_
  cases e; cases g
  simp only at h1 h2 h3 hp heo hei
  rw [h1, h2, h3, hp, heo, hei]
theorem keep_wr_new {h h1 : Hp} {b : Nat} (hb : h b = none) (K : Keep h h1) (o : Nat) (vs : List Value) : Keep h (h1.wr b o vs) := by
  intro k x e
  unfold Hp.wr
  by_cases hk : k = b
  · rw [hk, hb] at e; cases e
  · rw [if_neg hk]; exact K k x e
theorem new_self (h : Hp) (b : Nat) (o : Obj) : (h.new b o) b = some o := by unfold Hp.new; rw [if_pos rfl]
theorem name_known {h : Hp} {Q : Value → Hp → Prop} (hQ : ∀ h', Keep h h' → Q (.string ⟨#[116, 45, 48, 48, 48, 48, 48, 48, 48, 48, 48, 48, 48, 55]⟩) h') : F47.T 116 7 h Q := by
  unfold F47.T
  have f78 : ∀ Q' : Value → Hp → Prop, Q' (.bool true) h → F78.T 116 h Q' := fun Q' hq => ⟨fun _ => hq, fun _ => ⟨fun _ => hq, fun _ => ⟨fun _ => hq, fun h0 => absurd rfl h0⟩⟩⟩
  refine f78 _ ⟨true, rfl, fun _ => ⟨fun h0 => absurd h0 (by decide), fun _ b1 hb1 => ?_⟩, fun h0 => (by cases h0)⟩
  have K0 : Keep h (h.new b1 (.cells ⟨[.int .u8 63, .int .u8 45, .int .u8 48, .int .u8 48, .int .u8 48, .int .u8 48, .int .u8 48, .int .u8 48, .int .u8 48, .int .u8 48, .int .u8 48, .int .u8 48, .int .u8 48, .int .u8 48]⟩ 5 (0, 0))) := Keep.new hb1 _
  refine ⟨_, _, new_self _ _ _, b1, 0, rfl, by decide, ⟨_, _, _, new_self _ _ _, Nat.le_of_ble_eq_true rfl, ?_⟩, ?_⟩
  · intro j h1 h2 h3
    have h4 : (14 : Nat) ≤ j := h3.1
    have h5 : j < 1 := h2
    omega
  have hc : (((h.new b1 (.cells ⟨[.int .u8 63, .int .u8 45, .int .u8 48, .int .u8 48, .int .u8 48, .int .u8 48, .int .u8 48, .int .u8 48, .int .u8 48, .int .u8 48, .int .u8 48, .int .u8 48, .int .u8 48, .int .u8 48]⟩ 5 (0, 0))).new b1 (.cells ⟨[.int .u8 63, .int .u8 45, .int .u8 48, .int .u8 48, .int .u8 48, .int .u8 48, .int .u8 48, .int .u8 48, .int .u8 48, .int .u8 48, .int .u8 48, .int .u8 48, .int .u8 48, .int .u8 48]⟩ 5 (14, 15))).wr b1 (0 + (0 : Int).toNat) [.int .u8 116]) b1 = some (.cells ⟨[.int .u8 116, .int .u8 45, .int .u8 48, .int .u8 48, .int .u8 48, .int .u8 48, .int .u8 48, .int .u8 48, .int .u8 48, .int .u8 48, .int .u8 48, .int .u8 48, .int .u8 48, .int .u8 48]⟩ 5 (14, 15)) := wr_at (new_self _ _ _)
  have hk : Keep h (((h.new b1 (.cells ⟨[.int .u8 63, .int .u8 45, .int .u8 48, .int .u8 48, .int .u8 48, .int .u8 48, .int .u8 48, .int .u8 48, .int .u8 48, .int .u8 48, .int .u8 48, .int .u8 48, .int .u8 48, .int .u8 48]⟩ 5 (0, 0))).new b1 (.cells ⟨[.int .u8 63, .int .u8 45, .int .u8 48, .int .u8 48, .int .u8 48, .int .u8 48, .int .u8 48, .int .u8 48, .int .u8 48, .int .u8 48, .int .u8 48, .int .u8 48, .int .u8 48, .int .u8 48]⟩ 5 (14, 15))).wr b1 (0 + (0 : Int).toNat) [.int .u8 116]) := by
    refine keep_wr_new hb1 ?_ _ _
    intro k x e
    have hkb : k ≠ b1 := fun q => by rw [q, hb1] at e; cases e
    unfold Hp.new
    rw [if_neg hkb, if_neg hkb]
    exact e
  refine ⟨fun n2 n3 h2 => Keep h h2 ∧ ((n2 = 7 ∧ n3 = 13 ∧ h2 b1 = some (.cells ⟨[.int .u8 116, .int .u8 45, .int .u8 48, .int .u8 48, .int .u8 48, .int .u8 48, .int .u8 48, .int .u8 48, .int .u8 48, .int .u8 48, .int .u8 48, .int .u8 48, .int .u8 48, .int .u8 48]⟩ 5 (14, 15))) ∨ (n2 = 0 ∧ n3 = 12 ∧ h2 b1 = some (.cells ⟨[.int .u8 116, .int .u8 45, .int .u8 48, .int .u8 48, .int .u8 48, .int .u8 48, .int .u8 48, .int .u8 48, .int .u8 48, .int .u8 48, .int .u8 48, .int .u8 48, .int .u8 48, .int .u8 55]⟩ 5 (14, 15)))), fun n2 _ _ => n2.toNat, ⟨hk, .inl ⟨rfl, by decide, hc⟩⟩, ?_⟩
  rintro n2 n3 h2 ⟨K2, ⟨rfl, rfl, hc2⟩ | ⟨rfl, rfl, hc2⟩⟩
  · refine ⟨fun _ => ?_, fun h0 => absurd (by decide) h0⟩
    refine ⟨b1, 0, rfl, by decide, 48, by unfold Hp.at; rw [hc2]; rfl, by decide, b1, 0, rfl, by decide, ⟨_, _, _, hc2, Nat.le_of_ble_eq_true rfl, ?_⟩, by decide, ⟨keep_wr_new hb1 K2 _ _, .inr ⟨by decide, by decide, ?_⟩⟩, (by decide : (IntKind.wrap .u64 (Int.tdiv 7 10)).toNat < (7 : Int).toNat)⟩
    · intro j h1 h2 h3
      have h4 : (14 : Nat) ≤ j := h3.1
      have h5 : j < 14 := h2
      omega
    · exact wr_at hc2
  · refine ⟨fun h0 => absurd h0 (by decide), fun _ => ⟨⟨#[116, 45, 48, 48, 48, 48, 48, 48, 48, 48, 48, 48, 48, 55]⟩, ⟨rfl, .inr ⟨b1, 0, rfl, fun j hj => ?_⟩⟩, hQ h2 K2⟩⟩
    unfold Hp.at
    rw [hc2, Nat.zero_add]
    have e : bytesV ⟨#[116, 45, 48, 48, 48, 48, 48, 48, 48, 48, 48, 48, 48, 55]⟩ = [.int .u8 116, .int .u8 45, .int .u8 48, .int .u8 48, .int .u8 48, .int .u8 48, .int .u8 48, .int .u8 48, .int .u8 48, .int .u8 48, .int .u8 48, .int .u8 48, .int .u8 48, .int .u8 55] := rfl
    rw [e]
    simp
/-! ### Few enough -/
def totS (l : List Sl) : Nat := (l.map fun s => s.n + 1).sum
theorem totS_take_succ {l : List Sl} {i : Nat} (h : i < l.length) : totS (l.take (i + 1)) = totS (l.take i) + (l[i].n + 1) := by
  rw [List.take_succ_eq_append_getElem h]
  unfold totS
  rw [List.map_append, List.sum_append]
  simp only [List.map_cons, List.map_nil, List.sum_cons, List.sum_nil, Nat.add_zero]
theorem totS_len (l : List Sl) : l.length ≤ totS l := by
  induction l with
  | nil => simp
  | cons a l ih =>
    have e : totS (a :: l) = a.n + 1 + totS l := by simp [totS]
    rw [e, List.length_cons]; omega
theorem ok_q {h : Hp} {b : Nat} {c : Int} {Q : Value → Hp → Prop} (hb : h b = some (.cells ⟨[.int .i64 c]⟩ 113 (0, 0))) (hT : 0 ≤ c → Q (.bool true) h) (hF : ¬ 0 ≤ c → Q (.bool false) h) : F28.T (some ⟨b, 0, none⟩) h Q :=
  ⟨b, 0, rfl, c, by unfold Hp.at; rw [hb]; rfl, hT, hF⟩
theorem chunks_q {h0 h : Hp} {l : Sl} {ss : List Sl} {b : Nat} {Q : Value → Hp → Prop} (hr : h0.row l.a l.n (slV ss)) (hn : ∀ s ∈ ss, s.n ≤ 9223372036854775807) (hb0 : h0 b = none) (K : Keep h0 h) (hb : h b = some (.cells ⟨[.int .i64 400000]⟩ 113 (0, 0)))
    (hQ : ∀ h' c, Keep h0 h' → h' b = some (.cells ⟨[.int .i64 c]⟩ 113 (0, 0)) → (0 ≤ c → totS ss ≤ 400000) → Q (.tuple ⟨[]⟩) h') : F27.T (some ⟨b, 0, none⟩) l h Q := by
  have hln : l.n = ss.length := by have := hr.1; rw [slV_length] at this; exact this.symm
  unfold F27.T
  refine ⟨fun n h1 => ∃ (i : Nat) (c : Int), n = (i : Int) ∧ i ≤ ss.length ∧ Keep h0 h1 ∧ h1 b = some (.cells ⟨[.int .i64 c]⟩ 113 (0, 0)) ∧ c + (totS (ss.take i) : Nat) = 400000, fun n _ => ss.length - n.toNat, ⟨0, 400000, rfl, Nat.zero_le _, K, hb, rfl⟩, ?_⟩
  rintro n h1 ⟨i, c, rfl, hi, K1, hb1, hsum⟩
  refine ⟨fun hlt => ?_, fun hge => ?_⟩
  · have ia : i < ss.length := by omega
    refine ok_q hb1 (fun hc => ⟨true, rfl, fun _ => ?_, fun h0 => (by cases h0)⟩) (fun hc => ⟨false, rfl, fun h0 => (by cases h0), fun _ => hQ h1 c K1 hb1 (fun h0 => absurd h0 hc)⟩)
    obtain ⟨b0, o0, ha0, hat⟩ := row_get (K1.row hr) (i := i) (by omega)
    have hv : (slV ss)[i]? = some (.slice ss[i].a ss[i].n ss[i].c) := by simp [slV, ia]
    have hs := hn _ (List.getElem_mem ia)
    have hst := totS_take_succ ia
    have hil := totS_len (ss.take i)
    rw [List.length_take, Nat.min_eq_left hi] at hil
    have w2 : IntKind.wrap .i64 (c - IntKind.wrap .i64 (1 + (ss[i].n : Int))) = c - (1 + (ss[i].n : Int)) := by
      have hc4 : c ≤ 400000 := by omega
      simp [IntKind.wrap, IntKind.signed, IntKind.bits]
      omega
    have w3 : IntKind.wrap .i64 ((i : Int) + 1) = ((i + 1 : Nat) : Int) := by rw [wrap_i64 (by omega) (by omega)]; omega
    refine ⟨b0, o0, ha0, ⟨by omega, hlt⟩, ss[i], by rw [Int.toNat_natCast, hat i (by omega), hv], ?_⟩
    rw [w3]
    have hat2 : h1.at b 0 = some (.int .i64 c) := by unfold Hp.at; rw [hb1]; rfl
    refine ⟨b, 0, rfl, c, hat2, fun _ => ⟨b, 0, rfl, c, hat2, ?_⟩, fun h0 => absurd hc h0⟩
    rw [w2]
    have hw := wr_at (o := 0) (vs := [.int .i64 (c - (1 + (ss[i].n : Int)))]) hb1
    have kw := keep_wr_new hb0 K1 0 [.int .i64 (c - (1 + (ss[i].n : Int)))]
    have fin : (∃ (i' : Nat) (c' : Int), ((i + 1 : Nat) : Int) = (i' : Int) ∧ i' ≤ ss.length ∧ Keep h0 (h1.wr b 0 [.int .i64 (c - (1 + (ss[i].n : Int)))]) ∧ (h1.wr b 0 [.int .i64 (c - (1 + (ss[i].n : Int)))]) b = some (.cells ⟨[.int .i64 c']⟩ 113 (0, 0)) ∧ c' + (totS (ss.take i') : Nat) = 400000) ∧ ss.length - (((i + 1 : Nat) : Int)).toNat < ss.length - ((i : Int)).toNat :=
      ⟨⟨i + 1, c - (1 + (ss[i].n : Int)), rfl, ia, kw, hw, by rw [hst]; omega⟩, by omega⟩
    refine ⟨b, 0, rfl, ⟨_, _, _, hb1, Nat.le_of_ble_eq_true rfl, fun j _ _ => by simp⟩, b, 0, rfl, c - (1 + (ss[i].n : Int)), by unfold Hp.at; rw [hw]; rfl, fun _ => ⟨true, rfl, fun _ => fin, fun h0 => (by cases h0)⟩, fun _ => ⟨false, rfl, fun h0 => (by cases h0), fun _ => fin⟩⟩
  · have hie : i = ss.length := by omega
    subst hie
    rw [List.take_length] at hsum
    exact hQ h1 c K1 hb1 (fun h0 => by omega)
theorem fewer_spec {h : Hp} {l : Sl} {ss : List Sl} {Q : Value → Hp → Prop} (hr : h.row l.a l.n (slV ss)) (hn : ∀ s ∈ ss, s.n ≤ 9223372036854775807)
    (hT : ∀ h', Keep h h' → totS ss ≤ 400000 → Q (.bool true) h') (hF : ∀ h', Keep h h' → Q (.bool false) h') : F8.T l h Q := by
  intro b hb
  refine ⟨some ⟨b, 0, none⟩, rfl, ?_⟩
  refine chunks_q hr hn hb (Keep.new hb _) (by unfold Hp.new; rw [if_pos rfl]) fun h' c K' hc ht => ?_
  exact ok_q hc (fun h0 => ⟨true, rfl, fun _ => hT h' K' (ht h0), fun h1 => (by cases h1)⟩) (fun h0 => ⟨false, rfl, fun h1 => (by cases h1), fun _ => hF h' K'⟩)
end Go.Eng.Ytblghgacokoklaa
