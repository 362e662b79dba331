/-
  SPECS OF THE NAMES, 7: bytes that are laid in a room.
-/
import Derived.Test.YtblghgacokoklaaDoorD6
set_option linter.unusedSimpArgs false
set_option linter.unusedVariables false
set_option maxRecDepth 100000
namespace Go.Eng.YtblghgacokoklaaDoor
theorem bufSet {h : Hp} {s : Sl} {sz t k : Nat} {vs : List Value} (B : Buf h s sz t vs) (hk : k < vs.length) : ∃ b, s.a = some ⟨b, 0, none⟩ ∧ h.at b k = vs[k]? ∧ h.canW b k 1 ∧ ∀ v, Upd h (h.wr b k [v]) s s ∧ Buf (h.wr b k [v]) s sz t (vs.set k v) := by
  rcases B.own with ⟨ha, hc⟩ | ⟨b, c, f, ha, hb, hsz, hf, ht⟩
  · have h1 := B.len
    have h2 := B.cap
    have : s.n = 0 := by omega
    rw [this, Nat.zero_mul] at h1
    omega
  · have hlen : vs.length ≤ c.size := by
      rw [B.len]
      exact Nat.le_trans (Nat.mul_le_mul_right _ B.cap) hsz
    have hget : c[k]? = vs[k]? := by
      rw [← ht, List.getElem?_take, if_pos hk, Array.getElem?_toList]
    refine ⟨b, ha, by unfold Hp.at; rw [hb]; exact hget, ⟨c, t, f, hb, by omega, fun j h1 h2 => hf j (by omega)⟩, fun v => ⟨⟨fun j x hj e => ?_, .inl rfl, fun j e => ?_⟩, ⟨by rw [List.length_set]; exact B.len, B.cap, .inr ⟨b, (setL c.toList k [v]).toArray, f, ha, wr_at hb, ?_, ?_, ?_⟩⟩⟩⟩
    · have hjb : j ≠ b := fun q => hj 0 (by rw [q]; exact ha)
      unfold Hp.wr
      rw [if_neg hjb]
      exact e
    · unfold Hp.wr at e
      by_cases hjb : j = b
      · rw [if_pos hjb, hb] at e; cases e
      · rw [if_neg hjb] at e; exact e
    · simp only [List.size_toArray, setL_length, Array.length_toList]; exact hsz
    · intro j hj
      simp only [List.size_toArray, setL_length, Array.length_toList] at hj
      exact hf j hj
    · show ((c.toList.set k v).take (vs.set k v).length) = vs.set k v
      rw [List.length_set, List.take_set, ht]

theorem keepWr {h h1 : Hp} {b : Nat} (hb : h b = none) (K : Keep h h1) (o : Nat) (vs : List Value) : Keep h (h1.wr b o vs) := by
  intro k x e
  unfold Hp.wr
  by_cases hk : k = b
  · rw [hk, hb] at e; cases e
  · rw [if_neg hk]; exact K k x e
theorem newSelf (h : Hp) (b : Nat) (o : Obj) : (h.new b o) b = some o := by unfold Hp.new; rw [if_pos rfl]
theorem newGrow {h h1 h2 : Hp} {s s' : Sl} (N : New h s) (K : Keep h h1) (U : Upd h1 h2 s s') : New h s' := by
  rcases U.at_ with h0 | ⟨b, hb, hn⟩
  · obtain ⟨b, hb, hn⟩ := N
    exact ⟨b, by rw [h0]; exact hb, hn⟩
  · exact ⟨b, hb, K.dom b hn⟩
def lotN (n : Nat) : Int := if n % 2 = 0 then -7701 else -7702
def lb (n : Nat) : Int := IntKind.wrap .u8 (lotN n)
def lots (k : Nat) : List Int := (List.range k).map lb
theorem lots_succ (k : Nat) : lots (k + 1) = lots k ++ [lb k] := by unfold lots; rw [List.range_succ, List.map_append]; rfl
theorem lots_len (k : Nat) : (lots k).length = k := by unfold lots; rw [List.length_map, List.length_range]
theorem lot_spec {h : Hp} {n : Nat} {Q : Value → Hp → Prop} (hQ : Q (.int .i64 (lotN n)) h) : F85.T (n : Int) h Q := by
  have e : Int.tmod (n : Int) 2 = ((n % 2 : Nat) : Int) := by rw [Int.tmod_eq_emod_of_nonneg (by omega)]; omega
  refine ⟨by decide, fun h0 => ?_, fun h0 => ?_⟩
  · unfold lotN at hQ; rw [if_pos (by omega)] at hQ; exact hQ
  · unfold lotN at hQ; rw [if_neg (by omega)] at hQ; exact hQ
def roomB (w n : Sl) : List Value := [.slice w.a w.n w.c, .slice n.a n.n n.c, .slice none 0 0, .slice none 0 0, .slice none 0 0, .slice none 0 0, .slice none 0 0, .slice none 0 0, .slice none 0 0, .slice none 0 0, .slice none 0 0, .slice none 0 0, .slice none 0 0, .slice none 0 0, .slice none 0 0, .slice none 0 0, .slice none 0 0, .slice none 0 0, .slice none 0 0, .slice none 0 0, .slice none 0 0, .slice none 0 0, .slice none 0 0, .slice none 0 0, .slice none 0 0, .slice none 0 0, .slice none 0 0, .slice none 0 0]
theorem roomB_buf {h : Hp} {pb : Nat} {w n : Sl} (hc : h pb = some (.cells ⟨roomB w n⟩ 46 (0, 0))) : Buf h (rb pb) 28 46 (roomB w n) :=
  ⟨rfl, Nat.le_refl _, .inr ⟨pb, _, (0, 0), rfl, hc, Nat.le_refl _, fun j _ => by simp, rfl⟩⟩
def oneS (s : Sl) : List Value := [.slice s.a s.n s.c]
/-- A room that has handed out one list of bytes. -/
structure One (h0 h : Hp) (pb : Nat) (w n s : Sl) (r : List Int) : Prop where
  cell : h pb = some (.cells ⟨roomB w n⟩ 46 (0, 0))
  keep : Keep h0 h
  W : Buf h w 1 23 (oneS s)
  N : Buf h n 1 3 [.int .i64 (r.length : Int)]
  S : Buf h s 1 5 (bv (r ++ lots 600))
  snew : New h0 s
theorem lay_one {h0 h : Hp} {pb : Nat} {l : Sl} {r : List Int} {Q : Value → Hp → Prop} (hc : h pb = some (.cells ⟨roomB ⟨none, 0, 0⟩ ⟨none, 0, 0⟩⟩ 46 (0, 0))) (hn : h0 pb = none) (K : Keep h0 h) (hr : h0.row l.a l.n (bv r)) (hs : r.length + 600 ≤ 140737488355328)
    (hQ : ∀ h' w' n' s, One h0 h' pb w' n' s r → s.n = r.length + 600 → s.n ≤ s.c →
      Q (.slice (Sl.cut s 1 0 (l.n : Int) (s.n : Int)).a (Sl.cut s 1 0 (l.n : Int) (s.n : Int)).n (Sl.cut s 1 0 (l.n : Int) (s.n : Int)).c) h') : F41.T (some ⟨pb, 0, none⟩) l 600 h Q := by
  have hln : l.n = r.length := by have := hr.1; rw [bv_length] at this; exact this.symm
  intro b hb
  have hb2 : (h.new b (.cells ⟨[]⟩ 5 (0, 0))) b = some (.cells ⟨[]⟩ 5 (0, 0)) := newSelf h b _
  have B0 : Buf (h.new b (.cells ⟨[]⟩ 5 (0, 0))) ⟨some ⟨b, 0, none⟩, 0, 0⟩ 1 5 [] := ⟨rfl, Nat.le_refl _, .inr ⟨b, _, (0, 0), rfl, hb2, Nat.le_refl _, fun j _ => by simp, rfl⟩⟩
  have k0 : Keep h (h.new b (.cells ⟨[]⟩ 5 (0, 0))) := Keep.new hb _
  have N0 : New h ⟨some ⟨b, 0, none⟩, 0, 0⟩ := ⟨b, rfl, hb⟩
  refine ⟨bv r, by rw [Nat.mul_one]; exact (K.trans k0).row hr, bv_one r, ?_⟩
  refine append_buf B0 rfl (by rw [bv_length]; omega) (by show (0 + l.n) * 1 ≤ _; omega) fun s1 h1 B1 hn1 U1 => ?_
  refine ⟨fun l2 n1 h2 => ∃ j : Nat, n1 = (j : Int) ∧ j ≤ 600 ∧ Buf h2 l2 1 5 (bv (r ++ lots j)) ∧ Keep h h2 ∧ New h l2, fun _ n1 _ => 600 - n1.toNat, ⟨0, rfl, Nat.zero_le _, by simpa [lots] using B1, (keep_grow k0 (.inr N0) U1).1, newGrow N0 k0 U1⟩, ?_⟩
  rintro l2 n1 h2 ⟨j, rfl, hj, B2, K2, N2⟩
  have l2n : l2.n = r.length + j := by have := B2.len; rw [bv_length, List.length_append, lots_len] at this; omega
  refine ⟨fun hlt => lot_spec ⟨_, rfl, ?_⟩, fun hge => ?_⟩
  · have w3 : IntKind.wrap .i64 ((j : Int) + 1) = ((j + 1 : Nat) : Int) := next_b (n := 600) (by omega) (by omega)
    refine append_buf B2 rfl rfl (by omega) fun l3 h4 B4 hn4 U4 => ?_
    rw [w3]
    refine ⟨⟨j + 1, rfl, by omega, ?_, (keep_grow K2 (.inr N2) U4).1, newGrow N2 K2 U4⟩, by dsimp only; omega⟩
    rw [lots_succ, ← List.append_assoc, bv_append]
    exact B4
  · have hj4 : j = 600 := by omega
    subst hj4
    have c2 := K2 _ _ hc
    refine ⟨pb, 0, rfl, ⟨none, 0, 0⟩, by unfold Hp.at; rw [c2]; rfl, ?_⟩
    have W0 : Buf h2 ⟨none, 0, 0⟩ 1 23 [] := Buf.nil h2 1 23
    refine append_buf W0 rfl rfl (by decide) fun l5 h5 B5 hn5 U5 => ?_
    have k5 := U5.keepNil rfl
    have c5 := k5 _ _ c2
    have P5 := roomB_buf c5
    have U5' : Upd h5 (h5.wr pb 0 [.slice l5.a l5.n l5.c]) (rb pb) (rb pb) := upd_wr c5
    have c5' : (h5.wr pb 0 [.slice l5.a l5.n l5.c]) pb = some (.cells ⟨roomB l5 ⟨none, 0, 0⟩⟩ 46 (0, 0)) := wr_at c5
    refine ⟨pb, 0, rfl, ⟨_, _, _, c5, Nat.le_of_ble_eq_true rfl, fun j _ _ => by simp⟩, pb, 0, rfl, ⟨none, 0, 0⟩, by unfold Hp.at; rw [c5']; rfl, ?_⟩
    have N5 : Buf (h5.wr pb 0 [.slice l5.a l5.n l5.c]) ⟨none, 0, 0⟩ 1 3 [] := Buf.nil _ 1 3
    refine append_buf N5 rfl rfl (by decide) fun l7 h6 B6 hn6 U6 => ?_
    have k6 := U6.keepNil rfl
    have c6 := k6 _ _ c5'
    have P6 := roomB_buf c6
    have U6' : Upd h6 (h6.wr pb (0 + 1) [.slice l7.a l7.n l7.c]) (rb pb) (rb pb) := upd_wr c6
    have c6' : (h6.wr pb (0 + 1) [.slice l7.a l7.n l7.c]) pb = some (.cells ⟨roomB l5 l7⟩ 46 (0, 0)) := wr_at c6
    refine ⟨pb, 0, rfl, ⟨_, _, _, c6, Nat.le_of_ble_eq_true rfl, fun j _ _ => by simp⟩, ⟨by decide, by omega, by omega, by have := B2.cap; omega⟩, ?_⟩
    rw [List.nil_append] at B5 B6
    have W5' := B5.upd U5' (buf_off B5 P5 (by decide))
    have W6' := (W5'.keep k6).upd U6' (buf_off (W5'.keep k6) P6 (by decide))
    have L5' := (B2.keep k5).upd U5' (buf_off (B2.keep k5) P5 (by decide))
    have L6' := (L5'.keep k6).upd U6' (buf_off (L5'.keep k6) P6 (by decide))
    have Kall : Keep h0 (h6.wr pb (0 + 1) [.slice l7.a l7.n l7.c]) := keepWr hn ((keepWr hn ((K.trans K2).trans k5) 0 _).trans k6) _ _
    refine hQ _ l5 l7 l2 ⟨c6', Kall, W6', ?_, L6', ?_⟩ l2n B2.cap
    · have := B6.upd U6' (buf_off B6 P6 (by decide))
      rw [hln] at this
      exact this
    · obtain ⟨b', e', hn'⟩ := N2
      exact ⟨b', e', K.dom _ hn'⟩
theorem hold44 {h0 h : Hp} {pb : Nat} {w n s : Sl} {r : List Int} {Q : Value → Hp → Prop} (O : One h0 h pb w n s r) (hs : r.length + 600 ≤ 140737488355328) (hQ : Q (.bool true) h) : F44.T (some ⟨pb, 0, none⟩) h Q := by
  have hwn : w.n = 1 := by have := O.W.len; simp [oneS] at this; omega
  have hnn : n.n = 1 := by have := O.N.len; simp at this; omega
  have hsn : s.n = r.length + 600 := by have := O.S.len; rw [bv_length, List.length_append, lots_len] at this; omega
  have hc := O.cell
  have rW := O.W.row
  have rN := O.N.row
  have rB := O.S.row
  rw [Nat.mul_one] at rW rN rB
  refine ⟨fun n h1 => ∃ i : Nat, n = (i : Int) ∧ i ≤ 1 ∧ h1 = h, fun n _ => 1 - n.toNat, ⟨0, rfl, by decide, rfl⟩, ?_⟩
  rintro n2 h1 ⟨i, rfl, hi, rfl⟩
  refine ⟨pb, 0, rfl, w, by unfold Hp.at; rw [hc]; rfl, fun hlt => ?_, fun _ => hQ⟩
  have hi0 : i = 0 := by omega
  subst hi0
  obtain ⟨b2, o2, ha2, hat2⟩ := row_get rN (i := 0) (by omega)
  obtain ⟨b4, o4, ha4, hat4⟩ := row_get rW (i := 0) (by omega)
  have c2 : h1.at b2 (o2 + (((0 : Nat) : Int)).toNat) = some (.int .i64 (r.length : Int)) := by rw [Int.toNat_natCast, hat2 0 (by omega)]; rfl
  have c4 : h1.at b4 (o4 + (((0 : Nat) : Int)).toNat) = some (.slice s.a s.n s.c) := by rw [Int.toNat_natCast, hat4 0 (by omega)]; rfl
  refine ⟨pb, 0, rfl, n, by unfold Hp.at; rw [hc]; rfl, b2, o2, ha2, ⟨by omega, by omega⟩, _, c2, ?_⟩
  refine ⟨fun n2 h2 => ∃ j : Nat, n2 = ((r.length + j : Nat) : Int) ∧ j ≤ 600 ∧ h2 = h1, fun n2 _ => r.length + 600 - n2.toNat, ⟨0, rfl, by decide, rfl⟩, ?_⟩
  rintro n3 h2 ⟨j, rfl, hj, rfl⟩
  refine ⟨pb, 0, rfl, w, by unfold Hp.at; rw [hc]; rfl, b4, o4, ha4, ⟨by omega, by omega⟩, _, c4, fun hlt2 => ?_, fun hge2 => ?_⟩
  · have hj4 : j < 600 := by omega
    obtain ⟨b7, o7, ha7, hat7⟩ := row_get rB (i := r.length + j) (by omega)
    have c7 : h2.at b7 (o7 + (((r.length + j : Nat) : Int)).toNat) = some (.int .u8 (lb j)) := by
      rw [Int.toNat_natCast, hat7 _ (by omega)]
      unfold bv
      rw [List.getElem?_map, List.getElem?_append_right (by omega), Nat.add_sub_cancel_left]
      unfold lots
      rw [List.getElem?_map, List.getElem?_range hj4]
      rfl
    have w1 : IntKind.wrap .i64 (((r.length + j : Nat) : Int) - (r.length : Int)) = (j : Int) := by rw [wrap_i64 (by omega) (by omega)]; omega
    have w2 : IntKind.wrap .i64 (((r.length + j : Nat) : Int) + 1) = ((r.length + (j + 1) : Nat) : Int) := by rw [wrap_i64 (by omega) (by omega)]; omega
    refine ⟨pb, 0, rfl, w, by unfold Hp.at; rw [hc]; rfl, b4, o4, ha4, ⟨by omega, by omega⟩, _, c4, b7, o7, ha7, ⟨by omega, hlt2⟩, _, c7, ?_⟩
    rw [w1, w2]
    exact lot_spec ⟨_, rfl, fun _ => ⟨⟨j + 1, rfl, by omega, rfl⟩, by dsimp only; omega⟩, fun h0 => absurd rfl h0⟩
  · exact ⟨⟨1, by decide, Nat.le_refl _, rfl⟩, by dsimp only; rw [show IntKind.wrap .i64 (((0 : Nat) : Int) + 1) = 1 by decide]; decide⟩
theorem hold45 {h : Hp} {pb : Nat} {Q : Value → Hp → Prop} (hc : h.at pb (0 + 2) = some (.slice none 0 0)) (hQ : Q (.bool true) h) : F45.T (some ⟨pb, 0, none⟩) h Q := by
  refine ⟨fun n h1 => n = 0 ∧ h1 = h, fun _ _ => 0, ⟨rfl, rfl⟩, ?_⟩
  rintro n h1 ⟨rfl, rfl⟩
  exact ⟨pb, 0, rfl, ⟨none, 0, 0⟩, hc, fun h0 => absurd h0 (by decide), fun _ => hQ⟩
theorem hold46 {h : Hp} {pb : Nat} {Q : Value → Hp → Prop} (hc : h.at pb (0 + 4) = some (.slice none 0 0)) (hQ : Q (.bool true) h) : F46.T (some ⟨pb, 0, none⟩) h Q := by
  refine ⟨fun n h1 => n = 0 ∧ h1 = h, fun _ _ => 0, ⟨rfl, rfl⟩, ?_⟩
  rintro n h1 ⟨rfl, rfl⟩
  exact ⟨pb, 0, rfl, ⟨none, 0, 0⟩, hc, fun h0 => absurd h0 (by decide), fun _ => hQ⟩
theorem hold47 {h : Hp} {pb : Nat} {Q : Value → Hp → Prop} (hc : h.at pb (0 + 6) = some (.slice none 0 0)) (hQ : Q (.bool true) h) : F47.T (some ⟨pb, 0, none⟩) h Q := by
  refine ⟨fun n h1 => n = 0 ∧ h1 = h, fun _ _ => 0, ⟨rfl, rfl⟩, ?_⟩
  rintro n h1 ⟨rfl, rfl⟩
  exact ⟨pb, 0, rfl, ⟨none, 0, 0⟩, hc, fun h0 => absurd h0 (by decide), fun _ => hQ⟩
theorem hold48 {h : Hp} {pb : Nat} {Q : Value → Hp → Prop} (hc : h.at pb (0 + 8) = some (.slice none 0 0)) (hQ : Q (.bool true) h) : F48.T (some ⟨pb, 0, none⟩) h Q := by
  refine ⟨fun n h1 => n = 0 ∧ h1 = h, fun _ _ => 0, ⟨rfl, rfl⟩, ?_⟩
  rintro n h1 ⟨rfl, rfl⟩
  exact ⟨pb, 0, rfl, ⟨none, 0, 0⟩, hc, fun h0 => absurd h0 (by decide), fun _ => hQ⟩
theorem hold49 {h : Hp} {pb : Nat} {Q : Value → Hp → Prop} (hc : h.at pb (0 + 10) = some (.slice none 0 0)) (hQ : Q (.bool true) h) : F49.T (some ⟨pb, 0, none⟩) h Q := by
  refine ⟨fun n h1 => n = 0 ∧ h1 = h, fun _ _ => 0, ⟨rfl, rfl⟩, ?_⟩
  rintro n h1 ⟨rfl, rfl⟩
  exact ⟨pb, 0, rfl, ⟨none, 0, 0⟩, hc, fun h0 => absurd h0 (by decide), fun _ => hQ⟩
theorem hold50 {h : Hp} {pb : Nat} {Q : Value → Hp → Prop} (hc : h.at pb (0 + 12) = some (.slice none 0 0)) (hQ : Q (.bool true) h) : F50.T (some ⟨pb, 0, none⟩) h Q := by
  refine ⟨fun n h1 => n = 0 ∧ h1 = h, fun _ _ => 0, ⟨rfl, rfl⟩, ?_⟩
  rintro n h1 ⟨rfl, rfl⟩
  exact ⟨pb, 0, rfl, ⟨none, 0, 0⟩, hc, fun h0 => absurd h0 (by decide), fun _ => hQ⟩
theorem hold51 {h : Hp} {pb : Nat} {Q : Value → Hp → Prop} (hc : h.at pb (0 + 14) = some (.slice none 0 0)) (hQ : Q (.bool true) h) : F51.T (some ⟨pb, 0, none⟩) h Q := by
  refine ⟨fun n h1 => n = 0 ∧ h1 = h, fun _ _ => 0, ⟨rfl, rfl⟩, ?_⟩
  rintro n h1 ⟨rfl, rfl⟩
  exact ⟨pb, 0, rfl, ⟨none, 0, 0⟩, hc, fun h0 => absurd h0 (by decide), fun _ => hQ⟩
theorem hold52 {h : Hp} {pb : Nat} {Q : Value → Hp → Prop} (hc : h.at pb (0 + 16) = some (.slice none 0 0)) (hQ : Q (.bool true) h) : F52.T (some ⟨pb, 0, none⟩) h Q := by
  refine ⟨fun n h1 => n = 0 ∧ h1 = h, fun _ _ => 0, ⟨rfl, rfl⟩, ?_⟩
  rintro n h1 ⟨rfl, rfl⟩
  exact ⟨pb, 0, rfl, ⟨none, 0, 0⟩, hc, fun h0 => absurd h0 (by decide), fun _ => hQ⟩
theorem hold53 {h : Hp} {pb : Nat} {Q : Value → Hp → Prop} (hc : h.at pb (0 + 18) = some (.slice none 0 0)) (hQ : Q (.bool true) h) : F53.T (some ⟨pb, 0, none⟩) h Q := by
  refine ⟨fun n h1 => n = 0 ∧ h1 = h, fun _ _ => 0, ⟨rfl, rfl⟩, ?_⟩
  rintro n h1 ⟨rfl, rfl⟩
  exact ⟨pb, 0, rfl, ⟨none, 0, 0⟩, hc, fun h0 => absurd h0 (by decide), fun _ => hQ⟩
theorem hold54 {h : Hp} {pb : Nat} {Q : Value → Hp → Prop} (hc : h.at pb (0 + 20) = some (.slice none 0 0)) (hQ : Q (.bool true) h) : F54.T (some ⟨pb, 0, none⟩) h Q := by
  refine ⟨fun n h1 => n = 0 ∧ h1 = h, fun _ _ => 0, ⟨rfl, rfl⟩, ?_⟩
  rintro n h1 ⟨rfl, rfl⟩
  exact ⟨pb, 0, rfl, ⟨none, 0, 0⟩, hc, fun h0 => absurd h0 (by decide), fun _ => hQ⟩
theorem hold55 {h : Hp} {pb : Nat} {Q : Value → Hp → Prop} (hc : h.at pb (0 + 22) = some (.slice none 0 0)) (hQ : Q (.bool true) h) : F55.T (some ⟨pb, 0, none⟩) h Q := by
  refine ⟨fun n h1 => n = 0 ∧ h1 = h, fun _ _ => 0, ⟨rfl, rfl⟩, ?_⟩
  rintro n h1 ⟨rfl, rfl⟩
  exact ⟨pb, 0, rfl, ⟨none, 0, 0⟩, hc, fun h0 => absurd h0 (by decide), fun _ => hQ⟩
theorem hold56 {h : Hp} {pb : Nat} {Q : Value → Hp → Prop} (hc : h.at pb (0 + 24) = some (.slice none 0 0)) (hQ : Q (.bool true) h) : F56.T (some ⟨pb, 0, none⟩) h Q := by
  refine ⟨fun n h1 => n = 0 ∧ h1 = h, fun _ _ => 0, ⟨rfl, rfl⟩, ?_⟩
  rintro n h1 ⟨rfl, rfl⟩
  exact ⟨pb, 0, rfl, ⟨none, 0, 0⟩, hc, fun h0 => absurd h0 (by decide), fun _ => hQ⟩
theorem hold57 {h : Hp} {pb : Nat} {Q : Value → Hp → Prop} (hc : h.at pb (0 + 26) = some (.slice none 0 0)) (hQ : Q (.bool true) h) : F57.T (some ⟨pb, 0, none⟩) h Q := by
  refine ⟨fun n h1 => n = 0 ∧ h1 = h, fun _ _ => 0, ⟨rfl, rfl⟩, ?_⟩
  rintro n h1 ⟨rfl, rfl⟩
  exact ⟨pb, 0, rfl, ⟨none, 0, 0⟩, hc, fun h0 => absurd h0 (by decide), fun _ => hQ⟩
theorem hold_one {h0 h : Hp} {pb : Nat} {w n s : Sl} {r : List Int} {Q : Value → Hp → Prop} (O : One h0 h pb w n s r) (hs : r.length + 600 ≤ 140737488355328) (hQ : Q (.bool true) h) : F16.T (some ⟨pb, 0, none⟩) h Q := by
  have nx : ∀ {A B : Prop}, A → ∃ b : Bool, (Value.bool true) = .bool b ∧ parB b A B := fun {A B} a => ⟨true, rfl, fun _ => a, fun h0 => (by cases h0)⟩
  have z : ∀ k, (roomB w n)[k]? = some (.slice none 0 0) → h.at pb (0 + k) = some (.slice none 0 0) := fun k e => by
    unfold Hp.at
    rw [O.cell, Nat.zero_add]
    show (List.toArray _)[k]? = _
    rw [List.getElem?_toArray]
    exact e
  exact hold44 O hs (nx (hold45 (z 2 rfl) (nx (hold46 (z 4 rfl) (nx (hold47 (z 6 rfl) (nx (hold48 (z 8 rfl) (nx (hold49 (z 10 rfl) (nx (hold50 (z 12 rfl) (nx (hold51 (z 14 rfl) (nx (hold52 (z 16 rfl) (nx (hold53 (z 18 rfl) (nx (hold54 (z 20 rfl) (nx (hold55 (z 22 rfl) (nx (hold56 (z 24 rfl) (nx (hold57 (z 26 rfl) (nx hQ)))))))))))))))))))))))))))
end Go.Eng.YtblghgacokoklaaDoor
