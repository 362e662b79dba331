/-
  SPECS, 16: copies; writing into one's own lists.
-/
import Derived.Test.YtblghgacokoklaaS15
set_option linter.unusedSimpArgs false
set_option linter.unusedVariables false
namespace Go.Eng.Ytblghgacokoklaa
structure Three (h : Hp) (x : EdS) : Prop where
  a : Buf h x.a 2 89 (outV x.e.out)
  b : Buf h x.b 7 87 (inV x.e.inn)
  c : Buf h x.c 1 9 (ptrV x.e.ptr)
theorem Three.upd {h h' : Hp} {s s' : Sl} {x : EdS} (T : Three h x) (U : Upd h h' s s') (oa : Off x.a s) (ob : Off x.b s) (oc : Off x.c s) : Three h' x := ⟨T.a.upd U oa, T.b.upd U ob, T.c.upd U oc⟩
theorem Three.keep {h h' : Hp} {x : EdS} (T : Three h x) (k : Keep h h') : Three h' x := ⟨T.a.keep k, T.b.keep k, T.c.keep k⟩
def Ap (y z : EdS) : Prop := Off y.a z.a ∧ Off y.b z.b ∧ Off y.c z.c
def PW (L : List EdS) : Prop := L.Pairwise fun y z => Ap y z ∧ Ap z y
/-- A list of edits of one's own. -/
structure Ws (h0 h : Hp) (l1 : Sl) (L : List EdS) : Prop where
  B : Buf h l1 6 60 (edV L)
  T : ∀ y ∈ L, Three h y
  N : ∀ y ∈ L, (y.a.a = none ∨ New h0 y.a) ∧ (y.b.a = none ∨ New h0 y.b) ∧ (y.c.a = none ∨ New h0 y.c)
  N1 : l1.a = none ∨ New h0 l1
  K : Keep h0 h
theorem new_off {h : Hp} {s r : Sl} {sz t : Nat} {vs : List Value} (N : s.a = none ∨ New h s) (B : Buf h r sz t vs) : Off r s ∧ Off s r := by
  have key : ∀ b o o', r.a = some ⟨b, o, none⟩ → s.a = some ⟨b, o', none⟩ → False := by
    intro b o o' e1 e2
    rcases N with h0 | ⟨k, hk, hn⟩
    · rw [h0] at e2; cases e2
    · rw [hk] at e2
      simp only [Option.some.injEq, Addr.mk.injEq] at e2
      rcases B.own with ⟨ha, _⟩ | ⟨b1, c, f, ha, hb, _⟩
      · rw [ha] at e1; cases e1
      · rw [ha] at e1
        simp only [Option.some.injEq, Addr.mk.injEq] at e1
        rw [e1.1, ← e2.1, hn] at hb; cases hb
  exact ⟨fun b o o' e1 e2 => key b o o' e1 e2, fun b o o' e1 e2 => key b o' o e2 e1⟩
theorem PW.other {P R : List EdS} {x : EdS} (h : PW (P ++ x :: R)) {y : EdS} (hy : y ∈ P ∨ y ∈ R) : Ap y x := by
  unfold PW at h
  rw [List.pairwise_append, List.pairwise_cons] at h
  obtain ⟨_, ⟨h2, _⟩, h3⟩ := h
  rcases hy with hy | hy
  · exact (h3 y hy x List.mem_cons_self).1
  · exact (h2 y hy).2
theorem PW.swap {P R : List EdS} {x x' : EdS} (h : PW (P ++ x :: R)) (ha : x'.a.a = x.a.a) (hb : x'.b.a = x.b.a) (hc : x'.c.a = x.c.a) : PW (P ++ x' :: R) := by
  have e1 : ∀ y, Ap y x → Ap y x' := by
    intro y hy
    refine ⟨?_, ?_, ?_⟩
    · have := hy.1; unfold Off at this ⊢; rw [ha]; exact this
    · have := hy.2.1; unfold Off at this ⊢; rw [hb]; exact this
    · have := hy.2.2; unfold Off at this ⊢; rw [hc]; exact this
  have e2 : ∀ y, Ap x y → Ap x' y := by
    intro y hy
    refine ⟨?_, ?_, ?_⟩
    · have := hy.1; unfold Off at this ⊢; rw [ha]; exact this
    · have := hy.2.1; unfold Off at this ⊢; rw [hb]; exact this
    · have := hy.2.2; unfold Off at this ⊢; rw [hc]; exact this
  unfold PW at h ⊢
  rw [List.pairwise_append, List.pairwise_cons] at h ⊢
  obtain ⟨h1, ⟨h2, h4⟩, h3⟩ := h
  refine ⟨h1, ⟨fun y hy => ⟨e2 y (h2 y hy).1, e1 y (h2 y hy).2⟩, h4⟩, fun y hy z hz => ?_⟩
  rcases List.mem_cons.1 hz with rfl | hz
  · have := h3 y hy x List.mem_cons_self
    exact ⟨e1 y this.1, e2 y this.2⟩
  · exact h3 y hy z (List.mem_cons_of_mem _ hz)
theorem mem_mid {P R : List EdS} {x y : EdS} (h : y ∈ P ++ x :: R) : y = x ∨ (y ∈ P ∨ y ∈ R) := by
  rcases List.mem_append.1 h with h | h
  · exact .inr (.inl h)
  · rcases List.mem_cons.1 h with h | h
    · exact .inl h
    · exact .inr (.inr h)
theorem mem_mid' {P R : List EdS} {x y : EdS} (h : y ∈ P ∨ y ∈ R) : y ∈ P ++ x :: R := by
  rcases h with h | h
  · exact List.mem_append_left _ h
  · exact List.mem_append_right _ (List.mem_cons_of_mem _ h)
theorem Ws.x {h0 h : Hp} {l1 : Sl} {P R : List EdS} {x : EdS} (W : Ws h0 h l1 (P ++ x :: R)) : Three h x := W.T x (List.mem_append_right _ List.mem_cons_self)
theorem Ws.nx {h0 h : Hp} {l1 : Sl} {P R : List EdS} {x : EdS} (W : Ws h0 h l1 (P ++ x :: R)) : (x.a.a = none ∨ New h0 x.a) ∧ (x.b.a = none ∨ New h0 x.b) ∧ (x.c.a = none ∨ New h0 x.c) := W.N x (List.mem_append_right _ List.mem_cons_self)
theorem Ws.setA {h0 h h' : Hp} {l1 : Sl} {P R : List EdS} {x : EdS} (W : Ws h0 h l1 (P ++ x :: R)) (hp : PW (P ++ x :: R)) (U : Upd h h' x.a x.a) {o : List Place} (B : Buf h' x.a 2 89 (outV o)) : Ws h0 h' l1 (P ++ ⟨{ x.e with out := o }, x.a, x.b, x.c⟩ :: R) := by
  have X := W.x
  refine ⟨?_, fun y hy => ?_, fun y hy => ?_, W.N1, (keep_grow W.K W.nx.1 U).1⟩
  · have e : edV (P ++ ⟨{ x.e with out := o }, x.a, x.b, x.c⟩ :: R) = edV (P ++ x :: R) := by simp [edV, EdS.cells]
    rw [e]
    exact W.B.upd U (buf_off W.B X.a (by decide))
  · rcases mem_mid hy with rfl | hy
    · exact ⟨B, X.b.upd U (buf_off X.b X.a (by decide)), X.c.upd U (buf_off X.c X.a (by decide))⟩
    · have Y := W.T y (mem_mid' hy)
      exact Y.upd U (hp.other hy).1 (buf_off Y.b X.a (by decide)) (buf_off Y.c X.a (by decide))
  · rcases mem_mid hy with rfl | hy
    · exact W.nx
    · exact W.N y (mem_mid' hy)
theorem Ws.setB {h0 h h' : Hp} {l1 : Sl} {P R : List EdS} {x : EdS} (W : Ws h0 h l1 (P ++ x :: R)) (hp : PW (P ++ x :: R)) (U : Upd h h' x.b x.b) {o : List Placed} (B : Buf h' x.b 7 87 (inV o)) : Ws h0 h' l1 (P ++ ⟨{ x.e with inn := o }, x.a, x.b, x.c⟩ :: R) := by
  have X := W.x
  refine ⟨?_, fun y hy => ?_, fun y hy => ?_, W.N1, (keep_grow W.K W.nx.2.1 U).1⟩
  · have e : edV (P ++ ⟨{ x.e with inn := o }, x.a, x.b, x.c⟩ :: R) = edV (P ++ x :: R) := by simp [edV, EdS.cells]
    rw [e]
    exact W.B.upd U (buf_off W.B X.b (by decide))
  · rcases mem_mid hy with rfl | hy
    · exact ⟨X.a.upd U (buf_off X.a X.b (by decide)), B, X.c.upd U (buf_off X.c X.b (by decide))⟩
    · have Y := W.T y (mem_mid' hy)
      exact Y.upd U (buf_off Y.a X.b (by decide)) (hp.other hy).2.1 (buf_off Y.c X.b (by decide))
  · rcases mem_mid hy with rfl | hy
    · exact W.nx
    · exact W.N y (mem_mid' hy)
theorem Ws.setC {h0 h h' : Hp} {l1 : Sl} {P R : List EdS} {x : EdS} (W : Ws h0 h l1 (P ++ x :: R)) (hp : PW (P ++ x :: R)) (U : Upd h h' x.c x.c) {o : List ByteArray} (B : Buf h' x.c 1 9 (ptrV o)) : Ws h0 h' l1 (P ++ ⟨{ x.e with ptr := o }, x.a, x.b, x.c⟩ :: R) := by
  have X := W.x
  refine ⟨?_, fun y hy => ?_, fun y hy => ?_, W.N1, (keep_grow W.K W.nx.2.2 U).1⟩
  · have e : edV (P ++ ⟨{ x.e with ptr := o }, x.a, x.b, x.c⟩ :: R) = edV (P ++ x :: R) := by simp [edV, EdS.cells]
    rw [e]
    exact W.B.upd U (buf_off W.B X.c (by decide))
  · rcases mem_mid hy with rfl | hy
    · exact ⟨X.a.upd U (buf_off X.a X.c (by decide)), X.b.upd U (buf_off X.b X.c (by decide)), B⟩
    · have Y := W.T y (mem_mid' hy)
      exact Y.upd U (buf_off Y.a X.c (by decide)) (buf_off Y.b X.c (by decide)) (hp.other hy).2.2
  · rcases mem_mid hy with rfl | hy
    · exact W.nx
    · exact W.N y (mem_mid' hy)
/-- Another list of texts is put into the list of edits. -/
theorem Ws.setL {h0 h h' : Hp} {l1 : Sl} {P R : List EdS} {x x' : EdS} (W : Ws h0 h l1 (P ++ x :: R)) (U : Upd h h' l1 l1) (B : Buf h' l1 6 60 (edV (P ++ x' :: R))) (T : Three h x') (N : (x'.a.a = none ∨ New h0 x'.a) ∧ (x'.b.a = none ∨ New h0 x'.b) ∧ (x'.c.a = none ∨ New h0 x'.c)) : Ws h0 h' l1 (P ++ x' :: R) := by
  have key : ∀ y, Three h y → Three h' y := fun y Y => Y.upd U (buf_off Y.a W.B (by decide)) (buf_off Y.b W.B (by decide)) (buf_off Y.c W.B (by decide))
  refine ⟨B, fun y hy => ?_, fun y hy => ?_, W.N1, (keep_grow W.K W.N1 U).1⟩
  · rcases mem_mid hy with rfl | hy
    · exact key _ T
    · exact key _ (W.T y (mem_mid' hy))
  · rcases mem_mid hy with rfl | hy
    · exact N
    · exact W.N y (mem_mid' hy)
/-- WRITING A CELL of a buffer. -/
theorem buf_set {h : Hp} {s : Sl} {sz t k : Nat} {vs : List Value} (B : Buf h s sz t vs) (hk : k < vs.length) : ∃ b, s.a = some ⟨b, 0, none⟩ ∧ h.at b k = vs[k]? ∧ h.canW b k 1 ∧ ∀ v, Upd h (h.wr b k [v]) s s ∧ Buf (h.wr b k [v]) s sz t (vs.set k v) := by
  rcases B.own with ⟨ha, hc⟩ | ⟨b, c, f, ha, hb, hsz, hf, ht⟩
  · have h1 := B.len
    have h2 := B.cap
    have : s.n = 0 := by omega
    rw [this, Nat.zero_mul] at h1
    omega
  · have hlen : vs.length ≤ c.size := by
      rw [B.len]
      exact Nat.le_trans (Nat.mul_le_mul_right _ B.cap) hsz
    have hget : c[k]? = vs[k]? := by
      rw [← ht, List.getElem?_take, if_pos hk, Array.getElem?_toList]
    refine ⟨b, ha, by unfold Hp.at; rw [hb]; exact hget, ⟨c, t, f, hb, by omega, fun j h1 h2 => hf j (by omega)⟩, fun v => ⟨⟨fun j x hj e => ?_, .inl rfl, fun j e => ?_⟩, ⟨by rw [List.length_set]; exact B.len, B.cap, .inr ⟨b, (setL c.toList k [v]).toArray, f, ha, wr_at hb, ?_, ?_, ?_⟩⟩⟩⟩
    · have hjb : j ≠ b := fun q => hj 0 (by rw [q]; exact ha)
      unfold Hp.wr
      rw [if_neg hjb]
      exact e
    · unfold Hp.wr at e
      by_cases hjb : j = b
      · rw [if_pos hjb, hb] at e; cases e
      · rw [if_neg hjb] at e; exact e
    · simp only [List.size_toArray, setL_length, Array.length_toList]; exact hsz
    · intro j hj
      simp only [List.size_toArray, setL_length, Array.length_toList] at hj
      exact hf j hj
    · show ((c.toList.set k v).take (vs.set k v).length) = vs.set k v
      rw [List.length_set, List.take_set, ht]
theorem app_set {α : Type} (A B : List α) (j : Nat) (v : α) : (A ++ B).set (A.length + j) v = A ++ B.set j v := by
  rw [List.set_append_right _ _ (Nat.le_add_right _ _), Nat.add_sub_cancel_left]
theorem app_get {α : Type} (A B : List α) (j : Nat) : (A ++ B)[A.length + j]? = B[j]? := by
  rw [List.getElem?_append_right (Nat.le_add_right _ _), Nat.add_sub_cancel_left]
theorem outV_len (o : List Place) : (outV o).length = o.length * 2 := flat_length Place.cells 2 (fun _ => rfl) o
theorem inV_len (o : List Placed) : (inV o).length = o.length * 7 := flat_length Placed.cells 7 (fun _ => rfl) o
theorem edV_len (o : List EdS) : (edV o).length = o.length * 6 := flat_length EdS.cells 6 (fun _ => rfl) o
/-- COPIES. -/
theorem copied_spec {h : Hp} {l : Sl} {L : List EdS} {Q : Value → Hp → Prop} (A : Args h l L) (hp : parts L ≤ 10000)
    (hQ : ∀ h' l1 L', Ws h h' l1 L' → PW L' → L'.length = L.length → (∀ y ∈ L', Raw y.e ∧ y.e.size ≤ 10000 ∧ y.e.ptr.length ≤ 10000) → Q (.slice l1.a l1.n l1.c) h') : F49.T l h Q := by
  have hln := A.n
  have hpl := parts_len L
  refine ⟨fun l1 n h1 => ∃ (i : Nat) (L' : List EdS), n = (i : Int) ∧ i ≤ L.length ∧ L'.length = i ∧ Ws h h1 l1 L' ∧ PW L' ∧ ∀ y ∈ L', Raw y.e ∧ y.e.size ≤ 10000 ∧ y.e.ptr.length ≤ 10000, fun _ n _ => L.length - n.toNat, ⟨0, [], rfl, Nat.zero_le _, rfl, ⟨Buf.nil h 6 60, fun y hy => (by cases hy), fun y hy => (by cases hy), .inl rfl, Keep.refl h⟩, List.Pairwise.nil, fun y hy => (by cases hy)⟩, ?_⟩
  rintro l1 n h1 ⟨i, L', rfl, hi, hL', W, hpw, hg⟩
  refine ⟨fun hlt => ?_, fun hge => hQ h1 l1 L' W hpw (by omega) hg⟩
  have ia : i < L.length := by omega
  have hx := List.getElem_mem ia
  have hm := parts_mem hx
  have E := (A.at_ _ hx).keep W.K
  obtain ⟨b0, o0, ha0, hat⟩ := row_get (W.K.row A.row) (i := i * 6) (by omega)
  have cc : ∀ j, j < 6 → h1.at b0 ((o0 + i * 6) + j) = (EdS.cells L[i])[j]? := fun j hj => by
    rw [Nat.add_assoc, hat _ (by omega)]
    exact flat_get EdS.cells 6 (fun _ => rfl) L i j ia hj
  have e1 := E.nout
  have e2 := E.ninn
  have e3 := E.nptr
  have w3 : IntKind.wrap .i64 ((i : Int) + 1) = ((i + 1 : Nat) : Int) := by rw [wrap_i64 (by omega) (by omega)]; omega
  rw [Int.toNat_natCast, w3]
  refine ⟨b0, o0, ha0, ⟨by omega, hlt⟩, _, cc 0 (by decide), _, cc 1 (by decide), _, cc 2 (by decide), _, cc 3 (by decide), _, cc 4 (by decide), _, cc 5 (by decide), _, E.out, out_one _, ?_⟩
  refine append_buf (Buf.nil h1 2 89) rfl E.out.1 (by show (0 + _) * 16 ≤ _; omega) fun l5 h2 B5 n5 U5 => ⟨_, (U5.keepNil rfl).row E.inn, in_one _, ?_⟩
  have K5 := U5.keepNil rfl
  refine append_buf (Buf.nil h2 7 87) rfl E.inn.1 (by show (0 + _) * 72 ≤ _; omega) fun l6 h3 B6 n6 U6 => ?_
  have K6 := U6.keepNil rfl
  have hptr := (K5.trans K6).row E.ptr
  refine ⟨_, by rw [Nat.mul_one]; exact hptr, fun v hv => (by obtain ⟨s, _, rfl⟩ := List.mem_map.1 hv; rfl), ?_⟩
  refine append_buf (Buf.nil h3 1 9) rfl (by rw [Nat.mul_one]; exact hptr.1) (by show (0 + _) * 16 ≤ _; omega) fun l7 h4 B7 n7 U7 => ?_
  have K7 := U7.keepNil rfl
  have K14 := (K5.trans K6).trans K7
  have hb1 := ed_n W.B
  refine append_buf (W.B.keep K14) rfl rfl (by omega) fun l8 h5 B8 n8 U8 => ⟨⟨i + 1, L' ++ [⟨L[i].e, l5, l6, l7⟩], rfl, ia, by rw [List.length_append, hL']; rfl, ?_, ?_, ?_⟩, by dsimp only; omega⟩
  · rw [List.nil_append] at B5 B6 B7
    have X : Three h4 ⟨L[i].e, l5, l6, l7⟩ := ⟨B5.keep (K6.trans K7), B6.keep K7, B7⟩
    have key : ∀ y, Three h4 y → Three h5 y := fun y Y => Y.upd U8 (buf_off Y.a (W.B.keep K14) (by decide)) (buf_off Y.b (W.B.keep K14) (by decide)) (buf_off Y.c (W.B.keep K14) (by decide))
    have kg := keep_grow (W.K.trans K14) W.N1 U8
    have nn : ∀ {hh hh' : Hp} {s : Sl}, Keep h hh → Upd hh hh' ⟨none, 0, 0⟩ s → s.a = none ∨ New h s := by
      intro hh hh' s k u
      rcases u.at_ with h0 | ⟨b, hb, hn⟩
      · exact .inl h0
      · exact .inr ⟨b, hb, k.dom b hn⟩
    refine ⟨?_, fun y hy => ?_, fun y hy => ?_, kg.2, kg.1⟩
    · unfold edV at B8 ⊢
      rw [List.flatMap_append]
      simpa [EdS.cells] using B8
    · rcases List.mem_append.1 hy with hy | hy
      · exact key y ((W.T y hy).keep K14)
      · rw [List.mem_singleton] at hy; subst hy; exact key _ X
    · rcases List.mem_append.1 hy with hy | hy
      · exact W.N y hy
      · rw [List.mem_singleton] at hy; subst hy
        exact ⟨nn W.K U5, nn (W.K.trans K5) U6, nn (W.K.trans (K5.trans K6)) U7⟩
  · have nn : ∀ {hh hh' : Hp} {s : Sl}, Keep h1 hh → Upd hh hh' ⟨none, 0, 0⟩ s → s.a = none ∨ New h1 s := by
      intro hh hh' s k u
      rcases u.at_ with h0 | ⟨b, hb, hn⟩
      · exact .inl h0
      · exact .inr ⟨b, hb, k.dom b hn⟩
    unfold PW
    rw [List.pairwise_append]
    refine ⟨hpw, List.pairwise_singleton _ _, fun y hy z hz => ?_⟩
    rw [List.mem_singleton] at hz
    subst hz
    have Y := W.T y hy
    have a1 := new_off (nn (Keep.refl h1) U5) Y.a
    have a2 := new_off (nn K5 U6) Y.b
    have a3 := new_off (nn (K5.trans K6) U7) Y.c
    exact ⟨⟨a1.1, a2.1, a3.1⟩, ⟨a1.2, a2.2, a3.2⟩⟩
  · intro y hy
    rcases List.mem_append.1 hy with hy | hy
    · exact hg y hy
    · rw [List.mem_singleton] at hy; subst hy
      exact ⟨A.raw L[i] hx, by show L[i].e.out.length + L[i].e.inn.length ≤ 10000; omega, by show L[i].e.ptr.length ≤ 10000; omega⟩
end Go.Eng.Ytblghgacokoklaa
