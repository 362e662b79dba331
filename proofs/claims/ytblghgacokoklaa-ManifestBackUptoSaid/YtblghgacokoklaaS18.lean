/-
  SPECS, 18: edits brought to where they may be written, all of them; are lists of edits alike.
-/
import Derived.Test.YtblghgacokoklaaS17
set_option linter.unusedSimpArgs false
set_option linter.unusedVariables false
namespace Go.Eng.Ytblghgacokoklaa
theorem right_ptr {h0 h : Hp} {l1 : Sl} {P R : List EdS} {x : EdS} {Rx : Hp → Prop} (W : Ws h0 h l1 (P ++ x :: R)) (hp : PW (P ++ x :: R)) (hsz : x.e.ptr.length ≤ 10000)
    (hR : ∀ h' o, Ws h0 h' l1 (P ++ ⟨{ x.e with ptr := o }, x.a, x.b, x.c⟩ :: R) → o.length = x.e.ptr.length → (∀ p ∈ o, p.size ≤ 64) → Rx h') :
    ∃ (I3 : Int → Hp → Prop) (m3 : Int → Hp → Nat), I3 0 h ∧ (∀ n10 : Int, ∀ h7 : Hp, I3 n10 h7 → ∃ b11 o11, (l1.a : Option Addr) = some ⟨b11, o11, none⟩ ∧ ((0 : Int) ≤ (P.length : Int) ∧ (P.length : Int) < (l1.n : Int)) ∧ ∃ l9 : Sl, h7.at b11 ((o11 + (P.length : Int).toNat * 6) + 5) = some (.slice l9.a l9.n l9.c) ∧ par (n10 < (l9.n : Int)) (∃ b12 o12, (l1.a : Option Addr) = some ⟨b12, o12, none⟩ ∧ ((0 : Int) ≤ (P.length : Int) ∧ (P.length : Int) < (l1.n : Int)) ∧ ∃ l10 : Sl, h7.at b12 ((o12 + (P.length : Int).toNat * 6) + 5) = some (.slice l10.a l10.n l10.c) ∧ ∃ b13 o13, (l1.a : Option Addr) = some ⟨b13, o13, none⟩ ∧ ((0 : Int) ≤ (P.length : Int) ∧ (P.length : Int) < (l1.n : Int)) ∧ ∃ l11 : Sl, h7.at b13 ((o13 + (P.length : Int).toNat * 6) + 5) = some (.slice l11.a l11.n l11.c) ∧ ∃ b14 o14, (l11.a : Option Addr) = some ⟨b14, o14, none⟩ ∧ ((0 : Int) ≤ n10 ∧ n10 < (l11.n : Int)) ∧ ∃ s4 : ByteArray, h7.at b14 (o14 + n10.toNat) = some (.string s4) ∧ ∃ b15 o15, (l1.a : Option Addr) = some ⟨b15, o15, none⟩ ∧ ((0 : Int) ≤ (P.length : Int) ∧ (P.length : Int) < (l1.n : Int)) ∧ ∃ l12 : Sl, h7.at b15 ((o15 + (P.length : Int).toNat * 6) + 5) = some (.slice l12.a l12.n l12.c) ∧ ∃ b16 o16, (l12.a : Option Addr) = some ⟨b16, o16, none⟩ ∧ ((0 : Int) ≤ n10 ∧ n10 < (l12.n : Int)) ∧ ∃ s5 : ByteArray, h7.at b16 (o16 + n10.toNat) = some (.string s5) ∧ okSub s4 0 (iMin (s5.size : Int) 64) ∧ ∃ b17 o17, (l10.a : Option Addr) = some ⟨b17, o17, none⟩ ∧ ((0 : Int) ≤ n10 ∧ n10 < (l10.n : Int)) ∧ h7.canW b17 (o17 + n10.toNat) 1 ∧ I3 (IntKind.wrap .i64 (n10 + 1)) (h7.wr b17 (o17 + n10.toNat) [.string (s4.extract (0 : Int).toNat ((iMin (s5.size : Int) 64) : Int).toNat)]) ∧ m3 (IntKind.wrap .i64 (n10 + 1)) (h7.wr b17 (o17 + n10.toNat) [.string (s4.extract (0 : Int).toNat ((iMin (s5.size : Int) 64) : Int).toNat)]) < m3 n10 h7) (Rx h7)) := by
  refine ⟨fun n1 h3 => ∃ G S : List ByteArray, n1 = (G.length : Int) ∧ (G ++ S).length = x.e.ptr.length ∧ (∀ p ∈ G, p.size ≤ 64) ∧ Ws h0 h3 l1 (P ++ ⟨{ x.e with ptr := G ++ S }, x.a, x.b, x.c⟩ :: R), fun n1 _ => x.e.ptr.length - n1.toNat, ⟨[], x.e.ptr, rfl, rfl, fun p hp => (by cases hp), W⟩, ?_⟩
  rintro n1 h3 ⟨G, S, rfl, hlen, hG, W1⟩
  obtain ⟨b, o, ha, hn, hat⟩ := W1.at_
  have hc := hat 5 (by decide)
  have hxa : x.c.n = (G ++ S).length := pt_n W1.x.c
  rw [Int.toNat_natCast]
  refine ⟨b, o, ha, ⟨by omega, hn⟩, x.c, hc, fun hlt => ?_, fun hge => ?_⟩
  · rcases S with _ | ⟨p, S⟩
    · simp only [List.append_nil] at hxa; omega
    rw [List.length_append, List.length_cons] at hlen
    have e0 : ptrV (G ++ p :: S) = ptrV G ++ (.string p :: ptrV S) := by simp [ptrV]
    have B0 : Buf h3 x.c 1 9 (ptrV G ++ (.string p :: ptrV S)) := by rw [← e0]; exact W1.x.c
    obtain ⟨b7, hb7⟩ := buf_b B0 (by simp only [List.length_append, List.length_cons]; omega)
    have hA : G.length = (ptrV G).length := (List.length_map _).symm
    obtain ⟨q0, c0, z0⟩ := buf_set2 B0 (j := 0) (by simp only [List.length_cons]; omega) hb7
    have k1 := cut_str p
    have z1 := z0 (.string (p.extract (0 : Int).toNat ((iMin (p.size : Int) 64) : Int).toNat))
    simp only [List.set_cons_zero] at z1
    have e6 : ptrV G ++ (.string (p.extract (0 : Int).toNat ((iMin (p.size : Int) 64) : Int).toNat) :: ptrV S) = ptrV ((G ++ [p.extract (0 : Int).toNat ((iMin (p.size : Int) 64) : Int).toNat]) ++ S) := by simp [ptrV]
    rw [e6] at z1
    have w3 : IntKind.wrap .i64 ((G.length : Int) + 1) = ((G.length + 1 : Nat) : Int) := by rw [wrap_i64 (by omega) (by omega)]; omega
    have q1 : h3.at b7 (0 + ((G.length : Int)).toNat) = some (.string p) := by rw [Int.toNat_natCast, Nat.zero_add, hA]; exact q0
    refine ⟨b, o, ha, ⟨by omega, hn⟩, x.c, hc, b, o, ha, ⟨by omega, hn⟩, x.c, hc, b7, 0, hb7, ⟨by omega, hlt⟩, p, q1, b, o, ha, ⟨by omega, hn⟩, x.c, hc, b7, 0, hb7, ⟨by omega, hlt⟩, p, q1, k1.1, b7, 0, hb7, ⟨by omega, hlt⟩, ?_⟩
    rw [w3, Int.toNat_natCast, Nat.zero_add, hA]
    refine ⟨c0, ⟨G ++ [p.extract (0 : Int).toNat ((iMin (p.size : Int) 64) : Int).toNat], S, by rw [List.length_append, hA]; rfl, by simp only [List.length_append, List.length_cons, List.length_nil]; omega, fun q hq => ?_, W1.setC (hp.swap rfl rfl rfl) z1.1 z1.2⟩, by dsimp only; omega⟩
    rcases List.mem_append.1 hq with hq | hq
    · exact hG q hq
    · rw [List.mem_singleton] at hq; subst hq
      exact k1.2
  · have hS0 : S = [] := by
      rw [List.length_append] at hxa
      exact List.eq_nil_of_length_eq_zero (by omega)
    subst hS0
    rw [List.append_nil] at W1 hlen
    exact hR h3 G W1 hlen hG
theorem cut_a (s : Sl) (k m : Int) {sz : Nat} : (Sl.cut s sz 0 k m).a = s.a := by
  unfold Sl.cut
  simp only [Int.toNat_zero, Nat.zero_mul]
  split
  · rfl
  · cases s.a with
    | none => rfl
    | some a => simp [Addr.add]
theorem buf_cut {h : Hp} {s : Sl} {t : Nat} {vs : List Value} (B : Buf h s 1 t vs) {k : Nat} (hk : k ≤ s.n) : Buf h (Sl.cut s 1 0 (k : Int) (s.c : Int)) 1 t (vs.take k) := by
  have hn : (Sl.cut s 1 0 (k : Int) (s.c : Int)).n = k := by simp [Sl.cut]
  have hc : (Sl.cut s 1 0 (k : Int) (s.c : Int)).c = s.c := by simp [Sl.cut]
  have hl := B.len
  have hcap := B.cap
  refine ⟨by rw [hn, List.length_take]; omega, by rw [hn, hc]; omega, ?_⟩
  rw [cut_a, hc]
  rcases B.own with h0 | ⟨b, c, f, ha, hb, hsz, hf, ht⟩
  · exact .inl h0
  · refine .inr ⟨b, c, f, ha, hb, hsz, hf, ?_⟩
    rw [List.length_take, ← ht, List.take_take]
    congr 1
    rw [ht]
/-- EDITS BROUGHT TO WHERE THEY MAY BE WRITTEN. -/
theorem right_spec {h : Hp} {l : Sl} {L : List EdS} {Q : Value → Hp → Prop} (A : Args h l L) (hparts : parts L ≤ 10000)
    (hQ : ∀ h' l1 L', Ws h h' l1 L' → L'.length ≤ 10000 → (∀ y ∈ L', Good y.e ∧ y.e.size ≤ 10000) → Q (.slice l1.a l1.n l1.c) h') : F17.T l h Q := by
  have hpl := parts_len L
  refine copied_spec A hparts fun h1 l1 L0 W0 hp0 hl0 hg0 => ⟨l1, rfl, ?_⟩
  refine ⟨fun n h2 => ∃ P R : List EdS, n = (P.length : Int) ∧ (P ++ R).length = L.length ∧ Ws h h2 l1 (P ++ R) ∧ PW (P ++ R) ∧ (∀ y ∈ P, Good y.e ∧ y.e.size ≤ 10000) ∧ ∀ y ∈ R, Raw y.e ∧ y.e.size ≤ 10000 ∧ y.e.ptr.length ≤ 10000, fun n _ => L.length - n.toNat, ⟨[], L0, rfl, hl0, W0, hp0, fun y hy => (by cases hy), hg0⟩, ?_⟩
  rintro n h2 ⟨P, R, rfl, hlen, W, hp, hP, hR⟩
  have hn1 := ed_n W.B
  refine ⟨fun hlt => ?_, fun hge => ?_⟩
  · rcases R with _ | ⟨x, R⟩
    · simp only [List.append_nil] at hn1; omega
    obtain ⟨xr, xs, xp⟩ := hR x List.mem_cons_self
    have xs1 : x.e.out.length + x.e.inn.length ≤ 10000 := xs
    refine right_out W hp xr.out (by omega) fun h3 o3 W3 hl3 hg3 => ?_
    have hp3 : PW (P ++ (⟨{ x.e with out := o3 }, x.a, x.b, x.c⟩ : EdS) :: R) := hp.swap rfl rfl rfl
    refine right_inn W3 hp3 xr.inn (by show x.e.inn.length ≤ 10000; omega) fun h5 o5 W5 hl5 hg5 => ?_
    have hp5 : PW (P ++ (⟨{ ({ x.e with out := o3 } : Edit) with inn := o5 }, x.a, x.b, x.c⟩ : EdS) :: R) := hp.swap rfl rfl rfl
    obtain ⟨b, o, ha, hn, hat⟩ := W5.at_
    have hc := hat 5 (by decide)
    have X5 := W5.x
    have hxc : x.c.n = x.e.ptr.length := pt_n X5.c
    have hcap : x.c.n ≤ x.c.c := X5.c.cap
    have k5 : iMin (x.c.n : Int) 5 = ((min x.c.n 5 : Nat) : Int) := iMin_nat x.c.n 5
    have hlen5 : (edV (P ++ (⟨{ ({ x.e with out := o3 } : Edit) with inn := o5 }, x.a, x.b, x.c⟩ : EdS) :: R)).length = (P.length + (R.length + 1)) * 6 := by rw [edV_len, List.length_append, List.length_cons]
    obtain ⟨b10, hb10, _, hcan, hset⟩ := buf_set W5.B (k := P.length * 6 + 5) (by rw [hlen5]; omega)
    rw [Int.toNat_natCast]
    refine ⟨b, o, ha, ⟨by omega, hn⟩, x.c, hc, b, o, ha, ⟨by omega, hn⟩, x.c, hc, by rw [k5]; exact ⟨by decide, by omega, by omega, by omega⟩, b10, 0, hb10, ⟨by omega, hn⟩, by rw [Nat.zero_add]; exact hcan, ?_⟩
    rw [k5, Nat.zero_add]
    have hs := hset (.slice (Sl.cut x.c 1 0 ((min x.c.n 5 : Nat) : Int) (x.c.c : Int)).a (Sl.cut x.c 1 0 ((min x.c.n 5 : Nat) : Int) (x.c.c : Int)).n (Sl.cut x.c 1 0 ((min x.c.n 5 : Nat) : Int) (x.c.c : Int)).c)
    let x6 : EdS := ⟨{ ({ ({ x.e with out := o3 } : Edit) with inn := o5 } : Edit) with ptr := x.e.ptr.take (min x.c.n 5) }, x.a, x.b, Sl.cut x.c 1 0 ((min x.c.n 5 : Nat) : Int) (x.c.c : Int)⟩
    have e6 : (edV (P ++ (⟨{ ({ x.e with out := o3 } : Edit) with inn := o5 }, x.a, x.b, x.c⟩ : EdS) :: R)).set (P.length * 6 + 5) (.slice (Sl.cut x.c 1 0 ((min x.c.n 5 : Nat) : Int) (x.c.c : Int)).a (Sl.cut x.c 1 0 ((min x.c.n 5 : Nat) : Int) (x.c.c : Int)).n (Sl.cut x.c 1 0 ((min x.c.n 5 : Nat) : Int) (x.c.c : Int)).c) = edV (P ++ x6 :: R) := by
      have e1 : ∀ y : EdS, edV (P ++ y :: R) = edV P ++ (EdS.cells y ++ edV R) := fun y => by simp [edV]
      rw [e1, e1, ← edV_len, app_set]
      rfl
    rw [e6] at hs
    have T6 : Three h5 x6 := ⟨X5.a, X5.b, by
      have := buf_cut X5.c (k := min x.c.n 5) (by show min x.c.n 5 ≤ x.c.n; omega)
      have e : (ptrV x.e.ptr).take (min x.c.n 5) = ptrV (x.e.ptr.take (min x.c.n 5)) := by unfold ptrV; rw [List.map_take]
      show Buf h5 (Sl.cut x.c 1 0 ((min x.c.n 5 : Nat) : Int) (x.c.c : Int)) 1 9 (ptrV (x.e.ptr.take (min x.c.n 5)))
      rw [← e]
      exact this⟩
    have N5 := W5.nx
    have N6 : (x6.a.a = none ∨ New h x6.a) ∧ (x6.b.a = none ∨ New h x6.b) ∧ (x6.c.a = none ∨ New h x6.c) := by
      refine ⟨N5.1, N5.2.1, ?_⟩
      have := N5.2.2
      unfold New at this ⊢
      rw [show x6.c.a = x.c.a from cut_a _ _ _]
      exact this
    have W6 := W5.setL hs.1 hs.2 T6 N6
    have hp6 : PW (P ++ x6 :: R) := hp.swap rfl rfl (cut_a _ _ _)
    have hl6 : x6.e.ptr.length ≤ 5 := by
      show (x.e.ptr.take (min x.c.n 5)).length ≤ 5
      rw [List.length_take]; omega
    have w3 : IntKind.wrap .i64 ((P.length : Int) + 1) = ((P.length + 1 : Nat) : Int) := by
      rw [List.length_append, List.length_cons] at hlen
      rw [wrap_i64 (by omega) (by omega)]; omega
    have rp := right_ptr (Rx := fun h7 => (∃ P' R' : List EdS, ((P.length + 1 : Nat) : Int) = (P'.length : Int) ∧ (P' ++ R').length = L.length ∧ Ws h h7 l1 (P' ++ R') ∧ PW (P' ++ R') ∧ (∀ y ∈ P', Good y.e ∧ y.e.size ≤ 10000) ∧ ∀ y ∈ R', Raw y.e ∧ y.e.size ≤ 10000 ∧ y.e.ptr.length ≤ 10000) ∧ L.length - ((P.length + 1 : Nat) : Int).toNat < L.length - ((P.length : Int)).toNat) W6 hp6 (by omega) (fun h7 o7 W7 hl7 hg7 => ?_)
    · rw [w3]
      rw [Int.toNat_natCast] at rp
      exact rp
    · rw [List.length_append, List.length_cons] at hlen
      refine ⟨⟨P ++ [⟨{ x6.e with ptr := o7 }, x6.a, x6.b, x6.c⟩], R, by rw [List.length_append]; rfl, by simp only [List.length_append, List.length_cons, List.length_nil]; omega, by rw [List.append_assoc]; exact W7, by rw [List.append_assoc]; exact hp6.swap rfl rfl rfl, fun y hy => ?_, fun y hy => hR y (List.mem_cons_of_mem _ hy)⟩, by omega⟩
      rcases List.mem_append.1 hy with hy | hy
      · exact hP y hy
      · rw [List.mem_singleton] at hy
        subst hy
        exact ⟨⟨xr.log, xr.next, xr.seq, hg3, hg5, hg7, by show o7.length ≤ 5; omega⟩, by show o3.length + o5.length ≤ 10000; have hl5' : o5.length = x.e.inn.length := hl5
                                                                                          omega⟩
  · have hR0 : R = [] := by
      rw [List.length_append] at hn1 hlen
      exact List.eq_nil_of_length_eq_zero (by omega)
    subst hR0
    rw [List.append_nil] at W hlen
    exact hQ h2 l1 P W (by omega) hP
/-- Are two lists of edits alike? -/
theorem edits_eq {h : Hp} {l m : Sl} {L M : List EdS} {Q : Value → Hp → Prop} (hl : h.row l.a (l.n * 6) (edV L)) (hm : h.row m.a (m.n * 6) (edV M)) (hL : ∀ x ∈ L, EdAt h x.e x.a x.b x.c) (hM : ∀ x ∈ M, EdAt h x.e x.a x.b x.c) (hs : ∀ x ∈ M, x.e.out.length ≤ 1000000000000 ∧ x.e.inn.length ≤ 1000000000000 ∧ x.e.ptr.length ≤ 1000000000000) (hn : M.length ≤ 1000000000000)
    (hE : L.map EdS.e = M.map EdS.e) (hT : Q (.bool true) h) : F12.T l m h Q := by
  have n1 : l.n = L.length := by have h1 := hl.1; rw [edV_len] at h1; omega
  have n2 : m.n = M.length := by have h1 := hm.1; rw [edV_len] at h1; omega
  have n3 : L.length = M.length := by have := congrArg List.length hE; rwa [List.length_map, List.length_map] at this
  refine ⟨fun _ => ?_, fun hne => absurd (by omega) hne⟩
  refine ⟨fun n h1 => h1 = h ∧ ∃ i : Nat, n = (i : Int) ∧ i ≤ L.length, fun n _ => L.length - n.toNat, ⟨rfl, 0, rfl, Nat.zero_le _⟩, ?_⟩
  rintro n h1 ⟨rfl, i, rfl, hi⟩
  refine ⟨fun hlt => ?_, fun _ => hT⟩
  have ia : i < L.length := by omega
  have ib : i < M.length := by omega
  have hee : L[i].e = M[i].e := by
    have := congrArg (fun l => l[i]?) hE
    simpa [ia, ib] using this
  obtain ⟨b0, o0, ha0, hat⟩ := row_get hl (i := i * 6) (by omega)
  obtain ⟨b1, o1, hb1, hbt⟩ := row_get hm (i := i * 6) (by omega)
  have cc : ∀ j, j < 6 → h1.at b0 ((o0 + i * 6) + j) = (EdS.cells L[i])[j]? := fun j hj => by
    rw [Nat.add_assoc, hat _ (by omega)]
    exact flat_get EdS.cells 6 (fun _ => rfl) L i j ia hj
  have dd : ∀ j, j < 6 → h1.at b1 ((o1 + i * 6) + j) = (EdS.cells M[i])[j]? := fun j hj => by
    rw [Nat.add_assoc, hbt _ (by omega)]
    exact flat_get EdS.cells 6 (fun _ => rfl) M i j ib hj
  rw [Int.toNat_natCast, next_i ia (by omega)]
  have hx := List.getElem_mem ib
  refine ⟨b0, o0, ha0, ⟨by omega, hlt⟩, _, cc 0 (by decide), _, cc 1 (by decide), _, cc 2 (by decide), _, cc 3 (by decide), _, cc 4 (by decide), _, cc 5 (by decide), b1, o1, hb1, ⟨by omega, by omega⟩, _, dd 0 (by decide), _, dd 1 (by decide), _, dd 2 (by decide), _, dd 3 (by decide), _, dd 4 (by decide), _, dd 5 (by decide), ?_⟩
  exact edit_eq (hL _ (List.getElem_mem ia)) (hM _ hx) (hs _ hx).1 (hs _ hx).2.1 (hs _ hx).2.2 (fun _ => ⟨true, rfl, fun _ => ⟨⟨rfl, i + 1, rfl, ia⟩, by dsimp only; omega⟩, fun h0 => (by cases h0)⟩) (fun hne => absurd hee hne)
end Go.Eng.Ytblghgacokoklaa
