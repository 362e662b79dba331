/-
  TEXTS OF MINE, JOINED: T10 T11 T12 T13 T14 T15 T16 T17 T18.
-/
import Derived.Test.YtblghgacokoklaaDoorK5
section
/-
  SPECS, 10: Get.
-/
set_option linter.unusedSimpArgs false
set_option linter.unusedVariables false
namespace Go.Eng.YtblghgacokoklaaDoor
def zE : Edit := ⟨0, 0, 0, [], [], []⟩
def pl0 : Placed := ⟨0, 0, 0, 0, 0, ⟨#[]⟩, ⟨#[]⟩⟩
def joinE (cur x : Edit) (part : List (List Int)) : Edit := if part.length = 0 then x else ⟨x.log, x.next, x.seq, cur.out ++ x.out, cur.inn ++ x.inn, x.ptr⟩
def withP (e : Edit) : Edit := ⟨e.log, e.next, e.seq, e.out, e.inn ++ [pl0], e.ptr⟩
/-- What Get tells: of the records that are left; the edits so far, the edit that is read, its records. -/
def getR : List (List Int) → List Edit → Edit → List (List Int) → Option (List Edit)
  | [], acc, cur, part => if part.length = 0 then some acc else if sameP (withP cur) part false = true then some acc else none
  | r :: rs, acc, cur, part =>
    match rd r with
    | none => none
    | some x => if x.2 = true then (if sameP (joinE cur x.1 part) (part ++ [r]) true = true then getR rs (acc ++ [joinE cur x.1 part]) zE [] else none) else getR rs acc (joinE cur x.1 part) (part ++ [r])
theorem getR_none {r : List Int} {rs part : List (List Int)} {acc : List Edit} {cur : Edit} (h : rd r = none) : getR (r :: rs) acc cur part = none := by
  unfold getR; rw [h]
theorem getR_some {r : List Int} {rs part : List (List Int)} {acc : List Edit} {cur : Edit} {x : Edit × Bool} (h : rd r = some x) : getR (r :: rs) acc cur part = if x.2 = true then (if sameP (joinE cur x.1 part) (part ++ [r]) true = true then getR rs (acc ++ [joinE cur x.1 part]) zE [] else none) else getR rs acc (joinE cur x.1 part) (part ++ [r]) := by
  conv => lhs; unfold getR
  rw [h]
/-- How much records hold. -/
def tot (l : List (List Int)) : Nat := (l.map fun r => r.length + 1).sum
theorem tot_append (a b : List (List Int)) : tot (a ++ b) = tot a + tot b := by simp [tot]
theorem tot_take_succ {l : List (List Int)} {i : Nat} (h : i < l.length) : tot (l.take (i + 1)) = tot (l.take i) + (l[i].length + 1) := by
  rw [List.take_succ_eq_append_getElem h, tot_append]
  simp [tot]
theorem tot_mem {l : List (List Int)} {r : List Int} (h : r ∈ l) : r.length + 1 ≤ tot l := by
  induction l with
  | nil => cases h
  | cons a l ih =>
    have e : tot (a :: l) = a.length + 1 + tot l := by simp [tot]
    rcases List.mem_cons.1 h with rfl | h
    · omega
    · have := ih h; omega
theorem tot_len (l : List (List Int)) : l.length ≤ tot l := by
  induction l with
  | nil => simp
  | cons a l ih =>
    have e : tot (a :: l) = a.length + 1 + tot l := by simp [tot]
    rw [e, List.length_cons]; omega
theorem tot_take (l : List (List Int)) (i : Nat) : tot (l.take i) ≤ tot l := by
  have := tot_append (l.take i) (l.drop i)
  rw [List.take_append_drop] at this
  omega
/-- An edit and where its lists lie. -/
structure EdS where
  e : Edit
  a : Sl
  b : Sl
  c : Sl
def EdS.cells (x : EdS) : List Value := [.int .u64 x.e.log, .int .u64 x.e.next, .int .u64 x.e.seq, .slice x.a.a x.a.n x.a.c, .slice x.b.a x.b.n x.b.c, .slice x.c.a x.c.n x.c.c]
def edV (l : List EdS) : List Value := l.flatMap EdS.cells
theorem ed_n {h : Hp} {l : Sl} {t : Nat} {o : List EdS} (B : Buf h l 6 t (edV o)) : l.n = o.length := by
  have h1 := B.len
  unfold edV at h1
  rw [flat_length EdS.cells 6 (fun _ => rfl)] at h1
  omega
structure EdOk (h : Hp) (x : EdS) : Prop where
  out : Buf h x.a 2 104 (outV x.e.out)
  inn : Buf h x.b 7 108 (inV x.e.inn)
  ptr : Buf h x.c 1 9 (ptrV x.e.ptr)
  val : x.e.valid
  size : x.e.out.length + x.e.inn.length ≤ 400000000000
  nptr : x.e.ptr.length ≤ 1000000000
theorem EdOk.at {h : Hp} {x : EdS} (E : EdOk h x) : EdAt h x.e x.a x.b x.c := ⟨E.out.row, E.inn.row, by have := E.ptr.row; rw [Nat.mul_one] at this; exact this⟩
theorem EdOk.keep {h h' : Hp} (k : Keep h h') {x : EdS} (E : EdOk h x) : EdOk h' x := ⟨E.out.keep k, E.inn.keep k, E.ptr.keep k, E.val, E.size, E.nptr⟩
theorem EdOk.upd {h h' : Hp} {s s' : Sl} {sz t : Nat} {vs : List Value} (U : Upd h h' s s') (B : Buf h s sz t vs) (t1 : 104 ≠ t) (t2 : 108 ≠ t) (t3 : 9 ≠ t) {x : EdS} (E : EdOk h x) : EdOk h' x :=
  ⟨E.out.upd U (buf_off E.out B t1), E.inn.upd U (buf_off E.inn B t2), E.ptr.upd U (buf_off E.ptr B t3), E.val, E.size, E.nptr⟩
theorem EdB.at {h0 h : Hp} {e : Edit} {l1 l2 l3 : Sl} (E : EdB h0 h e l1 l2 l3) : EdAt h e l1 l2 l3 := ⟨E.out.row, E.inn.row, by have := E.ptr.row; rw [Nat.mul_one] at this; exact this⟩
theorem EdB.keep {h0 h h' : Hp} (k : Keep h h') {e : Edit} {l1 l2 l3 : Sl} (E : EdB h0 h e l1 l2 l3) : EdB h0 h' e l1 l2 l3 := ⟨E.out.keep k, E.inn.keep k, E.ptr.keep k, E.n1, E.n2, E.n3⟩
theorem EdB.upd {h0 h h' : Hp} {s s' : Sl} {sz t : Nat} {vs : List Value} (U : Upd h h' s s') (B : Buf h s sz t vs) (t1 : 104 ≠ t) (t2 : 108 ≠ t) (t3 : 9 ≠ t) {e : Edit} {l1 l2 l3 : Sl} (E : EdB h0 h e l1 l2 l3) : EdB h0 h' e l1 l2 l3 :=
  ⟨E.out.upd U (buf_off E.out B t1), E.inn.upd U (buf_off E.inn B t2), E.ptr.upd U (buf_off E.ptr B t3), E.n1, E.n2, E.n3⟩
theorem new_mono {h h1 : Hp} (k : Keep h h1) {s : Sl} (N : s.a = none ∨ New h1 s) : s.a = none ∨ New h s := by
  rcases N with h0 | ⟨b, hb, hn⟩
  · exact .inl h0
  · exact .inr ⟨b, hb, k.dom b hn⟩
theorem EdB.mono {h0 h1 h : Hp} (k : Keep h0 h1) {e : Edit} {l1 l2 l3 : Sl} (E : EdB h1 h e l1 l2 l3) : EdB h0 h e l1 l2 l3 := ⟨E.out, E.inn, E.ptr, new_mono k E.n1, new_mono k E.n2, new_mono k E.n3⟩
theorem zE_b (h : Hp) : EdB h h zE ⟨none, 0, 0⟩ ⟨none, 0, 0⟩ ⟨none, 0, 0⟩ := ⟨Buf.nil h 2 104, Buf.nil h 7 108, Buf.nil h 1 9, .inl rfl, .inl rfl, .inl rfl⟩
theorem zE_valid : zE.valid := ⟨⟨by decide, by decide⟩, ⟨by decide, by decide⟩, ⟨by decide, by decide⟩, fun p hp => (by cases hp), fun p hp => (by cases hp)⟩
theorem out_one (o : List Place) : ∀ v ∈ outV o, Value.oneCell' v = true := by
  intro v hv
  obtain ⟨p, _, hp⟩ := List.mem_flatMap.1 hv
  simp only [Place.cells, List.mem_cons, List.not_mem_nil, or_false] at hp
  rcases hp with rfl | rfl <;> rfl
theorem in_one (o : List Placed) : ∀ v ∈ inV o, Value.oneCell' v = true := by
  intro v hv
  obtain ⟨p, _, hp⟩ := List.mem_flatMap.1 hv
  simp only [Placed.cells, List.mem_cons, List.not_mem_nil, or_false] at hp
  rcases hp with rfl | rfl | rfl | rfl | rfl | rfl | rfl <;> rfl
theorem outV_append (a b : List Place) : outV (a ++ b) = outV a ++ outV b := by simp [outV]
theorem inV_append (a b : List Placed) : inV (a ++ b) = inV a ++ inV b := by simp [inV]
theorem part_succ {α : Type} {l : List α} {f i : Nat} (hf : f ≤ i) (hi : i < l.length) : (l.drop f).take (i + 1 - f) = (l.drop f).take (i - f) ++ [l[i]] := by
  have h1 : i - f < (l.drop f).length := by rw [List.length_drop]; omega
  rw [show i + 1 - f = (i - f) + 1 by omega, List.take_succ_eq_append_getElem h1]
  congr 2
  rw [List.getElem_drop]
  congr 1
  omega
/-- The records that Get is given. -/
structure Recs (h : Hp) (l : Sl) (ss : List Sl) (recs : List (List Int)) : Prop where
  row : h.row l.a l.n (slV ss)
  cap : l.n ≤ l.c
  rows : Rows h ss recs
  caps : ∀ s ∈ ss, s.n ≤ s.c
  ok : ∀ r ∈ recs, ∀ c ∈ r, 0 ≤ c ∧ c < 256
  each : ∀ r ∈ recs, r.length ≤ 1000000000
  tot : tot recs ≤ 200000000000
theorem get_spec {h : Hp} {l : Sl} {ss : List Sl} {recs : List (List Int)} {Q : Value → Hp → Prop} (A : Recs h l ss recs)
    (hN : ∀ h', Keep h h' → getR recs [] zE [] = none → Q (.tuple ⟨[.slice none 0 0, .int .i64 140]⟩) h')
    (hS : ∀ h' l1 (L : List EdS), Keep h h' → getR recs [] zE [] = some (L.map EdS.e) → Buf h' l1 6 65 (edV L) → (∀ x ∈ L, EdOk h' x) → (l1.a = none ∨ New h l1) → L.length ≤ 200000000000 → Q (.tuple ⟨[.slice l1.a l1.n l1.c, .int .i64 0]⟩) h') : F69.T l h Q := by
  have hss : ss.length = recs.length := A.rows.1
  have hln : l.n = recs.length := by have := A.row.1; rw [slV_length, hss] at this; exact this.symm
  have hrl := tot_len recs
  have htot := A.tot
  have hy : ∀ y ∈ recs, y.length ≤ 1000000000000 := fun y hy => by have := tot_mem hy; omega
  have hcap := A.cap
  unfold F69.T
  refine ⟨fun l1 n n1 n2 n3 n4 l2 l3 l4 h1 => ∃ (i f : Nat) (L : List EdS) (cur : Edit) (hs : Hp), n = (f : Int) ∧ n1 = (i : Int) ∧ f ≤ i ∧ i ≤ recs.length ∧ n2 = cur.log ∧ n3 = cur.next ∧ n4 = cur.seq ∧ Keep h hs ∧ Keep hs h1 ∧ (l1.a = none ∨ New h l1) ∧ Buf h1 l1 6 65 (edV L) ∧ (∀ x ∈ L, EdOk hs x) ∧ EdB hs h1 cur l2 l3 l4 ∧ cur.valid ∧ cur.out.length + cur.inn.length ≤ tot (recs.take i) ∧ cur.ptr.length ≤ 1000000000 ∧ L.length ≤ i ∧ getR (recs.drop i) (L.map EdS.e) cur ((recs.drop f).take (i - f)) = getR recs [] zE [],
    fun _ _ n1 _ _ _ _ _ _ _ => recs.length - n1.toNat, ⟨0, 0, [], zE, h, rfl, rfl, Nat.le_refl _, Nat.zero_le _, rfl, rfl, rfl, Keep.refl h, Keep.refl h, .inl rfl, Buf.nil h 6 65, fun x hx => (by cases hx), zE_b h, zE_valid, Nat.zero_le _, Nat.zero_le _, Nat.zero_le _, rfl⟩, ?_⟩
  rintro l1 n n1 n2 n3 n4 l2 l3 l4 h1 ⟨i, f, L, cur, hs, rfl, rfl, hfi, hi, rfl, rfl, rfl, K0, K1, N1, B1, hL, E, V, hsz, hpt, hLn, hG⟩
  refine ⟨fun hlt => ?_, fun hge => ?_⟩
  · have hi1 : i < recs.length := by omega
    have hi2 : i < ss.length := by omega
    obtain ⟨b, o, ha, hat⟩ := row_get ((K0.trans K1).row A.row) (i := i) (by omega)
    have hv : (slV ss)[i]? = some (.slice ss[i].a ss[i].n ss[i].c) := by simp [slV, hi2]
    refine ⟨b, o, ha, ⟨by omega, hlt⟩, ss[i], by rw [Int.toNat_natCast, hat i (by omega), hv], ?_⟩
    have hrow := (K0.trans K1).row (A.rows.2 i hi2 hi1)
    have hri := List.getElem_mem hi1
    have hrm := tot_mem hri
    have hre := A.each _ hri
    have hti := tot_take_succ hi1
    have htl := tot_take recs (i + 1)
    have hpart := part_succ hfi hi1
    have hplen : ((recs.drop f).take (i - f)).length = i - f := by rw [List.length_take, List.length_drop]; omega
    rw [List.drop_eq_getElem_cons hi1] at hG
    refine read_spec hrow (A.caps _ (List.getElem_mem hi2)) (A.ok _ hri) (by omega) (fun h2 K2 hno => ?_) (fun h2 x last k1 k2 k3 hso K2 E2 V2 hx => ?_)
    · rw [getR_none hno] at hG
      exact ⟨0, 0, 0, ⟨none, 0, 0⟩, ⟨none, 0, 0⟩, ⟨none, 0, 0⟩, false, fun h0 => (by cases h0), fun _ => ⟨false, fun h0 => (by cases h0), fun _ => ⟨rfl, hN h2 ((K0.trans K1).trans K2) hG.symm⟩⟩⟩
    rw [getR_some hso] at hG
    simp only at hG
    have hw : IntKind.wrap .i64 ((i : Int) + 1) = ((i + 1 : Nat) : Int) := next_i hi1 (by omega)
    have next : ∀ h4 q1 q2 J, J = joinE cur x ((recs.drop f).take (i - f)) → Keep hs h4 → Buf h4 l1 6 65 (edV L) → EdB hs h4 J q1 q2 k3 → J.valid → J.log = x.log → J.next = x.next → J.seq = x.seq → J.ptr = x.ptr → J.out.length + J.inn.length ≤ tot (recs.take (i + 1)) →
        (last = false → (∃ (i' f' : Nat) (L' : List EdS) (cur : Edit) (hs : Hp), (f : Int) = (f' : Int) ∧ ((i + 1 : Nat) : Int) = (i' : Int) ∧ f' ≤ i' ∧ i' ≤ recs.length ∧ x.log = cur.log ∧ x.next = cur.next ∧ x.seq = cur.seq ∧ Keep h hs ∧ Keep hs h4 ∧ (l1.a = none ∨ New h l1) ∧ Buf h4 l1 6 65 (edV L') ∧ (∀ x ∈ L', EdOk hs x) ∧ EdB hs h4 cur q1 q2 k3 ∧ cur.valid ∧ cur.out.length + cur.inn.length ≤ tot (recs.take i') ∧ cur.ptr.length ≤ 1000000000 ∧ L'.length ≤ i' ∧ getR (recs.drop i') (L'.map EdS.e) cur ((recs.drop f').take (i' - f')) = getR recs [] zE []) ∧ recs.length - (((i + 1 : Nat) : Int)).toNat < recs.length - ((i : Int)).toNat) ∧
        (last = true → Sl.okCut l (f : Int) ((i + 1 : Nat) : Int) (l.c : Int) ∧ F103.Tt x.log x.next x.seq q1 q2 k3 (Sl.cut l 1 (f : Int) ((i + 1 : Nat) : Int) (l.c : Int)) h4 fun r1 h5 => ∃ b3 : Bool, r1 = .bool b3 ∧ parB b3 (appendD l1 65 6 96 [.int .u64 0, .int .u64 0, .int .u64 0, .slice none 0 0, .slice none 0 0, .slice none 0 0] 1 [.int .u64 x.log, .int .u64 x.next, .int .u64 x.seq, .slice q1.a q1.n q1.c, .slice q2.a q2.n q2.c, .slice k3.a k3.n k3.c] h5 fun l11 h6 => (∃ (i' f' : Nat) (L' : List EdS) (cur : Edit) (hs : Hp), ((i + 1 : Nat) : Int) = (f' : Int) ∧ ((i + 1 : Nat) : Int) = (i' : Int) ∧ f' ≤ i' ∧ i' ≤ recs.length ∧ (0 : Int) = cur.log ∧ (0 : Int) = cur.next ∧ (0 : Int) = cur.seq ∧ Keep h hs ∧ Keep hs h6 ∧ (l11.a = none ∨ New h l11) ∧ Buf h6 l11 6 65 (edV L') ∧ (∀ x ∈ L', EdOk hs x) ∧ EdB hs h6 cur ⟨none, 0, 0⟩ ⟨none, 0, 0⟩ ⟨none, 0, 0⟩ ∧ cur.valid ∧ cur.out.length + cur.inn.length ≤ tot (recs.take i') ∧ cur.ptr.length ≤ 1000000000 ∧ L'.length ≤ i' ∧ getR (recs.drop i') (L'.map EdS.e) cur ((recs.drop f').take (i' - f')) = getR recs [] zE []) ∧ recs.length - (((i + 1 : Nat) : Int)).toNat < recs.length - ((i : Int)).toNat) (Q (.tuple ⟨[.slice none 0 0, .int .i64 140]⟩) h5)) := by
      intro h4 q1 q2 J hJ K4 B4 EJ VJ j1 j2 j3 j4 hJs
      have hm : recs.length - (((i + 1 : Nat) : Int)).toNat < recs.length - ((i : Int)).toNat := by omega
      have hJp : J.ptr.length ≤ 1000000000 := by rw [j4]; omega
      refine ⟨fun hl0 => ⟨⟨i + 1, f, L, J, hs, rfl, rfl, by omega, hi1, j1.symm, j2.symm, j3.symm, K0, K4, N1, B4, hL, EJ, VJ, hJs, hJp, by omega, ?_⟩, hm⟩, fun hl1 => ?_⟩
      · rw [hl0, if_neg (by decide), ← hJ] at hG
        rw [hpart]; exact hG
      · rw [hl1, if_pos rfl, ← hJ] at hG
        refine ⟨⟨by omega, by omega, by omega, by omega⟩, ?_⟩
        have hcut := cut_row A.row (i := f) (j := i + 1) (m := l.c) (by omega) (by omega) hcap
        have hR := A.rows.mid f (i + 1 - f)
        rw [← j1, ← j2, ← j3]
        refine same_t EJ.at EJ.out.cap EJ.inn.cap VJ (by omega) (by omega) ((K0.trans K4).row hcut) (hR.keep (K0.trans K4)) (by rw [List.length_take, List.length_drop]; omega) (fun y hym => hy y (List.mem_of_mem_drop (List.mem_of_mem_take hym))) fun h5 K5 => ⟨_, rfl, fun hT => ?_, fun hF => ?_⟩
        · rw [hpart] at hT
          rw [if_pos hT] at hG
          have hLl := ed_n B4
          refine append_buf (B4.keep K5) rfl rfl (by omega) fun l11 h6 B6 hn6 U6 => ⟨⟨i + 1, i + 1, L ++ [⟨J, q1, q2, k3⟩], zE, h6, rfl, rfl, Nat.le_refl _, hi1, rfl, rfl, rfl, ?_, Keep.refl h6, ?_, ?_, ?_, zE_b h6, zE_valid, Nat.zero_le _, Nat.zero_le _, ?_, ?_⟩, hm⟩
          · exact (keep_grow ((K0.trans K4).trans K5) N1 U6).1
          · exact (keep_grow ((K0.trans K4).trans K5) N1 U6).2
          · unfold edV at B6 ⊢
            rw [List.flatMap_append]
            simpa [EdS.cells] using B6
          · intro y hym
            rcases List.mem_append.1 hym with hym | hym
            · exact ((hL y hym).keep (K4.trans K5)).upd U6 (B4.keep K5) (by decide) (by decide) (by decide)
            · rw [List.mem_singleton] at hym
              subst hym
              have EJ' := (EJ.keep K5).upd U6 (B4.keep K5) (by decide) (by decide) (by decide)
              exact ⟨EJ'.out, EJ'.inn, EJ'.ptr, VJ, by show J.out.length + J.inn.length ≤ 400000000000; omega, by show J.ptr.length ≤ 1000000000; omega⟩
          · rw [List.length_append, List.length_singleton]; omega
          · rw [List.map_append, Nat.sub_self, List.take_zero]
            exact hG
        · rw [hpart] at hF
          rw [if_neg (by rw [hF]; decide)] at hG
          exact hN h5 ((K0.trans K4).trans K5) hG.symm
    have go : ∀ Kf : Sl → Sl → Hp → Prop, (∀ h4 q1 q2 J, J = joinE cur x ((recs.drop f).take (i - f)) → Keep hs h4 → Buf h4 l1 6 65 (edV L) → EdB hs h4 J q1 q2 k3 → J.valid → J.log = x.log → J.next = x.next → J.seq = x.seq → J.ptr = x.ptr → J.out.length + J.inn.length ≤ tot (recs.take (i + 1)) → Kf q1 q2 h4) →
        par ((f : Int) < (i : Int)) (∃ vs, h2.row k1.a (k1.n * 2) vs ∧ (∀ v ∈ vs, Value.oneCell' v = true) ∧ appendD l2 104 2 16 [.int .i64 0, .int .u64 0] k1.n vs h2 fun l9 h3 => ∃ vs1, h3.row k2.a (k2.n * 7) vs1 ∧ (∀ v ∈ vs1, Value.oneCell' v = true) ∧ appendD l3 108 7 72 [.int .i64 0, .int .u64 0, .int .i64 0, .int .i64 0, .int .i64 0, .string (ByteArray.mk #[]), .string (ByteArray.mk #[])] k2.n vs1 h3 fun l10 h4 => Kf l9 l10 h4) (Kf k1 k2 h2) := by
      intro Kf next
      refine ⟨fun hlt2 => ?_, fun hge2 => ?_⟩
      · have hpn : ¬ ((recs.drop f).take (i - f)).length = 0 := by omega
        refine ⟨_, E2.out.row, out_one _, ?_⟩
        have o2 := out_n E2.out
        have o1 := out_n E.out
        have p1 := in_n E.inn
        have p2 := in_n E2.inn
        have Ek := E.keep K2
        refine append_buf Ek.out rfl E2.out.len (by omega) fun l9 h3 B3 hn3 U3 => ?_
        have E3 := (EdOk.mk (x := ⟨x, k1, k2, k3⟩) E2.out E2.inn E2.ptr V2 (by show x.out.length + x.inn.length ≤ 400000000000; omega) (by show x.ptr.length ≤ 1000000000; omega))
        have i3 : Buf h3 k2 7 108 (inV x.inn) := E2.inn.upd U3 (buf_off E2.inn Ek.out (by decide))
        have q3 : Buf h3 k3 1 9 (ptrV x.ptr) := E2.ptr.upd U3 (buf_off E2.ptr Ek.out (by decide))
        have ci3 : Buf h3 l3 7 108 (inV cur.inn) := Ek.inn.upd U3 (buf_off Ek.inn Ek.out (by decide))
        have b3 : Buf h3 l1 6 65 (edV L) := (B1.keep K2).upd U3 (buf_off (B1.keep K2) Ek.out (by decide))
        obtain ⟨K3, N3⟩ := keep_grow (K1.trans K2) E.n1 U3
        refine ⟨_, i3.row, in_one _, ?_⟩
        refine append_buf ci3 rfl i3.len (by omega) fun l10 h4 B4 hn4 U4 => ?_
        have o4 : Buf h4 l9 2 104 (outV cur.out ++ outV x.out) := B3.upd U4 (buf_off B3 ci3 (by decide))
        have q4 : Buf h4 k3 1 9 (ptrV x.ptr) := q3.upd U4 (buf_off q3 ci3 (by decide))
        have b4 : Buf h4 l1 6 65 (edV L) := b3.upd U4 (buf_off b3 ci3 (by decide))
        obtain ⟨K4, N4⟩ := keep_grow K3 E.n2 U4
        have nn := next h4 l9 l10 (joinE cur x ((recs.drop f).take (i - f))) rfl K4 b4
        have hJe : joinE cur x ((recs.drop f).take (i - f)) = ⟨x.log, x.next, x.seq, cur.out ++ x.out, cur.inn ++ x.inn, x.ptr⟩ := by unfold joinE; rw [if_neg hpn]
        rw [hJe] at nn
        have nn := nn ⟨by rw [outV_append]; exact o4, by rw [inV_append]; exact B4, q4, N3, N4, new_mono K1 E2.n3⟩
          ⟨V2.log, V2.next, V2.seq, fun p hp => by rcases List.mem_append.1 hp with hp | hp; exact V.out p hp; exact V2.out p hp, fun p hp => by rcases List.mem_append.1 hp with hp | hp; exact V.inn p hp; exact V2.inn p hp⟩ rfl rfl rfl rfl
          (by show (cur.out ++ x.out).length + (cur.inn ++ x.inn).length ≤ _; simp only [List.length_append]; omega)
        exact nn
      · have hpn : ((recs.drop f).take (i - f)).length = 0 := by omega
        have hJe : joinE cur x ((recs.drop f).take (i - f)) = x := by unfold joinE; rw [if_pos hpn]
        have nn := next h2 k1 k2 (joinE cur x ((recs.drop f).take (i - f))) rfl (K1.trans K2) (B1.keep K2)
        rw [hJe] at nn
        have nn := nn (E2.mono K1) V2 rfl rfl rfl rfl (by omega)
        exact nn
    refine ⟨x.log, x.next, x.seq, k1, k2, k3, last, fun hl => ⟨true, fun _ => ⟨by rw [hl], ?_⟩, fun h0 => (by cases h0)⟩, fun hl => ⟨true, fun _ => ⟨by rw [hl], ?_⟩, fun h0 => (by cases h0)⟩⟩
    · rw [hw]
      exact go _ (fun h4 q1 q2 J a1 a2 a3 a4 a5 a6 a7 a8 a9 a10 => (next h4 q1 q2 J a1 a2 a3 a4 a5 a6 a7 a8 a9 a10).2 hl)
    · rw [hw]
      exact go _ (fun h4 q1 q2 J a1 a2 a3 a4 a5 a6 a7 a8 a9 a10 => (next h4 q1 q2 J a1 a2 a3 a4 a5 a6 a7 a8 a9 a10).1 hl)
  · have hie : i = recs.length := by omega
    subst hie
    rw [List.drop_length, getR] at hG
    have hplen : ((recs.drop f).take (recs.length - f)).length = recs.length - f := by rw [List.length_take, List.length_drop]; omega
    rw [hplen] at hG
    have p1 := in_n E.inn
    have htl := tot_take recs recs.length
    refine append_buf E.inn rfl rfl (by omega) fun l13 h9 B9 hn9 U9 => ?_
    obtain ⟨K9, N9⟩ := keep_grow K1 E.n2 U9
    have o9 : Buf h9 l2 2 104 (outV cur.out) := E.out.upd U9 (buf_off E.out E.inn (by decide))
    have q9 : Buf h9 l4 1 9 (ptrV cur.ptr) := E.ptr.upd U9 (buf_off E.ptr E.inn (by decide))
    have b9 : Buf h9 l1 6 65 (edV L) := B1.upd U9 (buf_off B1 E.inn (by decide))
    have fin : ∀ h', Keep h9 h' → getR recs [] zE [] = some (L.map EdS.e) → Q (.tuple ⟨[.slice l1.a l1.n l1.c, .int .i64 0]⟩) h' := fun h' K' hg =>
      hS h' l1 L ((K0.trans K9).trans K') hg (b9.keep K') (fun x hx => (hL x hx).keep (K9.trans K')) N1 (by omega)
    refine ⟨fun hlt => ⟨⟨by omega, by omega, by omega, by omega⟩, ?_⟩, fun hge2 => fin h9 (Keep.refl h9) ?_⟩
    · have hcut := cut_row A.row (i := f) (j := l.n) (m := l.c) (by omega) (Nat.le_refl _) hcap
      have hR := A.rows.mid f (l.n - f)
      rw [if_neg (by omega)] at hG
      have hpv : ∀ p ∈ (withP cur).inn, p.lv < 9223372036854775808 ∧ okU p.num ∧ p.weight < 9223372036854775808 ∧ p.bytes < 9223372036854775808 ∧ p.entries < 9223372036854775808 := fun p hp => by
        rcases List.mem_append.1 hp with hp | hp
        · exact V.inn p hp
        · rw [List.mem_singleton] at hp
          subst hp
          exact ⟨by decide, ⟨by decide, by decide⟩, by decide, by decide, by decide⟩
      have EW : EdB hs h9 (withP cur) l2 l13 l4 := ⟨o9, by show Buf h9 l13 7 108 (inV (cur.inn ++ [pl0])); rw [inV_append]; exact B9, q9, E.n1, N9, E.n3⟩
      refine same_f (e := withP cur) EW.at EW.out.cap EW.inn.cap ⟨V.log, V.next, V.seq, V.out, hpv⟩ ?_ (by show cur.ptr.length < _; omega) ((K0.trans K9).row hcut) (hR.keep (K0.trans K9)) (by rw [List.length_take, List.length_drop]; omega) (fun y hym => hy y (List.mem_of_mem_drop (List.mem_of_mem_take hym))) fun h5 K5 => ⟨_, rfl, fun hT => ?_, fun hF => ?_⟩
      · show cur.out.length + (cur.inn ++ [pl0]).length ≤ 1000000000000
        rw [List.length_append, List.length_singleton]; omega
      · rw [hln] at hT
        rw [if_pos hT] at hG
        exact fin h5 K5 hG.symm
      · rw [hln] at hF
        rw [if_neg (by rw [hF]; decide)] at hG
        exact hN h5 ((K0.trans K9).trans K5) hG.symm
    · rw [if_pos (by omega)] at hG
      exact hG.symm
end Go.Eng.YtblghgacokoklaaDoor
end
section
/-
  SPECS, 11: are edits alike; a name; the chapter's example; are there few enough.
-/
set_option linter.unusedSimpArgs false
set_option linter.unusedVariables false
namespace Go.Eng.YtblghgacokoklaaDoor
theorem texts_eq {h : Hp} {l l1 : Sl} {a b : List ByteArray} {Q : Value → Hp → Prop} (ha : h.row l.a l.n (ptrV a)) (hb : h.row l1.a l1.n (ptrV b)) (hs : b.length ≤ 1000000000000)
    (hT : a = b → Q (.bool true) h) (hF : a ≠ b → Q (.bool false) h) : F37.T l l1 h Q := by
  have hla : l.n = a.length := by have := ha.1; unfold ptrV at this; rw [List.length_map] at this; exact this.symm
  have hlb : l1.n = b.length := by have := hb.1; unfold ptrV at this; rw [List.length_map] at this; exact this.symm
  unfold F37.T
  refine ⟨fun he => ?_, fun hne => hF fun e => hne (by rw [hla, hlb, e])⟩
  have hl : a.length = b.length := by omega
  refine ⟨fun n h1 => h1 = h ∧ ∃ i : Nat, n = (i : Int) ∧ i ≤ a.length ∧ a.take i = b.take i, fun n _ => a.length - n.toNat, ⟨rfl, 0, rfl, Nat.zero_le _, by simp⟩, ?_⟩
  rintro n h1 ⟨rfl, i, rfl, hi, ht⟩
  refine ⟨fun hlt => ?_, fun hge => hT (all_take2 hl (by omega) ht)⟩
  have ia : i < a.length := by omega
  have ib : i < b.length := by omega
  obtain ⟨b0, o0, ha0, hat⟩ := row_get ha (i := i) (by omega)
  obtain ⟨b1, o1, hb1, hbt⟩ := row_get hb (i := i) (by omega)
  refine ⟨b0, o0, ha0, ⟨by omega, hlt⟩, a[i], ?_, b1, o1, hb1, ⟨by omega, by omega⟩, b[i], ?_, fun e => ⟨⟨rfl, i + 1, next_i ia (by omega), ia, take_step ia ib ht e⟩, ?_⟩, fun e => hF (ne_at ia ib e)⟩
  · rw [Int.toNat_natCast, hat i (by omega)]; simp [ptrV, ia]
  · rw [Int.toNat_natCast, hbt i (by omega)]; simp [ptrV, ib]
  · rw [next_i ia (by omega)]
    show a.length - ((i + 1 : Nat) : Int).toNat < a.length - (i : Int).toNat
    omega
theorem place_inj {p q : Place} (h : p.cells = q.cells) : p = q := by
  cases p; cases q
  simp only [Place.cells, List.cons.injEq, Value.int.injEq, true_and, and_true] at h
  rw [h.1, h.2]
theorem placed_inj {p q : Placed} (h : p.cells = q.cells) : p = q := by
  cases p; cases q
  simp only [Placed.cells, List.cons.injEq, Value.int.injEq, Value.string.injEq, true_and, and_true] at h
  obtain ⟨h1, h2, h3, h4, h5, h6, h7⟩ := h
  rw [h1, h2, h3, h4, h5, h6, h7]
theorem edit_eq {h : Hp} {e g : Edit} {l l1 l2 m m1 m2 : Sl} {Q : Value → Hp → Prop} (E : EdAt h e l l1 l2) (G : EdAt h g m m1 m2) (n1 : g.out.length ≤ 1000000000000) (n2 : g.inn.length ≤ 1000000000000) (n3 : g.ptr.length ≤ 1000000000000)
    (hT : e = g → Q (.bool true) h) (hF : e ≠ g → Q (.bool false) h) : F68.T e.log e.next e.seq l l1 l2 g.log g.next g.seq m m1 m2 h Q := by
  have e1 := E.nout; have e2 := E.ninn; have g1 := G.nout; have g2 := G.ninn
  unfold F68.T
  refine ⟨fun h1 => ⟨fun h2 => ⟨fun h3 => ⟨fun h4 => ⟨fun h5 => ?_, fun h5 => hF fun q => h5 (by rw [e2, g2, q])⟩, fun h4 => hF fun q => h4 (by rw [e1, g1, q])⟩, fun h3 => hF fun q => h3 (by rw [q])⟩, fun h2 => hF fun q => h2 (by rw [q])⟩, fun h1 => hF fun q => h1 (by rw [q])⟩
  refine texts_eq E.ptr G.ptr n3 (fun hp => ⟨true, rfl, fun _ => ?_, fun h0 => (by cases h0)⟩) (fun hp => ⟨false, rfl, fun h0 => (by cases h0), fun _ => hF fun q => hp (by rw [q])⟩)
  have lo : e.out.length = g.out.length := by omega
  have li : e.inn.length = g.inn.length := by omega
  refine ⟨fun n h1 => h1 = h ∧ ∃ i : Nat, n = (i : Int) ∧ i ≤ e.out.length ∧ e.out.take i = g.out.take i, fun n _ => e.out.length - n.toNat, ⟨rfl, 0, rfl, Nat.zero_le _, by simp⟩, ?_⟩
  rintro n h1 ⟨rfl, i, rfl, hi, ht⟩
  refine ⟨fun hlt => ?_, fun hge => ?_⟩
  · have ia : i < e.out.length := by omega
    have ib : i < g.out.length := by omega
    obtain ⟨b0, o0, ha0, hat⟩ := row_get E.out (i := i * 2) (by omega)
    obtain ⟨b1, o1, hb1, hbt⟩ := row_get G.out (i := i * 2) (by omega)
    have cc : ∀ j, j < 2 → h1.at b0 ((o0 + i * 2) + j) = (Place.cells e.out[i])[j]? := fun j hj => by
      rw [Nat.add_assoc, hat _ (by omega)]
      exact flat_get Place.cells 2 (fun _ => rfl) e.out i j ia hj
    have dd : ∀ j, j < 2 → h1.at b1 ((o1 + i * 2) + j) = (Place.cells g.out[i])[j]? := fun j hj => by
      rw [Nat.add_assoc, hbt _ (by omega)]
      exact flat_get Place.cells 2 (fun _ => rfl) g.out i j ib hj
    rw [Int.toNat_natCast, next_i ia (by omega)]
    refine ⟨b0, o0, ha0, ⟨by omega, hlt⟩, e.out[i].lv, cc 0 (by decide), e.out[i].num, cc 1 (by decide), b1, o1, hb1, ⟨by omega, by omega⟩, g.out[i].lv, dd 0 (by decide), g.out[i].num, dd 1 (by decide), fun q => ⟨⟨rfl, i + 1, rfl, ia, take_step ia ib ht (place_inj q)⟩, by dsimp only; omega⟩, fun q => hF fun r => ?_⟩
    have hne : e.out[i] ≠ g.out[i] := fun t => q (show Place.cells e.out[i] = Place.cells g.out[i] by rw [t])
    exact ne_at ia ib hne (by rw [r])
  have heo : e.out = g.out := all_take2 lo (by omega) ht
  refine ⟨fun n h2 => h2 = h1 ∧ ∃ i : Nat, n = (i : Int) ∧ i ≤ e.inn.length ∧ e.inn.take i = g.inn.take i, fun n _ => e.inn.length - n.toNat, ⟨rfl, 0, rfl, Nat.zero_le _, by simp⟩, ?_⟩
  rintro n h2 ⟨rfl, i, rfl, hi, ht⟩
  refine ⟨fun hlt => ?_, fun hge => ?_⟩
  · have ia : i < e.inn.length := by omega
    have ib : i < g.inn.length := by omega
    obtain ⟨b0, o0, ha0, hat⟩ := row_get E.inn (i := i * 7) (by omega)
    obtain ⟨b1, o1, hb1, hbt⟩ := row_get G.inn (i := i * 7) (by omega)
    have cc : ∀ j, j < 7 → h2.at b0 ((o0 + i * 7) + j) = (Placed.cells e.inn[i])[j]? := fun j hj => by
      rw [Nat.add_assoc, hat _ (by omega)]
      exact flat_get Placed.cells 7 (fun _ => rfl) e.inn i j ia hj
    have dd : ∀ j, j < 7 → h2.at b1 ((o1 + i * 7) + j) = (Placed.cells g.inn[i])[j]? := fun j hj => by
      rw [Nat.add_assoc, hbt _ (by omega)]
      exact flat_get Placed.cells 7 (fun _ => rfl) g.inn i j ib hj
    rw [Int.toNat_natCast, next_i ia (by omega)]
    refine ⟨b0, o0, ha0, ⟨by omega, hlt⟩, _, cc 0 (by decide), _, cc 1 (by decide), _, cc 2 (by decide), _, cc 3 (by decide), _, cc 4 (by decide), _, cc 5 (by decide), _, cc 6 (by decide), b1, o1, hb1, ⟨by omega, by omega⟩, _, dd 0 (by decide), _, dd 1 (by decide), _, dd 2 (by decide), _, dd 3 (by decide), _, dd 4 (by decide), _, dd 5 (by decide), _, dd 6 (by decide), fun q => ⟨⟨rfl, i + 1, rfl, ia, take_step ia ib ht (placed_inj q)⟩, by dsimp only; omega⟩, fun q => hF fun r => ?_⟩
    have hne : e.inn[i] ≠ g.inn[i] := fun t => q (show Placed.cells e.inn[i] = Placed.cells g.inn[i] by rw [t])
    exact ne_at ia ib hne (by rw [r])
  have hei : e.inn = g.inn := all_take2 li (by omega) ht
  refine hT ?_
  cases e; cases g
  simp only at h1 h2 h3 hp heo hei
  rw [h1, h2, h3, hp, heo, hei]
theorem keep_wr_new {h h1 : Hp} {b : Nat} (hb : h b = none) (K : Keep h h1) (o : Nat) (vs : List Value) : Keep h (h1.wr b o vs) := by
  intro k x e
  unfold Hp.wr
  by_cases hk : k = b
  · rw [hk, hb] at e; cases e
  · rw [if_neg hk]; exact K k x e
theorem new_self (h : Hp) (b : Nat) (o : Obj) : (h.new b o) b = some o := by unfold Hp.new; rw [if_pos rfl]
theorem name_known {h : Hp} {Q : Value → Hp → Prop} (hQ : ∀ h', Keep h h' → Q (.string ⟨#[116, 45, 48, 48, 48, 48, 48, 48, 48, 48, 48, 48, 48, 55]⟩) h') : F8.T 116 7 h Q := by
  unfold F8.T
  have f78 : ∀ Q' : Value → Hp → Prop, Q' (.bool true) h → F38.T 116 h Q' := fun Q' hq => ⟨fun _ => hq, fun _ => ⟨fun _ => hq, fun _ => ⟨fun _ => hq, fun h0 => absurd rfl h0⟩⟩⟩
  refine f78 _ ⟨true, rfl, fun _ => ⟨fun h0 => absurd h0 (by decide), fun _ b1 hb1 => ?_⟩, fun h0 => (by cases h0)⟩
  have K0 : Keep h (h.new b1 (.cells ⟨[.int .u8 63, .int .u8 45, .int .u8 48, .int .u8 48, .int .u8 48, .int .u8 48, .int .u8 48, .int .u8 48, .int .u8 48, .int .u8 48, .int .u8 48, .int .u8 48, .int .u8 48, .int .u8 48]⟩ 5 (0, 0))) := Keep.new hb1 _
  refine ⟨_, _, new_self _ _ _, b1, 0, rfl, by decide, ⟨_, _, _, new_self _ _ _, Nat.le_of_ble_eq_true rfl, ?_⟩, ?_⟩
  · intro j h1 h2 h3
    have h4 : (14 : Nat) ≤ j := h3.1
    have h5 : j < 1 := h2
    omega
  have hc : (((h.new b1 (.cells ⟨[.int .u8 63, .int .u8 45, .int .u8 48, .int .u8 48, .int .u8 48, .int .u8 48, .int .u8 48, .int .u8 48, .int .u8 48, .int .u8 48, .int .u8 48, .int .u8 48, .int .u8 48, .int .u8 48]⟩ 5 (0, 0))).new b1 (.cells ⟨[.int .u8 63, .int .u8 45, .int .u8 48, .int .u8 48, .int .u8 48, .int .u8 48, .int .u8 48, .int .u8 48, .int .u8 48, .int .u8 48, .int .u8 48, .int .u8 48, .int .u8 48, .int .u8 48]⟩ 5 (14, 15))).wr b1 (0 + (0 : Int).toNat) [.int .u8 116]) b1 = some (.cells ⟨[.int .u8 116, .int .u8 45, .int .u8 48, .int .u8 48, .int .u8 48, .int .u8 48, .int .u8 48, .int .u8 48, .int .u8 48, .int .u8 48, .int .u8 48, .int .u8 48, .int .u8 48, .int .u8 48]⟩ 5 (14, 15)) := wr_at (new_self _ _ _)
  have hk : Keep h (((h.new b1 (.cells ⟨[.int .u8 63, .int .u8 45, .int .u8 48, .int .u8 48, .int .u8 48, .int .u8 48, .int .u8 48, .int .u8 48, .int .u8 48, .int .u8 48, .int .u8 48, .int .u8 48, .int .u8 48, .int .u8 48]⟩ 5 (0, 0))).new b1 (.cells ⟨[.int .u8 63, .int .u8 45, .int .u8 48, .int .u8 48, .int .u8 48, .int .u8 48, .int .u8 48, .int .u8 48, .int .u8 48, .int .u8 48, .int .u8 48, .int .u8 48, .int .u8 48, .int .u8 48]⟩ 5 (14, 15))).wr b1 (0 + (0 : Int).toNat) [.int .u8 116]) := by
    refine keep_wr_new hb1 ?_ _ _
    intro k x e
    have hkb : k ≠ b1 := fun q => by rw [q, hb1] at e; cases e
    unfold Hp.new
    rw [if_neg hkb, if_neg hkb]
    exact e
  refine ⟨fun n2 n3 h2 => Keep h h2 ∧ ((n2 = 7 ∧ n3 = 13 ∧ h2 b1 = some (.cells ⟨[.int .u8 116, .int .u8 45, .int .u8 48, .int .u8 48, .int .u8 48, .int .u8 48, .int .u8 48, .int .u8 48, .int .u8 48, .int .u8 48, .int .u8 48, .int .u8 48, .int .u8 48, .int .u8 48]⟩ 5 (14, 15))) ∨ (n2 = 0 ∧ n3 = 12 ∧ h2 b1 = some (.cells ⟨[.int .u8 116, .int .u8 45, .int .u8 48, .int .u8 48, .int .u8 48, .int .u8 48, .int .u8 48, .int .u8 48, .int .u8 48, .int .u8 48, .int .u8 48, .int .u8 48, .int .u8 48, .int .u8 55]⟩ 5 (14, 15)))), fun n2 _ _ => n2.toNat, ⟨hk, .inl ⟨rfl, by decide, hc⟩⟩, ?_⟩
  rintro n2 n3 h2 ⟨K2, ⟨rfl, rfl, hc2⟩ | ⟨rfl, rfl, hc2⟩⟩
  · refine ⟨fun _ => ?_, fun h0 => absurd (by decide) h0⟩
    refine ⟨b1, 0, rfl, by decide, 48, by unfold Hp.at; rw [hc2]; rfl, by decide, b1, 0, rfl, by decide, ⟨_, _, _, hc2, Nat.le_of_ble_eq_true rfl, ?_⟩, by decide, ⟨keep_wr_new hb1 K2 _ _, .inr ⟨by decide, by decide, ?_⟩⟩, (by decide : (IntKind.wrap .u64 (Int.tdiv 7 10)).toNat < (7 : Int).toNat)⟩
    · intro j h1 h2 h3
      have h4 : (14 : Nat) ≤ j := h3.1
      have h5 : j < 14 := h2
      omega
    · exact wr_at hc2
  · refine ⟨fun h0 => absurd h0 (by decide), fun _ => ⟨⟨#[116, 45, 48, 48, 48, 48, 48, 48, 48, 48, 48, 48, 48, 55]⟩, ⟨rfl, .inr ⟨b1, 0, rfl, fun j hj => ?_⟩⟩, hQ h2 K2⟩⟩
    unfold Hp.at
    rw [hc2, Nat.zero_add]
    have e : bytesV ⟨#[116, 45, 48, 48, 48, 48, 48, 48, 48, 48, 48, 48, 48, 55]⟩ = [.int .u8 116, .int .u8 45, .int .u8 48, .int .u8 48, .int .u8 48, .int .u8 48, .int .u8 48, .int .u8 48, .int .u8 48, .int .u8 48, .int .u8 48, .int .u8 48, .int .u8 48, .int .u8 55] := rfl
    rw [e]
    simp
/-! ### Few enough -/
def totS (l : List Sl) : Nat := (l.map fun s => s.n + 1).sum
theorem totS_take_succ {l : List Sl} {i : Nat} (h : i < l.length) : totS (l.take (i + 1)) = totS (l.take i) + (l[i].n + 1) := by
  rw [List.take_succ_eq_append_getElem h]
  unfold totS
  rw [List.map_append, List.sum_append]
  simp only [List.map_cons, List.map_nil, List.sum_cons, List.sum_nil, Nat.add_zero]
theorem totS_len (l : List Sl) : l.length ≤ totS l := by
  induction l with
  | nil => simp
  | cons a l ih =>
    have e : totS (a :: l) = a.n + 1 + totS l := by simp [totS]
    rw [e, List.length_cons]; omega
theorem ok_q {h : Hp} {b : Nat} {c : Int} {Q : Value → Hp → Prop} (hb : h b = some (.cells ⟨[.int .i64 c]⟩ 159 (0, 0))) (hT : 0 ≤ c → Q (.bool true) h) (hF : ¬ 0 ≤ c → Q (.bool false) h) : F60.T (some ⟨b, 0, none⟩) h Q :=
  ⟨b, 0, rfl, c, by unfold Hp.at; rw [hb]; rfl, hT, hF⟩
end Go.Eng.YtblghgacokoklaaDoor
end
section
/-
  SPECS, 12: the chapter's example; what Get takes is what Put writes.
-/
set_option linter.unusedSimpArgs false
set_option linter.unusedVariables false
namespace Go.Eng.YtblghgacokoklaaDoor
def eK : Edit := ⟨2, 9, 300, [⟨0, 4⟩], [⟨1, 8, 455, 90, 1, ⟨#[97]⟩, ⟨#[97]⟩⟩], []⟩
def rK : List Int := [1, 2, 9, 172, 2, 1, 0, 4, 1, 1, 8, 199, 3, 90, 1, 1, 97, 1, 97, 0]
theorem put_K : putS eK = [rK] := by kernel_rfl
theorem get_K : getR [rK] [] zE [] = some [eK] := by kernel_rfl
theorem okK : eK.valid := ⟨⟨by decide, by decide⟩, ⟨by decide, by decide⟩, ⟨by decide, by decide⟩, fun p hp => by
    simp only [eK, List.mem_cons, List.not_mem_nil, or_false] at hp
    subst hp
    exact ⟨by decide, by decide, by decide⟩, fun p hp => by
    simp only [eK, List.mem_cons, List.not_mem_nil, or_false] at hp
    subst hp
    exact ⟨by decide, ⟨by decide, by decide⟩, by decide, by decide, by decide⟩⟩
theorem known_spec {h : Hp} {Q : Value → Hp → Prop} (hQ : ∀ h', Keep h h' → Q (.bool true) h') : F27.T h Q := by
  intro b hb b1 hb1
  have K0 := Keep.new hb (.cells ⟨[.int .i64 0, .int .u64 4]⟩ 104 (0, 0))
  have K1 := Keep.new hb1 (.cells ⟨[.int .i64 1, .int .u64 8, .int .i64 455, .int .i64 90, .int .i64 1, .string (ByteArray.mk #[97]), .string (ByteArray.mk #[97])]⟩ 108 (0, 0))
  have E : EdAt ((h.new b (.cells ⟨[.int .i64 0, .int .u64 4]⟩ 104 (0, 0))).new b1 (.cells ⟨[.int .i64 1, .int .u64 8, .int .i64 455, .int .i64 90, .int .i64 1, .string (ByteArray.mk #[97]), .string (ByteArray.mk #[97])]⟩ 108 (0, 0))) eK ⟨some ⟨b, 0, none⟩, 1, 1⟩ ⟨some ⟨b1, 0, none⟩, 1, 1⟩ ⟨none, 0, 0⟩ :=
    ⟨K1.row (row_new h b 104 (outV eK.out) 2 rfl), row_new _ b1 108 (inV eK.inn) 7 rfl, ⟨rfl, .inl rfl⟩⟩
  refine put_spec (e := eK) E (Nat.le_refl _) (Nat.le_refl _) okK (by decide) (by decide) fun l h1 ss B R K N => ⟨l, rfl, ?_⟩
  rw [put_K] at R
  obtain ⟨s0, rfl⟩ : ∃ s0, ss = [s0] := List.length_eq_one_iff.1 R.1
  have B0 : Buf h1 s0 1 5 (bv rK) := R.2 0 (Nat.zero_lt_one) (Nat.zero_lt_one)
  have hl1 : l.n = 1 := by have := B.len; rw [slV_length] at this; simp only [List.length_singleton] at this; omega
  have hrow := B.row
  rw [Nat.mul_one] at hrow
  have KK := (K0.trans K1).trans K
  have A : Recs h1 l [s0] [rK] := ⟨hrow, B.cap, R.rows, fun s hs => by rw [List.mem_singleton] at hs; subst hs; exact B0.cap, fun r hr => by
    rw [List.mem_singleton] at hr; subst hr; decide, fun r hr => by
    rw [List.mem_singleton] at hr; subst hr; decide, by decide⟩
  refine get_spec A (fun h2 K2 hno => ?_) (fun h2 l1 L K2 hso BL hL NL hn => ?_)
  · rw [get_K] at hno; cases hno
  rw [get_K] at hso
  obtain ⟨x, rfl, hx⟩ : ∃ x, L = [x] ∧ x.e = eK := by
    have hsm : L.map EdS.e = [eK] := (Option.some.inj hso).symm
    rcases L with _ | ⟨x, _ | ⟨y, L⟩⟩
    · cases hsm
    · exact ⟨x, rfl, by simpa using hsm⟩
    · simp at hsm
  have hn1 : l1.n = 1 := ed_n BL
  have X := hL x List.mem_cons_self
  obtain ⟨b2, o, ha, hat⟩ := row_get (K2.row hrow) (i := 0) (by omega)
  have hat0 : h2.at b2 (o + (0 : Int).toNat) = some (.slice s0.a s0.n s0.c) := hat 0 (by omega)
  refine ⟨l1, 0, rfl, fun _ => ⟨b2, o, ha, ⟨by decide, by omega⟩, s0, hat0, fun b3 hb3 => ?_⟩, fun h0 => absurd (by omega) h0⟩
  have K3 := Keep.new hb3 (.cells ⟨bv rK⟩ 5 (0, 0))
  refine ⟨K3.at hat0, ?_⟩
  have r0 := B0.row
  rw [Nat.mul_one] at r0
  refine sameBytes_eq (K3.row (K2.row r0)) (row_new h2 b3 5 (bv rK) 20 rfl) (by decide) (fun _ => ⟨true, rfl, fun _ => ⟨fun _ => ⟨fun _ => ?_, fun h0 => absurd (by omega) h0⟩, fun h0 => absurd rfl h0⟩, fun h0 => (by cases h0)⟩) (fun h0 => absurd rfl h0)
  obtain ⟨b5, o1, ha5, hat5⟩ := row_get (K3.row BL.row) (i := 0) (by omega)
  have cc : ∀ j, j < 6 → (h2.new b3 (.cells ⟨bv rK⟩ 5 (0, 0))).at b5 ((o1 + (0 : Int).toNat * 6) + j) = (EdS.cells x)[j]? := fun j hj => by
    have h7 := hat5 j (by omega)
    have h8 : (edV [x])[j]? = (EdS.cells x)[j]? := by simp [edV]
    rw [← h8, ← h7]
    simp
  refine ⟨b5, o1, ha5, ⟨by decide, by omega⟩, x.e.log, cc 0 (by decide), x.e.next, cc 1 (by decide), x.e.seq, cc 2 (by decide), x.a, cc 3 (by decide), x.b, cc 4 (by decide), x.c, cc 5 (by decide), ?_⟩
  refine edit_eq (g := eK) ((X.at).keep K3) ((E.keep K).keep (K2.trans K3)) (by decide) (by decide) (by decide) (fun _ => ⟨true, rfl, fun _ => ?_, fun h0 => (by cases h0)⟩) (fun h0 => absurd hx h0)
  refine name_known fun h5 K5 => ⟨_, rfl, fun _ => hQ h5 (((KK.trans K2).trans K3).trans K5), fun h0 => absurd rfl h0⟩
/-! ### The law -/
theorem sameP_t {e : Edit} {recs : List (List Int)} (h : sameP e recs true = true) : putS e = recs := by
  unfold sameP at h
  by_cases h1 : (putS e).length < recs.length
  · rw [if_pos h1] at h; cases h
  · rw [if_neg h1] at h
    by_cases h2 : (putS e).length = recs.length
    · rw [if_neg (fun hh => hh.2 h2), decide_eq_true_eq] at h
      rw [← h2, List.take_length] at h
      exact h
    · rw [if_pos ⟨rfl, h2⟩] at h; cases h
theorem getR_law : ∀ (rs : List (List Int)) (acc : List Edit) (cur : Edit) (part : List (List Int)) (es : List Edit), getR rs acc cur part = some es → ∃ rest, acc.flatMap putS ++ part ++ rs = es.flatMap putS ++ rest
  | [], acc, cur, part, es, h => by
    unfold getR at h
    have : acc = es := by
      split at h
      · exact Option.some.inj h
      · split at h
        · exact Option.some.inj h
        · cases h
    exact ⟨part, by rw [this, List.append_nil]⟩
  | r :: rs, acc, cur, part, es, h => by
    cases hr : rd r with
    | none => rw [getR_none hr] at h; cases h
    | some x =>
      rw [getR_some hr] at h
      by_cases hx : x.2 = true
      · rw [if_pos hx] at h
        by_cases hs : sameP (joinE cur x.1 part) (part ++ [r]) true = true
        · rw [if_pos hs] at h
          obtain ⟨rest, hrest⟩ := getR_law rs _ _ _ es h
          refine ⟨rest, ?_⟩
          rw [← hrest, List.flatMap_append]
          simp [sameP_t hs]
        · rw [if_neg hs] at h; cases h
      · rw [if_neg hx] at h
        obtain ⟨rest, hrest⟩ := getR_law rs _ _ _ es h
        exact ⟨rest, by rw [← hrest]; simp⟩
theorem slV_get {ss : List Sl} {k : Nat} (h : k < ss.length) : (slV ss)[k]? = some (.slice ss[k].a ss[k].n ss[k].c) := by
  simp [slV, h]
theorem put_at {es : List Edit} {rest recs : List (List Int)} (h : recs = es.flatMap putS ++ rest) {i : Nat} (hi : i < es.length) :
    (((es.take i).flatMap putS).length + (putS es[i]).length = ((es.take (i + 1)).flatMap putS).length) ∧ ((es.take (i + 1)).flatMap putS).length ≤ recs.length ∧ ∀ k, k < (putS es[i]).length → recs[((es.take i).flatMap putS).length + k]? = (putS es[i])[k]? := by
  have h1 : (es.take (i + 1)).flatMap putS = (es.take i).flatMap putS ++ putS es[i] := by
    rw [List.take_succ_eq_append_getElem hi, List.flatMap_append]; simp
  have h2 : es.flatMap putS = (es.take (i + 1)).flatMap putS ++ (es.drop (i + 1)).flatMap putS := by
    rw [← List.flatMap_append, List.take_append_drop]
  refine ⟨by rw [h1, List.length_append], by rw [h, h2]; simp only [List.length_append]; omega, fun k hk => ?_⟩
  rw [h, h2, h1]
  simp only [List.append_assoc]
  rw [List.getElem?_append_right (Nat.le_add_right _ _), Nat.add_sub_cancel_left, List.getElem?_append_left hk]
end Go.Eng.YtblghgacokoklaaDoor
end
section
/-
  SPECS, 13: what is written is read again.
-/
set_option linter.unusedSimpArgs false
set_option linter.unusedVariables false
namespace Go.Eng.YtblghgacokoklaaDoor
theorem and127 (c : Nat) (h : c < 256) : bitsI .and .u8 (c : Int) 127 = ((c % 128 : Nat) : Int) := by
  have key : ∀ x : Fin 256, bitsI .and .u8 ((x.val : Nat) : Int) 127 = ((x.val % 128 : Nat) : Int) := by decide +kernel
  exact key ⟨c, h⟩
theorem or_disj (a y i : Nat) (ha : a < 2 ^ i) (hb : a + 2 ^ i * y < 2 ^ 64) : bitsI .or .u64 (a : Int) ((2 ^ i * y : Nat) : Int) = ((a + 2 ^ i * y : Nat) : Int) := by
  have h1 : (BitVec.ofInt 64 (a : Int)).toNat = a := by rw [BitVec.ofInt_natCast, BitVec.toNat_ofNat]; exact Nat.mod_eq_of_lt (by omega)
  have h2 : (BitVec.ofInt 64 ((2 ^ i * y : Nat) : Int)).toNat = 2 ^ i * y := by rw [BitVec.ofInt_natCast, BitVec.toNat_ofNat]; exact Nat.mod_eq_of_lt (by omega)
  show IntKind.wrap .u64 ((BitVec.ofInt 64 (a : Int) ||| BitVec.ofInt 64 ((2 ^ i * y : Nat) : Int)).toNat : Int) = _
  rw [BitVec.toNat_or, h1, h2, Nat.or_comm, ← Nat.two_pow_add_eq_or_of_lt ha y, Nat.add_comm]
  exact wrap_u64 (by omega) (by omega)
theorem nx_enc (i acc c : Nat) (hi : i ≤ 9) (hc : c < 256) (ha : acc < 128 ^ i) (hb : acc + 128 ^ i * (c % 128) < 2 ^ 64) : nx i (acc : Int) (c : Int) = ((acc + 128 ^ i * (c % 128) : Nat) : Int) := by
  have hp : 128 ^ i = 2 ^ (7 * i) := by rw [Nat.pow_mul]
  rw [hp] at ha hb ⊢
  unfold nx
  have h64 : (2 : Nat) ^ 64 = 18446744073709551616 := by decide
  rw [and127 c hc, wrap_u64 (by omega) (by omega)]
  unfold shlI
  have e1 : (7 * (i : Int)).toNat = 7 * i := by omega
  have e2 : min (7 * (i : Int)).toNat (IntKind.bits .u64) = 7 * i := by rw [e1]; show min (7 * i) 64 = 7 * i; omega
  rw [e2]
  have e3 : ((c % 128 : Nat) : Int) * 2 ^ (7 * i) = ((2 ^ (7 * i) * (c % 128) : Nat) : Int) := by
    rw [Int.natCast_mul, Int.natCast_pow]; exact Int.mul_comm _ _
  rw [e3, wrap_u64 (by omega) (by omega)]
  exact or_disj acc (c % 128) (7 * i) ha hb
theorem uR_enc : ∀ (f i n acc : Nat) (rest : List Int), 0 < f → f + i = 10 → n < 128 ^ f → (0 < i → 0 < n) → acc < 128 ^ i → acc + 128 ^ i * n < 2 ^ 64 → uR i (acc : Int) (encF f n ++ rest) = (((acc + 128 ^ i * n : Nat) : Int), i + (encF f n).length, 0)
  | 0, _, _, _, _, h, _, _, _, _, _ => absurd h (Nat.lt_irrefl 0)
  | f + 1, i, n, acc, rest, _, hfi, hn, hpos, hacc, hb => by
    have h64 : (2 : Nat) ^ 64 = 18446744073709551616 := by decide
    unfold encF
    by_cases h1 : n < 128
    · rw [if_pos h1]
      show uR i (acc : Int) ((n : Int) :: rest) = _
      have h9 : i = 9 → n = 1 := by
        intro h
        subst h
        have : (128 : Nat) ^ 9 = 9223372036854775808 := by decide
        rw [this] at hb
        have := hpos (by decide)
        omega
      unfold uR
      rw [if_neg (by omega), if_pos (by omega)]
      have := nx_enc i acc n (by omega) (by omega) hacc (by rw [Nat.mod_eq_of_lt h1]; exact hb)
      rw [Nat.mod_eq_of_lt h1] at this
      rw [this]
      rfl
    · rw [if_neg h1]
      have hf : 0 < f := by
        rcases Nat.eq_zero_or_pos f with rfl | h
        · simp at hn; omega
        · exact h
      show uR i (acc : Int) (((n % 128 + 128 : Nat) : Int) :: (encF f (n / 128) ++ rest)) = _
      unfold uR
      rw [if_neg (by omega), if_neg (by omega)]
      have hd : n = 128 * (n / 128) + n % 128 := (Nat.div_add_mod n 128).symm
      have hmul : 128 ^ i * n = 128 ^ i * (128 * (n / 128)) + 128 ^ i * (n % 128) := by
        conv => lhs; rw [hd]
        rw [Nat.mul_add]
      have hmul2 : 128 ^ (i + 1) * (n / 128) = 128 ^ i * (128 * (n / 128)) := by rw [Nat.pow_succ, Nat.mul_assoc]
      have hm : (n % 128 + 128) % 128 = n % 128 := by omega
      have hle : 128 ^ i * (n % 128) ≤ 128 ^ i * 127 := Nat.mul_le_mul_left _ (by omega)
      have hx := nx_enc i acc (n % 128 + 128) (by omega) (by omega) hacc (by rw [hm]; omega)
      rw [hm] at hx
      rw [hx]
      have ih := uR_enc f (i + 1) (n / 128) (acc + 128 ^ i * (n % 128)) rest hf (by omega) (by rw [Nat.pow_succ] at hn; omega) (fun _ => by omega) (by rw [Nat.pow_succ]; omega) (by rw [hmul2]; omega)
      rw [ih, hmul2]
      have e1 : acc + 128 ^ i * (n % 128) + 128 ^ i * (128 * (n / 128)) = acc + 128 ^ i * n := by omega
      have e2 : i + 1 + (encF f (n / 128)).length = i + (((n % 128 + 128 : Nat) : Int) :: encF f (n / 128)).length := by simp only [List.length_cons]; omega
      rw [e1, e2]
theorem uR_U {n : Nat} (h : n < 18446744073709551616) (rest : List Int) : uR 0 0 (encU n ++ rest) = ((n : Int), (encU n).length, 0) := by
  have := uR_enc 10 0 n 0 rest (by decide) rfl (Nat.lt_of_lt_of_le h (by decide)) (fun h => absurd h (Nat.lt_irrefl 0)) (by decide) (by omega)
  simpa [encU] using this
theorem rU_enc {n : Int} (h : okU n) (rest : List Int) : rU ⟨encU n.toNat ++ rest, false⟩ = (n, ⟨rest, false⟩) := by
  have h1 := uR_U (n := n.toNat) (by have := h.1; have := h.2; omega) rest
  unfold rU
  simp only [h1, RS.skip, if_pos]
  rw [List.drop_left' rfl]
  have : ((n.toNat : Nat) : Int) = n := by have := h.1; omega
  rw [this]
theorem rU_nat {n : Nat} (h : n < 18446744073709551616) (rest : List Int) : rU ⟨encU n ++ rest, false⟩ = ((n : Int), ⟨rest, false⟩) := by
  have := rU_enc (n := (n : Int)) ⟨by omega, by omega⟩ rest
  rwa [Int.toNat_natCast] at this
theorem rW_enc {m n : Int} (h : okU n) (hm : n ≤ m) (rest : List Int) : rW m ⟨encU n.toNat ++ rest, false⟩ = (n, ⟨rest, false⟩) := by
  unfold rW
  rw [rU_enc h rest, if_neg (by simp only; omega)]
theorem toB_bI (s : ByteArray) : toB (bI s) = s := by
  obtain ⟨d⟩ := s
  unfold toB bI
  have : ((fun n : Int => UInt8.ofNat n.toNat) ∘ fun b : UInt8 => ((b.toNat : Nat) : Int)) = id := by
    funext b
    simp
  rw [List.map_map, this, List.map_id]
theorem tR_enc {s : ByteArray} (h : s.size ≤ 64) (rest : List Int) : tR (encT s ++ rest) = (s, (encT s).length, 0) := by
  have e : encT s ++ rest = encU s.size ++ (bI s ++ rest) := by unfold encT; rw [List.append_assoc]
  have h1 := uR_U (n := s.size) (by omega) (bI s ++ rest)
  rw [e]
  unfold tR
  simp only [h1, if_pos]
  have hl := bI_length s
  rw [if_neg (by omega), if_neg (by simp only [List.length_append]; omega), List.drop_left' rfl, Int.toNat_natCast, List.take_left' hl, toB_bI]
  unfold encT
  rw [List.length_append, hl]
theorem rT_enc {s : ByteArray} (h : s.size ≤ 64) (rest : List Int) : rT ⟨encT s ++ rest, false⟩ = (s, ⟨rest, false⟩) := by
  unfold rT
  simp only [tR_enc h rest, RS.skip, if_pos]
  rw [List.drop_left' rfl]
/-- An edit that may be written. -/
structure PGood (p : Place) : Prop where
  l0 : 0 ≤ p.lv
  l4 : p.lv ≤ 4
  num : okU p.num
structure DGood (p : Placed) : Prop where
  l0 : 0 ≤ p.lv
  l4 : p.lv ≤ 4
  num : okU p.num
  w0 : 0 ≤ p.weight
  w1 : p.weight ≤ 9223372036854775807
  b0 : 0 ≤ p.bytes
  b1 : p.bytes ≤ 9223372036854775807
  e0 : 0 ≤ p.entries
  e1 : p.entries ≤ 9223372036854775807
  least : p.least.size ≤ 64
  greatest : p.greatest.size ≤ 64
structure Good (e : Edit) : Prop where
  log : okU e.log
  next : okU e.next
  seq : okU e.seq
  out : ∀ p ∈ e.out, PGood p
  inn : ∀ p ∈ e.inn, DGood p
  ptr : ∀ p ∈ e.ptr, p.size ≤ 64
  nptr : e.ptr.length ≤ 5
theorem okU_of {n : Int} (h0 : 0 ≤ n) (h1 : n ≤ 9223372036854775807) : okU n := ⟨h0, by omega⟩
theorem outR_enc : ∀ (o acc : List Place) (rest : List Int), (∀ p ∈ o, PGood p) → outR o.length acc ⟨o.flatMap Place.enc ++ rest, false⟩ = some (acc ++ o, ⟨rest, false⟩)
  | [], acc, rest, _ => by simp [outR]
  | p :: o, acc, rest, h => by
    have hp := h p List.mem_cons_self
    have e : (p :: o).flatMap Place.enc ++ rest = encU p.lv.toNat ++ (encU p.num.toNat ++ (o.flatMap Place.enc ++ rest)) := by simp [Place.enc, encUs]
    rw [e, List.length_cons, outR, rW_enc ⟨hp.l0, by have := hp.l4; omega⟩ hp.l4]
    simp only
    rw [rU_enc hp.num, if_neg Bool.false_ne_true, outR_enc o _ rest fun q hq => h q (List.mem_cons_of_mem _ hq)]
    simp
theorem inR_enc : ∀ (o acc : List Placed) (rest : List Int), (∀ p ∈ o, DGood p) → inR o.length acc ⟨o.flatMap Placed.enc ++ rest, false⟩ = some (acc ++ o, ⟨rest, false⟩)
  | [], acc, rest, _ => by simp [inR]
  | p :: o, acc, rest, h => by
    have hp := h p List.mem_cons_self
    have e : (p :: o).flatMap Placed.enc ++ rest = encU p.lv.toNat ++ (encU p.num.toNat ++ (encU p.weight.toNat ++ (encU p.bytes.toNat ++ (encU p.entries.toNat ++ (encT p.least ++ (encT p.greatest ++ (o.flatMap Placed.enc ++ rest))))))) := by simp [Placed.enc, encUs]
    have hx : plS ⟨(p :: o).flatMap Placed.enc ++ rest, false⟩ = (p, ⟨o.flatMap Placed.enc ++ rest, false⟩) := by
      rw [e]
      unfold plS
      simp only [rW_enc (m := 4) ⟨hp.l0, by have := hp.l4; omega⟩ hp.l4, rU_enc hp.num, rW_enc (okU_of hp.w0 hp.w1) hp.w1, rW_enc (okU_of hp.b0 hp.b1) hp.b1, rW_enc (okU_of hp.e0 hp.e1) hp.e1, rT_enc hp.least, rT_enc hp.greatest]
    rw [List.length_cons, inR, hx]
    simp only
    rw [if_neg Bool.false_ne_true, inR_enc o _ rest fun q hq => h q (List.mem_cons_of_mem _ hq)]
    simp
theorem ptR_enc : ∀ (o acc : List ByteArray) (rest : List Int), (∀ p ∈ o, p.size ≤ 64) → ptR o.length acc ⟨o.flatMap encT ++ rest, false⟩ = some (acc ++ o, ⟨rest, false⟩)
  | [], acc, rest, _ => by simp [ptR]
  | p :: o, acc, rest, h => by
    have hp := h p List.mem_cons_self
    have e : (p :: o).flatMap encT ++ rest = encT p ++ (o.flatMap encT ++ rest) := by simp
    rw [e, List.length_cons, ptR, rT_enc hp]
    simp only
    rw [if_neg Bool.false_ne_true, ptR_enc o _ rest fun q hq => h q (List.mem_cons_of_mem _ hq)]
    simp
/-- A RECORD IS READ AGAIN. -/
theorem rd_enc {e : Edit} (G : Good e) (h1 : e.out.length < 1000000000) (h2 : e.inn.length < 1000000000) (last : Bool) : rd (recB e last) = some (e, last) := by
  have e1 : recB e last = (if last then 1 else 0) :: (encU e.log.toNat ++ (encU e.next.toNat ++ (encU e.seq.toNat ++ (encU e.out.length ++ (e.out.flatMap Place.enc ++ (encU e.inn.length ++ (e.inn.flatMap Placed.enc ++ (encU e.ptr.length ++ (e.ptr.flatMap encT ++ []))))))))) := by
    simp [recB, encUs]
  have hp := G.nptr
  have o1 : e.out.length < 18446744073709551616 := by omega
  have o2 : e.inn.length < 18446744073709551616 := by omega
  have o3 : e.ptr.length < 18446744073709551616 := by omega
  rw [e1, rd_cons, if_neg (by cases last <;> decide)]
  simp only [rU_enc G.log, rU_enc G.next, rU_enc G.seq]
  unfold rdO
  simp only [rU_nat o1, Int.toNat_natCast, outR_enc _ _ _ G.out, List.nil_append]
  unfold rdI
  simp only [rU_nat o2, Int.toNat_natCast, inR_enc _ _ _ G.inn, List.nil_append]
  unfold rdP
  simp only [rU_nat o3, Int.toNat_natCast, ptR_enc _ _ _ G.ptr, List.nil_append]
  cases last <;> simp
end Go.Eng.YtblghgacokoklaaDoor
end
section
/-
  SPECS, 14: what Get tells of what Put wrote, whole or cut.
-/
set_option linter.unusedSimpArgs false
set_option linter.unusedVariables false
namespace Go.Eng.YtblghgacokoklaaDoor
def Edit.size (e : Edit) : Nat := e.out.length + e.inn.length
theorem Good.told {e : Edit} (G : Good e) : e.told = true := by
  unfold Edit.told
  simp only [Bool.and_eq_true, List.all_eq_true, decide_eq_true_eq]
  refine ⟨fun p hp => ?_, fun p hp => ?_, G.ptr, G.nptr⟩
  · have := G.out p hp
    unfold Place.told
    rw [decide_eq_true_eq]
    exact ⟨this.l0, by have := this.l4; omega⟩
  · have q := G.inn p hp
    unfold Placed.told
    rw [decide_eq_true_eq]
    exact ⟨q.l0, by have := q.l4; omega, q.w0, q.b0, q.e0, q.least, q.greatest⟩
theorem Good.valid {e : Edit} (G : Good e) : e.valid :=
  ⟨G.log, G.next, G.seq, fun p hp => ⟨by have := (G.out p hp).l4; omega, (G.out p hp).num⟩, fun p hp => ⟨by have := (G.inn p hp).l4; omega, (G.inn p hp).num, by have := (G.inn p hp).w1; omega, by have := (G.inn p hp).b1; omega, by have := (G.inn p hp).e1; omega⟩⟩
theorem Good.front {e : Edit} (G : Good e) : Good (front e) := ⟨G.log, G.next, G.seq, fun p hp => G.out p (List.mem_of_mem_take hp), fun p hp => G.inn p (List.mem_of_mem_take hp), G.ptr, G.nptr⟩
theorem Good.behind {e : Edit} (G : Good e) : Good (behind e) := ⟨G.log, G.next, G.seq, fun p hp => G.out p (List.mem_of_mem_drop hp), fun p hp => G.inn p (List.mem_of_mem_drop hp), G.ptr, G.nptr⟩
theorem Good.noptr {e : Edit} (G : Good e) : Good { e with ptr := [] } := ⟨G.log, G.next, G.seq, G.out, G.inn, fun p hp => (by cases hp), Nat.zero_le _⟩
/-- What of an edit a record tells that is not its last. -/
def piece (e : Edit) : Edit := { front e with ptr := [] }
theorem behind_size (e : Edit) : (behind e).size = e.size - 256 := by
  simp only [Edit.size, behind, List.length_drop]
  omega
theorem front_size (e : Edit) : (front e).size = min e.size 256 := by
  simp only [Edit.size, front, List.length_take]
  omega
theorem putF_last {f : Nat} {e : Edit} (h : e.size ≤ 256) : putF (f + 1) e = [recB (front e) true] := by
  have := behind_size e
  unfold Edit.size at this h
  unfold putF
  rw [if_pos (by omega)]
theorem putF_more {f : Nat} {e : Edit} (h : 256 < e.size) : putF (f + 1) e = recB (piece e) false :: putF f (behind e) := by
  have := behind_size e
  unfold Edit.size at this h
  conv => lhs; unfold putF
  rw [if_neg (by omega)]
  rfl
theorem front_all {e : Edit} (h : e.size ≤ 256) : front e = e := by
  unfold Edit.size at h
  cases e
  simp only [front] at h ⊢
  rw [List.take_of_length_le (by omega), List.take_of_length_le (by omega)]
theorem put_eq {e : Edit} (G : Good e) : putS e = putF (e.size + 1) e := by
  unfold putS Edit.size
  rw [if_pos G.told]
theorem putF_length : ∀ (f : Nat) (e : Edit), e.size < f → (putF f e).length = max 1 ((e.size + 255) / 256)
  | 0, e, h => absurd h (Nat.not_lt_zero _)
  | f + 1, e, h => by
    by_cases hs : e.size ≤ 256
    · rw [putF_last hs, List.length_singleton]; omega
    · have hb := behind_size e
      rw [putF_more (by omega), List.length_cons, putF_length f (behind e) (by omega), hb]
      omega
/-- The k-th record. -/
theorem putF_get : ∀ (f : Nat) (e : Edit), Good e → e.size < f → ∀ (k : Nat) (hk : k < (putF f e).length), ∃ x, Good x ∧ x.size ≤ 256 ∧ (putF f e)[k] = recB x (decide (k + 1 = (putF f e).length))
  | 0, e, _, h, _, _ => absurd h (Nat.not_lt_zero _)
  | f + 1, e, G, h, k, hk => by
    have hf := front_size e
    by_cases hs : e.size ≤ 256
    · have e1 := putF_last (f := f) hs
      refine ⟨front e, G.front, by omega, ?_⟩
      have hk0 : k = 0 := by rw [e1, List.length_singleton] at hk; omega
      subst hk0
      simp only [e1, List.getElem_cons_zero, List.length_singleton]
      rfl
    · have e1 := putF_more (f := f) (e := e) (by omega)
      have hb := behind_size e
      have hlen := putF_length f (behind e) (by omega)
      cases k with
      | zero =>
        refine ⟨piece e, G.front.noptr, by show (front e).size ≤ 256; omega, ?_⟩
        simp only [e1, List.getElem_cons_zero, List.length_cons]
        rw [decide_eq_false (by omega)]
      | succ k =>
        have hk2 : k < (putF f (behind e)).length := by rw [e1, List.length_cons] at hk; omega
        obtain ⟨x, hx, hsz, hget⟩ := putF_get f (behind e) G.behind (by omega) k hk2
        refine ⟨x, hx, hsz, ?_⟩
        simp only [e1, List.getElem_cons_succ, List.length_cons, hget]
        congr 1
        simp
theorem recB_length {x : Edit} (G : Good x) (h : x.size ≤ 256) (b : Bool) : (recB x b).length < 262144 := by
  unfold Edit.size at h
  have h1 := flatMap_le Place.enc 20 x.out (fun p _ => p.enc_length)
  have h2 := flatMap_le Placed.enc 198 x.inn (fun p hp => Placed.enc_length (by
    have q := G.inn p hp
    exact ⟨⟨q.l0, by have := q.l4; omega⟩, q.num, ⟨q.w0, by have := q.w1; omega⟩, ⟨q.b0, by have := q.b1; omega⟩, ⟨q.e0, by have := q.e1; omega⟩, q.least, q.greatest⟩))
  have h3 := flatMap_le encT 74 x.ptr (fun p hp => encT_length (G.ptr p hp))
  have h4 := encs_len [x.log, x.next, x.seq, (x.out.length : Int)] 4 rfl
  have h5 := encs_len [(x.inn.length : Int)] 1 rfl
  have h6 := encs_len [(x.ptr.length : Int)] 1 rfl
  have h7 := G.nptr
  unfold recB
  simp only [List.length_cons, List.length_append]
  omega
theorem sameP_all {e : Edit} {recs : List (List Int)} (h : putS e = recs) : sameP e recs true = true := by
  unfold sameP
  rw [h, if_neg (Nat.lt_irrefl _), if_neg (fun hh => hh.2 rfl), List.take_length]
  simp
theorem rd_front {e : Edit} (G : Good e) (b : Bool) : rd (recB (front e) b) = some (front e, b) := by
  have := front_size e
  unfold Edit.size at this
  exact rd_enc G.front (by omega) (by omega) b
theorem rd_piece {e : Edit} (G : Good e) : rd (recB (piece e) false) = some (piece e, false) := by
  have := front_size e
  unfold Edit.size at this
  exact rd_enc G.front.noptr (by show (front e).out.length < _; omega) (by show (front e).inn.length < _; omega) false
theorem take_drop_app {α : Type} (l : List α) (n : Nat) : l.take n ++ l.drop n = l := List.take_append_drop n l
/-- The records of an edit, behind those that have been read. -/
theorem getR_putF : ∀ (f : Nat) (E e cur : Edit) (done : List (List Int)) (acc : List Edit) (rs : List (List Int)), Good e → e.size < f → E = joinE cur e done → putS E = done ++ putF f e →
    getR (putF f e ++ rs) acc cur done = getR rs (acc ++ [E]) zE []
  | 0, _, e, _, _, _, _, _, h, _, _ => absurd h (Nat.not_lt_zero _)
  | f + 1, E, e, cur, done, acc, rs, G, h, hE, hput => by
    by_cases hs : e.size ≤ 256
    · have e1 := putF_last (f := f) hs
      rw [e1] at hput ⊢
      have hr := rd_front G true
      rw [front_all hs] at hr hput ⊢
      show getR (recB e true :: rs) acc cur done = _
      rw [getR_some hr]
      simp only [if_true]
      rw [← hE, if_pos (sameP_all hput)]
    · have e1 := putF_more (f := f) (e := e) (by omega)
      have hb := behind_size e
      rw [e1] at hput ⊢
      show getR (recB (piece e) false :: (putF f (behind e) ++ rs)) acc cur done = _
      rw [getR_some (rd_piece G)]
      simp only [Bool.false_eq_true, if_false]
      refine getR_putF f E (behind e) _ _ acc rs G.behind (by omega) ?_ (by rw [hput]; simp)
      rw [hE]
      have hne : ¬ (done ++ [recB (piece e) false]).length = 0 := by simp
      unfold joinE
      rw [if_neg hne]
      by_cases hd : done.length = 0
      · rw [if_pos hd, if_pos hd]
        cases e
        simp [piece, front, behind]
      · rw [if_neg hd, if_neg hd]
        cases e
        simp [piece, front, behind, List.append_assoc]
theorem getR_put {e : Edit} (G : Good e) (acc : List Edit) (rs : List (List Int)) : getR (putS e ++ rs) acc zE [] = getR rs (acc ++ [e]) zE [] := by
  have h := put_eq G
  rw [h]
  exact getR_putF (e.size + 1) e e zE [] acc rs G (Nat.lt_succ_self _) (by unfold joinE; rw [if_pos List.length_nil]) (by rw [h]; rfl)
theorem getR_all : ∀ (L acc : List Edit) (rs : List (List Int)), (∀ e ∈ L, Good e) → getR (L.flatMap putS ++ rs) acc zE [] = getR rs (acc ++ L) zE []
  | [], acc, rs, _ => by simp
  | e :: L, acc, rs, h => by
    rw [List.flatMap_cons, List.append_assoc, getR_put (h e List.mem_cons_self), getR_all L _ rs fun x hx => h x (List.mem_cons_of_mem _ hx)]
    simp
/-- What the first k records (none of them the last) tell. -/
def pre : Nat → Edit → Edit
  | 0, e => ⟨e.log, e.next, e.seq, [], [], []⟩
  | k + 1, e => ⟨e.log, e.next, e.seq, (front e).out ++ (pre k (behind e)).out, (front e).inn ++ (pre k (behind e)).inn, []⟩
theorem pre_rest (k : Nat) (e : Edit) : (pre k e).log = e.log ∧ (pre k e).next = e.next ∧ (pre k e).seq = e.seq ∧ (pre k e).ptr = [] := by cases k <;> exact ⟨rfl, rfl, rfl, rfl⟩
theorem pre_out : ∀ (k : Nat) (e : Edit), (∃ t, e.out = (pre k e).out ++ t) ∧ ∃ t, e.inn = (pre k e).inn ++ t
  | 0, e => ⟨⟨e.out, rfl⟩, ⟨e.inn, rfl⟩⟩
  | k + 1, e => by
    obtain ⟨⟨t, ht⟩, ⟨u, hu⟩⟩ := pre_out k (behind e)
    refine ⟨⟨t, ?_⟩, ⟨u, ?_⟩⟩
    · show e.out = (e.out.take 256 ++ (pre k (behind e)).out) ++ t
      rw [List.append_assoc, ← ht]
      exact (List.take_append_drop 256 e.out).symm
    · show e.inn = (e.inn.take (256 - min e.out.length 256) ++ (pre k (behind e)).inn) ++ u
      rw [List.append_assoc, ← hu]
      exact (List.take_append_drop (256 - min e.out.length 256) e.inn).symm
theorem getR_pre : ∀ (k f : Nat) (e cur : Edit) (part : List (List Int)) (acc : List Edit), Good e → e.size < f → k < (putF f e).length → part.length ≠ 0 → cur.log = e.log → cur.next = e.next → cur.seq = e.seq → cur.ptr = [] →
    getR ((putF f e).take k) acc cur part = getR [] acc ⟨e.log, e.next, e.seq, cur.out ++ (pre k e).out, cur.inn ++ (pre k e).inn, []⟩ (part ++ (putF f e).take k)
  | 0, f, e, cur, part, acc, G, hf, hk, hp, h1, h2, h3, h4 => by
    obtain ⟨a, b, c, o, i, p⟩ := cur
    simp only at h1 h2 h3 h4
    subst h1 h2 h3 h4
    simp [pre]
  | k + 1, 0, e, _, _, _, _, h, _, _, _, _, _, _ => absurd h (Nat.not_lt_zero _)
  | k + 1, f + 1, e, cur, part, acc, G, hf, hk, hp, h1, h2, h3, h4 => by
    have hs : 256 < e.size := by
      rcases Nat.lt_or_ge 256 e.size with h | h
      · exact h
      · rw [putF_last h, List.length_singleton] at hk; omega
    have e1 := putF_more (f := f) hs
    have hb := behind_size e
    rw [e1] at hk ⊢
    rw [List.length_cons] at hk
    rw [List.take_succ_cons, getR_some (rd_piece G)]
    simp only [Bool.false_eq_true, if_false]
    rw [getR_pre k f (behind e) _ _ acc G.behind (by omega) (by omega) (by simp) (by unfold joinE; rw [if_neg hp]; rfl) (by unfold joinE; rw [if_neg hp]; rfl) (by unfold joinE; rw [if_neg hp]; rfl) (by unfold joinE; rw [if_neg hp]; rfl)]
    unfold joinE
    rw [if_neg hp]
    simp [pre, piece, front, behind, List.append_assoc]
theorem same_pre : ∀ (k f g : Nat) (e : Edit), Good e → e.size < f → k < (putF f e).length → (withP (pre k e)).size < g → (putF g (withP (pre k e))).take k = (putF f e).take k
  | 0, _, _, _, _, _, _, _ => by simp
  | k + 1, 0, _, _, _, h, _, _ => absurd h (Nat.not_lt_zero _)
  | k + 1, _ + 1, 0, _, _, _, _, h => absurd h (Nat.not_lt_zero _)
  | k + 1, f + 1, g + 1, e, G, hf, hk, hg => by
    have hs : 256 < e.size := by
      rcases Nat.lt_or_ge 256 e.size with h | h
      · exact h
      · rw [putF_last h, List.length_singleton] at hk; omega
    have e1 := putF_more (f := f) hs
    have hb := behind_size e
    have hfs := front_size e
    have hsum : (front e).out.length + (front e).inn.length = 256 := by unfold Edit.size at hfs; unfold Edit.size at hs; omega
    have hfo : (front e).out.length = 256 ∨ (pre k (behind e)).out = [] := by
      rcases Nat.lt_or_ge e.out.length 256 with h | h
      · right
        obtain ⟨⟨t, ht⟩, _⟩ := pre_out k (behind e)
        have h0 : (behind e).out = [] := List.drop_of_length_le (by omega)
        rw [h0] at ht
        exact (List.append_eq_nil_iff.1 ht.symm).1
      · left
        simp only [front, List.length_take]
        omega
    have hWo : (withP (pre (k + 1) e)).out = (front e).out ++ (pre k (behind e)).out := rfl
    have hWi : (withP (pre (k + 1) e)).inn = (front e).inn ++ ((pre k (behind e)).inn ++ [pl0]) := by
      show ((front e).inn ++ (pre k (behind e)).inn) ++ [pl0] = _
      rw [List.append_assoc]
    have hto : (withP (pre (k + 1) e)).out.take 256 = (front e).out := by
      rw [hWo]
      rcases hfo with h | h
      · exact List.take_left' h
      · rw [h, List.append_nil, List.take_of_length_le (by omega)]
    have hdo : (withP (pre (k + 1) e)).out.drop 256 = (pre k (behind e)).out := by
      rw [hWo]
      rcases hfo with h | h
      · exact List.drop_left' h
      · rw [h, List.append_nil, List.drop_of_length_le (by omega)]
    have hlen : 256 - min (withP (pre (k + 1) e)).out.length 256 = (front e).inn.length := by
      rw [hWo, List.length_append]
      rcases hfo with h | h
      · omega
      · rw [h, List.length_nil]; omega
    have hti : (withP (pre (k + 1) e)).inn.take (256 - min (withP (pre (k + 1) e)).out.length 256) = (front e).inn := by
      rw [hlen, hWi]; exact List.take_left' rfl
    have hdi : (withP (pre (k + 1) e)).inn.drop (256 - min (withP (pre (k + 1) e)).out.length 256) = (pre k (behind e)).inn ++ [pl0] := by
      rw [hlen, hWi]; exact List.drop_left' rfl
    have hP : piece (withP (pre (k + 1) e)) = piece e := by
      unfold piece
      conv => lhs; unfold front
      simp only [hto, hti]
      rfl
    obtain ⟨p1, p2, p3, p4⟩ := pre_rest k (behind e)
    have hB : behind (withP (pre (k + 1) e)) = withP (pre k (behind e)) := by
      conv => lhs; unfold behind
      simp only [hdo, hdi]
      unfold withP
      rw [p1, p2, p3, p4]
      rfl
    have hW : 256 < (withP (pre (k + 1) e)).size := by
      unfold Edit.size
      rw [hWo, hWi]
      simp only [List.length_append, List.length_singleton]
      omega
    have e2 := putF_more (f := g) hW
    have hb2 := behind_size (withP (pre (k + 1) e))
    rw [e1] at hk ⊢
    rw [List.length_cons] at hk
    rw [e2, hP, hB, List.take_succ_cons, List.take_succ_cons]
    rw [hB] at hb2
    rw [same_pre k f g (behind e) G.behind (by omega) (by omega) (by omega)]
theorem good_pre {e : Edit} (G : Good e) (k : Nat) : Good (withP (pre k e)) := by
  obtain ⟨⟨t, ht⟩, ⟨u, hu⟩⟩ := pre_out k e
  obtain ⟨p1, p2, p3, p4⟩ := pre_rest k e
  refine ⟨by show okU (pre k e).log; rw [p1]; exact G.log, by show okU (pre k e).next; rw [p2]; exact G.next, by show okU (pre k e).seq; rw [p3]; exact G.seq, fun p hp => G.out p (by rw [ht]; exact List.mem_append_left _ hp), fun p hp => ?_, fun p hp => ?_, ?_⟩
  · rcases List.mem_append.1 hp with hp | hp
    · exact G.inn p (by rw [hu]; exact List.mem_append_left _ hp)
    · rw [List.mem_singleton] at hp
      subst hp
      exact ⟨by decide, by decide, ⟨by decide, by decide⟩, by decide, by decide, by decide, by decide, by decide, by decide, by decide, by decide⟩
  · have hp' : p ∈ (pre k e).ptr := hp
    rw [p4] at hp'; cases hp'
  · show (pre k e).ptr.length ≤ 5
    rw [p4]; exact Nat.zero_le _
theorem getR_part {e : Edit} (G : Good e) {k : Nat} (hk : k < (putS e).length) (acc : List Edit) : getR ((putS e).take k) acc zE [] = some acc := by
  cases k with
  | zero => simp [getR]
  | succ k =>
    have hp := put_eq G
    rw [hp] at hk ⊢
    have hs : 256 < e.size := by
      rcases Nat.lt_or_ge 256 e.size with h | h
      · exact h
      · rw [putF_last h, List.length_singleton] at hk; omega
    have e1 := putF_more (f := e.size) hs
    have hb := behind_size e
    have h0 : getR ((putF (e.size + 1) e).take (k + 1)) acc zE [] = getR [] acc (pre (k + 1) e) ((putF (e.size + 1) e).take (k + 1)) := by
      have hk' := hk
      rw [e1] at hk' ⊢
      rw [List.length_cons] at hk'
      rw [List.take_succ_cons, getR_some (rd_piece G)]
      simp only [Bool.false_eq_true, if_false]
      have hj : joinE zE (piece e) [] = piece e := by unfold joinE; rw [if_pos List.length_nil]
      rw [hj, getR_pre k e.size (behind e) (piece e) _ acc G.behind (by omega) (by omega) (by simp) rfl rfl rfl rfl]
      rfl
    rw [h0]
    have hl : ((putF (e.size + 1) e).take (k + 1)).length = k + 1 := by rw [List.length_take]; omega
    unfold getR
    rw [hl, if_neg (by omega)]
    have hW := put_eq (good_pre G (k + 1))
    have hsame := same_pre (k + 1) (e.size + 1) ((withP (pre (k + 1) e)).size + 1) e G (Nat.lt_succ_self _) hk (Nat.lt_succ_self _)
    have hlW : k + 1 ≤ (putF ((withP (pre (k + 1) e)).size + 1) (withP (pre (k + 1) e))).length := by
      have := congrArg List.length hsame
      rw [hl, List.length_take] at this
      omega
    have : sameP (withP (pre (k + 1) e)) ((putF (e.size + 1) e).take (k + 1)) false = true := by
      unfold sameP
      rw [hW, hl, if_neg (by omega), if_neg (fun hh => by cases hh.1), hsame]
      simp
    rw [if_pos this]
/-- GET OF THE FIRST n RECORDS: the edits whose last record is there. -/
theorem getR_first {L : List Edit} (hL : ∀ e ∈ L, Good e) {n w : Nat} (hn : n ≤ (L.flatMap putS).length) (hw : w ≤ L.length) (h1 : ((L.take w).flatMap putS).length ≤ n) (h2 : w = L.length ∨ ∃ hi : w < L.length, n < ((L.take w).flatMap putS).length + (putS L[w]).length) :
    getR ((L.flatMap putS).take n) [] zE [] = some (L.take w) := by
  rcases h2 with rfl | ⟨hi, h2⟩
  · rw [List.take_length] at h1 ⊢
    rw [List.take_of_length_le h1]
    have := getR_all L [] [] hL
    rw [List.append_nil, List.nil_append] at this
    rw [this]
    simp [getR]
  · have hsplit : L.flatMap putS = (L.take w).flatMap putS ++ (putS L[w] ++ (L.drop (w + 1)).flatMap putS) := by
      conv => lhs; rw [← List.take_append_drop w L, List.drop_eq_getElem_cons hi]
      rw [List.flatMap_append, List.flatMap_cons]
    rw [hsplit, List.take_append, List.take_of_length_le h1, List.take_append_of_le_length (by omega)]
    rw [getR_all (L.take w) [] _ (fun e he => hL e (List.mem_of_mem_take he)), List.nil_append]
    exact getR_part (hL _ (List.getElem_mem hi)) (by omega) _
end Go.Eng.YtblghgacokoklaaDoor
end
section
/-
  SPECS, 15: edits as they are handed in; few; place; copied.
-/
set_option linter.unusedSimpArgs false
set_option linter.unusedVariables false
namespace Go.Eng.YtblghgacokoklaaDoor
def iI (n : Int) : Prop := -9223372036854775808 ≤ n ∧ n < 9223372036854775808
/-- An edit whose numbers fit their kinds. -/
structure Raw (e : Edit) : Prop where
  log : okU e.log
  next : okU e.next
  seq : okU e.seq
  out : ∀ p ∈ e.out, iI p.lv ∧ okU p.num
  inn : ∀ p ∈ e.inn, iI p.lv ∧ okU p.num ∧ iI p.weight ∧ iI p.bytes ∧ iI p.entries ∧ p.least.size ≤ 9223372036854775807 ∧ p.greatest.size ≤ 9223372036854775807
  ptr : ∀ p ∈ e.ptr, p.size ≤ 9223372036854775807
/-- A list of edits that was handed in. -/
structure Args (h : Hp) (l : Sl) (L : List EdS) : Prop where
  row : h.row l.a (l.n * 6) (edV L)
  at_ : ∀ x ∈ L, EdAt h x.e x.a x.b x.c
  raw : ∀ x ∈ L, Raw x.e
  big : ∀ x ∈ L, x.e.out.length ≤ 9223372036854775807 ∧ x.e.inn.length ≤ 9223372036854775807 ∧ x.e.ptr.length ≤ 9223372036854775807
theorem Args.keep {h h' : Hp} (k : Keep h h') {l : Sl} {L : List EdS} (A : Args h l L) : Args h' l L := ⟨k.row A.row, fun x hx => (A.at_ x hx).keep k, A.raw, A.big⟩
theorem Args.n {h : Hp} {l : Sl} {L : List EdS} (A : Args h l L) : l.n = L.length := by
  have h1 := A.row.1
  unfold edV at h1
  rw [flat_length EdS.cells 6 (fun _ => rfl)] at h1
  omega
def adv (c m : Int) : Int := if 0 ≤ c then c - m else c
theorem add_q {h0 h : Hp} {b : Nat} {c n m : Int} {Q : Value → Hp → Prop} (hb0 : h0 b = none) (K : Keep h0 h) (hb : h b = some (.cells ⟨[.int .i64 c]⟩ 159 (0, 0))) (hn : n = IntKind.wrap .i64 m) (hm0 : 0 ≤ m) (hm1 : m ≤ 9223372036854775808) (hc : c ≤ 1000000)
    (hQ : ∀ r h', Keep h0 h' → h' b = some (.cells ⟨[.int .i64 (adv c m)]⟩ 159 (0, 0)) → Q (.bool r) h') : F115.T (some ⟨b, 0, none⟩) n h Q := by
  have hat2 : h.at b 0 = some (.int .i64 c) := by unfold Hp.at; rw [hb]; rfl
  refine ⟨b, 0, rfl, c, hat2, fun hc0 => ⟨b, 0, rfl, c, hat2, ?_⟩, fun hc0 => ⟨b, 0, rfl, c, hat2, fun h0 => absurd h0 hc0, fun h0 => ?_⟩⟩
  · have w2 : IntKind.wrap .i64 (c - n) = c - m := by
      rw [hn]
      simp [IntKind.wrap, IntKind.signed, IntKind.bits]
      omega
    rw [w2]
    have hw := wr_at (o := 0) (vs := [.int .i64 (c - m)]) hb
    have kw := keep_wr_new hb0 K 0 [.int .i64 (c - m)]
    have ha : adv c m = c - m := by unfold adv; rw [if_pos hc0]
    rw [ha] at hQ
    exact ⟨b, 0, rfl, ⟨_, _, _, hb, Nat.le_of_ble_eq_true rfl, fun j _ _ => by simp⟩, b, 0, rfl, c - m, by unfold Hp.at; rw [hw]; rfl, fun _ => hQ true _ kw hw, fun _ => hQ false _ kw hw⟩
  · have ha : adv c m = c := by unfold adv; rw [if_neg hc0]
    rw [ha] at hQ
    exact hQ false h K hb
theorem text_q {h0 h : Hp} {b : Nat} {c : Int} {s : ByteArray} {Q : Value → Hp → Prop} (hb0 : h0 b = none) (K : Keep h0 h) (hb : h b = some (.cells ⟨[.int .i64 c]⟩ 159 (0, 0))) (hs : s.size ≤ 9223372036854775807) (hc : c ≤ 1000000)
    (hQ : ∀ h', Keep h0 h' → h' b = some (.cells ⟨[.int .i64 (adv c (1 + (s.size : Int)))]⟩ 159 (0, 0)) → Q (.tuple ⟨[]⟩) h') : F116.T (some ⟨b, 0, none⟩) s h Q :=
  add_q hb0 K hb rfl (by omega) (by omega) hc fun r h' K' hb' => ⟨r, rfl, fun _ => hQ h' K' hb', fun _ => hQ h' K' hb'⟩
theorem wrap_id {n : Nat} (h : n ≤ 9223372036854775807) : (n : Int) = IntKind.wrap .i64 (n : Int) := (wrap_i64 (by omega) (by omega)).symm
theorem ptr_q {h0 h : Hp} {l2 : Sl} {ptr : List ByteArray} {b : Nat} {c d : Int} {Q : Value → Hp → Prop} (hr : h0.row l2.a l2.n (ptrV ptr)) (hs : ∀ s ∈ ptr, s.size ≤ 9223372036854775807) (hb0 : h0 b = none) (K : Keep h0 h) (hb : h b = some (.cells ⟨[.int .i64 c]⟩ 159 (0, 0))) (hc : c ≤ 1000000) (hd : 0 ≤ c → c ≤ d)
    (hQ : ∀ h' c', Keep h0 h' → h' b = some (.cells ⟨[.int .i64 c']⟩ 159 (0, 0)) → c' ≤ 1000000 → (0 ≤ c' → c' + (ptr.length : Int) ≤ d) → Q (.tuple ⟨[]⟩) h') :
    ∃ (I : Int → Hp → Prop) (m : Int → Hp → Nat), I 0 h ∧ (∀ n3 : Int, ∀ h3 : Hp, I n3 h3 → par (n3 < (l2.n : Int)) (F60.T (some ⟨b, 0, none⟩) h3 fun r1 h4 => ∃ b1 : Bool, r1 = .bool b1 ∧ parB b1 (∃ b2 o, (l2.a : Option Addr) = some ⟨b2, o, none⟩ ∧ ((0 : Int) ≤ n3 ∧ n3 < (l2.n : Int)) ∧ ∃ s : ByteArray, h4.at b2 (o + n3.toNat) = some (.string s) ∧ F116.T (some ⟨b, 0, none⟩) s h4 fun r2 h5 => I (IntKind.wrap .i64 (n3 + 1)) h5 ∧ m (IntKind.wrap .i64 (n3 + 1)) h5 < m n3 h3) (Q (.tuple ⟨[]⟩) h4)) (Q (.tuple ⟨[]⟩) h3)) := by
  have hln : l2.n = ptr.length := by have := hr.1; unfold ptrV at this; rw [List.length_map] at this; exact this.symm
  refine ⟨fun n h1 => ∃ (i : Nat) (c1 : Int), n = (i : Int) ∧ i ≤ ptr.length ∧ Keep h0 h1 ∧ h1 b = some (.cells ⟨[.int .i64 c1]⟩ 159 (0, 0)) ∧ c1 ≤ 1000000 ∧ (0 ≤ c1 → c1 + (i : Int) ≤ c), fun n _ => ptr.length - n.toNat, ⟨0, c, rfl, Nat.zero_le _, K, hb, hc, fun h => by omega⟩, ?_⟩
  rintro n h1 ⟨i, c1, rfl, hi, K1, hb1, hc1, hsum⟩
  refine ⟨fun hlt => ?_, fun hge => hQ h1 c1 K1 hb1 hc1 fun h0' => by have := hsum h0'; have := hd (by omega); omega⟩
  have ia : i < ptr.length := by omega
  refine ok_q hb1 (fun hp => ⟨true, rfl, fun _ => ?_, fun h0' => (by cases h0')⟩) (fun hp => ⟨false, rfl, fun h0' => (by cases h0'), fun _ => hQ h1 c1 K1 hb1 hc1 fun h0' => absurd h0' hp⟩)
  obtain ⟨b0, o0, ha0, hat⟩ := row_get (K1.row hr) (i := i) (by omega)
  have hsz := hs _ (List.getElem_mem ia)
  have hsm := hsum hp
  have w3 : IntKind.wrap .i64 ((i : Int) + 1) = ((i + 1 : Nat) : Int) := by rw [wrap_i64 (by omega) (by omega)]; omega
  refine ⟨b0, o0, ha0, ⟨by omega, hlt⟩, ptr[i], by rw [Int.toNat_natCast, hat i (by omega)]; simp [ptrV, ia], ?_⟩
  refine text_q hb0 K1 hb1 hsz hc1 fun h' K' hb' => ?_
  rw [w3]
  refine ⟨⟨i + 1, _, rfl, ia, K', hb', ?_, ?_⟩, by dsimp only; omega⟩
  · unfold adv; rw [if_pos hp]; omega
  · unfold adv; rw [if_pos hp]; intro _; omega
theorem inn_q {h0 h : Hp} {l1 : Sl} {inn : List Placed} {b : Nat} {c d : Int} {J : Hp → Prop} (hr : h0.row l1.a (l1.n * 7) (inV inn)) (hs : ∀ p ∈ inn, p.least.size ≤ 9223372036854775807 ∧ p.greatest.size ≤ 9223372036854775807) (hb0 : h0 b = none) (K : Keep h0 h) (hb : h b = some (.cells ⟨[.int .i64 c]⟩ 159 (0, 0))) (hc : c ≤ 1000000) (hd : 0 ≤ c → c ≤ d)
    (hJ : ∀ h' c', Keep h0 h' → h' b = some (.cells ⟨[.int .i64 c']⟩ 159 (0, 0)) → c' ≤ 1000000 → (0 ≤ c' → c' + (inn.length : Int) ≤ d) → J h') :
    ∃ (I1 : Int → Hp → Prop) (m1 : Int → Hp → Nat), I1 0 h ∧ (∀ n4 : Int, ∀ h6 : Hp, I1 n4 h6 → par (n4 < (l1.n : Int)) (F60.T (some ⟨b, 0, none⟩) h6 fun r3 h7 => ∃ b3 : Bool, r3 = .bool b3 ∧ parB b3 (∃ b4 o1, (l1.a : Option Addr) = some ⟨b4, o1, none⟩ ∧ ((0 : Int) ≤ n4 ∧ n4 < (l1.n : Int)) ∧ ∃ s1 : ByteArray, h7.at b4 (((o1 + n4.toNat * 7) + 1) + 4) = some (.string s1) ∧ F116.T (some ⟨b, 0, none⟩) s1 h7 fun r4 h8 => ∃ b5 o2, (l1.a : Option Addr) = some ⟨b5, o2, none⟩ ∧ ((0 : Int) ≤ n4 ∧ n4 < (l1.n : Int)) ∧ ∃ s2 : ByteArray, h8.at b5 (((o2 + n4.toNat * 7) + 1) + 5) = some (.string s2) ∧ F115.T (some ⟨b, 0, none⟩) (s2.size : Int) h8 fun r5 h9 => ∃ b6 : Bool, r5 = .bool b6 ∧ parB b6 (I1 (IntKind.wrap .i64 (n4 + 1)) h9 ∧ m1 (IntKind.wrap .i64 (n4 + 1)) h9 < m1 n4 h6) (I1 (IntKind.wrap .i64 (n4 + 1)) h9 ∧ m1 (IntKind.wrap .i64 (n4 + 1)) h9 < m1 n4 h6)) (J h7)) (J h6)) := by
  have hln : l1.n = inn.length := by
    have h1 := hr.1
    unfold inV at h1
    rw [flat_length Placed.cells 7 (fun _ => rfl)] at h1
    omega
  refine ⟨fun n h1 => ∃ (i : Nat) (c1 : Int), n = (i : Int) ∧ i ≤ inn.length ∧ Keep h0 h1 ∧ h1 b = some (.cells ⟨[.int .i64 c1]⟩ 159 (0, 0)) ∧ c1 ≤ 1000000 ∧ (0 ≤ c1 → c1 + (i : Int) ≤ c), fun n _ => inn.length - n.toNat, ⟨0, c, rfl, Nat.zero_le _, K, hb, hc, fun h => by omega⟩, ?_⟩
  rintro n h1 ⟨i, c1, rfl, hi, K1, hb1, hc1, hsum⟩
  refine ⟨fun hlt => ?_, fun hge => hJ h1 c1 K1 hb1 hc1 fun h0' => by have := hsum h0'; have := hd (by omega); omega⟩
  have ia : i < inn.length := by omega
  refine ok_q hb1 (fun hp => ⟨true, rfl, fun _ => ?_, fun h0' => (by cases h0')⟩) (fun hp => ⟨false, rfl, fun h0' => (by cases h0'), fun _ => hJ h1 c1 K1 hb1 hc1 fun h0' => absurd h0' hp⟩)
  obtain ⟨b0, o0, ha0, hat⟩ := row_get (hr) (i := i * 7) (by omega)
  have cc : ∀ j, j < 7 → h0.at b0 ((o0 + i * 7) + j) = (Placed.cells inn[i])[j]? := fun j hj => by
    rw [Nat.add_assoc, hat _ (by omega)]
    exact flat_get Placed.cells 7 (fun _ => rfl) inn i j ia hj
  have hsz := hs _ (List.getElem_mem ia)
  have hsm := hsum hp
  have w3 : IntKind.wrap .i64 ((i : Int) + 1) = ((i + 1 : Nat) : Int) := by rw [wrap_i64 (by omega) (by omega)]; omega
  refine ⟨b0, o0, ha0, ⟨by omega, hlt⟩, inn[i].least, by rw [Int.toNat_natCast]; exact K1.at (cc 5 (by decide)), ?_⟩
  refine text_q hb0 K1 hb1 hsz.1 hc1 fun h2 K2 hb2 => ?_
  refine ⟨b0, o0, ha0, ⟨by omega, hlt⟩, inn[i].greatest, by rw [Int.toNat_natCast]; exact K2.at (cc 6 (by decide)), ?_⟩
  have ha : adv c1 (1 + (inn[i].least.size : Int)) = c1 - (1 + (inn[i].least.size : Int)) := by unfold adv; rw [if_pos hp]
  rw [ha] at hb2
  refine add_q hb0 K2 hb2 (wrap_id hsz.2) (by omega) (by omega) (by omega) fun r h3 K3 hb3 => ?_
  rw [w3]
  have fin : (∃ (i' : Nat) (c1' : Int), ((i + 1 : Nat) : Int) = (i' : Int) ∧ i' ≤ inn.length ∧ Keep h0 h3 ∧ h3 b = some (.cells ⟨[.int .i64 c1']⟩ 159 (0, 0)) ∧ c1' ≤ 1000000 ∧ (0 ≤ c1' → c1' + (i' : Int) ≤ c)) ∧ inn.length - (((i + 1 : Nat) : Int)).toNat < inn.length - ((i : Int)).toNat := by
    refine ⟨⟨i + 1, _, rfl, ia, K3, hb3, ?_, ?_⟩, by omega⟩
    · unfold adv; split <;> omega
    · unfold adv; split <;> (intro _; omega)
  exact ⟨r, rfl, fun _ => fin, fun _ => fin⟩
theorem edit_q {h0 h : Hp} {x : EdS} {b : Nat} {c : Int} {Q : Value → Hp → Prop} (E : EdAt h0 x.e x.a x.b x.c) (R : Raw x.e) (hbig : x.e.out.length ≤ 9223372036854775807) (hb0 : h0 b = none) (K : Keep h0 h) (hb : h b = some (.cells ⟨[.int .i64 c]⟩ 159 (0, 0))) (hc : c ≤ 1000000)
    (hQ : ∀ h' c', Keep h0 h' → h' b = some (.cells ⟨[.int .i64 c']⟩ 159 (0, 0)) → c' ≤ 1000000 → (0 ≤ c' → c' + (1 + (x.e.out.length : Int) + x.e.inn.length + x.e.ptr.length) ≤ c) → Q (.tuple ⟨[]⟩) h') : F91.T (some ⟨b, 0, none⟩) x.e.log x.e.next x.e.seq x.a x.b x.c h Q := by
  have n1 := E.nout
  have go : ∀ h1 : Hp, Keep h0 h1 → h1 b = some (.cells ⟨[.int .i64 (adv c (1 + (x.e.out.length : Int)))]⟩ 159 (0, 0)) → (∃ J : Hp → Prop, (∀ h2 : Hp, J h2 → ∃ (I : Int → Hp → Prop) (m : Int → Hp → Nat), I 0 h2 ∧ (∀ n3 : Int, ∀ h3 : Hp, I n3 h3 → par (n3 < (x.c.n : Int)) (F60.T (some ⟨b, 0, none⟩) h3 fun r1 h4 => ∃ b1 : Bool, r1 = .bool b1 ∧ parB b1 (∃ b2 o, (x.c.a : Option Addr) = some ⟨b2, o, none⟩ ∧ ((0 : Int) ≤ n3 ∧ n3 < (x.c.n : Int)) ∧ ∃ s : ByteArray, h4.at b2 (o + n3.toNat) = some (.string s) ∧ F116.T (some ⟨b, 0, none⟩) s h4 fun r2 h5 => I (IntKind.wrap .i64 (n3 + 1)) h5 ∧ m (IntKind.wrap .i64 (n3 + 1)) h5 < m n3 h3) (Q (.tuple ⟨[]⟩) h4)) (Q (.tuple ⟨[]⟩) h3))) ∧ (∃ (I1 : Int → Hp → Prop) (m1 : Int → Hp → Nat), I1 0 h1 ∧ (∀ n4 : Int, ∀ h6 : Hp, I1 n4 h6 → par (n4 < (x.b.n : Int)) (F60.T (some ⟨b, 0, none⟩) h6 fun r3 h7 => ∃ b3 : Bool, r3 = .bool b3 ∧ parB b3 (∃ b4 o1, (x.b.a : Option Addr) = some ⟨b4, o1, none⟩ ∧ ((0 : Int) ≤ n4 ∧ n4 < (x.b.n : Int)) ∧ ∃ s1 : ByteArray, h7.at b4 (((o1 + n4.toNat * 7) + 1) + 4) = some (.string s1) ∧ F116.T (some ⟨b, 0, none⟩) s1 h7 fun r4 h8 => ∃ b5 o2, (x.b.a : Option Addr) = some ⟨b5, o2, none⟩ ∧ ((0 : Int) ≤ n4 ∧ n4 < (x.b.n : Int)) ∧ ∃ s2 : ByteArray, h8.at b5 (((o2 + n4.toNat * 7) + 1) + 5) = some (.string s2) ∧ F115.T (some ⟨b, 0, none⟩) (s2.size : Int) h8 fun r5 h9 => ∃ b6 : Bool, r5 = .bool b6 ∧ parB b6 (I1 (IntKind.wrap .i64 (n4 + 1)) h9 ∧ m1 (IntKind.wrap .i64 (n4 + 1)) h9 < m1 n4 h6) (I1 (IntKind.wrap .i64 (n4 + 1)) h9 ∧ m1 (IntKind.wrap .i64 (n4 + 1)) h9 < m1 n4 h6)) (J h7)) (J h6)))) := by
    intro h1 K1 hb1
    have hc1 : adv c (1 + (x.e.out.length : Int)) ≤ 1000000 := by unfold adv; split <;> omega
    have hd1 : 0 ≤ adv c (1 + (x.e.out.length : Int)) → adv c (1 + (x.e.out.length : Int)) + (1 + (x.e.out.length : Int)) ≤ c := by unfold adv; split <;> (intro _; omega)
    refine ⟨fun h2 => ∃ c2, Keep h0 h2 ∧ h2 b = some (.cells ⟨[.int .i64 c2]⟩ 159 (0, 0)) ∧ c2 ≤ 1000000 ∧ (0 ≤ c2 → c2 + (x.e.inn.length : Int) ≤ adv c (1 + (x.e.out.length : Int))), ?_, ?_⟩
    · rintro h2 ⟨c2, K2, hb2, hc2, hs2⟩
      refine ptr_q (d := c2) E.ptr R.ptr hb0 K2 hb2 hc2 (fun _ => Int.le_refl _) fun h3 c3 K3 hb3 hc3 hs3 => hQ h3 c3 K3 hb3 hc3 fun h0' => ?_
      have := hs3 h0'
      have := hs2 (by omega)
      have := hd1 (by omega)
      omega
    · exact inn_q (d := adv c (1 + (x.e.out.length : Int))) E.inn (fun p hp => (R.inn p hp).2.2.2.2.2) hb0 K1 hb1 hc1 (fun _ => Int.le_refl _) fun h3 c3 K3 hb3 hc3 hs3 => ⟨c3, K3, hb3, hc3, hs3⟩
  refine add_q hb0 K hb (m := 1 + (x.e.out.length : Int)) (by rw [n1]) (by omega) (by omega) hc fun r h1 K1 hb1 => ⟨r, rfl, fun _ => go h1 K1 hb1, fun _ => go h1 K1 hb1⟩
/-- How many parts. -/
def parts (L : List EdS) : Nat := (L.map fun x => 1 + x.e.out.length + x.e.inn.length + x.e.ptr.length).sum
theorem parts_succ {L : List EdS} {i : Nat} (h : i < L.length) : parts (L.take (i + 1)) = parts (L.take i) + (1 + L[i].e.out.length + L[i].e.inn.length + L[i].e.ptr.length) := by
  rw [List.take_succ_eq_append_getElem h]
  unfold parts
  rw [List.map_append, List.sum_append]
  simp only [List.map_cons, List.map_nil, List.sum_cons, List.sum_nil, Nat.add_zero]
theorem parts_cons (x : EdS) (L : List EdS) : parts (x :: L) = 1 + x.e.out.length + x.e.inn.length + x.e.ptr.length + parts L := by simp [parts]
theorem parts_len (L : List EdS) : L.length ≤ parts L := by
  induction L with
  | nil => simp
  | cons a l ih => rw [parts_cons, List.length_cons]; omega
theorem parts_mem {L : List EdS} {x : EdS} (h : x ∈ L) : 1 + x.e.out.length + x.e.inn.length + x.e.ptr.length ≤ parts L := by
  induction L with
  | nil => cases h
  | cons a l ih =>
    rw [parts_cons]
    rcases List.mem_cons.1 h with rfl | h
    · omega
    · have := ih h; omega
theorem few_spec {h : Hp} {l : Sl} {L : List EdS} {Q : Value → Hp → Prop} (A : Args h l L) (hT : ∀ h', Keep h h' → parts L ≤ 10000 → Q (.bool true) h') (hF : ∀ h', Keep h h' → Q (.bool false) h') : F17.T l h Q := by
  have hln := A.n
  intro b hb
  refine ⟨some ⟨b, 0, none⟩, rfl, ?_⟩
  have hb1 : (h.new b (.cells ⟨[.int .i64 10000]⟩ 159 (0, 0))) b = some (.cells ⟨[.int .i64 10000]⟩ 159 (0, 0)) := new_self _ _ _
  have fin : ∀ h' c, Keep h h' → h' b = some (.cells ⟨[.int .i64 c]⟩ 159 (0, 0)) → (0 ≤ c → parts L ≤ 10000) → F60.T (some ⟨b, 0, none⟩) h' fun r2 h3 => ∃ b : Bool, r2 = .bool b ∧ parB b (Q (.bool true) h3) (Q (.bool false) h3) := fun h' c K' hc ht =>
    ok_q hc (fun h0 => ⟨true, rfl, fun _ => hT h' K' (ht h0), fun h1 => (by cases h1)⟩) (fun h0 => ⟨false, rfl, fun h1 => (by cases h1), fun _ => hF h' K'⟩)
  refine ⟨fun n h1 => ∃ (i : Nat) (c : Int), n = (i : Int) ∧ i ≤ L.length ∧ Keep h h1 ∧ h1 b = some (.cells ⟨[.int .i64 c]⟩ 159 (0, 0)) ∧ c ≤ 1000000 ∧ (0 ≤ c → c + (parts (L.take i) : Int) ≤ 10000), fun n _ => L.length - n.toNat, ⟨0, 10000, rfl, Nat.zero_le _, Keep.new hb _, hb1, by decide, fun _ => by simp [parts]⟩, ?_⟩
  rintro n h1 ⟨i, c, rfl, hi, K1, hbc, hc, hsum⟩
  refine ⟨fun hlt => ?_, fun hge => ?_⟩
  · have ia : i < L.length := by omega
    refine ok_q hbc (fun hp => ⟨true, rfl, fun _ => ?_, fun h0 => (by cases h0)⟩) (fun hp => ⟨false, rfl, fun h0 => (by cases h0), fun _ => fin h1 c K1 hbc fun h0 => absurd h0 hp⟩)
    obtain ⟨b0, o0, ha0, hat⟩ := row_get (K1.row A.row) (i := i * 6) (by omega)
    have cc : ∀ j, j < 6 → h1.at b0 ((o0 + i * 6) + j) = (EdS.cells L[i])[j]? := fun j hj => by
      rw [Nat.add_assoc, hat _ (by omega)]
      exact flat_get EdS.cells 6 (fun _ => rfl) L i j ia hj
    have hx := List.getElem_mem ia
    have hs := hsum hp
    have hpl := parts_len (L.take i)
    rw [List.length_take, Nat.min_eq_left hi] at hpl
    have hps := parts_succ ia
    have w3 : IntKind.wrap .i64 ((i : Int) + 1) = ((i + 1 : Nat) : Int) := by rw [wrap_i64 (by omega) (by omega)]; omega
    rw [Int.toNat_natCast, w3]
    refine ⟨b0, o0, ha0, ⟨by omega, hlt⟩, _, cc 0 (by decide), _, cc 1 (by decide), _, cc 2 (by decide), _, cc 3 (by decide), _, cc 4 (by decide), _, cc 5 (by decide), ?_⟩
    refine edit_q (x := L[i]) (A.at_ _ hx) (A.raw _ hx) (A.big _ hx).1 hb K1 hbc hc fun h2 c2 K2 hb2 hc2 hs2 => ⟨⟨i + 1, c2, rfl, ia, K2, hb2, hc2, fun h0 => ?_⟩, by dsimp only; omega⟩
    have := hs2 h0
    rw [hps]
    omega
  · have hie : i = L.length := by omega
    subst hie
    rw [List.take_length] at hsum
    exact fin h1 c K1 hbc fun h0 => by have := hsum h0; omega
theorem place_spec {h : Hp} {n m : Int} {Q : Value → Hp → Prop} (hn : iI n) (hm : 0 < m) (hQ : ∀ r, 0 ≤ r → r < m → Q (.int .i64 r) h) : F28.T n m h Q := by
  have key : ∀ a : Int, 0 ≤ a → 0 ≤ Int.tmod a m ∧ Int.tmod a m < m := fun a ha => ⟨Int.tmod_nonneg m ha, Int.tmod_lt_of_pos a hm⟩
  have h1 := hn.1
  have h2 := hn.2
  refine ⟨fun hlt => ⟨by omega, ?_⟩, fun hge => ⟨by omega, ?_⟩⟩
  · have w1 : IntKind.wrap .i64 (n + 1) = n + 1 := wrap_i64 (by omega) (by omega)
    have w2 : IntKind.wrap .i64 (0 - (n + 1)) = 0 - (n + 1) := wrap_i64 (by omega) (by omega)
    rw [w1, w2]
    have := key (0 - (n + 1)) (by omega)
    exact hQ _ this.1 this.2
  · have := key n (by omega)
    exact hQ _ this.1 this.2
end Go.Eng.YtblghgacokoklaaDoor
end
section
/-
  SPECS, 16: copies; writing into one's own lists.
-/
set_option linter.unusedSimpArgs false
set_option linter.unusedVariables false
namespace Go.Eng.YtblghgacokoklaaDoor
structure Three (h : Hp) (x : EdS) : Prop where
  a : Buf h x.a 2 104 (outV x.e.out)
  b : Buf h x.b 7 108 (inV x.e.inn)
  c : Buf h x.c 1 9 (ptrV x.e.ptr)
theorem Three.upd {h h' : Hp} {s s' : Sl} {x : EdS} (T : Three h x) (U : Upd h h' s s') (oa : Off x.a s) (ob : Off x.b s) (oc : Off x.c s) : Three h' x := ⟨T.a.upd U oa, T.b.upd U ob, T.c.upd U oc⟩
theorem Three.keep {h h' : Hp} {x : EdS} (T : Three h x) (k : Keep h h') : Three h' x := ⟨T.a.keep k, T.b.keep k, T.c.keep k⟩
def Ap (y z : EdS) : Prop := Off y.a z.a ∧ Off y.b z.b ∧ Off y.c z.c
def PW (L : List EdS) : Prop := L.Pairwise fun y z => Ap y z ∧ Ap z y
/-- A list of edits of one's own. -/
structure Ws (h0 h : Hp) (l1 : Sl) (L : List EdS) : Prop where
  B : Buf h l1 6 65 (edV L)
  T : ∀ y ∈ L, Three h y
  N : ∀ y ∈ L, (y.a.a = none ∨ New h0 y.a) ∧ (y.b.a = none ∨ New h0 y.b) ∧ (y.c.a = none ∨ New h0 y.c)
  N1 : l1.a = none ∨ New h0 l1
  K : Keep h0 h
theorem new_off {h : Hp} {s r : Sl} {sz t : Nat} {vs : List Value} (N : s.a = none ∨ New h s) (B : Buf h r sz t vs) : Off r s ∧ Off s r := by
  have key : ∀ b o o', r.a = some ⟨b, o, none⟩ → s.a = some ⟨b, o', none⟩ → False := by
    intro b o o' e1 e2
    rcases N with h0 | ⟨k, hk, hn⟩
    · rw [h0] at e2; cases e2
    · rw [hk] at e2
      simp only [Option.some.injEq, Addr.mk.injEq] at e2
      rcases B.own with ⟨ha, _⟩ | ⟨b1, c, f, ha, hb, _⟩
      · rw [ha] at e1; cases e1
      · rw [ha] at e1
        simp only [Option.some.injEq, Addr.mk.injEq] at e1
        rw [e1.1, ← e2.1, hn] at hb; cases hb
  exact ⟨fun b o o' e1 e2 => key b o o' e1 e2, fun b o o' e1 e2 => key b o' o e2 e1⟩
theorem PW.other {P R : List EdS} {x : EdS} (h : PW (P ++ x :: R)) {y : EdS} (hy : y ∈ P ∨ y ∈ R) : Ap y x := by
  unfold PW at h
  rw [List.pairwise_append, List.pairwise_cons] at h
  obtain ⟨_, ⟨h2, _⟩, h3⟩ := h
  rcases hy with hy | hy
  · exact (h3 y hy x List.mem_cons_self).1
  · exact (h2 y hy).2
theorem PW.swap {P R : List EdS} {x x' : EdS} (h : PW (P ++ x :: R)) (ha : x'.a.a = x.a.a) (hb : x'.b.a = x.b.a) (hc : x'.c.a = x.c.a) : PW (P ++ x' :: R) := by
  have e1 : ∀ y, Ap y x → Ap y x' := by
    intro y hy
    refine ⟨?_, ?_, ?_⟩
    · have := hy.1; unfold Off at this ⊢; rw [ha]; exact this
    · have := hy.2.1; unfold Off at this ⊢; rw [hb]; exact this
    · have := hy.2.2; unfold Off at this ⊢; rw [hc]; exact this
  have e2 : ∀ y, Ap x y → Ap x' y := by
    intro y hy
    refine ⟨?_, ?_, ?_⟩
    · have := hy.1; unfold Off at this ⊢; rw [ha]; exact this
    · have := hy.2.1; unfold Off at this ⊢; rw [hb]; exact this
    · have := hy.2.2; unfold Off at this ⊢; rw [hc]; exact this
  unfold PW at h ⊢
  rw [List.pairwise_append, List.pairwise_cons] at h ⊢
  obtain ⟨h1, ⟨h2, h4⟩, h3⟩ := h
  refine ⟨h1, ⟨fun y hy => ⟨e2 y (h2 y hy).1, e1 y (h2 y hy).2⟩, h4⟩, fun y hy z hz => ?_⟩
  rcases List.mem_cons.1 hz with rfl | hz
  · have := h3 y hy x List.mem_cons_self
    exact ⟨e1 y this.1, e2 y this.2⟩
  · exact h3 y hy z (List.mem_cons_of_mem _ hz)
theorem mem_mid {P R : List EdS} {x y : EdS} (h : y ∈ P ++ x :: R) : y = x ∨ (y ∈ P ∨ y ∈ R) := by
  rcases List.mem_append.1 h with h | h
  · exact .inr (.inl h)
  · rcases List.mem_cons.1 h with h | h
    · exact .inl h
    · exact .inr (.inr h)
theorem mem_mid' {P R : List EdS} {x y : EdS} (h : y ∈ P ∨ y ∈ R) : y ∈ P ++ x :: R := by
  rcases h with h | h
  · exact List.mem_append_left _ h
  · exact List.mem_append_right _ (List.mem_cons_of_mem _ h)
theorem Ws.x {h0 h : Hp} {l1 : Sl} {P R : List EdS} {x : EdS} (W : Ws h0 h l1 (P ++ x :: R)) : Three h x := W.T x (List.mem_append_right _ List.mem_cons_self)
theorem Ws.nx {h0 h : Hp} {l1 : Sl} {P R : List EdS} {x : EdS} (W : Ws h0 h l1 (P ++ x :: R)) : (x.a.a = none ∨ New h0 x.a) ∧ (x.b.a = none ∨ New h0 x.b) ∧ (x.c.a = none ∨ New h0 x.c) := W.N x (List.mem_append_right _ List.mem_cons_self)
theorem Ws.setA {h0 h h' : Hp} {l1 : Sl} {P R : List EdS} {x : EdS} (W : Ws h0 h l1 (P ++ x :: R)) (hp : PW (P ++ x :: R)) (U : Upd h h' x.a x.a) {o : List Place} (B : Buf h' x.a 2 104 (outV o)) : Ws h0 h' l1 (P ++ ⟨{ x.e with out := o }, x.a, x.b, x.c⟩ :: R) := by
  have X := W.x
  refine ⟨?_, fun y hy => ?_, fun y hy => ?_, W.N1, (keep_grow W.K W.nx.1 U).1⟩
  · have e : edV (P ++ ⟨{ x.e with out := o }, x.a, x.b, x.c⟩ :: R) = edV (P ++ x :: R) := by simp [edV, EdS.cells]
    rw [e]
    exact W.B.upd U (buf_off W.B X.a (by decide))
  · rcases mem_mid hy with rfl | hy
    · exact ⟨B, X.b.upd U (buf_off X.b X.a (by decide)), X.c.upd U (buf_off X.c X.a (by decide))⟩
    · have Y := W.T y (mem_mid' hy)
      exact Y.upd U (hp.other hy).1 (buf_off Y.b X.a (by decide)) (buf_off Y.c X.a (by decide))
  · rcases mem_mid hy with rfl | hy
    · exact W.nx
    · exact W.N y (mem_mid' hy)
theorem Ws.setB {h0 h h' : Hp} {l1 : Sl} {P R : List EdS} {x : EdS} (W : Ws h0 h l1 (P ++ x :: R)) (hp : PW (P ++ x :: R)) (U : Upd h h' x.b x.b) {o : List Placed} (B : Buf h' x.b 7 108 (inV o)) : Ws h0 h' l1 (P ++ ⟨{ x.e with inn := o }, x.a, x.b, x.c⟩ :: R) := by
  have X := W.x
  refine ⟨?_, fun y hy => ?_, fun y hy => ?_, W.N1, (keep_grow W.K W.nx.2.1 U).1⟩
  · have e : edV (P ++ ⟨{ x.e with inn := o }, x.a, x.b, x.c⟩ :: R) = edV (P ++ x :: R) := by simp [edV, EdS.cells]
    rw [e]
    exact W.B.upd U (buf_off W.B X.b (by decide))
  · rcases mem_mid hy with rfl | hy
    · exact ⟨X.a.upd U (buf_off X.a X.b (by decide)), B, X.c.upd U (buf_off X.c X.b (by decide))⟩
    · have Y := W.T y (mem_mid' hy)
      exact Y.upd U (buf_off Y.a X.b (by decide)) (hp.other hy).2.1 (buf_off Y.c X.b (by decide))
  · rcases mem_mid hy with rfl | hy
    · exact W.nx
    · exact W.N y (mem_mid' hy)
theorem Ws.setC {h0 h h' : Hp} {l1 : Sl} {P R : List EdS} {x : EdS} (W : Ws h0 h l1 (P ++ x :: R)) (hp : PW (P ++ x :: R)) (U : Upd h h' x.c x.c) {o : List ByteArray} (B : Buf h' x.c 1 9 (ptrV o)) : Ws h0 h' l1 (P ++ ⟨{ x.e with ptr := o }, x.a, x.b, x.c⟩ :: R) := by
  have X := W.x
  refine ⟨?_, fun y hy => ?_, fun y hy => ?_, W.N1, (keep_grow W.K W.nx.2.2 U).1⟩
  · have e : edV (P ++ ⟨{ x.e with ptr := o }, x.a, x.b, x.c⟩ :: R) = edV (P ++ x :: R) := by simp [edV, EdS.cells]
    rw [e]
    exact W.B.upd U (buf_off W.B X.c (by decide))
  · rcases mem_mid hy with rfl | hy
    · exact ⟨X.a.upd U (buf_off X.a X.c (by decide)), X.b.upd U (buf_off X.b X.c (by decide)), B⟩
    · have Y := W.T y (mem_mid' hy)
      exact Y.upd U (buf_off Y.a X.c (by decide)) (buf_off Y.b X.c (by decide)) (hp.other hy).2.2
  · rcases mem_mid hy with rfl | hy
    · exact W.nx
    · exact W.N y (mem_mid' hy)
/-- Another list of texts is put into the list of edits. -/
theorem Ws.setL {h0 h h' : Hp} {l1 : Sl} {P R : List EdS} {x x' : EdS} (W : Ws h0 h l1 (P ++ x :: R)) (U : Upd h h' l1 l1) (B : Buf h' l1 6 65 (edV (P ++ x' :: R))) (T : Three h x') (N : (x'.a.a = none ∨ New h0 x'.a) ∧ (x'.b.a = none ∨ New h0 x'.b) ∧ (x'.c.a = none ∨ New h0 x'.c)) : Ws h0 h' l1 (P ++ x' :: R) := by
  have key : ∀ y, Three h y → Three h' y := fun y Y => Y.upd U (buf_off Y.a W.B (by decide)) (buf_off Y.b W.B (by decide)) (buf_off Y.c W.B (by decide))
  refine ⟨B, fun y hy => ?_, fun y hy => ?_, W.N1, (keep_grow W.K W.N1 U).1⟩
  · rcases mem_mid hy with rfl | hy
    · exact key _ T
    · exact key _ (W.T y (mem_mid' hy))
  · rcases mem_mid hy with rfl | hy
    · exact N
    · exact W.N y (mem_mid' hy)
/-- WRITING A CELL of a buffer. -/
theorem buf_set {h : Hp} {s : Sl} {sz t k : Nat} {vs : List Value} (B : Buf h s sz t vs) (hk : k < vs.length) : ∃ b, s.a = some ⟨b, 0, none⟩ ∧ h.at b k = vs[k]? ∧ h.canW b k 1 ∧ ∀ v, Upd h (h.wr b k [v]) s s ∧ Buf (h.wr b k [v]) s sz t (vs.set k v) := by
  rcases B.own with ⟨ha, hc⟩ | ⟨b, c, f, ha, hb, hsz, hf, ht⟩
  · have h1 := B.len
    have h2 := B.cap
    have : s.n = 0 := by omega
    rw [this, Nat.zero_mul] at h1
    omega
  · have hlen : vs.length ≤ c.size := by
      rw [B.len]
      exact Nat.le_trans (Nat.mul_le_mul_right _ B.cap) hsz
    have hget : c[k]? = vs[k]? := by
      rw [← ht, List.getElem?_take, if_pos hk, Array.getElem?_toList]
    refine ⟨b, ha, by unfold Hp.at; rw [hb]; exact hget, ⟨c, t, f, hb, by omega, fun j h1 h2 => hf j (by omega)⟩, fun v => ⟨⟨fun j x hj e => ?_, .inl rfl, fun j e => ?_⟩, ⟨by rw [List.length_set]; exact B.len, B.cap, .inr ⟨b, (setL c.toList k [v]).toArray, f, ha, wr_at hb, ?_, ?_, ?_⟩⟩⟩⟩
    · have hjb : j ≠ b := fun q => hj 0 (by rw [q]; exact ha)
      unfold Hp.wr
      rw [if_neg hjb]
      exact e
    · unfold Hp.wr at e
      by_cases hjb : j = b
      · rw [if_pos hjb, hb] at e; cases e
      · rw [if_neg hjb] at e; exact e
    · simp only [List.size_toArray, setL_length, Array.length_toList]; exact hsz
    · intro j hj
      simp only [List.size_toArray, setL_length, Array.length_toList] at hj
      exact hf j hj
    · show ((c.toList.set k v).take (vs.set k v).length) = vs.set k v
      rw [List.length_set, List.take_set, ht]
theorem app_set {α : Type} (A B : List α) (j : Nat) (v : α) : (A ++ B).set (A.length + j) v = A ++ B.set j v := by
  rw [List.set_append_right _ _ (Nat.le_add_right _ _), Nat.add_sub_cancel_left]
theorem app_get {α : Type} (A B : List α) (j : Nat) : (A ++ B)[A.length + j]? = B[j]? := by
  rw [List.getElem?_append_right (Nat.le_add_right _ _), Nat.add_sub_cancel_left]
theorem outV_len (o : List Place) : (outV o).length = o.length * 2 := flat_length Place.cells 2 (fun _ => rfl) o
theorem inV_len (o : List Placed) : (inV o).length = o.length * 7 := flat_length Placed.cells 7 (fun _ => rfl) o
theorem edV_len (o : List EdS) : (edV o).length = o.length * 6 := flat_length EdS.cells 6 (fun _ => rfl) o
/-- COPIES. -/
theorem copied_spec {h : Hp} {l : Sl} {L : List EdS} {Q : Value → Hp → Prop} (A : Args h l L) (hp : parts L ≤ 10000)
    (hQ : ∀ h' l1 L', Ws h h' l1 L' → PW L' → L'.length = L.length → (∀ y ∈ L', Raw y.e ∧ y.e.size ≤ 10000 ∧ y.e.ptr.length ≤ 10000) → Q (.slice l1.a l1.n l1.c) h') : F18.T l h Q := by
  have hln := A.n
  have hpl := parts_len L
  refine ⟨fun l1 n h1 => ∃ (i : Nat) (L' : List EdS), n = (i : Int) ∧ i ≤ L.length ∧ L'.length = i ∧ Ws h h1 l1 L' ∧ PW L' ∧ ∀ y ∈ L', Raw y.e ∧ y.e.size ≤ 10000 ∧ y.e.ptr.length ≤ 10000, fun _ n _ => L.length - n.toNat, ⟨0, [], rfl, Nat.zero_le _, rfl, ⟨Buf.nil h 6 65, fun y hy => (by cases hy), fun y hy => (by cases hy), .inl rfl, Keep.refl h⟩, List.Pairwise.nil, fun y hy => (by cases hy)⟩, ?_⟩
  rintro l1 n h1 ⟨i, L', rfl, hi, hL', W, hpw, hg⟩
  refine ⟨fun hlt => ?_, fun hge => hQ h1 l1 L' W hpw (by omega) hg⟩
  have ia : i < L.length := by omega
  have hx := List.getElem_mem ia
  have hm := parts_mem hx
  have E := (A.at_ _ hx).keep W.K
  obtain ⟨b0, o0, ha0, hat⟩ := row_get (W.K.row A.row) (i := i * 6) (by omega)
  have cc : ∀ j, j < 6 → h1.at b0 ((o0 + i * 6) + j) = (EdS.cells L[i])[j]? := fun j hj => by
    rw [Nat.add_assoc, hat _ (by omega)]
    exact flat_get EdS.cells 6 (fun _ => rfl) L i j ia hj
  have e1 := E.nout
  have e2 := E.ninn
  have e3 := E.nptr
  have w3 : IntKind.wrap .i64 ((i : Int) + 1) = ((i + 1 : Nat) : Int) := by rw [wrap_i64 (by omega) (by omega)]; omega
  rw [Int.toNat_natCast, w3]
  refine ⟨b0, o0, ha0, ⟨by omega, hlt⟩, _, cc 0 (by decide), _, cc 1 (by decide), _, cc 2 (by decide), _, cc 3 (by decide), _, cc 4 (by decide), _, cc 5 (by decide), _, E.out, out_one _, ?_⟩
  refine append_buf (Buf.nil h1 2 104) rfl E.out.1 (by show (0 + _) * 16 ≤ _; omega) fun l5 h2 B5 n5 U5 => ⟨_, (U5.keepNil rfl).row E.inn, in_one _, ?_⟩
  have K5 := U5.keepNil rfl
  refine append_buf (Buf.nil h2 7 108) rfl E.inn.1 (by show (0 + _) * 72 ≤ _; omega) fun l6 h3 B6 n6 U6 => ?_
  have K6 := U6.keepNil rfl
  have hptr := (K5.trans K6).row E.ptr
  refine ⟨_, by rw [Nat.mul_one]; exact hptr, fun v hv => (by obtain ⟨s, _, rfl⟩ := List.mem_map.1 hv; rfl), ?_⟩
  refine append_buf (Buf.nil h3 1 9) rfl (by rw [Nat.mul_one]; exact hptr.1) (by show (0 + _) * 16 ≤ _; omega) fun l7 h4 B7 n7 U7 => ?_
  have K7 := U7.keepNil rfl
  have K14 := (K5.trans K6).trans K7
  have hb1 := ed_n W.B
  refine append_buf (W.B.keep K14) rfl rfl (by omega) fun l8 h5 B8 n8 U8 => ⟨⟨i + 1, L' ++ [⟨L[i].e, l5, l6, l7⟩], rfl, ia, by rw [List.length_append, hL']; rfl, ?_, ?_, ?_⟩, by dsimp only; omega⟩
  · rw [List.nil_append] at B5 B6 B7
    have X : Three h4 ⟨L[i].e, l5, l6, l7⟩ := ⟨B5.keep (K6.trans K7), B6.keep K7, B7⟩
    have key : ∀ y, Three h4 y → Three h5 y := fun y Y => Y.upd U8 (buf_off Y.a (W.B.keep K14) (by decide)) (buf_off Y.b (W.B.keep K14) (by decide)) (buf_off Y.c (W.B.keep K14) (by decide))
    have kg := keep_grow (W.K.trans K14) W.N1 U8
    have nn : ∀ {hh hh' : Hp} {s : Sl}, Keep h hh → Upd hh hh' ⟨none, 0, 0⟩ s → s.a = none ∨ New h s := by
      intro hh hh' s k u
      rcases u.at_ with h0 | ⟨b, hb, hn⟩
      · exact .inl h0
      · exact .inr ⟨b, hb, k.dom b hn⟩
    refine ⟨?_, fun y hy => ?_, fun y hy => ?_, kg.2, kg.1⟩
    · unfold edV at B8 ⊢
      rw [List.flatMap_append]
      simpa [EdS.cells] using B8
    · rcases List.mem_append.1 hy with hy | hy
      · exact key y ((W.T y hy).keep K14)
      · rw [List.mem_singleton] at hy; subst hy; exact key _ X
    · rcases List.mem_append.1 hy with hy | hy
      · exact W.N y hy
      · rw [List.mem_singleton] at hy; subst hy
        exact ⟨nn W.K U5, nn (W.K.trans K5) U6, nn (W.K.trans (K5.trans K6)) U7⟩
  · have nn : ∀ {hh hh' : Hp} {s : Sl}, Keep h1 hh → Upd hh hh' ⟨none, 0, 0⟩ s → s.a = none ∨ New h1 s := by
      intro hh hh' s k u
      rcases u.at_ with h0 | ⟨b, hb, hn⟩
      · exact .inl h0
      · exact .inr ⟨b, hb, k.dom b hn⟩
    unfold PW
    rw [List.pairwise_append]
    refine ⟨hpw, List.pairwise_singleton _ _, fun y hy z hz => ?_⟩
    rw [List.mem_singleton] at hz
    subst hz
    have Y := W.T y hy
    have a1 := new_off (nn (Keep.refl h1) U5) Y.a
    have a2 := new_off (nn K5 U6) Y.b
    have a3 := new_off (nn (K5.trans K6) U7) Y.c
    exact ⟨⟨a1.1, a2.1, a3.1⟩, ⟨a1.2, a2.2, a3.2⟩⟩
  · intro y hy
    rcases List.mem_append.1 hy with hy | hy
    · exact hg y hy
    · rw [List.mem_singleton] at hy; subst hy
      exact ⟨A.raw L[i] hx, by show L[i].e.out.length + L[i].e.inn.length ≤ 10000; omega, by show L[i].e.ptr.length ≤ 10000; omega⟩
end Go.Eng.YtblghgacokoklaaDoor
end
section
/-
  SPECS, 17: edits brought to where they may be written.
-/
set_option linter.unusedSimpArgs false
set_option linter.unusedVariables false
namespace Go.Eng.YtblghgacokoklaaDoor
theorem ed_mid (P R : List EdS) (x : EdS) (j : Nat) (hj : j < 6) : (edV (P ++ x :: R))[P.length * 6 + j]? = (EdS.cells x)[j]? := by
  have e : edV (P ++ x :: R) = edV P ++ (EdS.cells x ++ edV R) := by simp [edV]
  rw [e, ← edV_len, app_get, List.getElem?_append_left (by show j < 6; exact hj)]
theorem Ws.at_ {h0 h : Hp} {l1 : Sl} {P R : List EdS} {x : EdS} (W : Ws h0 h l1 (P ++ x :: R)) : ∃ b o, l1.a = some ⟨b, o, none⟩ ∧ (P.length : Int) < (l1.n : Int) ∧ ∀ j, j < 6 → h.at b ((o + P.length * 6) + j) = (EdS.cells x)[j]? := by
  have hn := ed_n W.B
  rw [List.length_append, List.length_cons] at hn
  obtain ⟨b, o, ha, hat⟩ := row_get W.B.row (i := P.length * 6) (by omega)
  exact ⟨b, o, ha, by omega, fun j hj => by rw [Nat.add_assoc, hat _ (by omega), ed_mid P R x j hj]⟩
theorem buf_set2 {h : Hp} {s : Sl} {sz t j b : Nat} {A B : List Value} (Bf : Buf h s sz t (A ++ B)) (hj : j < B.length) (hb : s.a = some ⟨b, 0, none⟩) : h.at b (A.length + j) = B[j]? ∧ h.canW b (A.length + j) 1 ∧ ∀ v, Upd h (h.wr b (A.length + j) [v]) s s ∧ Buf (h.wr b (A.length + j) [v]) s sz t (A ++ B.set j v) := by
  obtain ⟨b', hb', h1, h2, h3⟩ := buf_set Bf (k := A.length + j) (by rw [List.length_append]; omega)
  rw [hb] at hb'
  simp only [Option.some.injEq, Addr.mk.injEq, and_true] at hb'
  subst hb'
  refine ⟨by rw [h1, app_get], h2, fun v => ?_⟩
  have := h3 v
  rw [app_set] at this
  exact this
theorem buf_b {h : Hp} {s : Sl} {sz t : Nat} {vs : List Value} (B : Buf h s sz t vs) (hk : 0 < vs.length) : ∃ b, s.a = some ⟨b, 0, none⟩ := by
  obtain ⟨b, hb, _⟩ := buf_set B hk
  exact ⟨b, hb⟩
theorem right_out {h0 h : Hp} {l1 : Sl} {P R : List EdS} {x : EdS} {Rx : Hp → Prop} (W : Ws h0 h l1 (P ++ x :: R)) (hp : PW (P ++ x :: R)) (hraw : ∀ p ∈ x.e.out, iI p.lv ∧ okU p.num) (hsz : x.e.out.length ≤ 10000)
    (hR : ∀ h' o, Ws h0 h' l1 (P ++ ⟨{ x.e with out := o }, x.a, x.b, x.c⟩ :: R) → o.length = x.e.out.length → (∀ p ∈ o, PGood p) → Rx h') :
    ∃ (I1 : Int → Hp → Prop) (m1 : Int → Hp → Nat), I1 0 h ∧ (∀ n1 : Int, ∀ h3 : Hp, I1 n1 h3 → ∃ b o, (l1.a : Option Addr) = some ⟨b, o, none⟩ ∧ ((0 : Int) ≤ (P.length : Int) ∧ (P.length : Int) < (l1.n : Int)) ∧ ∃ l2 : Sl, h3.at b ((o + (P.length : Int).toNat * 6) + 3) = some (.slice l2.a l2.n l2.c) ∧ par (n1 < (l2.n : Int)) (∃ b1 o1, (l1.a : Option Addr) = some ⟨b1, o1, none⟩ ∧ ((0 : Int) ≤ (P.length : Int) ∧ (P.length : Int) < (l1.n : Int)) ∧ ∃ l3 : Sl, h3.at b1 ((o1 + (P.length : Int).toNat * 6) + 3) = some (.slice l3.a l3.n l3.c) ∧ ∃ b2 o2, (l1.a : Option Addr) = some ⟨b2, o2, none⟩ ∧ ((0 : Int) ≤ (P.length : Int) ∧ (P.length : Int) < (l1.n : Int)) ∧ ∃ l4 : Sl, h3.at b2 ((o2 + (P.length : Int).toNat * 6) + 3) = some (.slice l4.a l4.n l4.c) ∧ ∃ b3 o3, (l4.a : Option Addr) = some ⟨b3, o3, none⟩ ∧ ((0 : Int) ≤ n1 ∧ n1 < (l4.n : Int)) ∧ ∃ n2 : Int, h3.at b3 (o3 + n1.toNat * 2) = some (.int .i64 n2) ∧ F28.T n2 5 h3 fun r1 h4 => ∃ n3 : Int, r1 = .int .i64 n3 ∧ h4.at b1 ((o1 + (P.length : Int).toNat * 6) + 3) = some (.slice l3.a l3.n l3.c) ∧ ∃ b4 o4, (l3.a : Option Addr) = some ⟨b4, o4, none⟩ ∧ ((0 : Int) ≤ n1 ∧ n1 < (l3.n : Int)) ∧ h4.canW b4 (o4 + n1.toNat * 2) 1 ∧ I1 (IntKind.wrap .i64 (n1 + 1)) (h4.wr b4 (o4 + n1.toNat * 2) [.int .i64 n3]) ∧ m1 (IntKind.wrap .i64 (n1 + 1)) (h4.wr b4 (o4 + n1.toNat * 2) [.int .i64 n3]) < m1 n1 h3) (Rx h3)) := by
  refine ⟨fun n1 h3 => ∃ G S : List Place, n1 = (G.length : Int) ∧ (G ++ S).length = x.e.out.length ∧ (∀ p ∈ G, PGood p) ∧ (∀ p ∈ S, iI p.lv ∧ okU p.num) ∧ Ws h0 h3 l1 (P ++ ⟨{ x.e with out := G ++ S }, x.a, x.b, x.c⟩ :: R), fun n1 _ => x.e.out.length - n1.toNat, ⟨[], x.e.out, rfl, rfl, fun p hp => (by cases hp), hraw, W⟩, ?_⟩
  rintro n1 h3 ⟨G, S, rfl, hlen, hG, hS, W1⟩
  obtain ⟨b, o, ha, hn, hat⟩ := W1.at_
  have hc := hat 3 (by decide)
  have hxa : x.a.n = (G ++ S).length := out_n W1.x.a
  rw [Int.toNat_natCast]
  refine ⟨b, o, ha, ⟨by omega, hn⟩, x.a, hc, fun hlt => ?_, fun hge => ?_⟩
  · rcases S with _ | ⟨p, S⟩
    · simp only [List.append_nil] at hxa; omega
    have hpr := hS p List.mem_cons_self
    have e0 : outV (G ++ p :: S) = outV G ++ (p.cells ++ outV S) := by simp [outV]
    have B0 : Buf h3 x.a 2 104 (outV G ++ (p.cells ++ outV S)) := by rw [← e0]; exact W1.x.a
    obtain ⟨b3, hb3⟩ := buf_b B0 (by rw [List.length_append, List.length_append]; show 0 < _ + (2 + _); omega)
    obtain ⟨s1, s2, s3⟩ := buf_set2 B0 (j := 0) (by rw [List.length_append]; show 0 < 2 + _; omega) hb3
    have hA : G.length * 2 = (outV G).length + 0 := by rw [outV_len]; rfl
    rw [Int.toNat_natCast, hA]
    rw [List.length_append, List.length_cons] at hlen
    refine ⟨b, o, ha, ⟨by omega, hn⟩, x.a, hc, b, o, ha, ⟨by omega, hn⟩, x.a, hc, b3, 0, hb3, ⟨by omega, hlt⟩, p.lv, by rw [Nat.zero_add]; exact s1, ?_⟩
    refine place_spec hpr.1 (by decide) fun r r0 r5 => ⟨r, rfl, hc, b3, 0, hb3, ⟨by omega, hlt⟩, ?_⟩
    have w3 : IntKind.wrap .i64 ((G.length : Int) + 1) = ((G.length + 1 : Nat) : Int) := by rw [wrap_i64 (by omega) (by omega)]; omega
    rw [w3, Nat.zero_add]
    have s4 := s3 (.int .i64 r)
    have e1 : outV G ++ (p.cells ++ outV S).set 0 (.int .i64 r) = outV ((G ++ [⟨r, p.num⟩]) ++ S) := by simp [outV, Place.cells]
    rw [e1] at s4
    refine ⟨s2, ⟨G ++ [⟨r, p.num⟩], S, by rw [List.length_append]; rfl, by simp only [List.length_append, List.length_cons, List.length_nil]; omega, fun q hq => ?_, fun q hq => hS q (List.mem_cons_of_mem _ hq), W1.setA (hp.swap rfl rfl rfl) s4.1 s4.2⟩, by dsimp only; omega⟩
    rcases List.mem_append.1 hq with hq | hq
    · exact hG q hq
    · rw [List.mem_singleton] at hq; subst hq
      exact ⟨r0, by show r ≤ 4; omega, hpr.2⟩
  · have hS0 : S = [] := by
      rw [List.length_append] at hxa
      exact List.eq_nil_of_length_eq_zero (by omega)
    subst hS0
    rw [List.append_nil] at W1 hlen
    exact hR h3 G W1 hlen hG
theorem max0 {n : Int} (h : iI n) : 0 ≤ iMax n 0 ∧ iMax n 0 ≤ 9223372036854775807 := by
  have h1 := h.1
  have h2 := h.2
  unfold iMax
  split <;> omega
theorem cut_str (s : ByteArray) : okSub s 0 (iMin (s.size : Int) 64) ∧ (s.extract (0 : Int).toNat ((iMin (s.size : Int) 64) : Int).toNat).size ≤ 64 := by
  have h1 : iMin (s.size : Int) 64 = ((min s.size 64 : Nat) : Int) := iMin_nat s.size 64
  rw [h1]
  refine ⟨⟨by decide, by omega, by omega⟩, ?_⟩
  rw [ByteArray.size_extract, Int.toNat_natCast]
  simp only [Int.toNat_zero]
  omega
theorem right_inn {h0 h : Hp} {l1 : Sl} {P R : List EdS} {x : EdS} {Rx : Hp → Prop} (W : Ws h0 h l1 (P ++ x :: R)) (hp : PW (P ++ x :: R)) (hraw : ∀ p ∈ x.e.inn, iI p.lv ∧ okU p.num ∧ iI p.weight ∧ iI p.bytes ∧ iI p.entries ∧ p.least.size ≤ 9223372036854775807 ∧ p.greatest.size ≤ 9223372036854775807) (hsz : x.e.inn.length ≤ 10000)
    (hR : ∀ h' o, Ws h0 h' l1 (P ++ ⟨{ x.e with inn := o }, x.a, x.b, x.c⟩ :: R) → o.length = x.e.inn.length → (∀ p ∈ o, DGood p) → Rx h') :
    ∃ (I2 : Int → Hp → Prop) (m2 : Int → Hp → Nat), I2 0 h ∧ (∀ n4 : Int, ∀ h5 : Hp, I2 n4 h5 → ∃ b5 o5, (l1.a : Option Addr) = some ⟨b5, o5, none⟩ ∧ ((0 : Int) ≤ (P.length : Int) ∧ (P.length : Int) < (l1.n : Int)) ∧ ∃ l5 : Sl, h5.at b5 ((o5 + (P.length : Int).toNat * 6) + 4) = some (.slice l5.a l5.n l5.c) ∧ par (n4 < (l5.n : Int)) (∃ b6 o6, (l1.a : Option Addr) = some ⟨b6, o6, none⟩ ∧ ((0 : Int) ≤ (P.length : Int) ∧ (P.length : Int) < (l1.n : Int)) ∧ ∃ l6 : Sl, h5.at b6 ((o6 + (P.length : Int).toNat * 6) + 4) = some (.slice l6.a l6.n l6.c) ∧ ∃ b7 o7, (l6.a : Option Addr) = some ⟨b7, o7, none⟩ ∧ ((0 : Int) ≤ n4 ∧ n4 < (l6.n : Int)) ∧ ∃ n5 : Int, h5.at b7 (o7 + n4.toNat * 7) = some (.int .i64 n5) ∧ F28.T n5 5 h5 fun r2 h6 => ∃ n6 : Int, r2 = .int .i64 n6 ∧ h6.canW b7 (o7 + n4.toNat * 7) 1 ∧ ∃ n7 : Int, (h6.wr b7 (o7 + n4.toNat * 7) [.int .i64 n6]).at b7 (((o7 + n4.toNat * 7) + 1) + 1) = some (.int .i64 n7) ∧ ∃ n8 : Int, (h6.wr b7 (o7 + n4.toNat * 7) [.int .i64 n6]).at b7 (((o7 + n4.toNat * 7) + 1) + 2) = some (.int .i64 n8) ∧ ∃ n9 : Int, (h6.wr b7 (o7 + n4.toNat * 7) [.int .i64 n6]).at b7 (((o7 + n4.toNat * 7) + 1) + 3) = some (.int .i64 n9) ∧ (h6.wr b7 (o7 + n4.toNat * 7) [.int .i64 n6]).canW b7 (((o7 + n4.toNat * 7) + 1) + 1) 1 ∧ ((h6.wr b7 (o7 + n4.toNat * 7) [.int .i64 n6]).wr b7 (((o7 + n4.toNat * 7) + 1) + 1) [.int .i64 (iMax n7 0)]).canW b7 (((o7 + n4.toNat * 7) + 1) + 2) 1 ∧ (((h6.wr b7 (o7 + n4.toNat * 7) [.int .i64 n6]).wr b7 (((o7 + n4.toNat * 7) + 1) + 1) [.int .i64 (iMax n7 0)]).wr b7 (((o7 + n4.toNat * 7) + 1) + 2) [.int .i64 (iMax n8 0)]).canW b7 (((o7 + n4.toNat * 7) + 1) + 3) 1 ∧ ∃ s : ByteArray, ((((h6.wr b7 (o7 + n4.toNat * 7) [.int .i64 n6]).wr b7 (((o7 + n4.toNat * 7) + 1) + 1) [.int .i64 (iMax n7 0)]).wr b7 (((o7 + n4.toNat * 7) + 1) + 2) [.int .i64 (iMax n8 0)]).wr b7 (((o7 + n4.toNat * 7) + 1) + 3) [.int .i64 (iMax n9 0)]).at b7 (((o7 + n4.toNat * 7) + 1) + 4) = some (.string s) ∧ ∃ s1 : ByteArray, ((((h6.wr b7 (o7 + n4.toNat * 7) [.int .i64 n6]).wr b7 (((o7 + n4.toNat * 7) + 1) + 1) [.int .i64 (iMax n7 0)]).wr b7 (((o7 + n4.toNat * 7) + 1) + 2) [.int .i64 (iMax n8 0)]).wr b7 (((o7 + n4.toNat * 7) + 1) + 3) [.int .i64 (iMax n9 0)]).at b7 (((o7 + n4.toNat * 7) + 1) + 4) = some (.string s1) ∧ okSub s 0 (iMin (s1.size : Int) 64) ∧ ((((h6.wr b7 (o7 + n4.toNat * 7) [.int .i64 n6]).wr b7 (((o7 + n4.toNat * 7) + 1) + 1) [.int .i64 (iMax n7 0)]).wr b7 (((o7 + n4.toNat * 7) + 1) + 2) [.int .i64 (iMax n8 0)]).wr b7 (((o7 + n4.toNat * 7) + 1) + 3) [.int .i64 (iMax n9 0)]).canW b7 (((o7 + n4.toNat * 7) + 1) + 4) 1 ∧ ∃ s2 : ByteArray, (((((h6.wr b7 (o7 + n4.toNat * 7) [.int .i64 n6]).wr b7 (((o7 + n4.toNat * 7) + 1) + 1) [.int .i64 (iMax n7 0)]).wr b7 (((o7 + n4.toNat * 7) + 1) + 2) [.int .i64 (iMax n8 0)]).wr b7 (((o7 + n4.toNat * 7) + 1) + 3) [.int .i64 (iMax n9 0)]).wr b7 (((o7 + n4.toNat * 7) + 1) + 4) [.string (s.extract (0 : Int).toNat ((iMin (s1.size : Int) 64) : Int).toNat)]).at b7 (((o7 + n4.toNat * 7) + 1) + 5) = some (.string s2) ∧ ∃ s3 : ByteArray, (((((h6.wr b7 (o7 + n4.toNat * 7) [.int .i64 n6]).wr b7 (((o7 + n4.toNat * 7) + 1) + 1) [.int .i64 (iMax n7 0)]).wr b7 (((o7 + n4.toNat * 7) + 1) + 2) [.int .i64 (iMax n8 0)]).wr b7 (((o7 + n4.toNat * 7) + 1) + 3) [.int .i64 (iMax n9 0)]).wr b7 (((o7 + n4.toNat * 7) + 1) + 4) [.string (s.extract (0 : Int).toNat ((iMin (s1.size : Int) 64) : Int).toNat)]).at b7 (((o7 + n4.toNat * 7) + 1) + 5) = some (.string s3) ∧ okSub s2 0 (iMin (s3.size : Int) 64) ∧ (((((h6.wr b7 (o7 + n4.toNat * 7) [.int .i64 n6]).wr b7 (((o7 + n4.toNat * 7) + 1) + 1) [.int .i64 (iMax n7 0)]).wr b7 (((o7 + n4.toNat * 7) + 1) + 2) [.int .i64 (iMax n8 0)]).wr b7 (((o7 + n4.toNat * 7) + 1) + 3) [.int .i64 (iMax n9 0)]).wr b7 (((o7 + n4.toNat * 7) + 1) + 4) [.string (s.extract (0 : Int).toNat ((iMin (s1.size : Int) 64) : Int).toNat)]).canW b7 (((o7 + n4.toNat * 7) + 1) + 5) 1 ∧ I2 (IntKind.wrap .i64 (n4 + 1)) ((((((h6.wr b7 (o7 + n4.toNat * 7) [.int .i64 n6]).wr b7 (((o7 + n4.toNat * 7) + 1) + 1) [.int .i64 (iMax n7 0)]).wr b7 (((o7 + n4.toNat * 7) + 1) + 2) [.int .i64 (iMax n8 0)]).wr b7 (((o7 + n4.toNat * 7) + 1) + 3) [.int .i64 (iMax n9 0)]).wr b7 (((o7 + n4.toNat * 7) + 1) + 4) [.string (s.extract (0 : Int).toNat ((iMin (s1.size : Int) 64) : Int).toNat)]).wr b7 (((o7 + n4.toNat * 7) + 1) + 5) [.string (s2.extract (0 : Int).toNat ((iMin (s3.size : Int) 64) : Int).toNat)]) ∧ m2 (IntKind.wrap .i64 (n4 + 1)) ((((((h6.wr b7 (o7 + n4.toNat * 7) [.int .i64 n6]).wr b7 (((o7 + n4.toNat * 7) + 1) + 1) [.int .i64 (iMax n7 0)]).wr b7 (((o7 + n4.toNat * 7) + 1) + 2) [.int .i64 (iMax n8 0)]).wr b7 (((o7 + n4.toNat * 7) + 1) + 3) [.int .i64 (iMax n9 0)]).wr b7 (((o7 + n4.toNat * 7) + 1) + 4) [.string (s.extract (0 : Int).toNat ((iMin (s1.size : Int) 64) : Int).toNat)]).wr b7 (((o7 + n4.toNat * 7) + 1) + 5) [.string (s2.extract (0 : Int).toNat ((iMin (s3.size : Int) 64) : Int).toNat)]) < m2 n4 h5) (Rx h5)) := by
  refine ⟨fun n1 h3 => ∃ G S : List Placed, n1 = (G.length : Int) ∧ (G ++ S).length = x.e.inn.length ∧ (∀ p ∈ G, DGood p) ∧ (∀ p ∈ S, iI p.lv ∧ okU p.num ∧ iI p.weight ∧ iI p.bytes ∧ iI p.entries ∧ p.least.size ≤ 9223372036854775807 ∧ p.greatest.size ≤ 9223372036854775807) ∧ Ws h0 h3 l1 (P ++ ⟨{ x.e with inn := G ++ S }, x.a, x.b, x.c⟩ :: R), fun n1 _ => x.e.inn.length - n1.toNat, ⟨[], x.e.inn, rfl, rfl, fun p hp => (by cases hp), hraw, W⟩, ?_⟩
  rintro n1 h3 ⟨G, S, rfl, hlen, hG, hS, W1⟩
  obtain ⟨b, o, ha, hn, hat⟩ := W1.at_
  have hc := hat 4 (by decide)
  have hxa : x.b.n = (G ++ S).length := in_n W1.x.b
  rw [Int.toNat_natCast]
  refine ⟨b, o, ha, ⟨by omega, hn⟩, x.b, hc, fun hlt => ?_, fun hge => ?_⟩
  · rcases S with _ | ⟨p, S⟩
    · simp only [List.append_nil] at hxa; omega
    have hpr := hS p List.mem_cons_self
    rw [List.length_append, List.length_cons] at hlen
    have e0 : inV (G ++ p :: S) = inV G ++ (.int .i64 p.lv :: .int .u64 p.num :: .int .i64 p.weight :: .int .i64 p.bytes :: .int .i64 p.entries :: .string p.least :: .string p.greatest :: inV S) := by simp [inV, Placed.cells]
    have B0 : Buf h3 x.b 7 108 (inV G ++ (.int .i64 p.lv :: .int .u64 p.num :: .int .i64 p.weight :: .int .i64 p.bytes :: .int .i64 p.entries :: .string p.least :: .string p.greatest :: inV S)) := by rw [← e0]; exact W1.x.b
    obtain ⟨b7, hb7⟩ := buf_b B0 (by simp only [List.length_append, List.length_cons]; omega)
    have hA : G.length * 7 = (inV G).length := by rw [inV_len]
    obtain ⟨q0, c0, z0⟩ := buf_set2 B0 (j := 0) (Nat.lt_of_lt_of_le (by decide : 0 < 7) (by simp)) hb7
    rw [Int.toNat_natCast, hA]
    refine ⟨b, o, ha, ⟨by omega, hn⟩, x.b, hc, b7, 0, hb7, ⟨by omega, hlt⟩, p.lv, by rw [Nat.zero_add]; exact q0, ?_⟩
    refine place_spec hpr.1 (by decide) fun r r0 r5 => ⟨r, rfl, ?_⟩
    have w3 : IntKind.wrap .i64 ((G.length : Int) + 1) = ((G.length + 1 : Nat) : Int) := by rw [wrap_i64 (by omega) (by omega)]; omega
    rw [w3, Nat.zero_add]
    have B1 := (z0 (.int .i64 r)).2
    simp only [List.set_cons_zero] at B1
    obtain ⟨q2, c2, z2⟩ := buf_set2 B1 (j := 2) (Nat.lt_of_lt_of_le (by decide : 2 < 7) (by simp)) hb7
    obtain ⟨q3, _, _⟩ := buf_set2 B1 (j := 3) (Nat.lt_of_lt_of_le (by decide : 3 < 7) (by simp)) hb7
    obtain ⟨q4, _, _⟩ := buf_set2 B1 (j := 4) (Nat.lt_of_lt_of_le (by decide : 4 < 7) (by simp)) hb7
    have B2 := (z2 (.int .i64 (iMax p.weight 0))).2
    simp only [List.set_cons_zero, List.set_cons_succ] at B2
    obtain ⟨_, c3, z3⟩ := buf_set2 B2 (j := 3) (Nat.lt_of_lt_of_le (by decide : 3 < 7) (by simp)) hb7
    have B3 := (z3 (.int .i64 (iMax p.bytes 0))).2
    simp only [List.set_cons_zero, List.set_cons_succ] at B3
    obtain ⟨_, c4, z4⟩ := buf_set2 B3 (j := 4) (Nat.lt_of_lt_of_le (by decide : 4 < 7) (by simp)) hb7
    have B4 := (z4 (.int .i64 (iMax p.entries 0))).2
    simp only [List.set_cons_zero, List.set_cons_succ] at B4
    obtain ⟨q5, c5, z5⟩ := buf_set2 B4 (j := 5) (Nat.lt_of_lt_of_le (by decide : 5 < 7) (by simp)) hb7
    have k1 := cut_str p.least
    have k2 := cut_str p.greatest
    have B5 := (z5 (.string (p.least.extract (0 : Int).toNat ((iMin (p.least.size : Int) 64) : Int).toNat))).2
    simp only [List.set_cons_zero, List.set_cons_succ] at B5
    obtain ⟨q6, c6, z6⟩ := buf_set2 B5 (j := 6) (Nat.lt_of_lt_of_le (by decide : 6 < 7) (by simp)) hb7
    have B6 := (z6 (.string (p.greatest.extract (0 : Int).toNat ((iMin (p.greatest.size : Int) 64) : Int).toNat))).2
    simp only [List.set_cons_zero, List.set_cons_succ] at B6
    have U6 := (((((z0 (.int .i64 r)).1.trans (z2 (.int .i64 (iMax p.weight 0))).1).trans (z3 (.int .i64 (iMax p.bytes 0))).1).trans (z4 (.int .i64 (iMax p.entries 0))).1).trans (z5 (.string (p.least.extract (0 : Int).toNat ((iMin (p.least.size : Int) 64) : Int).toNat))).1).trans (z6 (.string (p.greatest.extract (0 : Int).toNat ((iMin (p.greatest.size : Int) 64) : Int).toNat))).1
    have e6 : inV G ++ (.int .i64 r :: .int .u64 p.num :: .int .i64 (iMax p.weight 0) :: .int .i64 (iMax p.bytes 0) :: .int .i64 (iMax p.entries 0) :: .string (p.least.extract (0 : Int).toNat ((iMin (p.least.size : Int) 64) : Int).toNat) :: .string (p.greatest.extract (0 : Int).toNat ((iMin (p.greatest.size : Int) 64) : Int).toNat) :: inV S) = inV ((G ++ [⟨r, p.num, iMax p.weight 0, iMax p.bytes 0, iMax p.entries 0, p.least.extract (0 : Int).toNat ((iMin (p.least.size : Int) 64) : Int).toNat, p.greatest.extract (0 : Int).toNat ((iMin (p.greatest.size : Int) 64) : Int).toNat⟩]) ++ S) := by simp [inV, Placed.cells]
    rw [e6] at B6
    refine ⟨c0, p.weight, q2, p.bytes, q3, p.entries, q4, c2, c3, c4, p.least, q5, p.least, q5, k1.1, c5, p.greatest, q6, p.greatest, q6, k2.1, c6, ⟨G ++ [⟨r, p.num, iMax p.weight 0, iMax p.bytes 0, iMax p.entries 0, p.least.extract (0 : Int).toNat ((iMin (p.least.size : Int) 64) : Int).toNat, p.greatest.extract (0 : Int).toNat ((iMin (p.greatest.size : Int) 64) : Int).toNat⟩], S, by rw [List.length_append]; rfl, by simp only [List.length_append, List.length_cons, List.length_nil]; omega, fun q hq => ?_, fun q hq => hS q (List.mem_cons_of_mem _ hq), W1.setB (hp.swap rfl rfl rfl) U6 B6⟩, by dsimp only; omega⟩
    rcases List.mem_append.1 hq with hq | hq
    · exact hG q hq
    · rw [List.mem_singleton] at hq; subst hq
      obtain ⟨f1, f2, f3, f4, f5, f6, f7⟩ := hpr
      exact ⟨r0, by show r ≤ 4; omega, f2, (max0 f3).1, (max0 f3).2, (max0 f4).1, (max0 f4).2, (max0 f5).1, (max0 f5).2, k1.2, k2.2⟩
  · have hS0 : S = [] := by
      rw [List.length_append] at hxa
      exact List.eq_nil_of_length_eq_zero (by omega)
    subst hS0
    rw [List.append_nil] at W1 hlen
    exact hR h3 G W1 hlen hG
end Go.Eng.YtblghgacokoklaaDoor
end
section
/-
  SPECS, 18: edits brought to where they may be written, all of them; are lists of edits alike.
-/
set_option linter.unusedSimpArgs false
set_option linter.unusedVariables false
namespace Go.Eng.YtblghgacokoklaaDoor
theorem right_ptr {h0 h : Hp} {l1 : Sl} {P R : List EdS} {x : EdS} {Rx : Hp → Prop} (W : Ws h0 h l1 (P ++ x :: R)) (hp : PW (P ++ x :: R)) (hsz : x.e.ptr.length ≤ 10000)
    (hR : ∀ h' o, Ws h0 h' l1 (P ++ ⟨{ x.e with ptr := o }, x.a, x.b, x.c⟩ :: R) → o.length = x.e.ptr.length → (∀ p ∈ o, p.size ≤ 64) → Rx h') :
    ∃ (I3 : Int → Hp → Prop) (m3 : Int → Hp → Nat), I3 0 h ∧ (∀ n10 : Int, ∀ h7 : Hp, I3 n10 h7 → ∃ b11 o11, (l1.a : Option Addr) = some ⟨b11, o11, none⟩ ∧ ((0 : Int) ≤ (P.length : Int) ∧ (P.length : Int) < (l1.n : Int)) ∧ ∃ l9 : Sl, h7.at b11 ((o11 + (P.length : Int).toNat * 6) + 5) = some (.slice l9.a l9.n l9.c) ∧ par (n10 < (l9.n : Int)) (∃ b12 o12, (l1.a : Option Addr) = some ⟨b12, o12, none⟩ ∧ ((0 : Int) ≤ (P.length : Int) ∧ (P.length : Int) < (l1.n : Int)) ∧ ∃ l10 : Sl, h7.at b12 ((o12 + (P.length : Int).toNat * 6) + 5) = some (.slice l10.a l10.n l10.c) ∧ ∃ b13 o13, (l1.a : Option Addr) = some ⟨b13, o13, none⟩ ∧ ((0 : Int) ≤ (P.length : Int) ∧ (P.length : Int) < (l1.n : Int)) ∧ ∃ l11 : Sl, h7.at b13 ((o13 + (P.length : Int).toNat * 6) + 5) = some (.slice l11.a l11.n l11.c) ∧ ∃ b14 o14, (l11.a : Option Addr) = some ⟨b14, o14, none⟩ ∧ ((0 : Int) ≤ n10 ∧ n10 < (l11.n : Int)) ∧ ∃ s4 : ByteArray, h7.at b14 (o14 + n10.toNat) = some (.string s4) ∧ ∃ b15 o15, (l1.a : Option Addr) = some ⟨b15, o15, none⟩ ∧ ((0 : Int) ≤ (P.length : Int) ∧ (P.length : Int) < (l1.n : Int)) ∧ ∃ l12 : Sl, h7.at b15 ((o15 + (P.length : Int).toNat * 6) + 5) = some (.slice l12.a l12.n l12.c) ∧ ∃ b16 o16, (l12.a : Option Addr) = some ⟨b16, o16, none⟩ ∧ ((0 : Int) ≤ n10 ∧ n10 < (l12.n : Int)) ∧ ∃ s5 : ByteArray, h7.at b16 (o16 + n10.toNat) = some (.string s5) ∧ okSub s4 0 (iMin (s5.size : Int) 64) ∧ ∃ b17 o17, (l10.a : Option Addr) = some ⟨b17, o17, none⟩ ∧ ((0 : Int) ≤ n10 ∧ n10 < (l10.n : Int)) ∧ h7.canW b17 (o17 + n10.toNat) 1 ∧ I3 (IntKind.wrap .i64 (n10 + 1)) (h7.wr b17 (o17 + n10.toNat) [.string (s4.extract (0 : Int).toNat ((iMin (s5.size : Int) 64) : Int).toNat)]) ∧ m3 (IntKind.wrap .i64 (n10 + 1)) (h7.wr b17 (o17 + n10.toNat) [.string (s4.extract (0 : Int).toNat ((iMin (s5.size : Int) 64) : Int).toNat)]) < m3 n10 h7) (Rx h7)) := by
  refine ⟨fun n1 h3 => ∃ G S : List ByteArray, n1 = (G.length : Int) ∧ (G ++ S).length = x.e.ptr.length ∧ (∀ p ∈ G, p.size ≤ 64) ∧ Ws h0 h3 l1 (P ++ ⟨{ x.e with ptr := G ++ S }, x.a, x.b, x.c⟩ :: R), fun n1 _ => x.e.ptr.length - n1.toNat, ⟨[], x.e.ptr, rfl, rfl, fun p hp => (by cases hp), W⟩, ?_⟩
  rintro n1 h3 ⟨G, S, rfl, hlen, hG, W1⟩
  obtain ⟨b, o, ha, hn, hat⟩ := W1.at_
  have hc := hat 5 (by decide)
  have hxa : x.c.n = (G ++ S).length := pt_n W1.x.c
  rw [Int.toNat_natCast]
  refine ⟨b, o, ha, ⟨by omega, hn⟩, x.c, hc, fun hlt => ?_, fun hge => ?_⟩
  · rcases S with _ | ⟨p, S⟩
    · simp only [List.append_nil] at hxa; omega
    rw [List.length_append, List.length_cons] at hlen
    have e0 : ptrV (G ++ p :: S) = ptrV G ++ (.string p :: ptrV S) := by simp [ptrV]
    have B0 : Buf h3 x.c 1 9 (ptrV G ++ (.string p :: ptrV S)) := by rw [← e0]; exact W1.x.c
    obtain ⟨b7, hb7⟩ := buf_b B0 (by simp only [List.length_append, List.length_cons]; omega)
    have hA : G.length = (ptrV G).length := (List.length_map _).symm
    obtain ⟨q0, c0, z0⟩ := buf_set2 B0 (j := 0) (by simp only [List.length_cons]; omega) hb7
    have k1 := cut_str p
    have z1 := z0 (.string (p.extract (0 : Int).toNat ((iMin (p.size : Int) 64) : Int).toNat))
    simp only [List.set_cons_zero] at z1
    have e6 : ptrV G ++ (.string (p.extract (0 : Int).toNat ((iMin (p.size : Int) 64) : Int).toNat) :: ptrV S) = ptrV ((G ++ [p.extract (0 : Int).toNat ((iMin (p.size : Int) 64) : Int).toNat]) ++ S) := by simp [ptrV]
    rw [e6] at z1
    have w3 : IntKind.wrap .i64 ((G.length : Int) + 1) = ((G.length + 1 : Nat) : Int) := by rw [wrap_i64 (by omega) (by omega)]; omega
    have q1 : h3.at b7 (0 + ((G.length : Int)).toNat) = some (.string p) := by rw [Int.toNat_natCast, Nat.zero_add, hA]; exact q0
    refine ⟨b, o, ha, ⟨by omega, hn⟩, x.c, hc, b, o, ha, ⟨by omega, hn⟩, x.c, hc, b7, 0, hb7, ⟨by omega, hlt⟩, p, q1, b, o, ha, ⟨by omega, hn⟩, x.c, hc, b7, 0, hb7, ⟨by omega, hlt⟩, p, q1, k1.1, b7, 0, hb7, ⟨by omega, hlt⟩, ?_⟩
    rw [w3, Int.toNat_natCast, Nat.zero_add, hA]
    refine ⟨c0, ⟨G ++ [p.extract (0 : Int).toNat ((iMin (p.size : Int) 64) : Int).toNat], S, by rw [List.length_append, hA]; rfl, by simp only [List.length_append, List.length_cons, List.length_nil]; omega, fun q hq => ?_, W1.setC (hp.swap rfl rfl rfl) z1.1 z1.2⟩, by dsimp only; omega⟩
    rcases List.mem_append.1 hq with hq | hq
    · exact hG q hq
    · rw [List.mem_singleton] at hq; subst hq
      exact k1.2
  · have hS0 : S = [] := by
      rw [List.length_append] at hxa
      exact List.eq_nil_of_length_eq_zero (by omega)
    subst hS0
    rw [List.append_nil] at W1 hlen
    exact hR h3 G W1 hlen hG
theorem cut_a (s : Sl) (k m : Int) {sz : Nat} : (Sl.cut s sz 0 k m).a = s.a := by
  unfold Sl.cut
  simp only [Int.toNat_zero, Nat.zero_mul]
  split
  · rfl
  · cases s.a with
    | none => rfl
    | some a => simp [Addr.add]
theorem buf_cut {h : Hp} {s : Sl} {t : Nat} {vs : List Value} (B : Buf h s 1 t vs) {k : Nat} (hk : k ≤ s.n) : Buf h (Sl.cut s 1 0 (k : Int) (s.c : Int)) 1 t (vs.take k) := by
  have hn : (Sl.cut s 1 0 (k : Int) (s.c : Int)).n = k := by simp [Sl.cut]
  have hc : (Sl.cut s 1 0 (k : Int) (s.c : Int)).c = s.c := by simp [Sl.cut]
  have hl := B.len
  have hcap := B.cap
  refine ⟨by rw [hn, List.length_take]; omega, by rw [hn, hc]; omega, ?_⟩
  rw [cut_a, hc]
  rcases B.own with h0 | ⟨b, c, f, ha, hb, hsz, hf, ht⟩
  · exact .inl h0
  · refine .inr ⟨b, c, f, ha, hb, hsz, hf, ?_⟩
    rw [List.length_take, ← ht, List.take_take]
    congr 1
    rw [ht]
/-- EDITS BROUGHT TO WHERE THEY MAY BE WRITTEN. -/
theorem right_spec {h : Hp} {l : Sl} {L : List EdS} {Q : Value → Hp → Prop} (A : Args h l L) (hparts : parts L ≤ 10000)
    (hQ : ∀ h' l1 L', Ws h h' l1 L' → L'.length ≤ 10000 → (∀ y ∈ L', Good y.e ∧ y.e.size ≤ 10000) → Q (.slice l1.a l1.n l1.c) h') : F30.T l h Q := by
  have hpl := parts_len L
  refine copied_spec A hparts fun h1 l1 L0 W0 hp0 hl0 hg0 => ⟨l1, rfl, ?_⟩
  refine ⟨fun n h2 => ∃ P R : List EdS, n = (P.length : Int) ∧ (P ++ R).length = L.length ∧ Ws h h2 l1 (P ++ R) ∧ PW (P ++ R) ∧ (∀ y ∈ P, Good y.e ∧ y.e.size ≤ 10000) ∧ ∀ y ∈ R, Raw y.e ∧ y.e.size ≤ 10000 ∧ y.e.ptr.length ≤ 10000, fun n _ => L.length - n.toNat, ⟨[], L0, rfl, hl0, W0, hp0, fun y hy => (by cases hy), hg0⟩, ?_⟩
  rintro n h2 ⟨P, R, rfl, hlen, W, hp, hP, hR⟩
  have hn1 := ed_n W.B
  refine ⟨fun hlt => ?_, fun hge => ?_⟩
  · rcases R with _ | ⟨x, R⟩
    · simp only [List.append_nil] at hn1; omega
    obtain ⟨xr, xs, xp⟩ := hR x List.mem_cons_self
    have xs1 : x.e.out.length + x.e.inn.length ≤ 10000 := xs
    refine right_out W hp xr.out (by omega) fun h3 o3 W3 hl3 hg3 => ?_
    have hp3 : PW (P ++ (⟨{ x.e with out := o3 }, x.a, x.b, x.c⟩ : EdS) :: R) := hp.swap rfl rfl rfl
    refine right_inn W3 hp3 xr.inn (by show x.e.inn.length ≤ 10000; omega) fun h5 o5 W5 hl5 hg5 => ?_
    have hp5 : PW (P ++ (⟨{ ({ x.e with out := o3 } : Edit) with inn := o5 }, x.a, x.b, x.c⟩ : EdS) :: R) := hp.swap rfl rfl rfl
    obtain ⟨b, o, ha, hn, hat⟩ := W5.at_
    have hc := hat 5 (by decide)
    have X5 := W5.x
    have hxc : x.c.n = x.e.ptr.length := pt_n X5.c
    have hcap : x.c.n ≤ x.c.c := X5.c.cap
    have k5 : iMin (x.c.n : Int) 5 = ((min x.c.n 5 : Nat) : Int) := iMin_nat x.c.n 5
    have hlen5 : (edV (P ++ (⟨{ ({ x.e with out := o3 } : Edit) with inn := o5 }, x.a, x.b, x.c⟩ : EdS) :: R)).length = (P.length + (R.length + 1)) * 6 := by rw [edV_len, List.length_append, List.length_cons]
    obtain ⟨b10, hb10, _, hcan, hset⟩ := buf_set W5.B (k := P.length * 6 + 5) (by rw [hlen5]; omega)
    rw [Int.toNat_natCast]
    refine ⟨b, o, ha, ⟨by omega, hn⟩, x.c, hc, b, o, ha, ⟨by omega, hn⟩, x.c, hc, by rw [k5]; exact ⟨by decide, by omega, by omega, by omega⟩, b10, 0, hb10, ⟨by omega, hn⟩, by rw [Nat.zero_add]; exact hcan, ?_⟩
    rw [k5, Nat.zero_add]
    have hs := hset (.slice (Sl.cut x.c 1 0 ((min x.c.n 5 : Nat) : Int) (x.c.c : Int)).a (Sl.cut x.c 1 0 ((min x.c.n 5 : Nat) : Int) (x.c.c : Int)).n (Sl.cut x.c 1 0 ((min x.c.n 5 : Nat) : Int) (x.c.c : Int)).c)
    let x6 : EdS := ⟨{ ({ ({ x.e with out := o3 } : Edit) with inn := o5 } : Edit) with ptr := x.e.ptr.take (min x.c.n 5) }, x.a, x.b, Sl.cut x.c 1 0 ((min x.c.n 5 : Nat) : Int) (x.c.c : Int)⟩
    have e6 : (edV (P ++ (⟨{ ({ x.e with out := o3 } : Edit) with inn := o5 }, x.a, x.b, x.c⟩ : EdS) :: R)).set (P.length * 6 + 5) (.slice (Sl.cut x.c 1 0 ((min x.c.n 5 : Nat) : Int) (x.c.c : Int)).a (Sl.cut x.c 1 0 ((min x.c.n 5 : Nat) : Int) (x.c.c : Int)).n (Sl.cut x.c 1 0 ((min x.c.n 5 : Nat) : Int) (x.c.c : Int)).c) = edV (P ++ x6 :: R) := by
      have e1 : ∀ y : EdS, edV (P ++ y :: R) = edV P ++ (EdS.cells y ++ edV R) := fun y => by simp [edV]
      rw [e1, e1, ← edV_len, app_set]
      rfl
    rw [e6] at hs
    have T6 : Three h5 x6 := ⟨X5.a, X5.b, by
      have := buf_cut X5.c (k := min x.c.n 5) (by show min x.c.n 5 ≤ x.c.n; omega)
      have e : (ptrV x.e.ptr).take (min x.c.n 5) = ptrV (x.e.ptr.take (min x.c.n 5)) := by unfold ptrV; rw [List.map_take]
      show Buf h5 (Sl.cut x.c 1 0 ((min x.c.n 5 : Nat) : Int) (x.c.c : Int)) 1 9 (ptrV (x.e.ptr.take (min x.c.n 5)))
      rw [← e]
      exact this⟩
    have N5 := W5.nx
    have N6 : (x6.a.a = none ∨ New h x6.a) ∧ (x6.b.a = none ∨ New h x6.b) ∧ (x6.c.a = none ∨ New h x6.c) := by
      refine ⟨N5.1, N5.2.1, ?_⟩
      have := N5.2.2
      unfold New at this ⊢
      rw [show x6.c.a = x.c.a from cut_a _ _ _]
      exact this
    have W6 := W5.setL hs.1 hs.2 T6 N6
    have hp6 : PW (P ++ x6 :: R) := hp.swap rfl rfl (cut_a _ _ _)
    have hl6 : x6.e.ptr.length ≤ 5 := by
      show (x.e.ptr.take (min x.c.n 5)).length ≤ 5
      rw [List.length_take]; omega
    have w3 : IntKind.wrap .i64 ((P.length : Int) + 1) = ((P.length + 1 : Nat) : Int) := by
      rw [List.length_append, List.length_cons] at hlen
      rw [wrap_i64 (by omega) (by omega)]; omega
    have rp := right_ptr (Rx := fun h7 => (∃ P' R' : List EdS, ((P.length + 1 : Nat) : Int) = (P'.length : Int) ∧ (P' ++ R').length = L.length ∧ Ws h h7 l1 (P' ++ R') ∧ PW (P' ++ R') ∧ (∀ y ∈ P', Good y.e ∧ y.e.size ≤ 10000) ∧ ∀ y ∈ R', Raw y.e ∧ y.e.size ≤ 10000 ∧ y.e.ptr.length ≤ 10000) ∧ L.length - ((P.length + 1 : Nat) : Int).toNat < L.length - ((P.length : Int)).toNat) W6 hp6 (by omega) (fun h7 o7 W7 hl7 hg7 => ?_)
    · rw [w3]
      rw [Int.toNat_natCast] at rp
      exact rp
    · rw [List.length_append, List.length_cons] at hlen
      refine ⟨⟨P ++ [⟨{ x6.e with ptr := o7 }, x6.a, x6.b, x6.c⟩], R, by rw [List.length_append]; rfl, by simp only [List.length_append, List.length_cons, List.length_nil]; omega, by rw [List.append_assoc]; exact W7, by rw [List.append_assoc]; exact hp6.swap rfl rfl rfl, fun y hy => ?_, fun y hy => hR y (List.mem_cons_of_mem _ hy)⟩, by omega⟩
      rcases List.mem_append.1 hy with hy | hy
      · exact hP y hy
      · rw [List.mem_singleton] at hy
        subst hy
        exact ⟨⟨xr.log, xr.next, xr.seq, hg3, hg5, hg7, by show o7.length ≤ 5; omega⟩, by show o3.length + o5.length ≤ 10000; have hl5' : o5.length = x.e.inn.length := hl5
                                                                                          omega⟩
  · have hR0 : R = [] := by
      rw [List.length_append] at hn1 hlen
      exact List.eq_nil_of_length_eq_zero (by omega)
    subst hR0
    rw [List.append_nil] at W hlen
    exact hQ h2 l1 P W (by omega) hP
/-- Are two lists of edits alike? -/
theorem edits_eq {h : Hp} {l m : Sl} {L M : List EdS} {Q : Value → Hp → Prop} (hl : h.row l.a (l.n * 6) (edV L)) (hm : h.row m.a (m.n * 6) (edV M)) (hL : ∀ x ∈ L, EdAt h x.e x.a x.b x.c) (hM : ∀ x ∈ M, EdAt h x.e x.a x.b x.c) (hs : ∀ x ∈ M, x.e.out.length ≤ 1000000000000 ∧ x.e.inn.length ≤ 1000000000000 ∧ x.e.ptr.length ≤ 1000000000000) (hn : M.length ≤ 1000000000000)
    (hE : L.map EdS.e = M.map EdS.e) (hT : Q (.bool true) h) : F25.T l m h Q := by
  have n1 : l.n = L.length := by have h1 := hl.1; rw [edV_len] at h1; omega
  have n2 : m.n = M.length := by have h1 := hm.1; rw [edV_len] at h1; omega
  have n3 : L.length = M.length := by have := congrArg List.length hE; rwa [List.length_map, List.length_map] at this
  refine ⟨fun _ => ?_, fun hne => absurd (by omega) hne⟩
  refine ⟨fun n h1 => h1 = h ∧ ∃ i : Nat, n = (i : Int) ∧ i ≤ L.length, fun n _ => L.length - n.toNat, ⟨rfl, 0, rfl, Nat.zero_le _⟩, ?_⟩
  rintro n h1 ⟨rfl, i, rfl, hi⟩
  refine ⟨fun hlt => ?_, fun _ => hT⟩
  have ia : i < L.length := by omega
  have ib : i < M.length := by omega
  have hee : L[i].e = M[i].e := by
    have := congrArg (fun l => l[i]?) hE
    simpa [ia, ib] using this
  obtain ⟨b0, o0, ha0, hat⟩ := row_get hl (i := i * 6) (by omega)
  obtain ⟨b1, o1, hb1, hbt⟩ := row_get hm (i := i * 6) (by omega)
  have cc : ∀ j, j < 6 → h1.at b0 ((o0 + i * 6) + j) = (EdS.cells L[i])[j]? := fun j hj => by
    rw [Nat.add_assoc, hat _ (by omega)]
    exact flat_get EdS.cells 6 (fun _ => rfl) L i j ia hj
  have dd : ∀ j, j < 6 → h1.at b1 ((o1 + i * 6) + j) = (EdS.cells M[i])[j]? := fun j hj => by
    rw [Nat.add_assoc, hbt _ (by omega)]
    exact flat_get EdS.cells 6 (fun _ => rfl) M i j ib hj
  rw [Int.toNat_natCast, next_i ia (by omega)]
  have hx := List.getElem_mem ib
  refine ⟨b0, o0, ha0, ⟨by omega, hlt⟩, _, cc 0 (by decide), _, cc 1 (by decide), _, cc 2 (by decide), _, cc 3 (by decide), _, cc 4 (by decide), _, cc 5 (by decide), b1, o1, hb1, ⟨by omega, by omega⟩, _, dd 0 (by decide), _, dd 1 (by decide), _, dd 2 (by decide), _, dd 3 (by decide), _, dd 4 (by decide), _, dd 5 (by decide), ?_⟩
  exact edit_eq (hL _ (List.getElem_mem ia)) (hM _ hx) (hs _ hx).1 (hs _ hx).2.1 (hs _ hx).2.2 (fun _ => ⟨true, rfl, fun _ => ⟨⟨rfl, i + 1, rfl, ia⟩, by dsimp only; omega⟩, fun h0 => (by cases h0)⟩) (fun hne => absurd hee hne)
end Go.Eng.YtblghgacokoklaaDoor
end
