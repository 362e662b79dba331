/-
  SPECS, 10: Get.
-/
import Derived.Test.YtblghgacokoklaaS9
set_option linter.unusedSimpArgs false
set_option linter.unusedVariables false
namespace Go.Eng.Ytblghgacokoklaa
def zE : Edit := ⟨0, 0, 0, [], [], []⟩
def pl0 : Placed := ⟨0, 0, 0, 0, 0, ⟨#[]⟩, ⟨#[]⟩⟩
def joinE (cur x : Edit) (part : List (List Int)) : Edit := if part.length = 0 then x else ⟨x.log, x.next, x.seq, cur.out ++ x.out, cur.inn ++ x.inn, x.ptr⟩
def withP (e : Edit) : Edit := ⟨e.log, e.next, e.seq, e.out, e.inn ++ [pl0], e.ptr⟩
/-- What Get tells: of the records that are left; the edits so far, the edit that is read, its records. -/
def getR : List (List Int) → List Edit → Edit → List (List Int) → Option (List Edit)
  | [], acc, cur, part => if part.length = 0 then some acc else if sameP (withP cur) part false = true then some acc else none
  | r :: rs, acc, cur, part =>
    match rd r with
    | none => none
    | some x => if x.2 = true then (if sameP (joinE cur x.1 part) (part ++ [r]) true = true then getR rs (acc ++ [joinE cur x.1 part]) zE [] else none) else getR rs acc (joinE cur x.1 part) (part ++ [r])
theorem getR_none {r : List Int} {rs part : List (List Int)} {acc : List Edit} {cur : Edit} (h : rd r = none) : getR (r :: rs) acc cur part = none := by
  unfold getR; rw [h]
theorem getR_some {r : List Int} {rs part : List (List Int)} {acc : List Edit} {cur : Edit} {x : Edit × Bool} (h : rd r = some x) : getR (r :: rs) acc cur part = if x.2 = true then (if sameP (joinE cur x.1 part) (part ++ [r]) true = true then getR rs (acc ++ [joinE cur x.1 part]) zE [] else none) else getR rs acc (joinE cur x.1 part) (part ++ [r]) := by
  conv => lhs; unfold getR
  rw [h]
/-- How much records hold. -/
def tot (l : List (List Int)) : Nat := (l.map fun r => r.length + 1).sum
theorem tot_append (a b : List (List Int)) : tot (a ++ b) = tot a + tot b := by simp [tot]
theorem tot_take_succ {l : List (List Int)} {i : Nat} (h : i < l.length) : tot (l.take (i + 1)) = tot (l.take i) + (l[i].length + 1) := by
  rw [List.take_succ_eq_append_getElem h, tot_append]
  simp [tot]
theorem tot_mem {l : List (List Int)} {r : List Int} (h : r ∈ l) : r.length + 1 ≤ tot l := by
  induction l with
  | nil => cases h
  | cons a l ih =>
    have e : tot (a :: l) = a.length + 1 + tot l := by simp [tot]
    rcases List.mem_cons.1 h with rfl | h
    · omega
    · have := ih h; omega
theorem tot_len (l : List (List Int)) : l.length ≤ tot l := by
  induction l with
  | nil => simp
  | cons a l ih =>
    have e : tot (a :: l) = a.length + 1 + tot l := by simp [tot]
    rw [e, List.length_cons]; omega
theorem tot_take (l : List (List Int)) (i : Nat) : tot (l.take i) ≤ tot l := by
  have := tot_append (l.take i) (l.drop i)
  rw [List.take_append_drop] at this
  omega
/-- An edit and where its lists lie. -/
structure EdS where
  e : Edit
  a : Sl
  b : Sl
  c : Sl
def EdS.cells (x : EdS) : List Value := [.int .u64 x.e.log, .int .u64 x.e.next, .int .u64 x.e.seq, .slice x.a.a x.a.n x.a.c, .slice x.b.a x.b.n x.b.c, .slice x.c.a x.c.n x.c.c]
def edV (l : List EdS) : List Value := l.flatMap EdS.cells
theorem ed_n {h : Hp} {l : Sl} {t : Nat} {o : List EdS} (B : Buf h l 6 t (edV o)) : l.n = o.length := by
  have h1 := B.len
  unfold edV at h1
  rw [flat_length EdS.cells 6 (fun _ => rfl)] at h1
  omega
structure EdOk (h : Hp) (x : EdS) : Prop where
  out : Buf h x.a 2 89 (outV x.e.out)
  inn : Buf h x.b 7 87 (inV x.e.inn)
  ptr : Buf h x.c 1 9 (ptrV x.e.ptr)
  val : x.e.valid
  size : x.e.out.length + x.e.inn.length ≤ 400000000000
  nptr : x.e.ptr.length ≤ 1000000000
theorem EdOk.at {h : Hp} {x : EdS} (E : EdOk h x) : EdAt h x.e x.a x.b x.c := ⟨E.out.row, E.inn.row, by have := E.ptr.row; rw [Nat.mul_one] at this; exact this⟩
theorem EdOk.keep {h h' : Hp} (k : Keep h h') {x : EdS} (E : EdOk h x) : EdOk h' x := ⟨E.out.keep k, E.inn.keep k, E.ptr.keep k, E.val, E.size, E.nptr⟩
theorem EdOk.upd {h h' : Hp} {s s' : Sl} {sz t : Nat} {vs : List Value} (U : Upd h h' s s') (B : Buf h s sz t vs) (t1 : 89 ≠ t) (t2 : 87 ≠ t) (t3 : 9 ≠ t) {x : EdS} (E : EdOk h x) : EdOk h' x :=
  ⟨E.out.upd U (buf_off E.out B t1), E.inn.upd U (buf_off E.inn B t2), E.ptr.upd U (buf_off E.ptr B t3), E.val, E.size, E.nptr⟩
theorem EdB.at {h0 h : Hp} {e : Edit} {l1 l2 l3 : Sl} (E : EdB h0 h e l1 l2 l3) : EdAt h e l1 l2 l3 := ⟨E.out.row, E.inn.row, by have := E.ptr.row; rw [Nat.mul_one] at this; exact this⟩
theorem EdB.keep {h0 h h' : Hp} (k : Keep h h') {e : Edit} {l1 l2 l3 : Sl} (E : EdB h0 h e l1 l2 l3) : EdB h0 h' e l1 l2 l3 := ⟨E.out.keep k, E.inn.keep k, E.ptr.keep k, E.n1, E.n2, E.n3⟩
theorem EdB.upd {h0 h h' : Hp} {s s' : Sl} {sz t : Nat} {vs : List Value} (U : Upd h h' s s') (B : Buf h s sz t vs) (t1 : 89 ≠ t) (t2 : 87 ≠ t) (t3 : 9 ≠ t) {e : Edit} {l1 l2 l3 : Sl} (E : EdB h0 h e l1 l2 l3) : EdB h0 h' e l1 l2 l3 :=
  ⟨E.out.upd U (buf_off E.out B t1), E.inn.upd U (buf_off E.inn B t2), E.ptr.upd U (buf_off E.ptr B t3), E.n1, E.n2, E.n3⟩
theorem new_mono {h h1 : Hp} (k : Keep h h1) {s : Sl} (N : s.a = none ∨ New h1 s) : s.a = none ∨ New h s := by
  rcases N with h0 | ⟨b, hb, hn⟩
  · exact .inl h0
  · exact .inr ⟨b, hb, k.dom b hn⟩
theorem EdB.mono {h0 h1 h : Hp} (k : Keep h0 h1) {e : Edit} {l1 l2 l3 : Sl} (E : EdB h1 h e l1 l2 l3) : EdB h0 h e l1 l2 l3 := ⟨E.out, E.inn, E.ptr, new_mono k E.n1, new_mono k E.n2, new_mono k E.n3⟩
theorem zE_b (h : Hp) : EdB h h zE ⟨none, 0, 0⟩ ⟨none, 0, 0⟩ ⟨none, 0, 0⟩ := ⟨Buf.nil h 2 89, Buf.nil h 7 87, Buf.nil h 1 9, .inl rfl, .inl rfl, .inl rfl⟩
theorem zE_valid : zE.valid := ⟨⟨by decide, by decide⟩, ⟨by decide, by decide⟩, ⟨by decide, by decide⟩, fun p hp => (by cases hp), fun p hp => (by cases hp)⟩
theorem out_one (o : List Place) : ∀ v ∈ outV o, Value.oneCell' v = true := by
  intro v hv
  obtain ⟨p, _, hp⟩ := List.mem_flatMap.1 hv
  simp only [Place.cells, List.mem_cons, List.not_mem_nil, or_false] at hp
  rcases hp with rfl | rfl <;> rfl
theorem in_one (o : List Placed) : ∀ v ∈ inV o, Value.oneCell' v = true := by
  intro v hv
  obtain ⟨p, _, hp⟩ := List.mem_flatMap.1 hv
  simp only [Placed.cells, List.mem_cons, List.not_mem_nil, or_false] at hp
  rcases hp with rfl | rfl | rfl | rfl | rfl | rfl | rfl <;> rfl
theorem outV_append (a b : List Place) : outV (a ++ b) = outV a ++ outV b := by simp [outV]
theorem inV_append (a b : List Placed) : inV (a ++ b) = inV a ++ inV b := by simp [inV]
theorem part_succ {α : Type} {l : List α} {f i : Nat} (hf : f ≤ i) (hi : i < l.length) : (l.drop f).take (i + 1 - f) = (l.drop f).take (i - f) ++ [l[i]] := by
  have h1 : i - f < (l.drop f).length := by rw [List.length_drop]; omega
  rw [show i + 1 - f = (i - f) + 1 by omega, List.take_succ_eq_append_getElem h1]
  congr 2
  rw [List.getElem_drop]
  congr 1
  omega
/-- The records that Get is given. -/
structure Recs (h : Hp) (l : Sl) (ss : List Sl) (recs : List (List Int)) : Prop where
  row : h.row l.a l.n (slV ss)
  cap : l.n ≤ l.c
  rows : Rows h ss recs
  caps : ∀ s ∈ ss, s.n ≤ s.c
  ok : ∀ r ∈ recs, ∀ c ∈ r, 0 ≤ c ∧ c < 256
  each : ∀ r ∈ recs, r.length ≤ 1000000000
  tot : tot recs ≤ 200000000000
theorem get_spec {h : Hp} {l : Sl} {ss : List Sl} {recs : List (List Int)} {Q : Value → Hp → Prop} (A : Recs h l ss recs)
    (hN : ∀ h', Keep h h' → getR recs [] zE [] = none → Q (.tuple ⟨[.slice none 0 0, .int .i64 140]⟩) h')
    (hS : ∀ h' l1 (L : List EdS), Keep h h' → getR recs [] zE [] = some (L.map EdS.e) → Buf h' l1 6 60 (edV L) → (∀ x ∈ L, EdOk h' x) → (l1.a = none ∨ New h l1) → L.length ≤ 200000000000 → Q (.tuple ⟨[.slice l1.a l1.n l1.c, .int .i64 0]⟩) h') : F11.T l h Q := by
  have hss : ss.length = recs.length := A.rows.1
  have hln : l.n = recs.length := by have := A.row.1; rw [slV_length, hss] at this; exact this.symm
  have hrl := tot_len recs
  have htot := A.tot
  have hy : ∀ y ∈ recs, y.length ≤ 1000000000000 := fun y hy => by have := tot_mem hy; omega
  have hcap := A.cap
  unfold F11.T
  refine ⟨fun l1 n n1 n2 n3 n4 l2 l3 l4 h1 => ∃ (i f : Nat) (L : List EdS) (cur : Edit) (hs : Hp), n = (f : Int) ∧ n1 = (i : Int) ∧ f ≤ i ∧ i ≤ recs.length ∧ n2 = cur.log ∧ n3 = cur.next ∧ n4 = cur.seq ∧ Keep h hs ∧ Keep hs h1 ∧ (l1.a = none ∨ New h l1) ∧ Buf h1 l1 6 60 (edV L) ∧ (∀ x ∈ L, EdOk hs x) ∧ EdB hs h1 cur l2 l3 l4 ∧ cur.valid ∧ cur.out.length + cur.inn.length ≤ tot (recs.take i) ∧ cur.ptr.length ≤ 1000000000 ∧ L.length ≤ i ∧ getR (recs.drop i) (L.map EdS.e) cur ((recs.drop f).take (i - f)) = getR recs [] zE [],
    fun _ _ n1 _ _ _ _ _ _ _ => recs.length - n1.toNat, ⟨0, 0, [], zE, h, rfl, rfl, Nat.le_refl _, Nat.zero_le _, rfl, rfl, rfl, Keep.refl h, Keep.refl h, .inl rfl, Buf.nil h 6 60, fun x hx => (by cases hx), zE_b h, zE_valid, Nat.zero_le _, Nat.zero_le _, Nat.zero_le _, rfl⟩, ?_⟩
  rintro l1 n n1 n2 n3 n4 l2 l3 l4 h1 ⟨i, f, L, cur, hs, rfl, rfl, hfi, hi, rfl, rfl, rfl, K0, K1, N1, B1, hL, E, V, hsz, hpt, hLn, hG⟩
  refine ⟨fun hlt => ?_, fun hge => ?_⟩
  · have hi1 : i < recs.length := by omega
    have hi2 : i < ss.length := by omega
    obtain ⟨b, o, ha, hat⟩ := row_get ((K0.trans K1).row A.row) (i := i) (by omega)
    have hv : (slV ss)[i]? = some (.slice ss[i].a ss[i].n ss[i].c) := by simp [slV, hi2]
    refine ⟨b, o, ha, ⟨by omega, hlt⟩, ss[i], by rw [Int.toNat_natCast, hat i (by omega), hv], ?_⟩
    have hrow := (K0.trans K1).row (A.rows.2 i hi2 hi1)
    have hri := List.getElem_mem hi1
    have hrm := tot_mem hri
    have hre := A.each _ hri
    have hti := tot_take_succ hi1
    have htl := tot_take recs (i + 1)
    have hpart := part_succ hfi hi1
    have hplen : ((recs.drop f).take (i - f)).length = i - f := by rw [List.length_take, List.length_drop]; omega
    rw [List.drop_eq_getElem_cons hi1] at hG
    refine read_spec hrow (A.caps _ (List.getElem_mem hi2)) (A.ok _ hri) (by omega) (fun h2 K2 hno => ?_) (fun h2 x last k1 k2 k3 hso K2 E2 V2 hx => ?_)
    · rw [getR_none hno] at hG
      exact ⟨0, 0, 0, ⟨none, 0, 0⟩, ⟨none, 0, 0⟩, ⟨none, 0, 0⟩, false, fun h0 => (by cases h0), fun _ => ⟨false, fun h0 => (by cases h0), fun _ => ⟨rfl, hN h2 ((K0.trans K1).trans K2) hG.symm⟩⟩⟩
    rw [getR_some hso] at hG
    simp only at hG
    have hw : IntKind.wrap .i64 ((i : Int) + 1) = ((i + 1 : Nat) : Int) := next_i hi1 (by omega)
    have next : ∀ h4 q1 q2 J, J = joinE cur x ((recs.drop f).take (i - f)) → Keep hs h4 → Buf h4 l1 6 60 (edV L) → EdB hs h4 J q1 q2 k3 → J.valid → J.log = x.log → J.next = x.next → J.seq = x.seq → J.ptr = x.ptr → J.out.length + J.inn.length ≤ tot (recs.take (i + 1)) →
        (last = false → (∃ (i' f' : Nat) (L' : List EdS) (cur : Edit) (hs : Hp), (f : Int) = (f' : Int) ∧ ((i + 1 : Nat) : Int) = (i' : Int) ∧ f' ≤ i' ∧ i' ≤ recs.length ∧ x.log = cur.log ∧ x.next = cur.next ∧ x.seq = cur.seq ∧ Keep h hs ∧ Keep hs h4 ∧ (l1.a = none ∨ New h l1) ∧ Buf h4 l1 6 60 (edV L') ∧ (∀ x ∈ L', EdOk hs x) ∧ EdB hs h4 cur q1 q2 k3 ∧ cur.valid ∧ cur.out.length + cur.inn.length ≤ tot (recs.take i') ∧ cur.ptr.length ≤ 1000000000 ∧ L'.length ≤ i' ∧ getR (recs.drop i') (L'.map EdS.e) cur ((recs.drop f').take (i' - f')) = getR recs [] zE []) ∧ recs.length - (((i + 1 : Nat) : Int)).toNat < recs.length - ((i : Int)).toNat) ∧
        (last = true → Sl.okCut l (f : Int) ((i + 1 : Nat) : Int) (l.c : Int) ∧ F32.Tt x.log x.next x.seq q1 q2 k3 (Sl.cut l 1 (f : Int) ((i + 1 : Nat) : Int) (l.c : Int)) h4 fun r1 h5 => ∃ b3 : Bool, r1 = .bool b3 ∧ parB b3 (appendD l1 60 6 96 [.int .u64 0, .int .u64 0, .int .u64 0, .slice none 0 0, .slice none 0 0, .slice none 0 0] 1 [.int .u64 x.log, .int .u64 x.next, .int .u64 x.seq, .slice q1.a q1.n q1.c, .slice q2.a q2.n q2.c, .slice k3.a k3.n k3.c] h5 fun l11 h6 => (∃ (i' f' : Nat) (L' : List EdS) (cur : Edit) (hs : Hp), ((i + 1 : Nat) : Int) = (f' : Int) ∧ ((i + 1 : Nat) : Int) = (i' : Int) ∧ f' ≤ i' ∧ i' ≤ recs.length ∧ (0 : Int) = cur.log ∧ (0 : Int) = cur.next ∧ (0 : Int) = cur.seq ∧ Keep h hs ∧ Keep hs h6 ∧ (l11.a = none ∨ New h l11) ∧ Buf h6 l11 6 60 (edV L') ∧ (∀ x ∈ L', EdOk hs x) ∧ EdB hs h6 cur ⟨none, 0, 0⟩ ⟨none, 0, 0⟩ ⟨none, 0, 0⟩ ∧ cur.valid ∧ cur.out.length + cur.inn.length ≤ tot (recs.take i') ∧ cur.ptr.length ≤ 1000000000 ∧ L'.length ≤ i' ∧ getR (recs.drop i') (L'.map EdS.e) cur ((recs.drop f').take (i' - f')) = getR recs [] zE []) ∧ recs.length - (((i + 1 : Nat) : Int)).toNat < recs.length - ((i : Int)).toNat) (Q (.tuple ⟨[.slice none 0 0, .int .i64 140]⟩) h5)) := by
      intro h4 q1 q2 J hJ K4 B4 EJ VJ j1 j2 j3 j4 hJs
      have hm : recs.length - (((i + 1 : Nat) : Int)).toNat < recs.length - ((i : Int)).toNat := by omega
      have hJp : J.ptr.length ≤ 1000000000 := by rw [j4]; omega
      refine ⟨fun hl0 => ⟨⟨i + 1, f, L, J, hs, rfl, rfl, by omega, hi1, j1.symm, j2.symm, j3.symm, K0, K4, N1, B4, hL, EJ, VJ, hJs, hJp, by omega, ?_⟩, hm⟩, fun hl1 => ?_⟩
      · rw [hl0, if_neg (by decide), ← hJ] at hG
        rw [hpart]; exact hG
      · rw [hl1, if_pos rfl, ← hJ] at hG
        refine ⟨⟨by omega, by omega, by omega, by omega⟩, ?_⟩
        have hcut := cut_row A.row (i := f) (j := i + 1) (m := l.c) (by omega) (by omega) hcap
        have hR := A.rows.mid f (i + 1 - f)
        rw [← j1, ← j2, ← j3]
        refine same_t EJ.at EJ.out.cap EJ.inn.cap VJ (by omega) (by omega) ((K0.trans K4).row hcut) (hR.keep (K0.trans K4)) (by rw [List.length_take, List.length_drop]; omega) (fun y hym => hy y (List.mem_of_mem_drop (List.mem_of_mem_take hym))) fun h5 K5 => ⟨_, rfl, fun hT => ?_, fun hF => ?_⟩
        · rw [hpart] at hT
          rw [if_pos hT] at hG
          have hLl := ed_n B4
          refine append_buf (B4.keep K5) rfl rfl (by omega) fun l11 h6 B6 hn6 U6 => ⟨⟨i + 1, i + 1, L ++ [⟨J, q1, q2, k3⟩], zE, h6, rfl, rfl, Nat.le_refl _, hi1, rfl, rfl, rfl, ?_, Keep.refl h6, ?_, ?_, ?_, zE_b h6, zE_valid, Nat.zero_le _, Nat.zero_le _, ?_, ?_⟩, hm⟩
          · exact (keep_grow ((K0.trans K4).trans K5) N1 U6).1
          · exact (keep_grow ((K0.trans K4).trans K5) N1 U6).2
          · unfold edV at B6 ⊢
            rw [List.flatMap_append]
            simpa [EdS.cells] using B6
          · intro y hym
            rcases List.mem_append.1 hym with hym | hym
            · exact ((hL y hym).keep (K4.trans K5)).upd U6 (B4.keep K5) (by decide) (by decide) (by decide)
            · rw [List.mem_singleton] at hym
              subst hym
              have EJ' := (EJ.keep K5).upd U6 (B4.keep K5) (by decide) (by decide) (by decide)
              exact ⟨EJ'.out, EJ'.inn, EJ'.ptr, VJ, by show J.out.length + J.inn.length ≤ 400000000000; omega, by show J.ptr.length ≤ 1000000000; omega⟩
          · rw [List.length_append, List.length_singleton]; omega
          · rw [List.map_append, Nat.sub_self, List.take_zero]
            exact hG
        · rw [hpart] at hF
          rw [if_neg (by rw [hF]; decide)] at hG
          exact hN h5 ((K0.trans K4).trans K5) hG.symm
    have go : ∀ Kf : Sl → Sl → Hp → Prop, (∀ h4 q1 q2 J, J = joinE cur x ((recs.drop f).take (i - f)) → Keep hs h4 → Buf h4 l1 6 60 (edV L) → EdB hs h4 J q1 q2 k3 → J.valid → J.log = x.log → J.next = x.next → J.seq = x.seq → J.ptr = x.ptr → J.out.length + J.inn.length ≤ tot (recs.take (i + 1)) → Kf q1 q2 h4) →
        par ((f : Int) < (i : Int)) (∃ vs, h2.row k1.a (k1.n * 2) vs ∧ (∀ v ∈ vs, Value.oneCell' v = true) ∧ appendD l2 89 2 16 [.int .i64 0, .int .u64 0] k1.n vs h2 fun l9 h3 => ∃ vs1, h3.row k2.a (k2.n * 7) vs1 ∧ (∀ v ∈ vs1, Value.oneCell' v = true) ∧ appendD l3 87 7 72 [.int .i64 0, .int .u64 0, .int .i64 0, .int .i64 0, .int .i64 0, .string (ByteArray.mk #[]), .string (ByteArray.mk #[])] k2.n vs1 h3 fun l10 h4 => Kf l9 l10 h4) (Kf k1 k2 h2) := by
      intro Kf next
      refine ⟨fun hlt2 => ?_, fun hge2 => ?_⟩
      · have hpn : ¬ ((recs.drop f).take (i - f)).length = 0 := by omega
        refine ⟨_, E2.out.row, out_one _, ?_⟩
        have o2 := out_n E2.out
        have o1 := out_n E.out
        have p1 := in_n E.inn
        have p2 := in_n E2.inn
        have Ek := E.keep K2
        refine append_buf Ek.out rfl E2.out.len (by omega) fun l9 h3 B3 hn3 U3 => ?_
        have E3 := (EdOk.mk (x := ⟨x, k1, k2, k3⟩) E2.out E2.inn E2.ptr V2 (by show x.out.length + x.inn.length ≤ 400000000000; omega) (by show x.ptr.length ≤ 1000000000; omega))
        have i3 : Buf h3 k2 7 87 (inV x.inn) := E2.inn.upd U3 (buf_off E2.inn Ek.out (by decide))
        have q3 : Buf h3 k3 1 9 (ptrV x.ptr) := E2.ptr.upd U3 (buf_off E2.ptr Ek.out (by decide))
        have ci3 : Buf h3 l3 7 87 (inV cur.inn) := Ek.inn.upd U3 (buf_off Ek.inn Ek.out (by decide))
        have b3 : Buf h3 l1 6 60 (edV L) := (B1.keep K2).upd U3 (buf_off (B1.keep K2) Ek.out (by decide))
        obtain ⟨K3, N3⟩ := keep_grow (K1.trans K2) E.n1 U3
        refine ⟨_, i3.row, in_one _, ?_⟩
        refine append_buf ci3 rfl i3.len (by omega) fun l10 h4 B4 hn4 U4 => ?_
        have o4 : Buf h4 l9 2 89 (outV cur.out ++ outV x.out) := B3.upd U4 (buf_off B3 ci3 (by decide))
        have q4 : Buf h4 k3 1 9 (ptrV x.ptr) := q3.upd U4 (buf_off q3 ci3 (by decide))
        have b4 : Buf h4 l1 6 60 (edV L) := b3.upd U4 (buf_off b3 ci3 (by decide))
        obtain ⟨K4, N4⟩ := keep_grow K3 E.n2 U4
        have nn := next h4 l9 l10 (joinE cur x ((recs.drop f).take (i - f))) rfl K4 b4
        have hJe : joinE cur x ((recs.drop f).take (i - f)) = ⟨x.log, x.next, x.seq, cur.out ++ x.out, cur.inn ++ x.inn, x.ptr⟩ := by unfold joinE; rw [if_neg hpn]
        rw [hJe] at nn
        have nn := nn ⟨by rw [outV_append]; exact o4, by rw [inV_append]; exact B4, q4, N3, N4, new_mono K1 E2.n3⟩
          ⟨V2.log, V2.next, V2.seq, fun p hp => by rcases List.mem_append.1 hp with hp | hp; exact V.out p hp; exact V2.out p hp, fun p hp => by rcases List.mem_append.1 hp with hp | hp; exact V.inn p hp; exact V2.inn p hp⟩ rfl rfl rfl rfl
          (by show (cur.out ++ x.out).length + (cur.inn ++ x.inn).length ≤ _; simp only [List.length_append]; omega)
        exact nn
      · have hpn : ((recs.drop f).take (i - f)).length = 0 := by omega
        have hJe : joinE cur x ((recs.drop f).take (i - f)) = x := by unfold joinE; rw [if_pos hpn]
        have nn := next h2 k1 k2 (joinE cur x ((recs.drop f).take (i - f))) rfl (K1.trans K2) (B1.keep K2)
        rw [hJe] at nn
        have nn := nn (E2.mono K1) V2 rfl rfl rfl rfl (by omega)
        exact nn
    refine ⟨x.log, x.next, x.seq, k1, k2, k3, last, fun hl => ⟨true, fun _ => ⟨by rw [hl], ?_⟩, fun h0 => (by cases h0)⟩, fun hl => ⟨true, fun _ => ⟨by rw [hl], ?_⟩, fun h0 => (by cases h0)⟩⟩
    · rw [hw]
      exact go _ (fun h4 q1 q2 J a1 a2 a3 a4 a5 a6 a7 a8 a9 a10 => (next h4 q1 q2 J a1 a2 a3 a4 a5 a6 a7 a8 a9 a10).2 hl)
    · rw [hw]
      exact go _ (fun h4 q1 q2 J a1 a2 a3 a4 a5 a6 a7 a8 a9 a10 => (next h4 q1 q2 J a1 a2 a3 a4 a5 a6 a7 a8 a9 a10).1 hl)
  · have hie : i = recs.length := by omega
    subst hie
    rw [List.drop_length, getR] at hG
    have hplen : ((recs.drop f).take (recs.length - f)).length = recs.length - f := by rw [List.length_take, List.length_drop]; omega
    rw [hplen] at hG
    have p1 := in_n E.inn
    have htl := tot_take recs recs.length
    refine append_buf E.inn rfl rfl (by omega) fun l13 h9 B9 hn9 U9 => ?_
    obtain ⟨K9, N9⟩ := keep_grow K1 E.n2 U9
    have o9 : Buf h9 l2 2 89 (outV cur.out) := E.out.upd U9 (buf_off E.out E.inn (by decide))
    have q9 : Buf h9 l4 1 9 (ptrV cur.ptr) := E.ptr.upd U9 (buf_off E.ptr E.inn (by decide))
    have b9 : Buf h9 l1 6 60 (edV L) := B1.upd U9 (buf_off B1 E.inn (by decide))
    have fin : ∀ h', Keep h9 h' → getR recs [] zE [] = some (L.map EdS.e) → Q (.tuple ⟨[.slice l1.a l1.n l1.c, .int .i64 0]⟩) h' := fun h' K' hg =>
      hS h' l1 L ((K0.trans K9).trans K') hg (b9.keep K') (fun x hx => (hL x hx).keep (K9.trans K')) N1 (by omega)
    refine ⟨fun hlt => ⟨⟨by omega, by omega, by omega, by omega⟩, ?_⟩, fun hge2 => fin h9 (Keep.refl h9) ?_⟩
    · have hcut := cut_row A.row (i := f) (j := l.n) (m := l.c) (by omega) (Nat.le_refl _) hcap
      have hR := A.rows.mid f (l.n - f)
      rw [if_neg (by omega)] at hG
      have hpv : ∀ p ∈ (withP cur).inn, p.lv < 9223372036854775808 ∧ okU p.num ∧ p.weight < 9223372036854775808 ∧ p.bytes < 9223372036854775808 ∧ p.entries < 9223372036854775808 := fun p hp => by
        rcases List.mem_append.1 hp with hp | hp
        · exact V.inn p hp
        · rw [List.mem_singleton] at hp
          subst hp
          exact ⟨by decide, ⟨by decide, by decide⟩, by decide, by decide, by decide⟩
      have EW : EdB hs h9 (withP cur) l2 l13 l4 := ⟨o9, by show Buf h9 l13 7 87 (inV (cur.inn ++ [pl0])); rw [inV_append]; exact B9, q9, E.n1, N9, E.n3⟩
      refine same_f (e := withP cur) EW.at EW.out.cap EW.inn.cap ⟨V.log, V.next, V.seq, V.out, hpv⟩ ?_ (by show cur.ptr.length < _; omega) ((K0.trans K9).row hcut) (hR.keep (K0.trans K9)) (by rw [List.length_take, List.length_drop]; omega) (fun y hym => hy y (List.mem_of_mem_drop (List.mem_of_mem_take hym))) fun h5 K5 => ⟨_, rfl, fun hT => ?_, fun hF => ?_⟩
      · show cur.out.length + (cur.inn ++ [pl0]).length ≤ 1000000000000
        rw [List.length_append, List.length_singleton]; omega
      · rw [hln] at hT
        rw [if_pos hT] at hG
        exact fin h5 K5 hG.symm
      · rw [hln] at hF
        rw [if_neg (by rw [hF]; decide)] at hG
        exact hN h5 ((K0.trans K9).trans K5) hG.symm
    · rw [if_pos (by omega)] at hG
      exact hG.symm
end Go.Eng.Ytblghgacokoklaa
