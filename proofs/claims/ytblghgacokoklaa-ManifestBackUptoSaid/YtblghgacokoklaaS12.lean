/-
  SPECS, 12: the chapter's example; what Get takes is what Put writes.
-/
import Derived.Test.YtblghgacokoklaaS11
set_option linter.unusedSimpArgs false
set_option linter.unusedVariables false
namespace Go.Eng.Ytblghgacokoklaa
def eK : Edit := ⟨2, 9, 300, [⟨0, 4⟩], [⟨1, 8, 455, 90, 1, ⟨#[97]⟩, ⟨#[97]⟩⟩], []⟩
def rK : List Int := [1, 2, 9, 172, 2, 1, 0, 4, 1, 1, 8, 199, 3, 90, 1, 1, 97, 1, 97, 0]
theorem put_K : putS eK = [rK] := by kernel_rfl
theorem get_K : getR [rK] [] zE [] = some [eK] := by kernel_rfl
theorem okK : eK.valid := ⟨⟨by decide, by decide⟩, ⟨by decide, by decide⟩, ⟨by decide, by decide⟩, fun p hp => by
    simp only [eK, List.mem_cons, List.not_mem_nil, or_false] at hp
    subst hp
    exact ⟨by decide, by decide, by decide⟩, fun p hp => by
    simp only [eK, List.mem_cons, List.not_mem_nil, or_false] at hp
    subst hp
    exact ⟨by decide, ⟨by decide, by decide⟩, by decide, by decide, by decide⟩⟩
theorem known_spec {h : Hp} {Q : Value → Hp → Prop} (hQ : ∀ h', Keep h h' → Q (.bool true) h') : F15.T h Q := by
  intro b hb b1 hb1
  have K0 := Keep.new hb (.cells ⟨[.int .i64 0, .int .u64 4]⟩ 89 (0, 0))
  have K1 := Keep.new hb1 (.cells ⟨[.int .i64 1, .int .u64 8, .int .i64 455, .int .i64 90, .int .i64 1, .string (ByteArray.mk #[97]), .string (ByteArray.mk #[97])]⟩ 87 (0, 0))
  have E : EdAt ((h.new b (.cells ⟨[.int .i64 0, .int .u64 4]⟩ 89 (0, 0))).new b1 (.cells ⟨[.int .i64 1, .int .u64 8, .int .i64 455, .int .i64 90, .int .i64 1, .string (ByteArray.mk #[97]), .string (ByteArray.mk #[97])]⟩ 87 (0, 0))) eK ⟨some ⟨b, 0, none⟩, 1, 1⟩ ⟨some ⟨b1, 0, none⟩, 1, 1⟩ ⟨none, 0, 0⟩ :=
    ⟨K1.row (row_new h b 89 (outV eK.out) 2 rfl), row_new _ b1 87 (inV eK.inn) 7 rfl, ⟨rfl, .inl rfl⟩⟩
  refine put_spec (e := eK) E (Nat.le_refl _) (Nat.le_refl _) okK (by decide) (by decide) fun l h1 ss B R K N => ⟨l, rfl, ?_⟩
  rw [put_K] at R
  obtain ⟨s0, rfl⟩ : ∃ s0, ss = [s0] := List.length_eq_one_iff.1 R.1
  have B0 : Buf h1 s0 1 5 (bv rK) := R.2 0 (Nat.zero_lt_one) (Nat.zero_lt_one)
  have hl1 : l.n = 1 := by have := B.len; rw [slV_length] at this; simp only [List.length_singleton] at this; omega
  have hrow := B.row
  rw [Nat.mul_one] at hrow
  have KK := (K0.trans K1).trans K
  have A : Recs h1 l [s0] [rK] := ⟨hrow, B.cap, R.rows, fun s hs => by rw [List.mem_singleton] at hs; subst hs; exact B0.cap, fun r hr => by
    rw [List.mem_singleton] at hr; subst hr; decide, fun r hr => by
    rw [List.mem_singleton] at hr; subst hr; decide, by decide⟩
  refine get_spec A (fun h2 K2 hno => ?_) (fun h2 l1 L K2 hso BL hL NL hn => ?_)
  · rw [get_K] at hno; cases hno
  rw [get_K] at hso
  obtain ⟨x, rfl, hx⟩ : ∃ x, L = [x] ∧ x.e = eK := by
    have hsm : L.map EdS.e = [eK] := (Option.some.inj hso).symm
    rcases L with _ | ⟨x, _ | ⟨y, L⟩⟩
    · cases hsm
    · exact ⟨x, rfl, by simpa using hsm⟩
    · simp at hsm
  have hn1 : l1.n = 1 := ed_n BL
  have X := hL x List.mem_cons_self
  obtain ⟨b2, o, ha, hat⟩ := row_get (K2.row hrow) (i := 0) (by omega)
  have hat0 : h2.at b2 (o + (0 : Int).toNat) = some (.slice s0.a s0.n s0.c) := hat 0 (by omega)
  refine ⟨l1, 0, rfl, fun _ => ⟨b2, o, ha, ⟨by decide, by omega⟩, s0, hat0, fun b3 hb3 => ?_⟩, fun h0 => absurd (by omega) h0⟩
  have K3 := Keep.new hb3 (.cells ⟨bv rK⟩ 5 (0, 0))
  refine ⟨K3.at hat0, ?_⟩
  have r0 := B0.row
  rw [Nat.mul_one] at r0
  refine sameBytes_eq (K3.row (K2.row r0)) (row_new h2 b3 5 (bv rK) 20 rfl) (by decide) (fun _ => ⟨true, rfl, fun _ => ⟨fun _ => ⟨fun _ => ?_, fun h0 => absurd (by omega) h0⟩, fun h0 => absurd rfl h0⟩, fun h0 => (by cases h0)⟩) (fun h0 => absurd rfl h0)
  obtain ⟨b5, o1, ha5, hat5⟩ := row_get (K3.row BL.row) (i := 0) (by omega)
  have cc : ∀ j, j < 6 → (h2.new b3 (.cells ⟨bv rK⟩ 5 (0, 0))).at b5 ((o1 + (0 : Int).toNat * 6) + j) = (EdS.cells x)[j]? := fun j hj => by
    have h7 := hat5 j (by omega)
    have h8 : (edV [x])[j]? = (EdS.cells x)[j]? := by simp [edV]
    rw [← h8, ← h7]
    simp
  refine ⟨b5, o1, ha5, ⟨by decide, by omega⟩, x.e.log, cc 0 (by decide), x.e.next, cc 1 (by decide), x.e.seq, cc 2 (by decide), x.a, cc 3 (by decide), x.b, cc 4 (by decide), x.c, cc 5 (by decide), ?_⟩
  refine edit_eq (g := eK) ((X.at).keep K3) ((E.keep K).keep (K2.trans K3)) (by decide) (by decide) (by decide) (fun _ => ⟨true, rfl, fun _ => ?_, fun h0 => (by cases h0)⟩) (fun h0 => absurd hx h0)
  refine name_known fun h5 K5 => ⟨_, rfl, fun _ => hQ h5 (((KK.trans K2).trans K3).trans K5), fun h0 => absurd rfl h0⟩
/-! ### The law -/
theorem sameP_t {e : Edit} {recs : List (List Int)} (h : sameP e recs true = true) : putS e = recs := by
  unfold sameP at h
  by_cases h1 : (putS e).length < recs.length
  · rw [if_pos h1] at h; cases h
  · rw [if_neg h1] at h
    by_cases h2 : (putS e).length = recs.length
    · rw [if_neg (fun hh => hh.2 h2), decide_eq_true_eq] at h
      rw [← h2, List.take_length] at h
      exact h
    · rw [if_pos ⟨rfl, h2⟩] at h; cases h
theorem getR_law : ∀ (rs : List (List Int)) (acc : List Edit) (cur : Edit) (part : List (List Int)) (es : List Edit), getR rs acc cur part = some es → ∃ rest, acc.flatMap putS ++ part ++ rs = es.flatMap putS ++ rest
  | [], acc, cur, part, es, h => by
    unfold getR at h
    have : acc = es := by
      split at h
      · exact Option.some.inj h
      · split at h
        · exact Option.some.inj h
        · cases h
    exact ⟨part, by rw [this, List.append_nil]⟩
  | r :: rs, acc, cur, part, es, h => by
    cases hr : rd r with
    | none => rw [getR_none hr] at h; cases h
    | some x =>
      rw [getR_some hr] at h
      by_cases hx : x.2 = true
      · rw [if_pos hx] at h
        by_cases hs : sameP (joinE cur x.1 part) (part ++ [r]) true = true
        · rw [if_pos hs] at h
          obtain ⟨rest, hrest⟩ := getR_law rs _ _ _ es h
          refine ⟨rest, ?_⟩
          rw [← hrest, List.flatMap_append]
          simp [sameP_t hs]
        · rw [if_neg hs] at h; cases h
      · rw [if_neg hx] at h
        obtain ⟨rest, hrest⟩ := getR_law rs _ _ _ es h
        exact ⟨rest, by rw [← hrest]; simp⟩
theorem slV_get {ss : List Sl} {k : Nat} (h : k < ss.length) : (slV ss)[k]? = some (.slice ss[k].a ss[k].n ss[k].c) := by
  simp [slV, h]
theorem put_at {es : List Edit} {rest recs : List (List Int)} (h : recs = es.flatMap putS ++ rest) {i : Nat} (hi : i < es.length) :
    (((es.take i).flatMap putS).length + (putS es[i]).length = ((es.take (i + 1)).flatMap putS).length) ∧ ((es.take (i + 1)).flatMap putS).length ≤ recs.length ∧ ∀ k, k < (putS es[i]).length → recs[((es.take i).flatMap putS).length + k]? = (putS es[i])[k]? := by
  have h1 : (es.take (i + 1)).flatMap putS = (es.take i).flatMap putS ++ putS es[i] := by
    rw [List.take_succ_eq_append_getElem hi, List.flatMap_append]; simp
  have h2 : es.flatMap putS = (es.take (i + 1)).flatMap putS ++ (es.drop (i + 1)).flatMap putS := by
    rw [← List.flatMap_append, List.take_append_drop]
  refine ⟨by rw [h1, List.length_append], by rw [h, h2]; simp only [List.length_append]; omega, fun k hk => ?_⟩
  rw [h, h2, h1]
  simp only [List.append_assoc]
  rw [List.getElem?_append_right (Nat.le_add_right _ _), Nat.add_sub_cancel_left, List.getElem?_append_left hk]
/-- The law ManifestForm: it answers true. -/
theorem form_spec {h : Hp} {l : Sl} {ss : List Sl} {recs : List (List Int)} {Q : Value → Hp → Prop} (hrow : h.row l.a l.n (slV ss)) (hcap : l.n ≤ l.c) (R : Rows h ss recs) (hcaps : ∀ s ∈ ss, s.n ≤ s.c) (hok : ∀ r ∈ recs, ∀ c ∈ r, 0 ≤ c ∧ c < 256) (hsm : ∀ s ∈ ss, s.n ≤ 9223372036854775807)
    (hQ : ∀ h', Keep h h' → Q (.bool true) h') : F6.T l h Q := by
  refine known_spec fun h1 K1 => ⟨true, rfl, fun _ => ?_, fun h0 => (by cases h0)⟩
  refine fewer_spec (K1.row hrow) hsm (fun h2 K2 ht => ⟨true, rfl, fun _ => ?_, fun h0 => (by cases h0)⟩) (fun h2 K2 => ⟨false, rfl, fun h0 => (by cases h0), fun _ => hQ h2 (K1.trans K2)⟩)
  have K12 := K1.trans K2
  have htot : tot recs = totS ss := by
    unfold tot totS
    have e : recs.map (fun r => r.length + 1) = ss.map (fun s => s.n + 1) := by
      apply List.ext_getElem (by simp [R.1])
      intro i hi hj
      simp only [List.length_map] at hi hj
      simp only [List.getElem_map]
      have := (R.2 i hj hi).1
      rw [bv_length] at this
      rw [this]
    rw [e]
  have A : Recs h2 l ss recs := ⟨K12.row hrow, hcap, R.keep K12, hcaps, hok, fun r hr => by have := tot_mem hr; omega, by omega⟩
  have hln : l.n = recs.length := by have := hrow.1; rw [slV_length, R.1] at this; exact this.symm
  have hss : ss.length = recs.length := R.1
  have hrl := tot_len recs
  refine get_spec A (fun h3 K3 hno => ⟨⟨none, 0, 0⟩, 140, rfl, fun h0 => absurd h0 (by decide), fun _ => ⟨fun _ => ⟨fun _ => hQ h3 (K12.trans K3), fun h0 => absurd (by decide) h0⟩, fun h0 => absurd rfl h0⟩⟩) (fun h3 l1 L K3 hso BL hL NL hn => ⟨l1, 0, rfl, fun _ => ?_, fun h0 => absurd rfl h0⟩)
  obtain ⟨rest, hrest⟩ := getR_law recs [] zE [] _ hso
  simp only [List.flatMap_nil, List.nil_append] at hrest
  have K13 := K12.trans K3
  have hn1 : l1.n = L.length := ed_n BL
  have hlen : ∀ i, ((L.map EdS.e).take i).length ≤ L.length := fun i => by rw [List.length_take, List.length_map]; omega
  refine ⟨fun n1 n2 h4 => ∃ i : Nat, n2 = (i : Int) ∧ i ≤ L.length ∧ n1 = ((((L.map EdS.e).take i).flatMap putS).length : Int) ∧ Keep h3 h4, fun _ n2 _ => L.length - n2.toNat, ⟨0, rfl, Nat.zero_le _, by simp, Keep.refl h3⟩, ?_⟩
  rintro n1 n2 h4 ⟨i, rfl, hi, rfl, K4⟩
  refine ⟨fun hlt => ?_, fun hge => ⟨fun _ => hQ h4 (K13.trans K4), fun h0 => absurd ?_ h0⟩⟩
  · have ia : i < L.length := by omega
    have ib : i < (L.map EdS.e).length := by rw [List.length_map]; exact ia
    have hib : (L.map EdS.e)[i] = L[i].e := by simp
    obtain ⟨p1, p2, p3⟩ := put_at hrest ib
    rw [hib] at p1 p3
    have X := (hL _ (List.getElem_mem ia)).keep K4
    obtain ⟨b2, o, ha, hat⟩ := row_get (K4.row BL.row) (i := i * 6) (by omega)
    have cc : ∀ j, j < 6 → h4.at b2 ((o + i * 6) + j) = (EdS.cells L[i])[j]? := fun j hj => by
      rw [Nat.add_assoc, hat _ (by omega)]
      exact flat_get EdS.cells 6 (fun _ => rfl) L i j ia hj
    rw [Int.toNat_natCast, next_i ia (by omega)]
    refine ⟨b2, o, ha, ⟨by omega, hlt⟩, _, cc 0 (by decide), _, cc 1 (by decide), _, cc 2 (by decide), _, cc 3 (by decide), _, cc 4 (by decide), _, cc 5 (by decide), ?_⟩
    have xs := X.size
    have xp := X.nptr
    refine put_spec X.at X.out.cap X.inn.cap X.val (by omega) (by omega) fun l5 h5 ts B5 R5 K5 N5 => ⟨l5, rfl, ?_⟩
    have K15 := (K13.trans K4).trans K5
    have n5 : l5.n = (putS L[i].e).length := by have := B5.len; rw [slV_length, R5.1] at this; omega
    have t5 : ts.length = (putS L[i].e).length := R5.1
    refine ⟨fun n6 n7 h6 => h6 = h5 ∧ ∃ k : Nat, n7 = (k : Int) ∧ k ≤ (putS L[i].e).length ∧ n6 = ((((L.map EdS.e).take i).flatMap putS).length + k : Nat), fun _ n7 _ => (putS L[i].e).length - n7.toNat, ⟨rfl, 0, rfl, Nat.zero_le _, by simp⟩, ?_⟩
    rintro n6 n7 h6 ⟨rfl, k, rfl, hk, rfl⟩
    refine ⟨fun hlt2 => ⟨fun h0 => absurd h0 (by omega), fun _ => ?_⟩, fun hge2 => ?_⟩
    · have ka : k < (putS L[i].e).length := by omega
      have kb : (((L.map EdS.e).take i).flatMap putS).length + k < recs.length := by omega
      have kc : (((L.map EdS.e).take i).flatMap putS).length + k < ss.length := by omega
      have kd : k < ts.length := by omega
      obtain ⟨b3, o1, ha3, hat3⟩ := row_get (K15.row hrow) (i := (((L.map EdS.e).take i).flatMap putS).length + k) (by omega)
      have r5 := B5.row
      rw [Nat.mul_one] at r5
      obtain ⟨b4, o2, ha4, hat4⟩ := row_get r5 (i := k) (by omega)
      have w6 : IntKind.wrap .i64 (((((L.map EdS.e).take i).flatMap putS).length + k : Nat) + 1 : Int) = ((((L.map EdS.e).take i).flatMap putS).length + (k + 1) : Nat) := by
        rw [wrap_i64 (by omega) (by omega)]; omega
      refine ⟨b3, o1, ha3, ⟨by omega, by omega⟩, ss[(((L.map EdS.e).take i).flatMap putS).length + k], ?_, b4, o2, ha4, ⟨by omega, hlt2⟩, ts[k], ?_, ?_⟩
      · rw [Int.toNat_natCast, hat3 _ (by omega)]; exact slV_get kc
      · rw [Int.toNat_natCast, hat4 _ (by omega)]; exact slV_get kd
      have hpk := p3 k ka
      rw [List.getElem?_eq_getElem kb, List.getElem?_eq_getElem ka] at hpk
      have hrk := (R5.rows).2 k kd ka
      have hre := Option.some.inj hpk
      have hlr : ((putS L[i].e)[k]).length ≤ 1000000000000 := by
        rw [← hre]
        have := tot_mem (List.getElem_mem kb)
        omega
      refine sameBytes_eq ((R.keep K15).2 _ kc kb) hrk hlr (fun _ => ⟨true, rfl, fun _ => ?_, fun h0 => (by cases h0)⟩) (fun h0 => absurd hre h0)
      rw [w6, next_i ka (by omega)]
      exact ⟨⟨rfl, k + 1, rfl, ka, rfl⟩, by dsimp only; omega⟩
    · have hke : k = (putS L[i].e).length := by omega
      subst hke
      exact ⟨⟨i + 1, rfl, ia, by omega, K4.trans K5⟩, by dsimp only; omega⟩
  · have hie : i = L.length := by omega
    have hle : (((L.map EdS.e).take i).flatMap putS).length ≤ recs.length := by
      rw [List.take_of_length_le (by rw [List.length_map]; omega)]
      have := congrArg List.length hrest
      rw [List.length_append] at this
      omega
    omega
end Go.Eng.Ytblghgacokoklaa
