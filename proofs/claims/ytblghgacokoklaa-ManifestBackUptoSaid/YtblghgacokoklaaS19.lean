/-
  SPECS, 19: ManifestBack.
-/
import Derived.Test.YtblghgacokoklaaS18
import Derived.Test.YtblghgacokoklaaM3
set_option linter.unusedSimpArgs false
set_option linter.unusedVariables false
set_option maxRecDepth 100000
namespace Go.Eng.Ytblghgacokoklaa
theorem encF_ok : ∀ (f n : Nat), ∀ c ∈ encF f n, 0 ≤ c ∧ c < 256
  | 0, n, c, h => by simp [encF] at h
  | f + 1, n, c, h => by
    unfold encF at h
    split at h
    · rw [List.mem_singleton] at h; omega
    · rcases List.mem_cons.1 h with h | h
      · omega
      · exact encF_ok f _ c h
theorem bI_ok (s : ByteArray) : ∀ c ∈ bI s, 0 ≤ c ∧ c < 256 := by
  intro c h
  unfold bI at h
  obtain ⟨b, _, rfl⟩ := List.mem_map.1 h
  have := b.toNat_lt
  omega
theorem encT_ok (s : ByteArray) : ∀ c ∈ encT s, 0 ≤ c ∧ c < 256 := by
  intro c h
  unfold encT at h
  rcases List.mem_append.1 h with h | h
  · exact encF_ok 10 _ c h
  · exact bI_ok s c h
theorem encUs_ok (ns : List Int) : ∀ c ∈ encUs ns, 0 ≤ c ∧ c < 256 := by
  intro c h
  unfold encUs at h
  obtain ⟨n, _, hn⟩ := List.mem_flatMap.1 h
  exact encF_ok 10 _ c hn
theorem flat_ok {α : Type} (f : α → List Int) (l : List α) (h : ∀ x ∈ l, ∀ c ∈ f x, 0 ≤ c ∧ c < 256) : ∀ c ∈ l.flatMap f, 0 ≤ c ∧ c < 256 := by
  intro c hc
  obtain ⟨x, hx, hcx⟩ := List.mem_flatMap.1 hc
  exact h x hx c hcx
theorem recB_ok (e : Edit) (b : Bool) : ∀ c ∈ recB e b, 0 ≤ c ∧ c < 256 := by
  intro c h
  unfold recB at h
  rcases List.mem_cons.1 h with h | h
  · subst h; cases b <;> decide
  · simp only [List.mem_append] at h
    rcases h with ((((h | h) | h) | h) | h) | h
    · exact encUs_ok _ c h
    · exact flat_ok _ _ (fun x _ => encUs_ok _) c h
    · exact encUs_ok _ c h
    · refine flat_ok _ _ (fun x _ c hc => ?_) c h
      unfold Placed.enc at hc
      simp only [List.mem_append] at hc
      rcases hc with (hc | hc) | hc
      · exact encUs_ok _ c hc
      · exact encT_ok _ c hc
      · exact encT_ok _ c hc
    · exact encUs_ok _ c h
    · exact flat_ok _ _ (fun x _ => encT_ok _) c h
/-- The records of an edit that may be written. -/
theorem put_recs {e : Edit} (G : Good e) : ∀ (k : Nat) (hk : k < (putS e).length), ∃ x, Good x ∧ x.size ≤ 256 ∧ (putS e)[k] = recB x (decide (k + 1 = (putS e).length)) := by
  have h := putF_get (e.size + 1) e G (Nat.lt_succ_self _)
  rw [← put_eq G] at h
  exact h
theorem put_mem {e : Edit} (G : Good e) {r : List Int} (hr : r ∈ putS e) : r.length < 262144 ∧ ∀ c ∈ r, 0 ≤ c ∧ c < 256 := by
  obtain ⟨k, hk, rfl⟩ := List.getElem_of_mem hr
  obtain ⟨x, hx, hs, he⟩ := put_recs G k hk
  rw [he]
  exact ⟨recB_length hx hs _, recB_ok x _⟩
theorem put_len {e : Edit} (G : Good e) : (putS e).length = max 1 ((e.size + 255) / 256) := by
  rw [put_eq G]
  exact putF_length _ _ (Nat.lt_succ_self _)
theorem puts_len : ∀ (L : List Edit), (∀ e ∈ L, Good e ∧ e.size ≤ 10000) → (L.flatMap putS).length ≤ 40 * L.length
  | [], _ => by simp
  | e :: L, h => by
    have h1 := h e List.mem_cons_self
    have h2 := put_len h1.1
    have h3 := puts_len L fun x hx => h x (List.mem_cons_of_mem _ hx)
    rw [List.flatMap_cons, List.length_append, List.length_cons]
    omega
theorem tot_le : ∀ (l : List (List Int)), (∀ r ∈ l, r.length < 262144) → tot l ≤ 262144 * l.length
  | [], _ => by simp [tot]
  | r :: l, h => by
    have h1 := h r List.mem_cons_self
    have h2 := tot_le l fun x hx => h x (List.mem_cons_of_mem _ hx)
    have e : tot (r :: l) = r.length + 1 + tot l := by simp [tot]
    rw [e, List.length_cons]
    omega
theorem puts_mem {L : List Edit} (hL : ∀ e ∈ L, Good e ∧ e.size ≤ 10000) {r : List Int} (hr : r ∈ L.flatMap putS) : r.length < 262144 ∧ ∀ c ∈ r, 0 ≤ c ∧ c < 256 := by
  obtain ⟨e, he, hr⟩ := List.mem_flatMap.1 hr
  exact put_mem (hL e he).1 hr
/-- Where the i-th edit's records begin. -/
def at' (L : List Edit) (i : Nat) : Nat := ((L.take i).flatMap putS).length
theorem at_succ {L : List Edit} {i : Nat} (h : i < L.length) : at' L (i + 1) = at' L i + (putS L[i]).length := by
  unfold at'
  rw [List.take_succ_eq_append_getElem h, List.flatMap_append, List.length_append]
  simp
theorem at_mono (L : List Edit) {i j : Nat} (h : i ≤ j) : at' L i ≤ at' L j := by
  unfold at'
  have e : L.take i = (L.take j).take i := by rw [List.take_take, Nat.min_eq_left h]
  rw [e]
  conv => rhs; rw [← List.take_append_drop i (L.take j)]
  rw [List.flatMap_append, List.length_append]
  exact Nat.le_add_right _ _
theorem whole_of (L : List Edit) (n : Nat) : ∀ m, m ≤ L.length → ∃ w, w ≤ m ∧ at' L w ≤ n ∧ (w = m ∨ n < at' L (w + 1))
  | 0, _ => ⟨0, Nat.le_refl _, by simp [at'], .inl rfl⟩
  | m + 1, h => by
    obtain ⟨w, h1, h2, h3⟩ := whole_of L n m (by omega)
    rcases h3 with rfl | h3
    · rcases Nat.lt_or_ge n (at' L (w + 1)) with h4 | h4
      · exact ⟨w, by omega, h2, .inr h4⟩
      · exact ⟨w + 1, Nat.le_refl _, h4, .inl rfl⟩
    · exact ⟨w, by omega, h2, .inr h3⟩
theorem RowsAt.app {h : Hp} {ss ts : List Sl} {bs cs : List (List Int)} (R : RowsAt h ss bs) (T : RowsAt h ts cs) : RowsAt h (ss ++ ts) (bs ++ cs) := by
  have r1 := R.1
  have t1 := T.1
  refine ⟨by rw [List.length_append, List.length_append]; omega, fun i hi hj => ?_⟩
  by_cases hl : i < ss.length
  · rw [List.getElem_append_left hl, List.getElem_append_left (by omega)]
    exact R.2 i hl _
  · rw [List.length_append] at hi hj
    rw [List.getElem_append_right (by omega), List.getElem_append_right (by omega)]
    have h2 := T.2 (i - ss.length) (by omega) (by omega)
    have e : i - bs.length = i - ss.length := by omega
    simp only [e]
    exact h2
theorem slV_append (a b : List Sl) : slV (a ++ b) = slV a ++ slV b := List.map_append
theorem slV_one (l : List Sl) : ∀ v ∈ slV l, Value.oneCell' v = true := by
  intro v hv
  obtain ⟨s, _, rfl⟩ := List.mem_map.1 hv
  rfl
/-- Where edits end, as cells. -/
def endsV (L : List Edit) (i : Nat) : List Value := (List.range i).map fun j => .int .i64 (at' L (j + 1) : Int)
theorem endsV_len (L : List Edit) (i : Nat) : (endsV L i).length = i := by simp [endsV]
theorem endsV_succ (L : List Edit) (i : Nat) : endsV L (i + 1) = endsV L i ++ [.int .i64 (at' L (i + 1) : Int)] := by
  unfold endsV
  rw [List.range_succ, List.map_append]
  rfl
theorem RowsAt.take {h : Hp} {ss : List Sl} {bs : List (List Int)} (R : RowsAt h ss bs) (n : Nat) : RowsAt h (ss.take n) (bs.take n) := by
  refine ⟨by rw [List.length_take, List.length_take, R.1], fun i hi hj => ?_⟩
  rw [List.length_take] at hi hj
  have := R.2 i (by omega) (by omega)
  simpa using this
theorem recs_of {h : Hp} {l : Sl} {ss : List Sl} {recs : List (List Int)} (hr : h.row l.a l.n (slV ss)) (hc : l.n ≤ l.c) (R : RowsAt h ss recs) (hm : ∀ r ∈ recs, r.length < 262144 ∧ ∀ c ∈ r, 0 ≤ c ∧ c < 256) (hn : recs.length ≤ 500000) : Recs h l ss recs := by
  refine ⟨hr, hc, R.rows, fun s hs => ?_, fun r hr => (hm r hr).2, fun r hr => by have := (hm r hr).1; omega, ?_⟩
  · obtain ⟨i, hi, rfl⟩ := List.getElem_of_mem hs
    exact (R.2 i hi (by have := R.1; omega)).cap
  · have := tot_le recs fun r hr => (hm r hr).1
    omega
theorem back_spec {h : Hp} {l : Sl} {L0 : List EdS} {n : Int} {Q : Value → Hp → Prop} (A : Args h l L0) (hn : iI n) (hQ : ∀ h', Keep h h' → Q (.bool true) h') : F5.T l n h Q := by
  refine known_spec fun h1 K1 => ⟨true, rfl, fun _ => ?_, fun h0 => (by cases h0)⟩
  refine few_spec (A.keep K1) (fun h2 K2 hparts => ⟨true, rfl, fun _ => ?_, fun h0 => (by cases h0)⟩) (fun h2 K2 => ⟨false, rfl, fun h0 => (by cases h0), fun _ => hQ h2 (K1.trans K2)⟩)
  refine right_spec ((A.keep K1).keep K2) hparts fun h3 l1 L W hlen hgood => ⟨l1, rfl, ?_⟩
  have K3 := (K1.trans K2).trans W.K
  have hl1 := ed_n W.B
  have hG : ∀ e ∈ L.map EdS.e, Good e ∧ e.size ≤ 10000 := fun e he => by
    obtain ⟨x, hx, rfl⟩ := List.mem_map.1 he
    exact hgood x hx
  have hml : (L.map EdS.e).length = L.length := List.length_map _
  have hpl := puts_len _ hG
  have hall : at' (L.map EdS.e) L.length = ((L.map EdS.e).flatMap putS).length := by unfold at'; rw [List.take_of_length_le (by omega)]
  have hE : ∀ {hh : Hp}, Keep h3 hh → ∀ x ∈ L, EdAt hh x.e x.a x.b x.c := fun {hh} k x hx => by
    have T := (W.T x hx).keep k
    exact ⟨T.a.row, T.b.row, by have := T.c.row; rw [Nat.mul_one] at this; exact this⟩
  refine ⟨fun l2 l3 n1 h4 => ∃ (i : Nat) (ss : List Sl), n1 = (i : Int) ∧ i ≤ L.length ∧ Buf h4 l2 1 25 (slV ss) ∧ RowsAt h4 ss (((L.map EdS.e).take i).flatMap putS) ∧ Buf h4 l3 1 3 (endsV (L.map EdS.e) i) ∧ Keep h3 h4 ∧ (l2.a = none ∨ New h3 l2) ∧ (l3.a = none ∨ New h3 l3), fun _ _ n1 _ => L.length - n1.toNat, ⟨0, [], rfl, Nat.zero_le _, Buf.nil h3 1 25, by simpa using RowsAt.nil h3, Buf.nil h3 1 3, Keep.refl h3, .inl rfl, .inl rfl⟩, ?_⟩
  rintro l2 l3 n1 h4 ⟨i, ss, rfl, hi, B2, R2, B3, K4, N2, N3⟩
  have hss : ss.length = at' (L.map EdS.e) i := R2.1
  have h2n : l2.n = at' (L.map EdS.e) i := by have := B2.len; rw [slV_length] at this; omega
  have hai : at' (L.map EdS.e) i ≤ at' (L.map EdS.e) L.length := at_mono _ hi
  refine ⟨fun hlt => ?_, fun hge => ?_⟩
  · have ia : i < L.length := by omega
    have ib : i < (L.map EdS.e).length := by omega
    have hib : (L.map EdS.e)[i] = L[i].e := by simp
    have hx := List.getElem_mem ia
    obtain ⟨G, hsz⟩ := hgood _ hx
    have hsz' : L[i].e.out.length + L[i].e.inn.length ≤ 10000 := hsz
    have has := at_succ ib
    rw [hib] at has
    have hai1 : at' (L.map EdS.e) (i + 1) ≤ at' (L.map EdS.e) L.length := at_mono _ ia
    have T := (W.T _ hx).keep K4
    have E := hE K4 _ hx
    obtain ⟨b2, o, ha, hat⟩ := row_get (K4.row W.B.row) (i := i * 6) (by omega)
    have cc : ∀ j, j < 6 → h4.at b2 ((o + i * 6) + j) = (EdS.cells L[i])[j]? := fun j hj => by
      rw [Nat.add_assoc, hat _ (by omega)]
      exact flat_get EdS.cells 6 (fun _ => rfl) L i j ia hj
    have hnp := G.nptr
    rw [Int.toNat_natCast, next_i ia (by omega)]
    refine ⟨b2, o, ha, ⟨by omega, hlt⟩, _, cc 0 (by decide), _, cc 1 (by decide), _, cc 2 (by decide), _, cc 3 (by decide), _, cc 4 (by decide), _, cc 5 (by decide), ?_⟩
    refine put_spec E T.a.cap T.b.cap G.valid (by omega) (by omega) fun l7 h5 ts B7 R7 K5 N7 => ⟨l7, rfl, b2, o, ha, ⟨by omega, hlt⟩, L[i].a, K5.at (cc 3 (by decide)), b2, o, ha, ⟨by omega, hlt⟩, L[i].b, K5.at (cc 4 (by decide)), by decide, ?_⟩
    have hl7 : l7.n = (putS L[i].e).length := by have := B7.len; rw [slV_length, R7.1] at this; omega
    have hts : ts.length = (putS L[i].e).length := R7.1
    have hpn := put_len G
    have en := E.nout
    have ei := E.ninn
    have hes : L[i].e.size = L[i].e.out.length + L[i].e.inn.length := rfl
    have hcount : (l7.n : Int) = (iMax 1 (IntKind.wrap .i64 (Int.tdiv (IntKind.wrap .i64 ((IntKind.wrap .i64 ((L[i].a.n : Int) + (L[i].b.n : Int))) + 255)) 256))) := by
      rw [wrap_i64 (n := (L[i].a.n : Int) + (L[i].b.n : Int)) (by omega) (by omega), wrap_i64 (n := (L[i].a.n : Int) + (L[i].b.n : Int) + 255) (by omega) (by omega), Int.tdiv_eq_ediv_of_nonneg (by omega), wrap_i64 (by omega) (by omega)]
      unfold iMax
      split <;> omega
    refine ⟨fun _ => ?_, fun hne => absurd hcount hne⟩
    have r7 := B7.row
    rw [Nat.mul_one] at r7
    refine ⟨fun n5 h6 => h6 = h5 ∧ ∃ k : Nat, n5 = (k : Int) ∧ k ≤ (putS L[i].e).length, fun n5 _ => (putS L[i].e).length - n5.toNat, ⟨rfl, 0, rfl, Nat.zero_le _⟩, ?_⟩
    rintro n5 h6 ⟨rfl, k, rfl, hk⟩
    refine ⟨fun hlt2 => ?_, fun hge2 => ?_⟩
    · have ka : k < (putS L[i].e).length := by omega
      have kd : k < ts.length := by omega
      obtain ⟨x, hgx, hsx, hrec⟩ := put_recs G k ka
      obtain ⟨b4, o2, ha4, hat4⟩ := row_get r7 (i := k) (by omega)
      have hck : h6.at b4 (o2 + ((k : Int)).toNat) = some (.slice ts[k].a ts[k].n ts[k].c) := by rw [Int.toNat_natCast, hat4 _ (by omega)]; exact slV_get kd
      have hbuf := R7.2 k kd ka
      have hbn := hbuf.n1
      rw [bv_length, hrec] at hbn
      have hrl := recB_length hgx hsx (decide (k + 1 = (putS L[i].e).length))
      have hpos : 0 < (recB x (decide (k + 1 = (putS L[i].e).length))).length := by unfold recB; simp
      have rk := hbuf.row
      rw [Nat.mul_one, hrec] at rk
      obtain ⟨b8, o6, ha8, hat8⟩ := row_get rk (i := 0) (by omega)
      have hc8 : h6.at b8 (o6 + (0 : Int).toNat) = some (.int .u8 (if decide (k + 1 = (putS L[i].e).length) = true then 1 else 0)) := by
        have := hat8 0 (by omega)
        exact this
      have wl : IntKind.wrap .i64 ((l7.n : Int) - 1) = (l7.n : Int) - 1 := wrap_i64 (by omega) (by omega)
      have w3 : IntKind.wrap .i64 ((k : Int) + 1) = ((k + 1 : Nat) : Int) := next_i ka (by omega)
      rw [wl, w3]
      have step : (h6 = h6 ∧ ∃ k' : Nat, ((k + 1 : Nat) : Int) = (k' : Int) ∧ k' ≤ (putS L[i].e).length) ∧ (putS L[i].e).length - ((k + 1 : Nat) : Int).toNat < (putS L[i].e).length - ((k : Int)).toNat := ⟨⟨rfl, k + 1, rfl, ka⟩, by omega⟩
      refine ⟨b4, o2, ha4, ⟨by omega, hlt2⟩, ts[k], hck, fun h0 => absurd h0 (by omega), fun _ => ⟨b4, o2, ha4, ⟨by omega, hlt2⟩, ts[k], hck, fun h0 => absurd h0 (by omega), fun _ => ⟨b4, o2, ha4, ⟨by omega, hlt2⟩, ts[k], hck, b8, o6, ha8, ⟨by decide, by omega⟩, _, hc8, fun h1 => ?_, fun h1 => ?_⟩⟩⟩
      · have hlast : k + 1 = (putS L[i].e).length := by
          by_cases hd : k + 1 = (putS L[i].e).length
          · exact hd
          · rw [decide_eq_false hd] at h1; exact absurd h1 (by decide)
        exact ⟨fun _ => ⟨fun _ => step, fun h0 => absurd rfl h0⟩, fun h0 => absurd (by omega) h0⟩
      · have hlast : ¬ k + 1 = (putS L[i].e).length := by
          intro hd
          rw [decide_eq_true hd] at h1; exact h1 rfl
        exact ⟨fun h0 => absurd h0 (by omega), fun _ => ⟨fun _ => step, fun h0 => absurd rfl h0⟩⟩
    · refine ⟨slV ts, by rw [Nat.mul_one]; exact r7, slV_one ts, ?_⟩
      refine append_buf (B2.keep K5) rfl B7.len (by omega) fun l13 h7 B13 hn13 U13 => ?_
      have kg := keep_grow (K4.trans K5) N2 U13
      have B3' : Buf h7 l3 1 3 (endsV (L.map EdS.e) i) := (B3.keep K5).upd U13 (buf_off (B3.keep K5) (B2.keep K5) (by decide))
      have R13 : RowsAt h7 (ss ++ ts) (((L.map EdS.e).take (i + 1)).flatMap putS) := by
        have e : ((L.map EdS.e).take (i + 1)).flatMap putS = ((L.map EdS.e).take i).flatMap putS ++ putS L[i].e := by
          rw [List.take_succ_eq_append_getElem ib, List.flatMap_append, hib]
          simp
        rw [e]
        exact ((R2.keep K5).upd U13 (B2.keep K5) (by decide)).app (R7.upd U13 (B2.keep K5) (by decide))
      have h3n : l3.n = i := by have := B3'.len; rw [endsV_len] at this; omega
      refine append_buf B3' rfl rfl (by omega) fun l14 h8 B14 hn14 U14 => ?_
      have kg2 := keep_grow kg.1 N3 U14
      have hl13 : l13.n = at' (L.map EdS.e) (i + 1) := by omega
      refine ⟨⟨i + 1, ss ++ ts, rfl, ia, ?_, R13.upd U14 B3' (by decide), ?_, kg2.1, kg.2, kg2.2⟩, by dsimp only; omega⟩
      · rw [slV_append]
        exact B13.upd U14 (buf_off B13 B3' (by decide))
      · rw [endsV_succ, ← hl13]
        exact B14
  · have hie : i = L.length := by omega
    subst hie
    have w1 : IntKind.wrap .i64 ((l2.n : Int) + 1) = (l2.n : Int) + 1 := wrap_i64 (by omega) (by omega)
    refine Eq.mpr (F5.rest1 l1 n l2 l3 h4 Q) ?_
    unfold F5.R1
    rw [w1]
    refine place_spec hn (by omega) fun r r0 r5 => ⟨r, rfl, ?_⟩
    obtain ⟨m, rfl⟩ : ∃ m : Nat, r = (m : Int) := ⟨r.toNat, by omega⟩
    have htk : (L.map EdS.e).take L.length = L.map EdS.e := List.take_of_length_le (by omega)
    rw [htk] at R2
    have r2 := B2.row
    rw [Nat.mul_one] at r2
    have hmem : ∀ r ∈ (L.map EdS.e).flatMap putS, r.length < 262144 ∧ ∀ c ∈ r, 0 ≤ c ∧ c < 256 := fun r hr => puts_mem hG hr
    have A2 := recs_of r2 B2.cap R2 hmem (by omega)
    have gall : getR ((L.map EdS.e).flatMap putS) [] zE [] = some (L.map EdS.e) := by
      have := getR_all (L.map EdS.e) [] [] fun e he => (hG e he).1
      rw [List.append_nil, List.nil_append] at this
      rw [this]
      simp [getR]
    refine get_spec A2 (fun h10 K10 hno => by rw [gall] at hno; cases hno) (fun h10 l15 L15 K10 hso15 B15 hok15 _ _ => ⟨l15, 0, rfl, ⟨by decide, by omega, by have := B2.cap; omega, Int.le_refl _⟩, ?_⟩)
    rw [gall] at hso15
    have e15 : L15.map EdS.e = L.map EdS.e := (Option.some.inj hso15).symm
    have hcut := cut_row (K10.row r2) (i := 0) (j := m) (m := l2.c) (Nat.zero_le _) (by omega) B2.cap
    have e0 : (ss.drop 0).take (m - 0) = ss.take m := by simp
    rw [e0] at hcut
    have A3 : Recs h10 (Sl.cut l2 1 0 (m : Int) (l2.c : Int)) (ss.take m) (((L.map EdS.e).flatMap putS).take m) := by
      refine recs_of hcut ?_ ((R2.keep K10).take m) (fun r hr => hmem r (List.mem_of_mem_take hr)) (by rw [List.length_take]; omega)
      have := B2.cap
      simp [Sl.cut]; omega
    obtain ⟨w, hw1, hw2, hw3⟩ := whole_of (L.map EdS.e) m L.length (by omega)
    have gpart : getR (((L.map EdS.e).flatMap putS).take m) [] zE [] = some ((L.map EdS.e).take w) := by
      refine getR_first (fun e he => (hG e he).1) (by omega) (by omega) hw2 ?_
      rcases hw3 with h0 | h0
      · exact .inl (by omega)
      · by_cases hwl : w = L.length
        · exact .inl (by omega)
        · have hi : w < (L.map EdS.e).length := by omega
          refine .inr ⟨hi, ?_⟩
          rw [at_succ hi] at h0
          exact h0
    refine get_spec A3 (fun h11 K11 hno => by rw [gpart] at hno; cases hno) (fun h11 l16 L16 K11 hso16 B16 hok16 _ _ => ⟨l16, 0, rfl, ?_⟩)
    rw [gpart] at hso16
    have e16 : L16.map EdS.e = (L.map EdS.e).take w := (Option.some.inj hso16).symm
    have K11' := (K4.trans K10).trans K11
    have h3n : l3.n = L.length := by have := B3.len; rw [endsV_len] at this; omega
    have hbig : ∀ x ∈ L, x.e.out.length ≤ 1000000000000 ∧ x.e.inn.length ≤ 1000000000000 ∧ x.e.ptr.length ≤ 1000000000000 := fun x hx => by
      have h1 := (hgood x hx).2
      have h2 := (hgood x hx).1.nptr
      unfold Edit.size at h1
      omega
    refine Eq.mpr (F5.rest2 l1 (m : Int) l3 l15 0 l16 0 h11 Q) ?_
    unfold F5.R2
    have fin : par ((0 : Int) = 0) (par ((0 : Int) = 0) (F12.T l15 l1 h11 fun r7 h13 => ∃ b10 : Bool, r7 = .bool b10 ∧ parB b10 (Sl.okCut l1 0 (w : Int) (l1.c : Int) ∧ F12.T l16 (Sl.cut l1 6 0 (w : Int) (l1.c : Int)) h13 fun r8 h14 => ∃ b11 : Bool, r8 = .bool b11 ∧ parB b11 (Q (.bool true) h14) (Q (.bool false) h14)) (Q (.bool false) h13)) (Q (.bool false) h11)) (Q (.bool false) h11) := by
      refine ⟨fun _ => ⟨fun _ => ?_, fun h0 => absurd rfl h0⟩, fun h0 => absurd rfl h0⟩
      refine edits_eq (K11.row B15.row) (K11'.row W.B.row) (fun x hx => ((hok15 x hx).keep K11).at) (hE K11') hbig (by omega) e15 ⟨true, rfl, fun _ => ⟨⟨by decide, by omega, by have := W.B.cap; omega, Int.le_refl _⟩, ?_⟩, fun h0 => (by cases h0)⟩
      have hrow : h11.row (Sl.cut l1 6 0 (w : Int) (l1.c : Int)).a ((Sl.cut l1 6 0 (w : Int) (l1.c : Int)).n * 6) (edV (L.take w)) := by
        have h1 := row_take (K11'.row W.B.row) (k := w * 6) (by omega)
        have hnw : (Sl.cut l1 6 0 (w : Int) (l1.c : Int)).n = w := by simp [Sl.cut]
        rw [cut_a, hnw]
        have e : (edV L).take (w * 6) = edV (L.take w) := by unfold edV; exact flat_take EdS.cells 6 (fun _ => rfl) L w
        rw [← e]
        exact h1
      exact edits_eq (B16.row) hrow (fun x hx => (hok16 x hx).at) (fun x hx => hE K11' x (List.mem_of_mem_take hx)) (fun x hx => hbig x (List.mem_of_mem_take hx)) (by rw [List.length_take]; omega) (by rw [e16, List.map_take]) ⟨true, rfl, fun _ => hQ h11 (K3.trans K11'), fun h0 => (by cases h0)⟩
    refine ⟨fun n10 h12 => h12 = h11 ∧ ∃ j : Nat, n10 = (j : Int) ∧ j ≤ w, fun n10 _ => L.length - n10.toNat, ⟨rfl, 0, rfl, Nat.zero_le _⟩, ?_⟩
    rintro n10 h12 ⟨rfl, j, rfl, hj⟩
    refine ⟨fun hlt2 => ?_, fun hge2 => ?_⟩
    · have ja : j < L.length := by omega
      have r3 := (K10.trans K11).row B3.row
      rw [Nat.mul_one] at r3
      obtain ⟨b9, o7, ha9, hat9⟩ := row_get r3 (i := j) (by omega)
      have hc9 : h12.at b9 (o7 + ((j : Int)).toNat) = some (.int .i64 (at' (L.map EdS.e) (j + 1) : Int)) := by
        rw [Int.toNat_natCast, hat9 j (by omega)]
        simp [endsV, ja]
      refine ⟨b9, o7, ha9, ⟨by omega, hlt2⟩, _, hc9, fun hle => ?_, fun hgt => ?_⟩
      · have hjw : j < w := by
          rcases Nat.lt_or_ge j w with h0 | h0
          · exact h0
          · have : j = w := by omega
            subst this
            rcases hw3 with h1 | h1 <;> omega
        rw [next_i ja (by omega)]
        exact ⟨⟨rfl, j + 1, rfl, hjw⟩, by dsimp only; omega⟩
      · have hjw : j = w := by
          rcases Nat.lt_or_ge j w with h0 | h0
          · have := at_mono (L.map EdS.e) (i := j + 1) (j := w) h0
            omega
          · omega
        subst hjw
        exact Eq.mpr (F5.rest3 l1 l15 0 l16 0 (j : Int) h12 Q) fin
    · have hjw : j = w := by omega
      subst hjw
      exact Eq.mpr (F5.rest3 l1 l15 0 l16 0 (j : Int) h12 Q) fin
end Go.Eng.Ytblghgacokoklaa
