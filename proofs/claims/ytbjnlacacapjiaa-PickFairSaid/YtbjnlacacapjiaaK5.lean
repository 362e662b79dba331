/-
  TEXTS OF MINE, JOINED: JV5 JX2 JX3 JX4 JV6 JV7 JV8 J8.
-/
import Derived.Test.YtbjnlacacapjiaaK4
import Derived.Test.YtbjnlacacapjiaaK2
import Derived.Test.YtbjnlacacapjiaaProg
set_option linter.unusedSimpArgs false
set_option linter.unusedVariables false
section
set_option maxRecDepth 100000
namespace Go.Eng.Ytbjnlacacapjiaa
theorem tab_at {h : Hp} {l : Sl} {ts : List Tab} (hr : h.row l.a (l.n * 6) (tabV ts)) {i : Nat} {x : Tab} (hx : ts[i]? = some x) : ∃ b o, l.a = some ⟨b, o, none⟩ ∧ i < l.n ∧ ∀ j, j < 6 → h.at b ((o + i * 6) + j) = (Tab.cells x)[j]? := by
  have hi : i < ts.length := (List.getElem?_eq_some_iff.1 hx).1
  have hl := hr.1
  rw [tabV_len] at hl
  obtain ⟨b, o, ha, hat⟩ := row_get hr (i := i * 6) (by omega)
  refine ⟨b, o, ha, by omega, fun j hj => ?_⟩
  rw [Nat.add_assoc, hat _ (by omega)]
  have := flat_get Tab.cells 6 (fun _ => rfl) ts i j hi hj
  rw [List.getElem?_eq_getElem hi] at hx
  rw [Option.some.inj hx] at this
  exact this
theorem in_rd {h : Hp} {l : Sl} {P R : List Placed} {p : Placed} (hr : h.row l.a (l.n * 7) (inV (P ++ p :: R))) {i : Int} (hi : i = (P.length : Int)) {K : Nat → Nat → Int → Int → Int → Int → Int → ByteArray → ByteArray → Prop} (hK : ∀ b o, K b o p.lv p.num p.weight p.bytes p.entries p.least p.greatest) :
    ∃ b o, (l.a : Option Addr) = some ⟨b, o, none⟩ ∧ ((0 : Int) ≤ i ∧ i < (l.n : Int)) ∧ ∃ n1 : Int, h.at b (o + i.toNat * 7) = some (.int .i64 n1) ∧ ∃ n2 : Int, h.at b ((o + i.toNat * 7) + 1) = some (.int .u64 n2) ∧ ∃ n3 : Int, h.at b ((o + i.toNat * 7) + 2) = some (.int .i64 n3) ∧ ∃ n4 : Int, h.at b ((o + i.toNat * 7) + 3) = some (.int .i64 n4) ∧ ∃ n5 : Int, h.at b ((o + i.toNat * 7) + 4) = some (.int .i64 n5) ∧ ∃ s : ByteArray, h.at b ((o + i.toNat * 7) + 5) = some (.string s) ∧ ∃ s1 : ByteArray, h.at b ((o + i.toNat * 7) + 6) = some (.string s1) ∧ K b o n1 n2 n3 n4 n5 s s1 := by
  subst hi
  have hl := hr.1
  rw [inV_len, List.length_append, List.length_cons] at hl
  obtain ⟨b, o, ha, hat⟩ := row_get hr (i := P.length * 7) (by omega)
  have c : ∀ j, j < 7 → h.at b ((o + (P.length : Int).toNat * 7) + j) = (Placed.cells p)[j]? := fun j hj => by
    rw [Int.toNat_natCast, Nat.add_assoc, hat _ (by omega)]
    have := flat_get Placed.cells 7 (fun _ => rfl) (P ++ p :: R) P.length j (by rw [List.length_append, List.length_cons]; omega) hj
    rw [List.getElem_append_right (Nat.le_refl _)] at this
    simp only [Nat.sub_self, List.getElem_cons_zero] at this
    exact this
  exact ⟨b, o, ha, ⟨by omega, by omega⟩, _, c 0 (by decide), _, c 1 (by decide), _, c 2 (by decide), _, c 3 (by decide), _, c 4 (by decide), _, c 5 (by decide), _, c 6 (by decide), hK b o⟩
theorem cnt_set : ∀ {lv : Lv} {k : Nat} {ts : List Tab} (t : Tab), lv[k]? = some ts → ∀ j, cnt (nums (lv.set k (ts ++ [t]))) j = cnt (nums lv) j + if j = t.num then 1 else 0
  | [], k, ts, t, h, j => by simp at h
  | l :: lv, 0, ts, t, h, j => by
    simp only [List.getElem?_cons_zero, Option.some.injEq] at h
    subst h
    rw [List.set_cons_zero, show (l ++ [t]) :: lv = [l ++ [t]] ++ lv from rfl, show l :: lv = [l] ++ lv from rfl, nums_app, nums_app, nums_one, nums_one, List.map_append, cnt_app, cnt_app, cnt_app, List.map_cons, List.map_nil, cnt_one]; omega
  | l :: lv, k + 1, ts, t, h, j => by
    simp only [List.getElem?_cons_succ] at h
    have := cnt_set t h j
    rw [List.set_cons_succ, show l :: lv.set k (ts ++ [t]) = [l] ++ lv.set k (ts ++ [t]) from rfl, show l :: lv = [l] ++ lv from rfl, nums_app, nums_app, cnt_app, cnt_app, this]; omega
def InR (lv : Lv) (ps : List Placed) (c : Int) (lw : Lv) : Prop :=
  if (inM ps lv).1 = 0 then (c = 132 ∧ ∃ i ts, 1 ≤ i ∧ (inM ps lv).2[i]? = some ts ∧ Bad ts) ∨ (c = 0 ∧ Sorted (inM ps lv).2 lw) else c = (inM ps lv).1
def SortTo (k : Nat) (lv lw : Lv) : Prop := lw.length = lv.length ∧ ∀ i ts us, lv[i]? = some ts → lw[i]? = some us → if 1 ≤ i ∧ i < k then Fine ts us else us = ts
theorem SortTo.step {k : Nat} {lv lw : Lv} {us : List Tab} (S : SortTo k lv lw) (hk : 1 ≤ k) {ts : List Tab} (h1 : lw[k]? = some ts) (hF : Fine ts us) : SortTo (k + 1) lv (lw.set k us) := by
  refine ⟨by rw [List.length_set]; exact S.1, fun i x y hx hy => ?_⟩
  rcases set_get hy with ⟨rfl, rfl, _⟩ | ⟨hne, hy⟩
  · have := S.2 i x ts hx h1
    rw [if_neg (by omega)] at this
    rw [if_pos ⟨hk, by omega⟩, ← this]; exact hF
  · have := S.2 i x y hx hy
    by_cases hi : 1 ≤ i ∧ i < k
    · rw [if_pos hi] at this; rw [if_pos ⟨hi.1, by omega⟩]; exact this
    · rw [if_neg hi] at this; rw [if_neg (by omega)]; exact this
theorem SortTo.done {k : Nat} {lv lw : Lv} (S : SortTo k lv lw) (hk : lv.length ≤ k) : Sorted lv lw := by
  refine ⟨S.1, ?_, fun i ts us hi h1 h2 => ?_⟩
  · by_cases h0 : 0 < lv.length
    · have h1 := List.getElem?_eq_getElem h0
      have h2 := List.getElem?_eq_getElem (l := lw) (i := 0) (by rw [S.1]; exact h0)
      have := S.2 0 _ _ h1 h2
      rw [if_neg (by omega)] at this
      rw [h1, h2, this]
    · have e1 := S.1
      have e2 : lv = [] := List.eq_nil_of_length_eq_zero (by omega)
      have e3 : lw = [] := List.eq_nil_of_length_eq_zero (by omega)
      rw [e2, e3]
  · have := S.2 i ts us h1 h2
    rw [if_pos ⟨hi, by have := (List.getElem?_eq_some_iff.1 h1).1; omega⟩] at this
    exact this
theorem sle {a b : ByteArray} : (sLt a b ∨ a = b) ↔ ¬ Bl b a := by
  rw [sLt_bl]
  constructor
  · rintro (h | rfl)
    · exact h.asym
    · exact Bl.irr
  · intro h
    rcases bl_tri a b with x | x | x
    · exact .inl x
    · exact absurd x h
    · exact .inr x
theorem sort_levels {g h : Hp} {vb : Nat} {ls : Sl} {xs : List (Sl × List Tab)} {Q : Value → Hp → Prop} (V : Ver g h vb ls xs) (hs : totL (xs.map (·.2)) ≤ 60000) (h1 : 1 ≤ xs.length) (h5 : xs.length ≤ 5)
    (hB : ∀ h' xs', Ver g h' vb ls xs' → Ck [49, 68] h h' → (∃ i ts, 1 ≤ i ∧ (xs.map (·.2))[i]? = some ts ∧ Bad ts) → Q (.int .i64 132) h')
    (hG : ∀ h' xs', Ver g h' vb ls xs' → Ck [49, 68] h h' → Sorted (xs.map (·.2)) (xs'.map (·.2)) → Q (.int .i64 0) h') :
    ∃ b8 o5, ((some ⟨vb, 0, none⟩) : Option Addr) = some ⟨b8, o5, none⟩ ∧ ∃ l5 : Sl, h.at b8 o5 = some (.slice l5.a l5.n l5.c) ∧ Sl.okCut l5 1 (l5.n : Int) (l5.c : Int) ∧ ∃ (I1 : Int → Hp → Prop) (m1 : Int → Hp → Nat), I1 0 h ∧ (∀ n8 : Int, ∀ h5 : Hp, I1 n8 h5 → par (n8 < ((Sl.cut l5 1 1 (l5.n : Int) (l5.c : Int)).n : Int)) (∃ b9 o6, ((Sl.cut l5 1 1 (l5.n : Int) (l5.c : Int)).a : Option Addr) = some ⟨b9, o6, none⟩ ∧ ((0 : Int) ≤ n8 ∧ n8 < ((Sl.cut l5 1 1 (l5.n : Int) (l5.c : Int)).n : Int)) ∧ ∃ l6 : Sl, h5.at b9 (o6 + n8.toNat) = some (.slice l6.a l6.n l6.c) ∧ F70.T l6 h5 fun r2 h6 => ∃ (I2 : Int → Hp → Prop) (m2 : Int → Hp → Nat), I2 1 h6 ∧ (∀ n9 : Int, ∀ h7 : Hp, I2 n9 h7 → par (n9 < (l6.n : Int)) (∃ b10 o7, (l6.a : Option Addr) = some ⟨b10, o7, none⟩ ∧ ((0 : Int) ≤ n9 ∧ n9 < (l6.n : Int)) ∧ ∃ s2 : ByteArray, h7.at b10 ((o7 + n9.toNat * 6) + 4) = some (.string s2) ∧ ∃ b11 o8, (l6.a : Option Addr) = some ⟨b11, o8, none⟩ ∧ ((0 : Int) ≤ (IntKind.wrap .i64 (n9 - 1)) ∧ (IntKind.wrap .i64 (n9 - 1)) < (l6.n : Int)) ∧ ∃ s3 : ByteArray, h7.at b11 ((o8 + ((IntKind.wrap .i64 (n9 - 1))).toNat * 6) + 5) = some (.string s3) ∧ par (sLt s2 s3 ∨ s2 = s3) (Q (.int .i64 132) h7) (I2 (IntKind.wrap .i64 (n9 + 1)) h7 ∧ m2 (IntKind.wrap .i64 (n9 + 1)) h7 < m2 n9 h7)) (I1 (IntKind.wrap .i64 (n8 + 1)) h7 ∧ m1 (IntKind.wrap .i64 (n8 + 1)) h7 < m1 n8 h5))) (Q (.int .i64 0) h5)) := by
  have hln := V.L.len
  have hcap := V.L.l.cap
  have hcn : (Sl.cut ls 1 1 (ls.n : Int) (ls.c : Int)).n = xs.length - 1 := by unfold Sl.cut; dsimp only; omega
  refine ⟨vb, 0, rfl, ls, at_of V.v 0, ⟨by omega, by omega, by omega, by omega⟩, fun n h' => ∃ (j : Nat) (xs2 : List (Sl × List Tab)), n = (j : Int) ∧ j + 1 ≤ xs.length ∧ Ver g h' vb ls xs2 ∧ Ck [49, 68] h h' ∧ SortTo (j + 1) (xs.map (·.2)) (xs2.map (·.2)), fun n _ => xs.length - n.toNat, ⟨0, xs, rfl, by omega, V, Ck.refl _ _, rfl, fun i ts us a b => by rw [if_neg (by omega)]; rw [a] at b; exact (Option.some.inj b).symm⟩, ?_⟩
  rintro n h2 ⟨j, xs2, rfl, hj, V2, C2, S2⟩
  have hl2 := V2.L.len
  rw [hcn]
  refine ⟨fun hlt => ?_, fun hge => ?_⟩
  · obtain ⟨x, hx⟩ : ∃ x, xs2[j + 1]? = some x := ⟨_, List.getElem?_eq_getElem (by omega)⟩
    have hxm := List.mem_of_getElem? hx
    obtain ⟨b, ha, hat⟩ := V2.L.rd hx
    have hlv2 : (xs2.map (·.2))[j + 1]? = some x.2 := by rw [List.getElem?_map, hx]; rfl
    obtain ⟨ts, hts⟩ : ∃ ts, (xs.map (·.2))[j + 1]? = some ts := ⟨_, List.getElem?_eq_getElem (by rw [List.length_map]; omega)⟩
    have hxts : x.2 = ts := by
      have := S2.2 (j + 1) ts x.2 hts hlv2
      rw [if_neg (by omega)] at this; exact this
    have hx6 : x.2.length ≤ 60000 := by rw [hxts]; exact Nat.le_trans (totL_mem (List.mem_of_getElem? hts)) hs
    have hca : (Sl.cut ls 1 1 (ls.n : Int) (ls.c : Int)).a = some ⟨b, 1, none⟩ := by
      unfold Sl.cut
      dsimp only
      rw [if_neg (by omega), ha]
      simp [addr_add]
    have T2 := V2.L.t x hxm
    refine ⟨b, 1, hca, ⟨by omega, by omega⟩, x.1, by rw [Int.toNat_natCast, Nat.add_comm]; exact hat, ?_⟩
    refine stable_t T2 (by rw [T2.n]; exact hx6) fun h3 us Sv3 hp hsrt => ?_
    obtain ⟨L3, C3⟩ := V2.L.fill hx Sv3.up Sv3.b
    have V3 : Ver g h3 vb ls (xs2.set (j + 1) (x.1, us)) := ⟨L3, V2.nv, C3.keep _ _ V2.v (show 87 ∉ [49] by decide)⟩
    have C23 : Ck [49, 68] h h3 := C2.trans (C3.mono (by simp))
    have hun : x.1.n = us.length := Sv3.b.n
    have hul : us.length ≤ 60000 := by rw [hp.length_eq]; exact hx6
    refine ⟨fun n9 h7 => h7 = h3 ∧ ∃ q : Nat, n9 = (q : Int) ∧ 1 ≤ q ∧ q ≤ us.length + 1 ∧ ∀ i a b, i + 1 < q → us[i]? = some a → us[i + 1]? = some b → Bl a.greatest b.least, fun n9 _ => us.length + 1 - n9.toNat, ⟨rfl, 1, rfl, Nat.le_refl _, by omega, fun i a b h0 => absurd h0 (by omega)⟩, ?_⟩
    rintro n9 h7 ⟨rfl, q, rfl, q1, q2, hA⟩
    refine ⟨fun hq => ?_, fun hq => ?_⟩
    · obtain ⟨y, hy⟩ : ∃ y, us[q]? = some y := ⟨_, List.getElem?_eq_getElem (by omega)⟩
      obtain ⟨z, hz⟩ : ∃ z, us[q - 1]? = some z := ⟨_, List.getElem?_eq_getElem (by omega)⟩
      obtain ⟨b1, o1, a1, l1, r1⟩ := tab_at (Buf.row Sv3.b) hy
      obtain ⟨b2, o2, a2, l2, r2⟩ := tab_at (Buf.row Sv3.b) hz
      have ew : IntKind.wrap .i64 ((q : Int) - 1) = ((q - 1 : Nat) : Int) := by rw [wrap_i64 (by omega) (by omega)]; omega
      rw [ew]
      refine ⟨b1, o1, a1, ⟨by omega, hq⟩, y.least, r1 4 (by decide), b2, o2, a2, ⟨by omega, by omega⟩, z.greatest, r2 5 (by decide), fun hc => ?_, fun hc => ?_⟩
      · exact hB h7 _ V3 C23 ⟨j + 1, ts, by omega, hts, us, by rw [← hxts]; exact hp, hsrt, q - 1, z, y, hz, by rw [Nat.sub_add_cancel q1]; exact hy, sle.1 hc⟩
      · rw [next_i (n := 70000) (by omega) (by omega)]
        refine ⟨⟨rfl, q + 1, rfl, by omega, by omega, fun i a b hi ea eb => ?_⟩, by (try dsimp only); omega⟩
        by_cases hiq : i + 1 < q
        · exact hA i a b hiq ea eb
        · have : i = q - 1 := by omega
          subst this
          rw [Nat.sub_add_cancel q1, hy] at eb
          rw [hz] at ea
          cases ea; cases eb
          rcases bl_tri z.greatest y.least with t | t | t
          · exact t
          · exact absurd (sle.2 t.asym) hc
          · exact absurd (Or.inr t.symm) hc
    · rw [next_i (n := 100) (by omega) (by omega)]
      refine ⟨⟨j + 1, _, rfl, by omega, V3, C23, ?_⟩, by (try dsimp only); omega⟩
      rw [List.map_set]
      exact S2.step (by omega) hlv2 ⟨hp, hsrt, fun i a b ea eb => hA i a b (by have := (List.getElem?_eq_some_iff.1 eb).1; dsimp only at this; omega) ea eb⟩
  · exact hG h2 xs2 V2 C2 (S2.done (by rw [List.length_map]; omega))
theorem in_spec {g h : Hp} {vb : Nat} {ls l : Sl} {xs : List (Sl × List Tab)} {ps : List Placed} {Q : Value → Hp → Prop} (V : Ver g h vb ls xs) (hr : g.row l.a (l.n * 7) (inV ps)) (hs : totL (xs.map (·.2)) + ps.length ≤ 60000) (h1 : 1 ≤ xs.length) (h5 : xs.length ≤ 5)
    (hQ : ∀ h' c xs', Ver g h' vb ls xs' → Ck [49, 68] h h' → InR (xs.map (·.2)) ps c (xs'.map (·.2)) → Q (.int .i64 c) h') : F42.T (some ⟨vb, 0, none⟩) l h Q := by
  have hln : l.n = ps.length := by have := hr.1; rw [inV_len] at this; omega
  intro b hb
  have gb : g b = none := V.L.k.dom b hb
  have K0 := Keep.new hb (.map #[] 0)
  refine counted_spec (V.r.keep K0) (Mp.new h b 0) (fun k => ⟨Int.le_refl _, by omega⟩) (by omega) (by rw [List.length_map]; exact h5) fun h1 M1 O1 => ?_
  have hb0 := new_at h b (.map #[] 0)
  have V1 : Ver g h1 vb ls xs := (V.keep K0).ck (O1.ck hb0) ((V.L.k.trans K0).one O1 gb) (by decide) (by decide) (by decide)
  have C1 : Ck [49, 68] h h1 := (Ck.of_keep K0).one O1 hb
  refine ⟨fun n h2 => ∃ P R xs1, ps = P ++ R ∧ n = (P.length : Int) ∧ Ver g h2 vb ls xs1 ∧ Ck [49, 68] h h2 ∧ inM ps (xs.map (·.2)) = inM R (xs1.map (·.2)) ∧ totL (xs1.map (·.2)) + R.length ≤ 60000 ∧ Mp h2 b (fun k => cnt (nums (xs1.map (·.2))) k), fun n _ => ps.length - n.toNat, ⟨[], ps, xs, rfl, rfl, V1, C1, rfl, hs, Mp.congr M1 fun k => by omega⟩, ?_⟩
  rintro n h2 ⟨P, R, xs1, rfl, rfl, V2, C2, he, ht, M2⟩
  rw [List.length_append] at hln
  have hs' := hs
  rw [List.length_append] at hs'
  have hxl := V2.L.len
  have hx0 := V.L.len
  refine ⟨fun hlt => ?_, fun hge => ?_⟩
  · rcases R with _ | ⟨p, R⟩
    · exact absurd hlt (by simp at hln; omega)
    rw [List.length_cons] at hln ht hs'
    have err : ∀ {c : Int}, c ≠ 0 → inM (p :: R) (xs1.map (·.2)) = (c, xs1.map (·.2)) → Q (.int .i64 c) h2 := fun {c} hc e => hQ h2 c xs1 V2 C2 (by unfold InR; rw [he, e, if_neg hc])
    refine in_rd (V2.L.k.row hr) rfl fun b1 o1 => ?_
    refine has_spec V2.v (fun c0 c1 => ⟨true, rfl, fun _ => ?_, fun h0 => (by cases h0)⟩) (fun hc => ⟨false, rfl, fun h0 => (by cases h0), fun _ => ?_⟩)
    · obtain ⟨x, hx⟩ : ∃ x, xs1[p.lv.toNat]? = some x := ⟨_, List.getElem?_eq_getElem (by omega)⟩
      have hxm := List.mem_of_getElem? hx
      have hlv : (xs1.map (·.2))[p.lv.toNat]? = some x.2 := by rw [List.getElem?_map, hx]; rfl
      refine Mp.get M2 p.num fun es c => ⟨fun h0 => ?_, fun h0 => ⟨fun hlt2 => ?_, fun hge2 => ?_⟩⟩
      · refine err (by decide) ?_
        rw [inM, if_neg (by omega), hlv]
        dsimp only
        rw [if_pos ((cnt_pos _ _).1 h0)]
      · refine err (by decide) ?_
        rw [inM, if_neg (by omega), hlv]
        dsimp only
        rw [if_neg (fun hm => h0 ((cnt_pos _ _).2 hm)), if_pos (blB_t.2 ((sLt_bl _ _).1 hlt2))]
      · refine Mp.add M2 p.num fun es1 c1' hes M3 => ?_
        have hcb := cnt_le (nums (xs1.map (·.2))) p.num
        rw [nums_len] at hcb
        have O3 : One b h2 _ := One.new (mPut es1 c1' (.int .u64 p.num) (.int .i64 (IntKind.wrap .i64 (cnt (nums (xs1.map (·.2))) p.num + 1)))) (by rw [hes]; simp)
        have V3 := V2.ck (O3.ck hes) (V2.L.k.one O3 gb) (show 68 ∉ [0] by decide) (show 49 ∉ [0] by decide) (show 87 ∉ [0] by decide)
        have C3 := C2.one O3 hb
        rw [wrap_i64 (by omega) (by omega)] at M3 V3 C3 ⊢
        clear O3
        generalize h2.new b (mPut es1 c1' (.int .u64 p.num) (.int .i64 (cnt (nums (xs1.map (·.2))) p.num + 1))) = h3 at M3 V3 C3 ⊢
        obtain ⟨b6, ha6, hat6⟩ := V3.L.rd hx
        have T3 := V3.L.t x hxm
        have hx6 : x.2.length + 1 ≤ 60000 := by have := totL_mem (List.mem_of_getElem? hlv); omega
        refine ⟨vb, 0, rfl, ls, at_of V3.v 0, vb, 0, rfl, ls, at_of V3.v 0, b6, 0, ha6, ⟨c0, c1⟩, x.1, by rw [Nat.zero_add]; exact hat6, at_of V3.v 0, at_of V3.v 0, by rw [Nat.zero_add]; exact hat6, ?_⟩
        refine append_buf T3 rfl rfl (by have := T3.n; omega) fun l' h4 B4 hl4 U4 => ?_
        have T4 : TB h4 l' (x.2 ++ [p.tab]) := by
          show Buf _ _ 6 47 (tabV _)
          rw [tabV_app]; exact B4
        have C4 : Ck [49] h3 h4 := Ck.of_upd T3 U4
        obtain ⟨b8, ha8, _, hc8, L8, C8⟩ := V3.L.put hx U4 T4
        refine ⟨by rw [C4.at V3.v (by decide)]; rfl, b8, 0, ha8, ⟨c0, c1⟩, by rw [Nat.zero_add]; exact hc8, ?_⟩
        rw [Nat.zero_add, next_i (n := 70000) (by omega) (by omega)]
        refine ⟨⟨P ++ [p], R, xs1.set p.lv.toNat (l', x.2 ++ [p.tab]), by simp, by simp, ⟨L8, V3.nv, C8.keep _ _ V3.v (show 87 ∉ [49, 68] by decide)⟩, C3.trans C8, ?_, ?_, ?_⟩, by (try dsimp only); simp only [List.length_append, List.length_cons]; omega⟩
        · rw [he, inM, if_neg (by omega), hlv]
          dsimp only
          rw [if_neg (fun hm => h0 ((cnt_pos _ _).2 hm)), if_neg (fun hbl => hge2 ((sLt_bl _ _).2 (blB_t.1 hbl))), List.map_set]
        · rw [List.map_set]
          have := totL_set (us := x.2 ++ [p.tab]) hlv
          rw [List.length_append, List.length_singleton] at this
          dsimp only
          omega
        · refine Mp.congr (Mp.ck C8 (by decide) M3) fun k => ?_
          rw [List.map_set, cnt_set p.tab hlv k]
          show (if k = p.num then _ else _) = _ + if k = p.num then 1 else 0
          by_cases hk : k = p.num
          · rw [if_pos hk, if_pos hk, hk]
          · rw [if_neg hk, if_neg hk]; omega
    · refine err (by decide) ?_
      rw [inM]
      by_cases h0 : p.lv < 0
      · rw [if_pos h0]
      · rw [if_neg h0, List.getElem?_eq_none (by rw [List.length_map]; omega)]
  · have : R = [] := List.eq_nil_of_length_eq_zero (by omega)
    subst this
    refine sort_levels V2 (by simpa using ht) (by omega) (by omega) (fun h3 xs3 V3 C3 hbad => hQ h3 132 xs3 V3 (C2.trans C3) ?_) (fun h3 xs3 V3 C3 hS => hQ h3 0 xs3 V3 (C2.trans C3) ?_)
    · unfold InR; rw [he]; exact .inl ⟨rfl, hbad⟩
    · unfold InR; rw [he]; exact .inr ⟨rfl, hS⟩
end Go.Eng.Ytbjnlacacapjiaa
end
section
set_option maxRecDepth 100000
namespace Go.Eng.Ytbjnlacacapjiaa
theorem insertion {h : Hp} {l : Sl} {lo hi : Int} {Q : Value → Hp → Prop} (U : Us h l) (h1 : 0 ≤ lo) (h2 : hi ≤ (l.n : Int)) (hn : l.n ≤ 60000) (h3 : lo ≤ 60000)
    (hQ : ∀ h', Sw h h' l → Q (.tuple ⟨[]⟩) h') : F91.T l lo hi h Q := by
  unfold F91.T F91.G
  rw [wr64 (x := lo + 1) (by omega) (by omega)]
  refine ⟨fun n2 h1 => Sw h h1 l ∧ lo + 1 ≤ n2 ∧ n2 ≤ 70000, fun n2 _ => (hi - n2).toNat, ⟨Sw.refl U, by omega, by omega⟩, ?_⟩
  rintro i g1 ⟨S, i0, i1⟩
  refine ⟨fun hlt => ?_, fun _ => hQ g1 S⟩
  rw [wr64 (x := i + 1) (by omega) (by omega)]
  refine ⟨fun n3 h2 => Sw h h2 l ∧ lo ≤ n3 ∧ n3 ≤ i, fun n3 _ => n3.toNat, ⟨S, by omega, by omega⟩, ?_⟩
  rintro j g ⟨S, j0, j1⟩
  refine ⟨fun hlt2 => ?_, fun _ => ⟨⟨S, by omega, by omega⟩, by dsimp only; omega⟩⟩
  rw [wr64 (x := j - 1) (by omega) (by omega)]
  refine Us.rd S.u (by omega) (by omega) fun b1 v1 => Us.rd S.u (by omega) (by omega) fun b2 v2 => less_any fun q => ⟨q, rfl, fun _ => ?_, fun _ => ⟨⟨S, by omega, by omega⟩, by dsimp only; omega⟩⟩
  clear b1 v1 b2 v2
  refine Us.rd S.u (i := j - 1) (by omega) (by omega) fun b1 v1 => Us.rd S.u (i := j) (by omega) (by omega) fun b2 v2 => Us.wr (v := v1) S.u (i := j) (by omega) (by omega) fun b3 U3 p3 => Us.wr (v := v2) U3 (i := j - 1) (by omega) (by omega) fun b4 U4 p4 => ?_
  have S2 : Sw h ((g.wr b3 (0 + (j).toNat) [.int .u64 v1]).wr b4 (0 + (j - 1).toNat) [.int .u64 v2]) l := ⟨U4, (S.up.trans p3).trans p4⟩
  generalize ((g.wr b3 (0 + (j).toNat) [.int .u64 v1]).wr b4 (0 + (j - 1).toNat) [.int .u64 v2]) = g2 at S2 ⊢
  clear U3 p3 U4 p4 b1 b2 b3 b4 v1 v2
  exact ⟨⟨S2, by omega, by omega⟩, by dsimp only; omega⟩
theorem reverse_u {h : Hp} {l : Sl} {lo hi : Int} {Q : Value → Hp → Prop} (U : Us h l) (h1 : 0 ≤ lo) (h2 : hi ≤ (l.n : Int)) (hn : l.n ≤ 60000) (h3 : lo ≤ 60000) (h4 : 0 ≤ hi)
    (hQ : ∀ h', Sw h h' l → Q (.tuple ⟨[]⟩) h') : F95.T l lo hi h Q := by
  unfold F95.T
  rw [wr64 (x := hi - 1) (by omega) (by omega)]
  refine ⟨fun n2 n3 h1 => Sw h h1 l ∧ lo ≤ n2 ∧ n3 < hi ∧ n2 ≤ 70000 ∧ -1 ≤ n3, fun n2 n3 _ => (n3 - n2 + 1).toNat, ⟨Sw.refl U, by omega, by omega, by omega, by omega⟩, ?_⟩
  rintro i j g ⟨S, i0, j0, i1, j1⟩
  refine ⟨fun hlt => ?_, fun _ => hQ g S⟩
  rw [wr64 (x := i + 1) (by omega) (by omega), wr64 (x := j - 1) (by omega) (by omega)]
  refine Us.rd S.u (i := j) (by omega) (by omega) fun b1 v1 => Us.rd S.u (i := i) (by omega) (by omega) fun b2 v2 => Us.wr (v := v1) S.u (i := i) (by omega) (by omega) fun b3 U3 p3 => Us.wr (v := v2) U3 (i := j) (by omega) (by omega) fun b4 U4 p4 => ?_
  have S2 : Sw h ((g.wr b3 (0 + (i).toNat) [.int .u64 v1]).wr b4 (0 + (j).toNat) [.int .u64 v2]) l := ⟨U4, (S.up.trans p3).trans p4⟩
  generalize ((g.wr b3 (0 + (i).toNat) [.int .u64 v1]).wr b4 (0 + (j).toNat) [.int .u64 v2]) = g2 at S2 ⊢
  clear U3 p3 U4 p4 b1 b2 b3 b4 v1 v2
  exact ⟨⟨S2, by omega, by omega, by omega, by omega⟩, by dsimp only; omega⟩
theorem sift {h : Hp} {l : Sl} {lo hi fi : Int} {Q : Value → Hp → Prop} (U : Us h l) (h1 : 0 ≤ lo) (h2 : 0 ≤ fi) (h3 : fi + hi ≤ (l.n : Int)) (h4 : lo ≤ 60000) (h5 : fi ≤ 60000) (hn : l.n ≤ 60000)
    (hQ : ∀ h', Sw h h' l → Q (.tuple ⟨[]⟩) h') : F104.T l lo hi fi h Q := by
  refine ⟨fun n3 h1 => Sw h h1 l ∧ lo ≤ n3 ∧ n3 ≤ 60000, fun n3 _ => (60000 - n3).toNat, ⟨Sw.refl U, by omega, by omega⟩, ?_⟩
  rintro r g ⟨S, r0, r1⟩
  rw [wr64 (x := 2 * r) (by omega) (by omega), wr64 (x := 2 * r + 1) (by omega) (by omega)]
  refine ⟨fun _ => hQ g S, fun hlt => ?_⟩
  rw [wr64 (x := 2 * r + 1 + 1) (by omega) (by omega), wr64 (x := fi + (2 * r + 1)) (by omega) (by omega), wr64 (x := fi + (2 * r + 1) + 1) (by omega) (by omega)]
  refine ⟨fun c g' => Sw h g' l ∧ r < c ∧ c < hi ∧ c ≤ 60000, ?_, fun hlt2 => ?_, fun _ => ⟨S, by omega, by omega, by omega⟩⟩
  · rintro c g ⟨S, c0, c1, c2⟩
    rw [wr64 (x := fi + r) (by omega) (by omega), wr64 (x := fi + c) (by omega) (by omega)]
    refine Us.rd S.u (by omega) (by omega) fun b1 v1 => Us.rd S.u (by omega) (by omega) fun b2 v2 => less_any fun q => ⟨q, rfl, fun _ => ?_, fun _ => hQ g S⟩
    clear b1 v1 b2 v2
    refine Us.rd S.u (i := fi + c) (by omega) (by omega) fun b1 v1 => Us.rd S.u (i := fi + r) (by omega) (by omega) fun b2 v2 => Us.wr (v := v1) S.u (i := fi + r) (by omega) (by omega) fun b3 U3 p3 => Us.wr (v := v2) U3 (i := fi + c) (by omega) (by omega) fun b4 U4 p4 => ?_
    have S2 : Sw h ((g.wr b3 (0 + (fi + r).toNat) [.int .u64 v1]).wr b4 (0 + (fi + c).toNat) [.int .u64 v2]) l := ⟨U4, (S.up.trans p3).trans p4⟩
    generalize ((g.wr b3 (0 + (fi + r).toNat) [.int .u64 v1]).wr b4 (0 + (fi + c).toNat) [.int .u64 v2]) = g2 at S2 ⊢
    clear U3 p3 U4 p4 b1 b2 b3 b4 v1 v2
    exact ⟨⟨S2, by omega, by omega⟩, by dsimp only; omega⟩
  · refine Us.rd S.u (by omega) (by omega) fun b1 v1 => Us.rd S.u (by omega) (by omega) fun b2 v2 => less_any fun q => ⟨q, rfl, fun _ => ⟨S, by omega, by omega, by omega⟩, fun _ => ⟨S, by omega, by omega, by omega⟩⟩
theorem heap_u {h : Hp} {l : Sl} {lo hi : Int} {Q : Value → Hp → Prop} (U : Us h l) (h1 : 0 ≤ lo) (h2 : hi ≤ (l.n : Int)) (hn : l.n ≤ 60000) (h3 : lo ≤ hi)
    (hQ : ∀ h', Sw h h' l → Q (.tuple ⟨[]⟩) h') : F92.T l lo hi h Q := by
  unfold F92.T F92.G
  rw [wr64 (x := hi - lo) (by omega) (by omega), wr64 (x := hi - lo - 1) (by omega) (by omega)]
  have hd : -1 ≤ Int.tdiv (hi - lo - 1) 2 ∧ Int.tdiv (hi - lo - 1) 2 ≤ 60000 := by
    by_cases h0 : hi - lo - 1 = -1
    · rw [h0]; decide
    · rw [Int.tdiv_eq_ediv_of_nonneg (by omega)]; omega
  rw [wr64 (x := Int.tdiv (hi - lo - 1) 2) (by omega) (by omega)]
  generalize Int.tdiv (hi - lo - 1) 2 = s at hd ⊢
  refine ⟨by decide, fun n2 h1 => Sw h h1 l ∧ -1 ≤ n2 ∧ n2 ≤ 60000, fun n2 _ => (n2 + 1).toNat, ⟨Sw.refl U, by omega, by omega⟩, ?_⟩
  rintro i g ⟨S, i0, i1⟩
  refine ⟨fun hlt => ?_, fun _ => ?_⟩
  · rw [wr64 (x := i - 1) (by omega) (by omega)]
    exact sift S.u hlt h1 (by omega) (by omega) (by omega) hn fun g2 S2 => ⟨⟨S.trans S2, by omega, by omega⟩, by dsimp only; omega⟩
  · refine ⟨fun n2 h1 => Sw h h1 l ∧ -1 ≤ n2 ∧ n2 < hi - lo, fun n2 _ => (n2 + 1).toNat, ⟨S, by omega, by omega⟩, ?_⟩
    rintro i g ⟨S, i0, i1⟩
    refine ⟨fun hlt => ?_, fun _ => hQ g S⟩
    rw [wr64 (x := i - 1) (by omega) (by omega), wr64 (x := lo + i) (by omega) (by omega)]
    refine Us.rd S.u (i := lo + i) (by omega) (by omega) fun b1 v1 => Us.rd S.u (i := lo) (by omega) (by omega) fun b2 v2 => Us.wr (v := v1) S.u (i := lo) (by omega) (by omega) fun b3 U3 p3 => Us.wr (v := v2) U3 (i := lo + i) (by omega) (by omega) fun b4 U4 p4 => ?_
    have S2 : Sw h ((g.wr b3 (0 + (lo).toNat) [.int .u64 v1]).wr b4 (0 + (lo + i).toNat) [.int .u64 v2]) l := ⟨U4, (S.up.trans p3).trans p4⟩
    generalize ((g.wr b3 (0 + (lo).toNat) [.int .u64 v1]).wr b4 (0 + (lo + i).toNat) [.int .u64 v2]) = g2 at S2 ⊢
    clear U3 p3 U4 p4 b1 b2 b3 b4 v1 v2
    exact sift S2.u (by decide) h1 (by omega) (by decide) (by omega) hn fun g3 S3 => ⟨⟨S2.trans S3, by omega, by omega⟩, by dsimp only; omega⟩
theorem partial_u {h : Hp} {l : Sl} {lo hi : Int} {Q : Value → Hp → Prop} (U : Us h l) (h1 : 0 ≤ lo) (h2 : hi ≤ (l.n : Int)) (hn : l.n ≤ 60000) (h3 : lo < hi)
    (hQ : ∀ h' b, Sw h h' l → Q (.bool b) h') : F96.T l lo hi h Q := by
  unfold F96.T F96.G
  rw [wr64 (x := lo + 1) (by omega) (by omega), wr64 (x := hi - lo) (by omega) (by omega)]
  refine ⟨fun n2 n3 h1 => Sw h h1 l ∧ lo + 1 ≤ n2 ∧ n2 ≤ hi ∧ 0 ≤ n3 ∧ n3 ≤ 5, fun _ n3 _ => (5 - n3).toNat, ⟨Sw.refl U, by omega, by omega, by omega, by omega⟩, ?_⟩
  rintro i k g ⟨S, i0, i1, k0, k1⟩
  refine ⟨fun hlt => ?_, fun _ => hQ g false S⟩
  rw [wr64 (x := k + 1) (by omega) (by omega)]
  refine ⟨fun n4 h2 => Sw h h2 l ∧ lo + 1 ≤ n4 ∧ n4 ≤ hi, ?_, ?_⟩
  · rintro i g ⟨S, i0, i1⟩
    refine ⟨fun _ => hQ g true S, fun hne => ⟨fun _ => hQ g false S, fun hb => ?_⟩⟩
    rw [wr64 (x := i - 1) (by omega) (by omega), wr64 (x := i - lo) (by omega) (by omega), wr64 (x := hi - i) (by omega) (by omega)]
    refine Us.rd S.u (i := i - 1) (by omega) (by omega) fun b1 v1 => Us.rd S.u (i := i) (by omega) (by omega) fun b2 v2 => Us.wr (v := v1) S.u (i := i) (by omega) (by omega) fun b3 U3 p3 => Us.wr (v := v2) U3 (i := i - 1) (by omega) (by omega) fun b4 U4 p4 => ?_
    have S2 : Sw h ((g.wr b3 (0 + (i).toNat) [.int .u64 v1]).wr b4 (0 + (i - 1).toNat) [.int .u64 v2]) l := ⟨U4, (S.up.trans p3).trans p4⟩
    generalize ((g.wr b3 (0 + (i).toNat) [.int .u64 v1]).wr b4 (0 + (i - 1).toNat) [.int .u64 v2]) = g2 at S2 ⊢
    clear U3 p3 U4 p4 b1 b2 b3 b4 v1 v2
    refine ⟨fun h3 => Sw h h3 l, ?_, fun h5 => ?_, fun _ => S2⟩
    · intro g3 S3
      refine ⟨fun _ => ?_, fun _ => ⟨⟨S3, i0, i1, by omega, by omega⟩, by dsimp only; omega⟩⟩
      rw [wr64 (x := i + 1) (by omega) (by omega)]
      refine ⟨fun n7 h4 => Sw h h4 l ∧ i + 1 ≤ n7 ∧ n7 ≤ hi, fun n7 _ => (hi - n7).toNat, ⟨S3, by omega, by omega⟩, ?_⟩
      rintro j g ⟨S, j0, j1⟩
      refine ⟨fun hlt => ?_, fun _ => ⟨⟨S, i0, i1, by omega, by omega⟩, by dsimp only; omega⟩⟩
      rw [wr64 (x := j - 1) (by omega) (by omega), wr64 (x := j + 1) (by omega) (by omega)]
      refine Us.rd S.u (by omega) (by omega) fun b1 v1 => Us.rd S.u (by omega) (by omega) fun b2 v2 => less_any fun q => ⟨q, rfl, fun _ => ?_, fun _ => ⟨⟨S, i0, i1, by omega, by omega⟩, by dsimp only; omega⟩⟩
      clear b1 v1 b2 v2
      refine Us.rd S.u (i := j - 1) (by omega) (by omega) fun b1 v1 => Us.rd S.u (i := j) (by omega) (by omega) fun b2 v2 => Us.wr (v := v1) S.u (i := j) (by omega) (by omega) fun b3 U3 p3 => Us.wr (v := v2) U3 (i := j - 1) (by omega) (by omega) fun b4 U4 p4 => ?_
      have S4 : Sw h ((g.wr b3 (0 + (j).toNat) [.int .u64 v1]).wr b4 (0 + (j - 1).toNat) [.int .u64 v2]) l := ⟨U4, (S.up.trans p3).trans p4⟩
      generalize ((g.wr b3 (0 + (j).toNat) [.int .u64 v1]).wr b4 (0 + (j - 1).toNat) [.int .u64 v2]) = g4 at S4 ⊢
      clear U3 p3 U4 p4 b1 b2 b3 b4 v1 v2
      exact ⟨⟨S4, by omega, by omega⟩, by dsimp only; omega⟩
    · refine ⟨fun n7 h4 => Sw h h4 l ∧ 0 ≤ n7 ∧ n7 < hi, fun n7 _ => n7.toNat, ⟨S2, by omega, by omega⟩, ?_⟩
      rintro j g ⟨S, j0, j1⟩
      refine ⟨fun hlt => ?_, fun _ => S⟩
      rw [wr64 (x := j - 1) (by omega) (by omega)]
      refine Us.rd S.u (by omega) (by omega) fun b1 v1 => Us.rd S.u (by omega) (by omega) fun b2 v2 => less_any fun q => ⟨q, rfl, fun _ => ?_, fun _ => S⟩
      clear b1 v1 b2 v2
      refine Us.rd S.u (i := j - 1) (by omega) (by omega) fun b1 v1 => Us.rd S.u (i := j) (by omega) (by omega) fun b2 v2 => Us.wr (v := v1) S.u (i := j) (by omega) (by omega) fun b3 U3 p3 => Us.wr (v := v2) U3 (i := j - 1) (by omega) (by omega) fun b4 U4 p4 => ?_
      have S4 : Sw h ((g.wr b3 (0 + (j).toNat) [.int .u64 v1]).wr b4 (0 + (j - 1).toNat) [.int .u64 v2]) l := ⟨U4, (S.up.trans p3).trans p4⟩
      generalize ((g.wr b3 (0 + (j).toNat) [.int .u64 v1]).wr b4 (0 + (j - 1).toNat) [.int .u64 v2]) = g4 at S4 ⊢
      clear U3 p3 U4 p4 b1 b2 b3 b4 v1 v2
      exact ⟨⟨S4, by omega, by omega⟩, by dsimp only; omega⟩
  · refine ⟨fun n7 h4 => Sw h h4 l ∧ lo + 1 ≤ n7 ∧ n7 ≤ hi, fun n7 _ => (hi - n7).toNat, ⟨S, i0, i1⟩, ?_⟩
    rintro j g ⟨S, j0, j1⟩
    refine ⟨fun hlt => ?_, fun _ => ⟨S, j0, j1⟩⟩
    rw [wr64 (x := j - 1) (by omega) (by omega), wr64 (x := j + 1) (by omega) (by omega)]
    exact Us.rd S.u (by omega) (by omega) fun b1 v1 => Us.rd S.u (by omega) (by omega) fun b2 v2 => less_any fun q => ⟨q, rfl, fun _ => ⟨S, j0, j1⟩, fun _ => ⟨⟨S, by omega, by omega⟩, by dsimp only; omega⟩⟩
end Go.Eng.Ytbjnlacacapjiaa
end
section
set_option maxRecDepth 100000
namespace Go.Eng.Ytbjnlacacapjiaa
def tab8 : ByteArray := ByteArray.mk (List.toArray [0, 1, 2, 2, 3, 3, 3, 3, 4, 4, 4, 4, 4, 4, 4, 4, 5, 5, 5, 5, 5, 5, 5, 5, 5, 5, 5, 5, 5, 5, 5, 5, 6, 6, 6, 6, 6, 6, 6, 6, 6, 6, 6, 6, 6, 6, 6, 6, 6, 6, 6, 6, 6, 6, 6, 6, 6, 6, 6, 6, 6, 6, 6, 6, 7, 7, 7, 7, 7, 7, 7, 7, 7, 7, 7, 7, 7, 7, 7, 7, 7, 7, 7, 7, 7, 7, 7, 7, 7, 7, 7, 7, 7, 7, 7, 7, 7, 7, 7, 7, 7, 7, 7, 7, 7, 7, 7, 7, 7, 7, 7, 7, 7, 7, 7, 7, 7, 7, 7, 7, 7, 7, 7, 7, 7, 7, 7, 7, 8, 8, 8, 8, 8, 8, 8, 8, 8, 8, 8, 8, 8, 8, 8, 8, 8, 8, 8, 8, 8, 8, 8, 8, 8, 8, 8, 8, 8, 8, 8, 8, 8, 8, 8, 8, 8, 8, 8, 8, 8, 8, 8, 8, 8, 8, 8, 8, 8, 8, 8, 8, 8, 8, 8, 8, 8, 8, 8, 8, 8, 8, 8, 8, 8, 8, 8, 8, 8, 8, 8, 8, 8, 8, 8, 8, 8, 8, 8, 8, 8, 8, 8, 8, 8, 8, 8, 8, 8, 8, 8, 8, 8, 8, 8, 8, 8, 8, 8, 8, 8, 8, 8, 8, 8, 8, 8, 8, 8, 8, 8, 8, 8, 8, 8, 8, 8, 8, 8, 8, 8, 8, 8, 8, 8, 8, 8, 8])
def tabL : List UInt8 := [0, 1, 2, 2, 3, 3, 3, 3, 4, 4, 4, 4, 4, 4, 4, 4, 5, 5, 5, 5, 5, 5, 5, 5, 5, 5, 5, 5, 5, 5, 5, 5, 6, 6, 6, 6, 6, 6, 6, 6, 6, 6, 6, 6, 6, 6, 6, 6, 6, 6, 6, 6, 6, 6, 6, 6, 6, 6, 6, 6, 6, 6, 6, 6, 7, 7, 7, 7, 7, 7, 7, 7, 7, 7, 7, 7, 7, 7, 7, 7, 7, 7, 7, 7, 7, 7, 7, 7, 7, 7, 7, 7, 7, 7, 7, 7, 7, 7, 7, 7, 7, 7, 7, 7, 7, 7, 7, 7, 7, 7, 7, 7, 7, 7, 7, 7, 7, 7, 7, 7, 7, 7, 7, 7, 7, 7, 7, 7, 8, 8, 8, 8, 8, 8, 8, 8, 8, 8, 8, 8, 8, 8, 8, 8, 8, 8, 8, 8, 8, 8, 8, 8, 8, 8, 8, 8, 8, 8, 8, 8, 8, 8, 8, 8, 8, 8, 8, 8, 8, 8, 8, 8, 8, 8, 8, 8, 8, 8, 8, 8, 8, 8, 8, 8, 8, 8, 8, 8, 8, 8, 8, 8, 8, 8, 8, 8, 8, 8, 8, 8, 8, 8, 8, 8, 8, 8, 8, 8, 8, 8, 8, 8, 8, 8, 8, 8, 8, 8, 8, 8, 8, 8, 8, 8, 8, 8, 8, 8, 8, 8, 8, 8, 8, 8, 8, 8, 8, 8, 8, 8, 8, 8, 8, 8, 8, 8, 8, 8, 8, 8, 8, 8, 8, 8, 8, 8]
theorem tab8_size : tab8.size = 256 := by decide +kernel
theorem tabL_at : ∀ k, k < 256 → (k = 0 ∨ (1 ≤ (tabL.getD k 0).toNat ∧ (tabL.getD k 0).toNat ≤ 8 ∧ 2 ^ ((tabL.getD k 0).toNat - 1) ≤ k)) := by decide +kernel
theorem tab8_at {k : Nat} (h : k < 256) (h0 : k ≠ 0) : ∃ r : Nat, bt tab8 (k : Int) = (r : Int) ∧ 1 ≤ r ∧ r ≤ 8 ∧ 2 ^ (r - 1) ≤ k := by
  obtain ⟨h1, h2, h3⟩ := (tabL_at k h).resolve_left h0
  refine ⟨(tabL.getD k 0).toNat, ?_, h1, h2, h3⟩
  unfold bt
  have hs : ((k : Int)).toNat < tab8.size := by rw [tab8_size]; omega
  rw [dif_pos hs]
  have e : tab8[((k : Int)).toNat]'hs = tabL.getD k 0 := by
    have hl : k < tabL.length := by have : tabL.length = 256 := by decide +kernel
                                    omega
    rw [List.getD_eq_getElem?_getD, List.getElem?_eq_getElem hl]
    rfl
  rw [e]
theorem shrN {k : IntKind} (a j : Nat) (hk : j ≤ k.bits) : shrI k (a : Int) (j : Int) = ((a / 2 ^ j : Nat) : Int) := by
  unfold shrI
  have h1 : min (j : Int).toNat k.bits = j := by omega
  have h2 : (2 : Int) ^ j = ((2 ^ j : Nat) : Int) := by rw [Int.natCast_pow]; rfl
  rw [h1, h2, Int.fdiv_eq_ediv_of_nonneg _ (Int.natCast_nonneg _)]
  exact (Int.natCast_ediv a (2 ^ j)).symm
theorem wrap8 {x : Int} (h0 : 0 ≤ x) (h1 : x < 256) : IntKind.wrap .u8 x = x := by rw [IntKind.wrap_u8]; omega
theorem len64 {h : Hp} {n : Nat} {Q : Value → Hp → Prop} (h0 : 1 ≤ n) (h1 : n < 65536) (hQ : ∀ r : Nat, 1 ≤ r → r ≤ 16 → 2 ^ (r - 1) ≤ n → Q (.int .i64 (r : Int)) h) : F101.T (n : Int) h Q := by
  have hsz : (tab8.size : Int) = 256 := by rw [tab8_size]; rfl
  have e8 : shrI .u64 (n : Int) 8 = ((n / 256 : Nat) : Int) := shrN (k := .u64) n 8 (by decide)
  refine ⟨fun hb => absurd hb (by omega), fun _ => ⟨fun hb => absurd hb (by omega), fun _ => ⟨fun hb => ⟨by decide, ?_⟩, fun hb => ?_⟩⟩⟩
  · rw [e8, wrap8 (by omega) (by omega)]
    obtain ⟨r, hr, r1, r2, r3⟩ := tab8_at (k := n / 256) (by omega) (by omega)
    refine ⟨⟨by omega, by show _ < (tab8.size : Int); omega⟩, ?_⟩
    have e : IntKind.wrap .i64 (IntKind.wrap .i64 (0 + 8) + IntKind.wrap .i64 (bt tab8 ((n / 256 : Nat) : Int))) = ((8 + r : Nat) : Int) := by
      rw [hr, wr64 (x := 0 + 8) (by omega) (by omega), wr64 (x := (r : Int)) (by omega) (by omega), wr64 (by omega) (by omega)]; omega
    have hq := hQ (8 + r) (by omega) (by omega) (by
      have : 2 ^ (8 + r - 1) = 256 * 2 ^ (r - 1) := by rw [show 8 + r - 1 = 8 + (r - 1) by omega, Nat.pow_add]
      omega)
    rw [← e] at hq
    exact hq
  · rw [wrap8 (by omega) (by omega)]
    obtain ⟨r, hr, r1, r2, r3⟩ := tab8_at (k := n) (by omega) (by omega)
    refine ⟨⟨by omega, by show _ < (tab8.size : Int); omega⟩, ?_⟩
    have e : IntKind.wrap .i64 (0 + IntKind.wrap .i64 (bt tab8 (n : Int))) = (r : Int) := by
      rw [hr, wr64 (x := (r : Int)) (by omega) (by omega), wr64 (by omega) (by omega)]; omega
    have hq := hQ r r1 (by omega) r3
    rw [← e] at hq
    exact hq
theorem len0 {h : Hp} {Q : Value → Hp → Prop} (hQ : ∀ r, Q (.int .i64 r) h) : F101.T 0 h Q := by
  refine ⟨fun hb => absurd hb (by decide), fun _ => ⟨fun hb => absurd hb (by decide), fun _ => ⟨fun hb => absurd hb (by decide), fun _ => ⟨⟨by decide, ?_⟩, hQ _⟩⟩⟩⟩
  show _ < (tab8.size : Int)
  rw [tab8_size]; decide
theorem bits_len {h : Hp} {n : Nat} {Q : Value → Hp → Prop} (h1 : n < 65536) (hQ : ∀ r, Q (.int .i64 r) h) : F83.T (n : Int) h Q := by
  unfold F83.T F83.G
  rcases Nat.eq_zero_or_pos n with rfl | h0
  · exact len0 fun r => ⟨r, rfl, hQ r⟩
  · exact len64 h0 h1 fun r _ _ _ => ⟨_, rfl, hQ _⟩
theorem next_pow {h : Hp} {n : Nat} {Q : Value → Hp → Prop} (h0 : 1 ≤ n) (h1 : n < 65536) (hQ : ∀ m : Nat, 1 ≤ m → m ≤ 2 * n → Q (.int .u64 (m : Int)) h) : F105.T (n : Int) h Q := by
  unfold F105.T F83.T F105.G F83.G
  rw [wrap_u64 (by omega) (by omega)]
  refine len64 h0 h1 fun r r1 r2 r3 => ⟨_, rfl, _, rfl, by omega, ?_⟩
  have hp : 2 ^ r = 2 * 2 ^ (r - 1) := by conv => lhs; rw [show r = (r - 1) + 1 by omega, Nat.pow_succ]
                                          omega
  have hle : 2 ^ r ≤ 131072 := by omega
  have e : shlI .u64 1 (r : Int) = ((2 ^ r : Nat) : Int) := by
    unfold shlI
    have : min ((r : Int)).toNat (IntKind.bits .u64) = r := by show min _ 64 = r; omega
    rw [this, Int.one_mul]
    have h2 : (2 : Int) ^ r = ((2 ^ r : Nat) : Int) := by rw [Int.natCast_pow]; rfl
    rw [h2, wrap_u64 (by omega) (by omega)]
  rw [e]
  exact hQ _ Nat.one_le_two_pow (by omega)
theorem and_le {x : Int} {m : Nat} (hm : m < 18446744073709551616) : ∃ r : Nat, bitsI .and .u64 x (m : Int) = (r : Int) ∧ r ≤ m := by
  have e2 : (BitVec.ofInt 64 (m : Int)).toNat = m := by rw [BitVec.ofInt_natCast, BitVec.toNat_ofNat]; exact Nat.mod_eq_of_lt hm
  have hle : (BitVec.ofInt 64 x &&& BitVec.ofInt 64 (m : Int)).toNat ≤ m := by rw [BitVec.toNat_and, e2]; exact Nat.and_le_right
  refine ⟨_, ?_, hle⟩
  show IntKind.wrap .u64 (((BitVec.ofInt 64 x &&& BitVec.ofInt 64 (m : Int)).toNat : Nat) : Int) = _
  exact wrap_u64 (by omega) (by omega)
theorem next_rnd {h : Hp} {b : Nat} {r : Int} {Q : Value → Hp → Prop} (hb : h b = some (.cells ⟨[.int .u64 r]⟩ 151 (0, 0))) (hQ : ∀ v h' r', h' b = some (.cells ⟨[.int .u64 r']⟩ 151 (0, 0)) → (∀ k, k ≠ b → h' k = h k) → Q (.int .u64 v) h') : F106.T (some ⟨b, 0, none⟩) h Q := by
  have at_ : ∀ {g : Hp} {x : Int}, g b = some (.cells ⟨[.int .u64 x]⟩ 151 (0, 0)) → g.at b 0 = some (.int .u64 x) := fun hg => by unfold Hp.at; rw [hg]; rfl
  have can : ∀ {g : Hp} {x : Int}, g b = some (.cells ⟨[.int .u64 x]⟩ 151 (0, 0)) → g.canW b 0 1 := fun hg => ⟨_, _, _, hg, Nat.le_refl _, fun j _ _ => by simp⟩
  have st : ∀ {g : Hp} {x : Int} (y : Int), g b = some (.cells ⟨[.int .u64 x]⟩ 151 (0, 0)) → (g.wr b 0 [.int .u64 y]) b = some (.cells ⟨[.int .u64 y]⟩ 151 (0, 0)) := fun y hg => by rw [wr_at hg]; rfl
  have ot : ∀ {g : Hp} {vs : List Value} {k : Nat}, k ≠ b → (g.wr b 0 vs) k = g k := fun hk => by unfold Hp.wr; rw [if_neg hk]
  refine ⟨b, 0, rfl, r, at_ hb, b, 0, rfl, r, at_ hb, by decide, b, 0, rfl, can hb, b, 0, rfl, _, at_ (st _ hb), b, 0, rfl, _, at_ (st _ hb), by decide, b, 0, rfl, can (st _ hb), b, 0, rfl, _, at_ (st _ (st _ hb)), b, 0, rfl, _, at_ (st _ (st _ hb)), by decide, b, 0, rfl, can (st _ (st _ hb)), b, 0, rfl, _, at_ (st _ (st _ (st _ hb))), ?_⟩
  exact hQ _ _ _ (st _ (st _ (st _ hb))) fun k hk => by rw [ot hk, ot hk, ot hk]
structure Rn (h h' : Hp) (l : Sl) (b : Nat) : Prop where
  s : Sw h h' l
  nb : h b = none
  c : ∃ r : Int, h' b = some (.cells ⟨[.int .u64 r]⟩ 151 (0, 0))
theorem rn_buf {h : Hp} {b : Nat} {r : Int} (hb : h b = some (.cells ⟨[.int .u64 r]⟩ 151 (0, 0))) : Buf h (rb b) 1 151 [.int .u64 r] :=
  ⟨rfl, Nat.le_refl _, .inr ⟨b, _, (0, 0), rfl, hb, Nat.le_refl _, fun j _ => by simp, rfl⟩⟩
theorem Rn.sw {h g g' : Hp} {l : Sl} {b : Nat} (R : Rn h g l b) (S : Sw g g' l) : Rn h g' l b := by
  obtain ⟨vs, B⟩ := R.s.u
  obtain ⟨r, hr⟩ := R.c
  exact ⟨R.s.trans S, R.nb, r, S.up.keep b _ (fun o ho => buf_off (rn_buf hr) B (by decide) b 0 o rfl ho) hr⟩
theorem Rn.draw {h g g' : Hp} {l : Sl} {b : Nat} {r' : Int} (R : Rn h g l b) (h1 : g' b = some (.cells ⟨[.int .u64 r']⟩ 151 (0, 0))) (h2 : ∀ k, k ≠ b → g' k = g k) : Rn h g' l b := by
  obtain ⟨vs, B⟩ := R.s.u
  obtain ⟨r, hr⟩ := R.c
  have hU : Upd g g' (rb b) (rb b) := ⟨fun k x hk e => by
    have hkb : k ≠ b := fun q => hk 0 (by rw [q]; rfl)
    rw [h2 k hkb]; exact e, .inl rfl, fun k e => by
    by_cases hkb : k = b
    · rw [hkb, h1] at e; cases e
    · rw [h2 k hkb] at e; exact e⟩
  refine ⟨⟨⟨vs, B.upd hU (buf_off B (rn_buf hr) (by decide))⟩, ⟨fun k x hk e => ?_, .inl rfl, fun k e => R.s.up.dom k (hU.dom k e)⟩⟩, R.nb, r', h1⟩
  have hkb : k ≠ b := fun q => by rw [q, R.nb] at e; cases e
  rw [h2 k hkb]
  exact R.s.up.keep k x hk e
theorem break_u {h : Hp} {l : Sl} {lo hi : Int} {Q : Value → Hp → Prop} (U : Us h l) (h1 : 0 ≤ lo) (h2 : hi ≤ (l.n : Int)) (hn : l.n ≤ 60000) (h3 : lo ≤ hi)
    (hQ : ∀ h', Sw h h' l → Q (.tuple ⟨[]⟩) h') : F93.T l lo hi h Q := by
  unfold F93.T F93.G
  rw [wr64 (x := hi - lo) (by omega) (by omega)]
  have hd : Int.tdiv (hi - lo) 4 = (hi - lo) / 4 := Int.tdiv_eq_ediv_of_nonneg (by omega)
  rw [hd, wr64 (x := (hi - lo) / 4) (by omega) (by omega), wr64 (x := (hi - lo) / 4 * 2) (by omega) (by omega), wr64 (x := lo + (hi - lo) / 4 * 2) (by omega) (by omega), wr64 (x := lo + (hi - lo) / 4 * 2 - 1) (by omega) (by omega), wr64 (x := lo + (hi - lo) / 4 * 2 + 1) (by omega) (by omega)]
  refine ⟨fun h8 => ?_, fun _ => hQ h (Sw.refl U)⟩
  intro b hb
  have hnb : (h.new b (.cells ⟨[.int .u64 0]⟩ 151 (0, 0))) b = some (.cells ⟨[.int .u64 0]⟩ 151 (0, 0)) := new_self h b _
  have R0 : Rn h (h.new b (.cells ⟨[.int .u64 0]⟩ 151 (0, 0))) l b := ⟨⟨U.keep (Keep.new hb _), Upd.of_keep (Keep.new hb _) l⟩, hb, 0, hnb⟩
  refine ⟨⟨_, _, _, hnb, Nat.le_refl _, fun j _ _ => by simp⟩, ?_⟩
  have R1 : Rn h ((h.new b (.cells ⟨[.int .u64 0]⟩ 151 (0, 0))).wr b 0 [.int .u64 (IntKind.wrap .u64 (hi - lo))]) l b := R0.draw (r' := IntKind.wrap .u64 (hi - lo)) (by rw [wr_at hnb]; rfl) fun k hk => by unfold Hp.wr; rw [if_neg hk]
  generalize ((h.new b (.cells ⟨[.int .u64 0]⟩ 151 (0, 0))).wr b 0 [.int .u64 (IntKind.wrap .u64 (hi - lo))]) = g1 at R1 ⊢
  obtain ⟨n, hnn⟩ : ∃ n : Nat, hi - lo = (n : Int) := ⟨(hi - lo).toNat, by omega⟩
  rw [hnn] at h8 ⊢
  refine next_pow (by omega) (by omega) fun m m1 m2 => ⟨_, rfl, by decide, ?_⟩
  refine ⟨fun i g => Rn h g l b ∧ lo ≤ i ∧ i ≤ hi, fun i _ => (hi + 1 - i).toNat, ⟨R1, by omega, by omega⟩, ?_⟩
  rintro i g ⟨R, i0, i1⟩
  refine ⟨by decide, fun hle => ?_, fun _ => hQ g R.s⟩
  obtain ⟨r, hr⟩ := R.c
  refine next_rnd hr fun v g2 r' hg hot => ⟨v, rfl, ?_⟩
  have R2 := R.draw hg hot
  obtain ⟨q, hq, hqm⟩ := and_le (x := v) (m := m - 1) (by omega)
  have hw : IntKind.wrap .u64 ((m : Int) - 1) = ((m - 1 : Nat) : Int) := by rw [wrap_u64 (by omega) (by omega)]; omega
  rw [hw, hq, wr64 (x := (q : Int)) (by omega) (by omega)]
  have S : Sw g2 g2 l := Sw.refl R2.s.u
  clear hg hot hr
  refine ⟨fun hge => ?_, fun hlt => ?_⟩
  · rw [wr64 (x := (q : Int) - (n : Int)) (by omega) (by omega), wr64 (x := lo + ((q : Int) - (n : Int))) (by omega) (by omega), wr64 (x := i + 1) (by omega) (by omega)]
    refine Us.rd S.u (i := lo + ((q : Int) - (n : Int))) (by omega) (by omega) fun b1 v1 => Us.rd S.u (i := i) (by omega) (by omega) fun b2 v2 => Us.wr (v := v1) S.u (i := i) (by omega) (by omega) fun b3 U3 p3 => Us.wr (v := v2) U3 (i := lo + ((q : Int) - (n : Int))) (by omega) (by omega) fun b4 U4 p4 => ?_
    have S3 : Sw g2 ((g2.wr b3 (0 + (i).toNat) [.int .u64 v1]).wr b4 (0 + (lo + ((q : Int) - (n : Int))).toNat) [.int .u64 v2]) l := ⟨U4, (S.up.trans p3).trans p4⟩
    generalize ((g2.wr b3 (0 + (i).toNat) [.int .u64 v1]).wr b4 (0 + (lo + ((q : Int) - (n : Int))).toNat) [.int .u64 v2]) = g3 at S3 ⊢
    clear U3 p3 U4 p4 b1 b2 b3 b4 v1 v2
    exact ⟨⟨R2.sw S3, by omega, by omega⟩, by dsimp only; omega⟩
  · rw [wr64 (x := lo + (q : Int)) (by omega) (by omega), wr64 (x := i + 1) (by omega) (by omega)]
    refine Us.rd S.u (i := lo + (q : Int)) (by omega) (by omega) fun b1 v1 => Us.rd S.u (i := i) (by omega) (by omega) fun b2 v2 => Us.wr (v := v1) S.u (i := i) (by omega) (by omega) fun b3 U3 p3 => Us.wr (v := v2) U3 (i := lo + (q : Int)) (by omega) (by omega) fun b4 U4 p4 => ?_
    have S3 : Sw g2 ((g2.wr b3 (0 + (i).toNat) [.int .u64 v1]).wr b4 (0 + (lo + (q : Int)).toNat) [.int .u64 v2]) l := ⟨U4, (S.up.trans p3).trans p4⟩
    generalize ((g2.wr b3 (0 + (i).toNat) [.int .u64 v1]).wr b4 (0 + (lo + (q : Int)).toNat) [.int .u64 v2]) = g3 at S3 ⊢
    clear U3 p3 U4 p4 b1 b2 b3 b4 v1 v2
    exact ⟨⟨R2.sw S3, by omega, by omega⟩, by dsimp only; omega⟩
theorem partEq {h : Hp} {l : Sl} {lo hi p : Int} {Q : Value → Hp → Prop} (U : Us h l) (h1 : 0 ≤ lo) (h2 : hi ≤ (l.n : Int)) (hn : l.n ≤ 60000) (p0 : lo ≤ p) (p1 : p < hi)
    (hQ : ∀ h' x, Sw h h' l → lo + 1 ≤ x → x ≤ hi → Q (.int .i64 x) h') : F98.T l lo hi p h Q := by
  unfold F98.T F98.G
  have S := Sw.refl U
  refine Us.rd S.u (i := p) (by omega) (by omega) fun b1 v1 => Us.rd S.u (i := lo) (by omega) (by omega) fun b2 v2 => Us.wr (v := v1) S.u (i := lo) (by omega) (by omega) fun b3 U3 p3 => Us.wr (v := v2) U3 (i := p) (by omega) (by omega) fun b4 U4 p4 => ?_
  have S : Sw h ((h.wr b3 (0 + (lo).toNat) [.int .u64 v1]).wr b4 (0 + (p).toNat) [.int .u64 v2]) l := ⟨U4, (S.up.trans p3).trans p4⟩
  generalize ((h.wr b3 (0 + (lo).toNat) [.int .u64 v1]).wr b4 (0 + (p).toNat) [.int .u64 v2]) = g at S ⊢
  clear U3 p3 U4 p4 b1 b2 b3 b4 v1 v2
  rw [wr64 (x := lo + 1) (by omega) (by omega), wr64 (x := hi - 1) (by omega) (by omega)]
  refine ⟨fun i j g => Sw h g l ∧ lo + 1 ≤ i ∧ i ≤ j + 2 ∧ j < hi ∧ i ≤ hi, fun i j _ => (j - i + 2).toNat, ⟨S, by omega, by omega, by omega, by omega⟩, ?_⟩
  rintro i0 j0 g ⟨S, a0, a1, a2, a3⟩
  refine ⟨fun i g => Sw h g l ∧ i0 ≤ i ∧ i ≤ j0 + 2 ∧ i ≤ hi, ?_, ?_⟩
  · rintro i g ⟨S, c0, c1, c2⟩
    refine ⟨fun j g => Sw h g l ∧ i - 2 ≤ j ∧ j ≤ j0, fun j _ => (j - i + 2).toNat, ⟨S, by omega, by omega⟩, ?_⟩
    rintro j g ⟨S, d0, d1⟩
    refine ⟨fun hle => ?_, fun hgt => ⟨fun _ => hQ g i S (by omega) (by omega), fun hc => absurd hc (by omega)⟩⟩
    refine Us.rd S.u (by omega) (by omega) fun b1 v1 => Us.rd S.u (by omega) (by omega) fun b2 v2 => less_any fun q => ⟨q, rfl, fun _ => ?_, fun _ => ⟨fun hc => absurd hc (by omega), fun _ => ?_⟩⟩
    · rw [wr64 (x := j - 1) (by omega) (by omega)]
      exact ⟨⟨S, by omega, by omega⟩, by dsimp only; omega⟩
    · clear b1 v1 b2 v2
      rw [wr64 (x := i + 1) (by omega) (by omega), wr64 (x := j - 1) (by omega) (by omega)]
      refine Us.rd S.u (i := j) (by omega) (by omega) fun b1 v1 => Us.rd S.u (i := i) (by omega) (by omega) fun b2 v2 => Us.wr (v := v1) S.u (i := i) (by omega) (by omega) fun b3 U3 p3 => Us.wr (v := v2) U3 (i := j) (by omega) (by omega) fun b4 U4 p4 => ?_
      have S2 : Sw h ((g.wr b3 (0 + (i).toNat) [.int .u64 v1]).wr b4 (0 + (j).toNat) [.int .u64 v2]) l := ⟨U4, (S.up.trans p3).trans p4⟩
      generalize ((g.wr b3 (0 + (i).toNat) [.int .u64 v1]).wr b4 (0 + (j).toNat) [.int .u64 v2]) = g2 at S2 ⊢
      clear U3 p3 U4 p4 b1 b2 b3 b4 v1 v2
      exact ⟨⟨S2, by omega, by omega, by omega, by omega⟩, by dsimp only; omega⟩
  · refine ⟨fun i g => Sw h g l ∧ i0 ≤ i ∧ i ≤ j0 + 2 ∧ i ≤ hi, fun i _ => (j0 + 1 - i).toNat, ⟨S, by omega, by omega, by omega⟩, ?_⟩
    rintro i g ⟨S, c0, c1, c2⟩
    refine ⟨fun hle => ?_, fun hgt => ⟨S, by omega, by omega, by omega⟩⟩
    refine Us.rd S.u (by omega) (by omega) fun b1 v1 => Us.rd S.u (by omega) (by omega) fun b2 v2 => less_any fun q => ⟨q, rfl, fun _ => ⟨S, by omega, by omega, by omega⟩, fun _ => ?_⟩
    rw [wr64 (x := i + 1) (by omega) (by omega)]
    exact ⟨⟨S, by omega, by omega, by omega⟩, by dsimp only; omega⟩
theorem part_u {h : Hp} {l : Sl} {lo hi p : Int} {Q : Value → Hp → Prop} (U : Us h l) (h1 : 0 ≤ lo) (h2 : hi ≤ (l.n : Int)) (hn : l.n ≤ 60000) (p0 : lo ≤ p) (p1 : p < hi)
    (hQ : ∀ h' x b, Sw h h' l → lo ≤ x → x < hi → Q (.tuple ⟨[.int .i64 x, .bool b]⟩) h') : F99.T l lo hi p h Q := by
  unfold F99.T F99.G
  have S := Sw.refl U
  refine Us.rd S.u (i := p) (by omega) (by omega) fun b1 v1 => Us.rd S.u (i := lo) (by omega) (by omega) fun b2 v2 => Us.wr (v := v1) S.u (i := lo) (by omega) (by omega) fun b3 U3 p3 => Us.wr (v := v2) U3 (i := p) (by omega) (by omega) fun b4 U4 p4 => ?_
  have S : Sw h ((h.wr b3 (0 + (lo).toNat) [.int .u64 v1]).wr b4 (0 + (p).toNat) [.int .u64 v2]) l := ⟨U4, (S.up.trans p3).trans p4⟩
  generalize ((h.wr b3 (0 + (lo).toNat) [.int .u64 v1]).wr b4 (0 + (p).toNat) [.int .u64 v2]) = g at S ⊢
  clear U3 p3 U4 p4 b1 b2 b3 b4 v1 v2
  rw [wr64 (x := lo + 1) (by omega) (by omega), wr64 (x := hi - 1) (by omega) (by omega)]
  refine ⟨fun i g => Sw h g l ∧ lo + 1 ≤ i ∧ i ≤ hi, ?_, ?_⟩
  · rintro i0 g ⟨S, a0, a1⟩
    refine ⟨fun j g => Sw h g l ∧ i0 - 1 ≤ j ∧ j < hi, ?_, ?_⟩
    · rintro j0 g ⟨S, b0, b1⟩
      refine ⟨fun hlt => ?_, fun hge => ?_⟩
      · refine Us.rd S.u (i := lo) (by omega) (by omega) fun b1 v1 => Us.rd S.u (i := j0) (by omega) (by omega) fun b2 v2 => Us.wr (v := v1) S.u (i := j0) (by omega) (by omega) fun b3 U3 p3 => Us.wr (v := v2) U3 (i := lo) (by omega) (by omega) fun b4 U4 p4 => ?_
        have S2 : Sw h ((g.wr b3 (0 + (j0).toNat) [.int .u64 v1]).wr b4 (0 + (lo).toNat) [.int .u64 v2]) l := ⟨U4, (S.up.trans p3).trans p4⟩
        generalize ((g.wr b3 (0 + (j0).toNat) [.int .u64 v1]).wr b4 (0 + (lo).toNat) [.int .u64 v2]) = g2 at S2 ⊢
        clear U3 p3 U4 p4 b1 b2 b3 b4 v1 v2
        exact hQ g2 j0 true S2 (by omega) (by omega)
      · rw [wr64 (x := i0 + 1) (by omega) (by omega), wr64 (x := j0 - 1) (by omega) (by omega)]
        refine Us.rd S.u (i := j0) (by omega) (by omega) fun b1 v1 => Us.rd S.u (i := i0) (by omega) (by omega) fun b2 v2 => Us.wr (v := v1) S.u (i := i0) (by omega) (by omega) fun b3 U3 p3 => Us.wr (v := v2) U3 (i := j0) (by omega) (by omega) fun b4 U4 p4 => ?_
        have S2 : Sw h ((g.wr b3 (0 + (i0).toNat) [.int .u64 v1]).wr b4 (0 + (j0).toNat) [.int .u64 v2]) l := ⟨U4, (S.up.trans p3).trans p4⟩
        generalize ((g.wr b3 (0 + (i0).toNat) [.int .u64 v1]).wr b4 (0 + (j0).toNat) [.int .u64 v2]) = g2 at S2 ⊢
        clear U3 p3 U4 p4 b1 b2 b3 b4 v1 v2
        refine ⟨fun i j g => Sw h g l ∧ lo + 2 ≤ i ∧ i ≤ j + 2 ∧ j < hi, fun i j _ => (j - i + 2).toNat, ⟨S2, by omega, by omega, by omega⟩, ?_⟩
        rintro i1 j1 g ⟨S, c0, c1, c2⟩
        refine ⟨fun i g => Sw h g l ∧ i1 ≤ i ∧ i ≤ j1 + 2, ?_, ?_⟩
        · rintro i g ⟨S, d0, d1⟩
          refine ⟨fun j g => Sw h g l ∧ i - 2 ≤ j ∧ j ≤ j1, fun j _ => (j - i + 2).toNat, ⟨S, by omega, by omega⟩, ?_⟩
          rintro j g ⟨S, e0, e1⟩
          refine ⟨fun hle => ?_, fun hgt => ⟨fun hc => ?_, fun hc => absurd hc (by omega)⟩⟩
          · refine Us.rd S.u (by omega) (by omega) fun b1 v1 => Us.rd S.u (by omega) (by omega) fun b2 v2 => less_any fun q => ⟨q, rfl, fun _ => ⟨fun hc => absurd hc (by omega), fun _ => ?_⟩, fun _ => ?_⟩
            · clear b1 v1 b2 v2
              rw [wr64 (x := i + 1) (by omega) (by omega), wr64 (x := j - 1) (by omega) (by omega)]
              refine Us.rd S.u (i := j) (by omega) (by omega) fun b1 v1 => Us.rd S.u (i := i) (by omega) (by omega) fun b2 v2 => Us.wr (v := v1) S.u (i := i) (by omega) (by omega) fun b3 U3 p3 => Us.wr (v := v2) U3 (i := j) (by omega) (by omega) fun b4 U4 p4 => ?_
              have S2 : Sw h ((g.wr b3 (0 + (i).toNat) [.int .u64 v1]).wr b4 (0 + (j).toNat) [.int .u64 v2]) l := ⟨U4, (S.up.trans p3).trans p4⟩
              generalize ((g.wr b3 (0 + (i).toNat) [.int .u64 v1]).wr b4 (0 + (j).toNat) [.int .u64 v2]) = g2 at S2 ⊢
              clear U3 p3 U4 p4 b1 b2 b3 b4 v1 v2
              exact ⟨⟨S2, by omega, by omega, by omega⟩, by dsimp only; omega⟩
            · rw [wr64 (x := j - 1) (by omega) (by omega)]
              exact ⟨⟨S, by omega, by omega⟩, by dsimp only; omega⟩
          · refine Us.rd S.u (i := lo) (by omega) (by omega) fun b1 v1 => Us.rd S.u (i := j) (by omega) (by omega) fun b2 v2 => Us.wr (v := v1) S.u (i := j) (by omega) (by omega) fun b3 U3 p3 => Us.wr (v := v2) U3 (i := lo) (by omega) (by omega) fun b4 U4 p4 => ?_
            have S2 : Sw h ((g.wr b3 (0 + (j).toNat) [.int .u64 v1]).wr b4 (0 + (lo).toNat) [.int .u64 v2]) l := ⟨U4, (S.up.trans p3).trans p4⟩
            generalize ((g.wr b3 (0 + (j).toNat) [.int .u64 v1]).wr b4 (0 + (lo).toNat) [.int .u64 v2]) = g2 at S2 ⊢
            clear U3 p3 U4 p4 b1 b2 b3 b4 v1 v2
            exact hQ g2 j false S2 (by omega) (by omega)
        · refine ⟨fun i g => Sw h g l ∧ i1 ≤ i ∧ i ≤ j1 + 2, fun i _ => (j1 + 1 - i).toNat, ⟨S, by omega, by omega⟩, ?_⟩
          rintro i g ⟨S, d0, d1⟩
          refine ⟨fun hle => ?_, fun hgt => ⟨S, by omega, by omega⟩⟩
          refine Us.rd S.u (by omega) (by omega) fun b1 v1 => Us.rd S.u (by omega) (by omega) fun b2 v2 => less_any fun q => ⟨q, rfl, fun _ => ?_, fun _ => ⟨S, by omega, by omega⟩⟩
          rw [wr64 (x := i + 1) (by omega) (by omega)]
          exact ⟨⟨S, by omega, by omega⟩, by dsimp only; omega⟩
    · refine ⟨fun j g => Sw h g l ∧ i0 - 1 ≤ j ∧ j < hi, fun j _ => (j - i0 + 1).toNat, ⟨S, by omega, by omega⟩, ?_⟩
      rintro j g ⟨S, b0, b1⟩
      refine ⟨fun hle => ?_, fun hgt => ⟨S, by omega, by omega⟩⟩
      refine Us.rd S.u (by omega) (by omega) fun b1 v1 => Us.rd S.u (by omega) (by omega) fun b2 v2 => less_any fun q => ⟨q, rfl, fun _ => ⟨S, by omega, by omega⟩, fun _ => ?_⟩
      rw [wr64 (x := j - 1) (by omega) (by omega)]
      exact ⟨⟨S, by omega, by omega⟩, by dsimp only; omega⟩
  · refine ⟨fun i g => Sw h g l ∧ lo + 1 ≤ i ∧ i ≤ hi, fun i _ => (hi - i).toNat, ⟨S, by omega, by omega⟩, ?_⟩
    rintro i g ⟨S, a0, a1⟩
    refine ⟨fun hle => ?_, fun hgt => ⟨S, by omega, by omega⟩⟩
    refine Us.rd S.u (by omega) (by omega) fun b1 v1 => Us.rd S.u (by omega) (by omega) fun b2 v2 => less_any fun q => ⟨q, rfl, fun _ => ?_, fun _ => ⟨S, by omega, by omega⟩⟩
    rw [wr64 (x := i + 1) (by omega) (by omega)]
    exact ⟨⟨S, by omega, by omega⟩, by dsimp only; omega⟩
end Go.Eng.Ytbjnlacacapjiaa
end
section
set_option maxRecDepth 100000
namespace Go.Eng.Ytbjnlacacapjiaa
def SortOk (l : Sl) (T : Sl → Int → Int → Int → PT) (N : Int) : Prop := ∀ (lo hi lim : Int) (h : Hp) (Q : Value → Hp → Prop), Us h l → 0 ≤ lo → lo ≤ hi → hi ≤ (l.n : Int) → hi - lo < N → (∀ h', Sw h h' l → Q (.tuple ⟨[]⟩) h') → T l lo hi lim h Q
theorem pdq_step {l : Sl} (hn : l.n ≤ 60000) {T : Sl → Int → Int → Int → PT} {N : Int} (hT : SortOk l T N) {lo hi lim : Int} {h : Hp} {Q : Value → Hp → Prop} (U : Us h l) (h1 : 0 ≤ lo) (h3 : lo ≤ hi) (h2 : hi ≤ (l.n : Int)) (hN : hi - lo ≤ N)
    (hQ : ∀ h', Sw h h' l → Q (.tuple ⟨[]⟩) h') : F82.G T l lo hi lim h Q := by
  unfold F82.G
  refine ⟨fun a b lim _ _ g => Sw h g l ∧ lo ≤ a ∧ a ≤ b ∧ b ≤ hi, fun a b _ _ _ _ => (b - a).toNat, ⟨Sw.refl U, by omega, by omega, by omega⟩, ?_⟩
  intro a b lim
  have ins : ∀ {g : Hp}, Sw h g l → lo ≤ a → a ≤ b → b ≤ hi → F91.T l a b g fun r h2 => Q (.tuple ⟨[]⟩) h2 := fun S x y z => insertion S.u (by omega) (by omega) hn (by omega) fun g' S' => hQ g' (S.trans S')
  have hea : ∀ {g : Hp}, Sw h g l → lo ≤ a → a ≤ b → b ≤ hi → F92.T l a b g fun r h2 => Q (.tuple ⟨[]⟩) h2 := fun S x y z => heap_u S.u (by omega) (by omega) hn (by omega) fun g' S' => hQ g' (S.trans S')
  refine ⟨⟨?_, ?_⟩, ⟨?_, ?_⟩⟩
  · rintro g ⟨S, a0, a1, a2⟩
    rw [wr64 (x := b - a) (by omega) (by omega)]
    refine ⟨fun _ => ins S a0 a1 a2, fun hbig => ⟨fun _ => hea S a0 a1 a2, fun _ => ?_⟩⟩
    refine choose_pivot S.u (by omega) (by omega) (by omega) hn fun g1 p hint K1 p0 p1 => ⟨p, hint, rfl, ?_⟩
    have S1 : Sw h g1 l := S.trans ⟨S.u.keep K1, Upd.of_keep K1 l⟩
    clear K1
    refine ⟨fun p _ g => Sw h g l ∧ a ≤ p ∧ p < b, ?_, fun _ => ?_, fun _ => ⟨S1, p0, p1⟩⟩
    · rintro p hint g ⟨S, p0, p1⟩
      refine ⟨fun g => Sw h g l, ?_, ?_⟩
      · intro g S
        refine ⟨fun x g => Sw h g l ∧ x = a, ?_, fun _ => ?_, fun _ => ⟨S, rfl⟩⟩
        · rintro x g ⟨S, rfl⟩
          refine part_u S.u (by omega) (by omega) hn p0 p1 fun g2 m q S2 m0 m1 => ⟨m, q, fun hq => ?_, fun hq => ?_⟩
          all_goals
            subst hq
            refine ⟨rfl, by decide, ?_⟩
            rw [wr64 (x := m - x) (by omega) (by omega), wr64 (x := b - m) (by omega) (by omega), wr64 (x := m + 1) (by omega) (by omega)]
            refine ⟨fun _ => ⟨fun _ => ?_, fun _ => ?_⟩, fun _ => ⟨fun _ => ?_, fun _ => ?_⟩⟩
            · exact hT _ _ _ _ _ S2.u (by omega) (by omega) (by omega) (by omega) fun g3 S3 => ⟨⟨(S.trans S2).trans S3, by omega, by omega, by omega⟩, by dsimp only; omega⟩
            · exact hT _ _ _ _ _ S2.u (by omega) (by omega) (by omega) (by omega) fun g3 S3 => ⟨⟨(S.trans S2).trans S3, by omega, by omega, by omega⟩, by dsimp only; omega⟩
            · exact hT _ _ _ _ _ S2.u (by omega) (by omega) (by omega) (by omega) fun g3 S3 => ⟨⟨(S.trans S2).trans S3, by omega, by omega, by omega⟩, by dsimp only; omega⟩
            · exact hT _ _ _ _ _ S2.u (by omega) (by omega) (by omega) (by omega) fun g3 S3 => ⟨⟨(S.trans S2).trans S3, by omega, by omega, by omega⟩, by dsimp only; omega⟩
        · rw [wr64 (x := a - 1) (by omega) (by omega)]
          refine Us.rd S.u (by omega) (by omega) fun b1 v1 => Us.rd S.u (by omega) (by omega) fun b2 v2 => less_any fun q => ⟨q, rfl, fun _ => ⟨S, rfl⟩, fun _ => ?_⟩
          exact partEq S.u (by omega) (by omega) hn p0 p1 fun g2 m S2 m0 m1 => ⟨m, rfl, ⟨S.trans S2, by omega, by omega, by omega⟩, by dsimp only; omega⟩
      · refine ⟨fun _ => partial_u S.u (by omega) (by omega) hn (by omega) fun g2 q S2 => ⟨q, rfl, fun _ => hQ g2 (S.trans S2), fun _ => S.trans S2⟩, fun _ => S⟩
    · refine reverse_u S1.u (by omega) (by omega) hn (by omega) (by omega) fun g2 S2 => ?_
      rw [wr64 (x := b - 1) (by omega) (by omega), wr64 (x := p - a) (by omega) (by omega), wr64 (x := b - 1 - (p - a)) (by omega) (by omega)]
      exact ⟨S1.trans S2, by omega, by omega⟩
  · rintro g ⟨S, a0, a1, a2⟩
    rw [wr64 (x := b - a) (by omega) (by omega)]
    refine ⟨fun _ => ins S a0 a1 a2, fun hbig => ⟨fun _ => hea S a0 a1 a2, fun _ => ?_⟩⟩
    refine choose_pivot S.u (by omega) (by omega) (by omega) hn fun g1 p hint K1 p0 p1 => ⟨p, hint, rfl, ?_⟩
    have S1 : Sw h g1 l := S.trans ⟨S.u.keep K1, Upd.of_keep K1 l⟩
    clear K1
    refine ⟨fun p _ g => Sw h g l ∧ a ≤ p ∧ p < b, ?_, fun _ => ?_, fun _ => ⟨S1, p0, p1⟩⟩
    · rintro p hint g ⟨S, p0, p1⟩
      refine ⟨fun g => Sw h g l, ?_, ?_⟩
      · intro g S
        refine ⟨fun x g => Sw h g l ∧ x = a, ?_, fun _ => ?_, fun _ => ⟨S, rfl⟩⟩
        · rintro x g ⟨S, rfl⟩
          refine part_u S.u (by omega) (by omega) hn p0 p1 fun g2 m q S2 m0 m1 => ⟨m, q, fun hq => ?_, fun hq => ?_⟩
          all_goals
            subst hq
            refine ⟨rfl, by decide, ?_⟩
            rw [wr64 (x := m - x) (by omega) (by omega), wr64 (x := b - m) (by omega) (by omega), wr64 (x := m + 1) (by omega) (by omega)]
            refine ⟨fun _ => ⟨fun _ => ?_, fun _ => ?_⟩, fun _ => ⟨fun _ => ?_, fun _ => ?_⟩⟩
            · exact hT _ _ _ _ _ S2.u (by omega) (by omega) (by omega) (by omega) fun g3 S3 => ⟨⟨(S.trans S2).trans S3, by omega, by omega, by omega⟩, by dsimp only; omega⟩
            · exact hT _ _ _ _ _ S2.u (by omega) (by omega) (by omega) (by omega) fun g3 S3 => ⟨⟨(S.trans S2).trans S3, by omega, by omega, by omega⟩, by dsimp only; omega⟩
            · exact hT _ _ _ _ _ S2.u (by omega) (by omega) (by omega) (by omega) fun g3 S3 => ⟨⟨(S.trans S2).trans S3, by omega, by omega, by omega⟩, by dsimp only; omega⟩
            · exact hT _ _ _ _ _ S2.u (by omega) (by omega) (by omega) (by omega) fun g3 S3 => ⟨⟨(S.trans S2).trans S3, by omega, by omega, by omega⟩, by dsimp only; omega⟩
        · rw [wr64 (x := a - 1) (by omega) (by omega)]
          refine Us.rd S.u (by omega) (by omega) fun b1 v1 => Us.rd S.u (by omega) (by omega) fun b2 v2 => less_any fun q => ⟨q, rfl, fun _ => ⟨S, rfl⟩, fun _ => ?_⟩
          exact partEq S.u (by omega) (by omega) hn p0 p1 fun g2 m S2 m0 m1 => ⟨m, rfl, ⟨S.trans S2, by omega, by omega, by omega⟩, by dsimp only; omega⟩
      · exact S
    · refine reverse_u S1.u (by omega) (by omega) hn (by omega) (by omega) fun g2 S2 => ?_
      rw [wr64 (x := b - 1) (by omega) (by omega), wr64 (x := p - a) (by omega) (by omega), wr64 (x := b - 1 - (p - a)) (by omega) (by omega)]
      exact ⟨S1.trans S2, by omega, by omega⟩
  · rintro g ⟨S, a0, a1, a2⟩
    rw [wr64 (x := b - a) (by omega) (by omega)]
    refine ⟨fun _ => ins S a0 a1 a2, fun hbig => ⟨fun _ => hea S a0 a1 a2, fun _ => ?_⟩⟩
    refine break_u S.u (by omega) (by omega) hn (by omega) fun g0 S0 => ?_
    replace S := S.trans S0
    clear S0
    refine choose_pivot S.u (by omega) (by omega) (by omega) hn fun g1 p hint K1 p0 p1 => ⟨p, hint, rfl, ?_⟩
    have S1 : Sw h g1 l := S.trans ⟨S.u.keep K1, Upd.of_keep K1 l⟩
    clear K1
    refine ⟨fun p _ g => Sw h g l ∧ a ≤ p ∧ p < b, ?_, fun _ => ?_, fun _ => ⟨S1, p0, p1⟩⟩
    · rintro p hint g ⟨S, p0, p1⟩
      refine ⟨fun g => Sw h g l, ?_, ?_⟩
      · intro g S
        refine ⟨fun x g => Sw h g l ∧ x = a, ?_, fun _ => ?_, fun _ => ⟨S, rfl⟩⟩
        · rintro x g ⟨S, rfl⟩
          refine part_u S.u (by omega) (by omega) hn p0 p1 fun g2 m q S2 m0 m1 => ⟨m, q, fun hq => ?_, fun hq => ?_⟩
          all_goals
            subst hq
            refine ⟨rfl, by decide, ?_⟩
            rw [wr64 (x := m - x) (by omega) (by omega), wr64 (x := b - m) (by omega) (by omega), wr64 (x := m + 1) (by omega) (by omega)]
            refine ⟨fun _ => ⟨fun _ => ?_, fun _ => ?_⟩, fun _ => ⟨fun _ => ?_, fun _ => ?_⟩⟩
            · exact hT _ _ _ _ _ S2.u (by omega) (by omega) (by omega) (by omega) fun g3 S3 => ⟨⟨(S.trans S2).trans S3, by omega, by omega, by omega⟩, by dsimp only; omega⟩
            · exact hT _ _ _ _ _ S2.u (by omega) (by omega) (by omega) (by omega) fun g3 S3 => ⟨⟨(S.trans S2).trans S3, by omega, by omega, by omega⟩, by dsimp only; omega⟩
            · exact hT _ _ _ _ _ S2.u (by omega) (by omega) (by omega) (by omega) fun g3 S3 => ⟨⟨(S.trans S2).trans S3, by omega, by omega, by omega⟩, by dsimp only; omega⟩
            · exact hT _ _ _ _ _ S2.u (by omega) (by omega) (by omega) (by omega) fun g3 S3 => ⟨⟨(S.trans S2).trans S3, by omega, by omega, by omega⟩, by dsimp only; omega⟩
        · rw [wr64 (x := a - 1) (by omega) (by omega)]
          refine Us.rd S.u (by omega) (by omega) fun b1 v1 => Us.rd S.u (by omega) (by omega) fun b2 v2 => less_any fun q => ⟨q, rfl, fun _ => ⟨S, rfl⟩, fun _ => ?_⟩
          exact partEq S.u (by omega) (by omega) hn p0 p1 fun g2 m S2 m0 m1 => ⟨m, rfl, ⟨S.trans S2, by omega, by omega, by omega⟩, by dsimp only; omega⟩
      · exact S
    · refine reverse_u S1.u (by omega) (by omega) hn (by omega) (by omega) fun g2 S2 => ?_
      rw [wr64 (x := b - 1) (by omega) (by omega), wr64 (x := p - a) (by omega) (by omega), wr64 (x := b - 1 - (p - a)) (by omega) (by omega)]
      exact ⟨S1.trans S2, by omega, by omega⟩
  · rintro g ⟨S, a0, a1, a2⟩
    rw [wr64 (x := b - a) (by omega) (by omega)]
    refine ⟨fun _ => ins S a0 a1 a2, fun hbig => ⟨fun _ => hea S a0 a1 a2, fun _ => ?_⟩⟩
    refine break_u S.u (by omega) (by omega) hn (by omega) fun g0 S0 => ?_
    replace S := S.trans S0
    clear S0
    refine choose_pivot S.u (by omega) (by omega) (by omega) hn fun g1 p hint K1 p0 p1 => ⟨p, hint, rfl, ?_⟩
    have S1 : Sw h g1 l := S.trans ⟨S.u.keep K1, Upd.of_keep K1 l⟩
    clear K1
    refine ⟨fun p _ g => Sw h g l ∧ a ≤ p ∧ p < b, ?_, fun _ => ?_, fun _ => ⟨S1, p0, p1⟩⟩
    · rintro p hint g ⟨S, p0, p1⟩
      refine ⟨fun g => Sw h g l, ?_, ?_⟩
      · intro g S
        refine ⟨fun x g => Sw h g l ∧ x = a, ?_, fun _ => ?_, fun _ => ⟨S, rfl⟩⟩
        · rintro x g ⟨S, rfl⟩
          refine part_u S.u (by omega) (by omega) hn p0 p1 fun g2 m q S2 m0 m1 => ⟨m, q, fun hq => ?_, fun hq => ?_⟩
          all_goals
            subst hq
            refine ⟨rfl, by decide, ?_⟩
            rw [wr64 (x := m - x) (by omega) (by omega), wr64 (x := b - m) (by omega) (by omega), wr64 (x := m + 1) (by omega) (by omega)]
            refine ⟨fun _ => ⟨fun _ => ?_, fun _ => ?_⟩, fun _ => ⟨fun _ => ?_, fun _ => ?_⟩⟩
            · exact hT _ _ _ _ _ S2.u (by omega) (by omega) (by omega) (by omega) fun g3 S3 => ⟨⟨(S.trans S2).trans S3, by omega, by omega, by omega⟩, by dsimp only; omega⟩
            · exact hT _ _ _ _ _ S2.u (by omega) (by omega) (by omega) (by omega) fun g3 S3 => ⟨⟨(S.trans S2).trans S3, by omega, by omega, by omega⟩, by dsimp only; omega⟩
            · exact hT _ _ _ _ _ S2.u (by omega) (by omega) (by omega) (by omega) fun g3 S3 => ⟨⟨(S.trans S2).trans S3, by omega, by omega, by omega⟩, by dsimp only; omega⟩
            · exact hT _ _ _ _ _ S2.u (by omega) (by omega) (by omega) (by omega) fun g3 S3 => ⟨⟨(S.trans S2).trans S3, by omega, by omega, by omega⟩, by dsimp only; omega⟩
        · rw [wr64 (x := a - 1) (by omega) (by omega)]
          refine Us.rd S.u (by omega) (by omega) fun b1 v1 => Us.rd S.u (by omega) (by omega) fun b2 v2 => less_any fun q => ⟨q, rfl, fun _ => ⟨S, rfl⟩, fun _ => ?_⟩
          exact partEq S.u (by omega) (by omega) hn p0 p1 fun g2 m S2 m0 m1 => ⟨m, rfl, ⟨S.trans S2, by omega, by omega, by omega⟩, by dsimp only; omega⟩
      · exact S
    · refine reverse_u S1.u (by omega) (by omega) hn (by omega) (by omega) fun g2 S2 => ?_
      rw [wr64 (x := b - 1) (by omega) (by omega), wr64 (x := p - a) (by omega) (by omega), wr64 (x := b - 1 - (p - a)) (by omega) (by omega)]
      exact ⟨S1.trans S2, by omega, by omega⟩
theorem pdq {l : Sl} (hn : l.n ≤ 60000) : ∀ (nf : Nat), SortOk l (F82.TN nf) (nf : Int)
  | 0 => fun lo hi lim h Q U h1 h2 h3 h4 hQ => absurd h4 (by omega)
  | nf + 1 => fun lo hi lim h Q U h1 h2 h3 h4 hQ => pdq_step hn (pdq hn nf) U h1 h2 h3 (by omega) hQ
theorem sort_u {h : Hp} {l : Sl} {Q : Value → Hp → Prop} (U : Us h l) (hn : l.n ≤ 60000) (hQ : ∀ h', Sw h h' l → Q (.tuple ⟨[]⟩) h') : F73.T l h Q := by
  unfold F73.T F73.G
  rw [wrap_u64 (by omega) (by omega)]
  refine bits_len (by omega) fun r => ⟨r, rfl, l.n + 1, ?_⟩
  exact pdq hn (l.n + 1) 0 (l.n : Int) r h _ U (by omega) (by omega) (by omega) (by omega) hQ
end Go.Eng.Ytbjnlacacapjiaa
end
section
set_option maxRecDepth 100000
namespace Go.Eng.Ytbjnlacacapjiaa
theorem VerR.one {h h' : Hp} {b vb : Nat} {es : Array MapEntry} {c : Nat} {lv : Lv} (V : VerR h vb lv) (O : One b h h') (hb : h b = some (.map es c)) : VerR h' vb lv := by
  obtain ⟨ls, xs, h1, h2, h3, h4⟩ := V
  exact ⟨ls, xs, O.keep _ _ (by rintro rfl; rw [hb] at h1; cases h1) h1, O.row hb h2, fun x hx => O.row hb (h3 x hx), h4⟩
theorem Ver.base {g h h' : Hp} {vb : Nat} {ls : Sl} {xs : List (Sl × List Tab)} (K : Keep g h) (V : Ver h h' vb ls xs) : Ver g h' vb ls xs :=
  ⟨⟨K.trans V.L.k, V.L.nl.mono K.dom, V.L.l, V.L.t, fun x hx => (V.L.n x hx).mono K.dom, V.L.d⟩, K.dom _ V.nv, V.v⟩
structure SetA (g h : Hp) (sb vb pm cm : Nat) (ps ls : Sl) (xs : List (Sl × List Tab)) (ptrs : List ByteArray) : Prop where
  V : Ver g h vb ls xs
  ns : g sb = none
  s : h sb = some (.cells ⟨[.pointer (some ⟨vb, 0, none⟩), .map (some pm), .slice ps.a ps.n ps.c, .map (some cm)]⟩ 89 (0, 0))
  np : NewN g ps
  p : Buf h ps 1 9 (ptrV ptrs)
  m : ∃ c, h pm = some (.map #[] c)
  nc : g cm = none
  c : ∃ es c, h cm = some (.map es c) ∧ U64s es
  ne : pm ≠ cm
def DA (sb cm : Nat) (ps : Sl) (k : Nat) : Prop := k = sb ∨ k = cm ∨ ps.a = some ⟨k, 0, none⟩
structure Chg (D : Nat → Prop) (h h' : Hp) : Prop where
  keep : ∀ k x, ¬ D k → h k = some x → h' k = some x
  dom : ∀ k, h' k = none → h k = none
theorem Chg.trans {D : Nat → Prop} {a b c : Hp} (x : Chg D a b) (y : Chg D b c) : Chg D a c := ⟨fun k o n e => y.keep k o n (x.keep k o n e), fun k e => x.dom k (y.dom k e)⟩
theorem Chg.of_keep {D : Nat → Prop} {a b : Hp} (k : Keep a b) : Chg D a b := ⟨fun i x _ e => k i x e, k.dom⟩
theorem Chg.one {D : Nat → Prop} {b : Nat} {h h' : Hp} (O : One b h h') (hb : D b) : Chg D h h' := ⟨fun k x n e => O.keep k x (by rintro rfl; exact n hb) e, O.dom⟩
theorem Chg.upd {D : Nat → Prop} {h h' : Hp} {s s' : Sl} (U : Upd h h' s s') (hb : ∀ k o, s.a = some ⟨k, o, none⟩ → D k) : Chg D h h' := ⟨fun k x n e => U.keep k x (fun o hs => n (hb k o hs)) e, U.dom⟩
section
variable {g h h' : Hp} {sb vb pm cm : Nat} {ps ls : Sl} {xs : List (Sl × List Tab)} {ptrs : List ByteArray}
theorem SetA.keep (S : SetA g h sb vb pm cm ps ls xs ptrs) (K : Keep h h') : SetA g h' sb vb pm cm ps ls xs ptrs := by
  obtain ⟨c, hc⟩ := S.m
  obtain ⟨es, c2, h2, h3⟩ := S.c
  exact ⟨S.V.keep K, S.ns, K _ _ S.s, S.np, S.p.keep K, ⟨c, K _ _ hc⟩, S.nc, ⟨es, c2, K _ _ h2, h3⟩, S.ne⟩
theorem gone_spec {vb2 : Nat} {lv2 : Lv} {Q : Value → Hp → Prop} (S : SetA g h sb vb pm cm ps ls xs ptrs) (V2 : VerR h vb2 lv2) (hs : totL (xs.map (·.2)) ≤ 60000) (h5 : xs.length ≤ 5) (hs2 : totL lv2 ≤ 60000) (h52 : lv2.length ≤ 5)
    (hQ : ∀ h' (l : Sl), One cm h h' → (∃ es c, h' cm = some (.map es c) ∧ U64s es) → Q (.slice l.a l.n l.c) h') : F43.T (some ⟨sb, 0, none⟩) (some ⟨vb2, 0, none⟩) h Q := by
  obtain ⟨es, c, hc, hu⟩ := S.c
  obtain ⟨c1, hm⟩ := S.m
  refine ⟨sb, 0, rfl, some cm, at_of S.s 3, es, c, hc, sb, 0, rfl, ?_⟩
  show ∃ p2, (h.new cm (.map #[] c)).at sb 0 = _ ∧ _
  have O1 : One cm h (h.new cm (.map #[] c)) := One.new _ (by rw [hc]; simp)
  have hsc : sb ≠ cm := ne_kd S.s hc (by simp [kd])
  have hs1 := O1.keep _ _ hsc S.s
  refine ⟨some ⟨vb, 0, none⟩, at_of hs1 0, sb, 0, rfl, some cm, at_of hs1 3, ?_⟩
  have hc1 := new_at h cm (.map #[] c)
  refine counted_spec (S.V.r.one O1 hc) (Mp.new h cm c) (fun k => ⟨Int.le_refl _, by omega⟩) hs (by rw [List.length_map]; exact h5) fun h2 M2 O2 => ?_
  have O12 := O1.trans O2
  have hs2' := O12.keep _ _ hsc S.s
  have hm2 := O12.keep _ _ S.ne hm
  refine ⟨sb, 0, rfl, some pm, at_of hs2' 1, #[], c1, hm2, fun b4 hb4 => ?_⟩
  have K3 := Keep.new hb4 (.mapIter (some pm) c1 #[] c1)
  have hi := new_at h2 b4 (.mapIter (some pm) c1 #[] c1)
  have V3 := (V2.one O12 hc).keep K3
  have M3 := Mp.keep K3 M2
  have hs3 := K3 _ _ hs2'
  have hm3 := K3 _ _ hm2
  have O3 : One cm h (h2.new b4 (.mapIter (some pm) c1 #[] c1)) := O12.trans ⟨fun k x _ e => K3 k x e, K3.dom⟩
  generalize h2.new b4 (.mapIter (some pm) c1 #[] c1) = h3 at hi V3 M3 hs3 hm3 O3 ⊢
  clear K3 hs2' hm2 M2
  refine ⟨fun hh => hh = h3, fun _ => 0, rfl, ?_⟩
  intro hh e
  have e' := e.symm
  subst e'
  refine ⟨b4, some pm, c1, #[], c1, #[], c1, rfl, hi, hm3, rfl, fun e he => by simp at he, fun _ => ?_⟩
  obtain ⟨ls2, xs2, v1, v2, v3, rfl⟩ := V3
  have hn2 : ls2.n = xs2.length := by have := v2.1; rw [slV_length, List.length_map] at this; omega
  rw [List.length_map] at h52
  refine ⟨vb2, 0, rfl, ls2, at_of v1 0, fun l1 n1 h4 => ∃ P R vs, xs2 = P ++ R ∧ n1 = (P.length : Int) ∧ Buf h4 l1 1 33 (uvs vs) ∧ NewN h3 l1 ∧ Keep h3 h4 ∧ vs.length ≤ totL (P.map (·.2)), fun _ n1 _ => xs2.length - n1.toNat, ⟨[], xs2, [], rfl, rfl, Buf.nil _ _ _, .inl rfl, Keep.refl _, Nat.zero_le _⟩, ?_⟩
  rintro l1 n1 h4 ⟨P, R, vs, rfl, rfl, B4, N4, K4, hv4⟩
  rw [List.length_append] at hn2 h52
  have htot : totL (P.map (·.2)) + totL (R.map (·.2)) ≤ 60000 := by
    unfold totL at hs2 ⊢
    rw [List.map_append, List.map_append, List.sum_append] at hs2
    exact hs2
  refine ⟨fun hlt => ?_, fun hge => ?_⟩
  · rcases R with _ | ⟨x, R⟩
    · exact absurd hlt (by simp at hn2; omega)
    rw [List.length_cons] at hn2 h52
    obtain ⟨_, b1, o1, ha1, hat1⟩ := rows_rd (K4.row v2) (i := P.length) (x := x) (by simp)
    have htx := v3 x (by simp)
    have hxn : x.1.n = x.2.length := by have := htx.1; rw [tabV_len] at this; omega
    have hxt : totL ((x :: R).map (·.2)) = x.2.length + totL (R.map (·.2)) := by simp [totL]
    refine ⟨b1, o1, ha1, ⟨by omega, hlt⟩, x.1, by rw [Int.toNat_natCast]; exact hat1, fun l3 n2 h5 => ∃ A B vs, x.2 = A ++ B ∧ n2 = (A.length : Int) ∧ Buf h5 l3 1 33 (uvs vs) ∧ NewN h3 l3 ∧ Keep h3 h5 ∧ vs.length ≤ totL (P.map (·.2)) + A.length, fun _ n2 _ => x.2.length - n2.toNat, ⟨[], x.2, vs, rfl, rfl, B4, N4, K4, by simpa using hv4⟩, ?_⟩
    rintro l3 n2 h5 ⟨A, B, vs5, eAB, rfl, B5, N5, K5, hv5⟩
    refine ⟨fun hlt1 => ?_, fun hge1 => ?_⟩
    · rcases B with _ | ⟨t, B⟩
      · exact absurd hlt1 (by rw [hxn, eAB]; simp)
      rw [eAB] at htx
      have eL : x.2.length = A.length + (B.length + 1) := by rw [eAB, List.length_append, List.length_cons]
      refine tab_rd (K5.row htx) rfl fun b2 o2 => ?_
      refine ⟨sb, 0, rfl, some cm, at_of (K5 _ _ hs3) 3, ?_⟩
      refine Mp.get (Mp.keep K5 M3) t.num fun es4 c4 => ⟨fun _ => ?_, fun _ => ?_⟩
      · have h5n : l3.n = vs5.length := by have := B5.len; rw [uvs_len] at this; omega
        refine append_buf B5 rfl rfl (by omega) fun l4 h6 B6 hl6 U6 => ?_
        obtain ⟨K6, N6⟩ := N5.upd K5 U6
        rw [next_i (n := 70000) (by omega) (by omega)]
        refine ⟨⟨A ++ [t], B, vs5 ++ [t.num], by rw [eAB]; simp, by simp, by unfold uvs at B6 ⊢; rw [List.map_append]; exact B6, N6, K6, by simp only [List.length_append, List.length_singleton]; omega⟩, by (try dsimp only); rw [eL]; omega⟩
      · rw [next_i (n := 70000) (by omega) (by omega)]
        refine ⟨⟨A ++ [t], B, vs5, by rw [eAB]; simp, by simp, B5, N5, K5, by simp only [List.length_append, List.length_singleton]; omega⟩, by (try dsimp only); rw [eL]; omega⟩
    · have hB : B = [] := List.eq_nil_of_length_eq_zero (by have := congrArg List.length eAB; rw [List.length_append] at this; omega)
      subst hB
      rw [List.append_nil] at eAB
      rw [next_i (n := 100) (by omega) (by omega)]
      refine ⟨⟨P ++ [x], R, vs5, by simp, by simp, B5, N5, K5, ?_⟩, by (try dsimp only); rw [List.length_append, List.length_cons]; omega⟩
      have : totL ((P ++ [x]).map (·.2)) = totL (P.map (·.2)) + x.2.length := by simp [totL]
      rw [this, eAB]; exact hv5
  · have h4n : l1.n = vs.length := by have := B4.len; rw [uvs_len] at this; omega
    refine sort_u ⟨vs, B4⟩ (by omega) fun h7 S7 => ?_
    obtain ⟨K7, N7⟩ := N4.upd K4 S7.up
    obtain ⟨es7, c7, e7, u7, _⟩ := Mp.keep K7 M3
    exact hQ h7 l1 (O3.trans ⟨fun k x _ e => K7 k x e, K7.dom⟩) ⟨es7, c7, e7, u7⟩
end
end Go.Eng.Ytbjnlacacapjiaa
end
section
set_option maxRecDepth 100000
namespace Go.Eng.Ytbjnlacacapjiaa
theorem ptrV_length (l : List ByteArray) : (ptrV l).length = l.length := List.length_map _
theorem ptr_one (l : List ByteArray) : ∀ v ∈ ptrV l, Value.oneCell' v = true := fun v hv => by
  unfold ptrV at hv
  obtain ⟨s, _, rfl⟩ := List.mem_map.1 hv
  rfl
theorem apply_spec {g h : Hp} {sb vb pm cm : Nat} {ps ls l l1 l2 : Sl} {xs : List (Sl × List Tab)} {ptrs : List ByteArray} {e : Edit} {a b c : Int} {Q : Value → Hp → Prop}
    (S : SetA g h sb vb pm cm ps ls xs ptrs) (E : EdAt g e l l1 l2) (hp : ptrs.length = xs.length) (h1 : 1 ≤ xs.length) (h5 : xs.length ≤ 5) (hs : totL (xs.map (·.2)) + e.inn.length ≤ 50000) (ho : e.out.length ≤ 50000)
    (hQ : ∀ h' c (r : Sl) vb' ls' xs' ptrs', Chg (DA sb cm ps) h h' → SetA g h' sb vb' pm cm ps ls' xs' ptrs' → Res (xs.map (·.2)) e c (xs'.map (·.2)) → (c = 0 → ptrs' = e.ptr) → (c ≠ 0 → xs' = xs ∧ ptrs' = ptrs) → Q (.tuple ⟨[.slice r.a r.n r.c, .int .i64 c]⟩) h') : F13.T (some ⟨sb, 0, none⟩) a b c l l1 l2 h Q := by
  have Eh := E.keep S.V.L.k
  have hl2 : l2.n = e.ptr.length := by have := E.ptr.1; rw [ptrV_length] at this; omega
  have hln := S.V.L.len
  refine ⟨sb, 0, rfl, some ⟨vb, 0, none⟩, at_of S.s 0, vb, 0, rfl, ls, at_of S.V.v 0, fun hlen => ?_, fun hlen => ?_⟩
  · have hpl : e.ptr.length = (xs.map (·.2)).length := by rw [List.length_map]; omega
    refine ⟨sb, 0, rfl, some ⟨vb, 0, none⟩, at_of S.s 0, ?_⟩
    refine copied_ver S.V.r (by rw [List.length_map]; exact h5) (by omega) fun h1 vb1 ls1 xs1 V1 e1 => ⟨some ⟨vb1, 0, none⟩, rfl, ?_⟩
    have hx1l : xs1.length = xs.length := by have := congrArg List.length e1; simpa using this
    refine out_spec V1 Eh.out (by rw [e1]; omega) (by omega) fun h2 xs2 V2 C2 e2 => ⟨_, rfl, fun hc => ?_, fun hc => ?_⟩
    · rw [e1] at hc e2
      have so := outM_sum e.out (xs.map (·.2))
      have hx2l : xs2.length = xs.length := by have := congrArg List.length e2; rw [List.length_map, so.2.1, List.length_map] at this; exact this
      refine in_spec V2 Eh.inn (by rw [e2]; omega) (by omega) (by omega) fun h3 c3 xs3 V3 C3 r3 => ⟨c3, rfl, fun hc3 => ?_, fun hc3 => ?_⟩
      · subst hc3
        have S3 := S.keep V3.L.k
        have V3g := V3.base S.V.L.k
        have hR : Res (xs.map (·.2)) e 0 (xs3.map (·.2)) := by
          unfold Res
          rw [if_pos hpl, if_pos hc]
          unfold InR at r3
          rw [e2] at r3
          exact r3
        refine ⟨sb, 0, rfl, some ⟨vb, 0, none⟩, at_of S3.s 0, sb, 0, rfl, canW_new S3.s (by simp), sb, 0, rfl, ?_⟩
        have C4 : Ck [91] h3 (h3.wr sb 0 [.pointer (some ⟨vb1, 0, none⟩)]) := Ck.wr S3.s
        have K4 : Keep g (h3.wr sb 0 [.pointer (some ⟨vb1, 0, none⟩)]) := V3g.L.k.wr S.ns _ _
        have s4 := wr_at (o := 0) (vs := [.pointer (some ⟨vb1, 0, none⟩)]) S3.s
        have Cg4 : Chg (DA sb cm ps) h (h3.wr sb 0 [.pointer (some ⟨vb1, 0, none⟩)]) := by
          refine (Chg.of_keep V3.L.k).trans ⟨fun k x n ek => ?_, C4.dom⟩
          unfold Hp.wr
          rw [if_neg (fun hk => n (.inl hk))]; exact ek
        have V4 := V3g.ck C4 K4 (by decide) (by decide) (by decide)
        have Vo4 := S3.V.ck C4 K4 (by decide) (by decide) (by decide)
        have p4 := C4.buf (by decide) S3.p
        obtain ⟨cp, hcp⟩ := S3.m
        have m4 := C4.keep _ _ hcp (by simp [kd])
        obtain ⟨es, ce, hce, hue⟩ := S3.c
        have c4 := C4.keep _ _ hce (by simp [kd])
        clear C4
        generalize h3.wr sb 0 [.pointer (some ⟨vb1, 0, none⟩)] = h4 at K4 s4 Cg4 V4 Vo4 p4 m4 c4 ⊢
        have hpn : ps.n = ptrs.length := by have := p4.len; rw [ptrV_length] at this; omega
        have hmin : Nat.min l2.n ps.n = l2.n := Nat.min_eq_left (by omega)
        refine ⟨ps, at_of s4 2, ptrV e.ptr, ?_⟩
        rw [hmin, Nat.mul_one]
        obtain ⟨bp, hbp⟩ := buf_b p4 (by rw [ptrV_length]; omega)
        obtain ⟨w5, U5, B5⟩ := bufWr' (A := []) (U := ptrV ptrs) (V := ptrV e.ptr) (B := []) (by rw [List.nil_append, List.append_nil]; exact p4) (by rw [ptrV_length, ptrV_length]; omega) hbp
        simp only [List.nil_append, List.append_nil, List.length_nil] at w5 U5 B5
        rw [← hbp] at w5 U5 B5
        refine ⟨K4.row E.ptr, ptr_one _, w5, ?_⟩
        have C5 : Ck [11] h4 (h4.wrA ps.a (ptrV e.ptr)) := Ck.of_upd p4 U5
        have K5 := (S.np.upd K4 U5).1
        have S5 : SetA g (h4.wrA ps.a (ptrV e.ptr)) sb vb1 pm cm ps ls1 xs3 e.ptr := ⟨V4.ck C5 K5 (by decide) (by decide) (by decide), S.ns, C5.keep _ _ s4 (show 91 ∉ [11] by decide), S.np, B5, ⟨cp, C5.keep _ _ m4 (show 0 ∉ [11] by decide)⟩, S.nc, ⟨es, ce, C5.keep _ _ c4 (show 0 ∉ [11] by decide), hue⟩, S.ne⟩
        have Vo5 := Vo4.ck C5 K5 (by decide) (by decide) (by decide)
        have Cg5 : Chg (DA sb cm ps) h (h4.wrA ps.a (ptrV e.ptr)) := Cg4.trans (Chg.upd U5 fun k o hk => .inr (.inr (by rw [hbp] at hk ⊢; simp only [Option.some.injEq, Addr.mk.injEq, and_true] at hk; rw [hk.1])))
        obtain ⟨_, l2', hS, hT2, hl2', _⟩ := hR.ok
        have t3 : totL (xs3.map (·.2)) ≤ 60000 := by rw [hS.totL]; omega
        have n3 : xs3.length = xs.length := by have := hS.1; rw [List.length_map, hl2', List.length_map] at this; exact this
        refine gone_spec S5 Vo5.r t3 (by omega) (by omega) (by rw [List.length_map]; exact h5) fun h6 r O6 c6 => ⟨r, rfl, ?_⟩
        obtain ⟨es5, ce5, hce5, _⟩ := S5.c
        have K6 := K5.one O6 S.nc
        have S6 : SetA g h6 sb vb1 pm cm ps ls1 xs3 e.ptr := by
          obtain ⟨cp5, hcp5⟩ := S5.m
          have C6 := O6.ck hce5
          exact ⟨S5.V.ck C6 K6 (by simp [kd]) (by simp [kd]) (by simp [kd]), S.ns, O6.keep _ _ (ne_kd S5.s hce5 (by simp [kd])) S5.s, S.np, C6.buf (by simp [kd]) S5.p, ⟨cp5, O6.keep _ _ S.ne hcp5⟩, S.nc, c6, S.ne⟩
        exact hQ h6 0 r vb1 ls1 xs3 e.ptr (Cg5.trans (Chg.one O6 (.inr (.inl rfl)))) S6 hR (fun _ => rfl) (fun h0 => absurd rfl h0)
      · refine hQ h3 c3 ⟨none, 0, 0⟩ vb ls xs ptrs (Chg.of_keep V3.L.k) (S.keep V3.L.k) ?_ (fun h0 => absurd h0 hc3) (fun _ => ⟨rfl, rfl⟩)
        unfold Res
        rw [if_pos hpl, if_pos hc]
        unfold InR at r3
        rw [e2] at r3
        split
        · next h0 =>
          rw [if_pos h0] at r3
          exact r3.imp id fun k => absurd k.1 hc3
        · next h0 => rw [if_neg h0] at r3; exact r3
    · rw [e1] at hc
      rw [e1]
      refine hQ h2 _ ⟨none, 0, 0⟩ vb ls xs ptrs (Chg.of_keep V2.L.k) (S.keep V2.L.k) ?_ (fun h0 => absurd h0 hc) (fun _ => ⟨rfl, rfl⟩)
      unfold Res
      rw [if_pos hpl, if_neg hc]
  · refine hQ h 133 ⟨none, 0, 0⟩ vb ls xs ptrs (Chg.of_keep (Keep.refl h)) S ?_ (fun h0 => absurd h0 (by decide)) (fun _ => ⟨rfl, rfl⟩)
    unfold Res
    rw [if_neg (by rw [List.length_map]; omega)]
theorem new_spec {h : Hp} {n : Int} {k : Nat} {Q : Value → Hp → Prop} (hk : n = (k : Int)) (k1 : 1 ≤ k) (k5 : k ≤ 5)
    (hQ : ∀ h' sb vb pm cm ps ls xs, SetA h h' sb vb pm cm ps ls xs (List.replicate k ⟨#[]⟩) → xs.map (·.2) = List.replicate k [] → Q (.pointer (some ⟨sb, 0, none⟩)) h') : F10.T n h Q := by
  subst hk
  have hm : iMin (iMax (k : Int) 1) 5 = (k : Int) := by
    unfold iMin iMax
    by_cases h1 : (k : Int) < 1
    · omega
    · rw [if_neg h1]
      by_cases h5 : 5 < (k : Int)
      · omega
      · rw [if_neg h5]
  unfold F10.T
  rw [hm]
  simp only [Int.toNat_natCast]
  refine ⟨⟨by omega, by omega, by omega⟩, ⟨by omega, by omega, by omega⟩, ⟨by omega, by omega, by omega⟩, fun b hb => ⟨⟨by omega, by omega, by omega⟩, fun b1 hb1 => ⟨⟨by omega, by omega, by omega⟩, fun b2 hb2 => ⟨⟨by omega, by omega, by omega⟩, ⟨by omega, by omega, by omega⟩, fun b3 hb3 b4 hb4 b5 hb5 => ?_⟩⟩⟩⟩
  have K0 := Keep.new hb (.cells (Builtin.zeroCells (List.toArray [.slice none 0 0]) k) 66 (0, 0))
  have B0 := buf_make h b k 66 [.slice none 0 0] (by decide)
  rw [zerosV_one] at B0
  generalize h.new b (.cells (Builtin.zeroCells (List.toArray [.slice none 0 0]) k) 66 (0, 0)) = g0 at *
  have K1 := Keep.new hb1 (.cells ⟨[.slice (some ⟨b, 0, none⟩) k k]⟩ 85 (0, 0))
  have x1 := new_at g0 b1 (.cells ⟨[.slice (some ⟨b, 0, none⟩) k k]⟩ 85 (0, 0))
  generalize g0.new b1 (.cells ⟨[.slice (some ⟨b, 0, none⟩) k k]⟩ 85 (0, 0)) = g1 at *
  have K2 := Keep.new hb2 (.map #[] 0)
  have x2 := new_at g1 b2 (.map #[] 0)
  generalize g1.new b2 (.map #[] 0) = g2 at *
  have K3 := Keep.new hb3 (.cells (Builtin.zeroCells (List.toArray [.string (ByteArray.mk #[])]) k) 9 (0, 0))
  have B3 := buf_make g2 b3 k 9 [.string (ByteArray.mk #[])] (by decide)
  rw [zerosV_one] at B3
  generalize g2.new b3 (.cells (Builtin.zeroCells (List.toArray [.string (ByteArray.mk #[])]) k) 9 (0, 0)) = g3 at *
  have K4 := Keep.new hb4 (.map #[] 0)
  have x4 := new_at g3 b4 (.map #[] 0)
  generalize g3.new b4 (.map #[] 0) = g4 at *
  have K5 := Keep.new hb5 (.cells ⟨[.pointer (some ⟨b1, 0, none⟩), .map (some b2), .slice (some ⟨b3, 0, none⟩) k k, .map (some b4)]⟩ 89 (0, 0))
  have x5 := new_at g4 b5 (.cells ⟨[.pointer (some ⟨b1, 0, none⟩), .map (some b2), .slice (some ⟨b3, 0, none⟩) k k, .map (some b4)]⟩ 89 (0, 0))
  generalize g4.new b5 (.cells ⟨[.pointer (some ⟨b1, 0, none⟩), .map (some b2), .slice (some ⟨b3, 0, none⟩) k k, .map (some b4)]⟩ 89 (0, 0)) = g5 at *
  have K15 := ((K2.trans K3).trans K4).trans K5
  have Kall := (K0.trans K1).trans K15
  have d1 := K0.dom
  have d2 := (K0.trans K1).dom
  have d3 := ((K0.trans K1).trans K2).dom
  have d4 := (((K0.trans K1).trans K2).trans K3).dom
  have d5 := ((((K0.trans K1).trans K2).trans K3).trans K4).dom
  have hmem : ∀ x ∈ List.replicate k ((⟨none, 0, 0⟩ : Sl), ([] : List Tab)), x = ((⟨none, 0, 0⟩ : Sl), ([] : List Tab)) := fun x hx => (List.mem_replicate.1 hx).2
  refine hQ g5 b5 b1 b2 b4 ⟨some ⟨b3, 0, none⟩, k, k⟩ ⟨some ⟨b, 0, none⟩, k, k⟩ (List.replicate k (⟨none, 0, 0⟩, [])) ⟨⟨⟨Kall, .inr ⟨b, rfl, hb⟩, ?_, fun x hx => by rw [hmem x hx]; exact Buf.nil _ _ _, fun x hx => by rw [hmem x hx]; exact .inl rfl, fun i j x y hx _ _ => by rw [hmem x (List.mem_of_getElem? hx)]; exact off_nil (.inl rfl)⟩, d1 _ hb1, K15 _ _ x1⟩, d5 _ hb5, x5, .inr ⟨b3, rfl, d3 _ hb3⟩, ?_, ⟨0, ((K3.trans K4).trans K5) _ _ x2⟩, d4 _ hb4, ⟨#[], 0, K5 _ _ x4, fun e he => by simp at he⟩, ?_⟩ (by simp)
  · have : slV ((List.replicate k ((⟨none, 0, 0⟩ : Sl), ([] : List Tab))).map (·.1)) = List.replicate k (.slice none 0 0) := by simp [slV]
    rw [this]
    exact (B0.keep K1).keep K15
  · have : ptrV (List.replicate k (⟨#[]⟩ : ByteArray)) = List.replicate k (.string ⟨#[]⟩) := by simp [ptrV]
    rw [this]
    exact B3.keep (K4.trans K5)
  · exact ne_of (K3 _ _ x2) hb4
end Go.Eng.Ytbjnlacacapjiaa
end
section
set_option maxRecDepth 100000
namespace Go.Eng.Ytbjnlacacapjiaa
theorem row_one {h : Hp} {s : Sl} {t : Nat} {vs : List Value} (B : Buf h s 1 t vs) : h.row s.a s.n vs := by have := B.row; rwa [Nat.mul_one] at this
section
variable {g h : Hp} {sb vb pm cm : Nat} {ps ls : Sl} {xs : List (Sl × List Tab)} {ptrs : List ByteArray} {Q : Value → Hp → Prop}
theorem current_spec (S : SetA g h sb vb pm cm ps ls xs ptrs) (hQ : Q (.pointer (some ⟨vb, 0, none⟩)) h) : F11.T (some ⟨sb, 0, none⟩) h Q := ⟨sb, 0, rfl, some ⟨vb, 0, none⟩, at_of S.s 0, hQ⟩
theorem levels_spec (V : Ver g h vb ls xs) (hQ : Q (.int .i64 (xs.length : Int)) h) : F45.T (some ⟨vb, 0, none⟩) h Q := ⟨vb, 0, rfl, ls, at_of V.v 0, by rw [V.L.len]; exact hQ⟩
end
def plc (i : Int) (t : Tab) : Placed := ⟨i, t.num, t.weight, t.bytes, t.entries, t.least, t.greatest⟩
def wholeM : Nat → Lv → List Placed
  | _, [] => []
  | i, l :: lv => l.map (plc i) ++ wholeM (i + 1) lv
end Go.Eng.Ytbjnlacacapjiaa
end
section
set_option maxRecDepth 100000
open Go.Proofs
namespace Go.Eng.Ytbjnlacacapjiaa
@[reducible] def F58.G (T45 : Option Addr → PT) (n n1 : Int) (n2 n3 : Int) (n4 n5 : Int) (n6 n7 : Int) (n8 n9 : Int) (n10 n11 : Int) (n12 n13 : Int) (n14 n15 : Int) (n16 n17 : Int) (n18 n19 : Int) (n20 n21 : Int) (n22 n23 : Int) (n24 n25 n26 : Int) (p : Option Addr) : PT := fun h Q =>
  T45 p h fun r h1 => ∃ n27 : Int, r = .int .i64 n27 ∧ Q (.int .i64 (IntKind.wrap .i64 ((iMin n8 n27) - 1))) h1
def F58.T (n n1 : Int) (n2 n3 : Int) (n4 n5 : Int) (n6 n7 : Int) (n8 n9 : Int) (n10 n11 : Int) (n12 n13 : Int) (n14 n15 : Int) (n16 n17 : Int) (n18 n19 : Int) (n20 n21 : Int) (n22 n23 : Int) (n24 n25 n26 : Int) (p : Option Addr) : PT := F58.G F45.T n n1 n2 n3 n4 n5 n6 n7 n8 n9 n10 n11 n12 n13 n14 n15 n16 n17 n18 n19 n20 n21 n22 n23 n24 n25 n26 p
theorem F58.gen (V : Value → List Value → PT) (T45 : Option Addr → PT) (n n1 : Int) (n2 n3 : Int) (n4 n5 : Int) (n6 n7 : Int) (n8 n9 : Int) (n10 n11 : Int) (n12 n13 : Int) (n14 n15 : Int) (n16 n17 : Int) (n18 n19 : Int) (n20 n21 : Int) (n22 n23 : Int) (n24 n25 n26 : Int) (p : Option Addr) : denF Try.prog [2] [(45, F45.W T45)] V [(6, .order [0, 1, 2, 3, 4, 5, 6])] Try.f58 [.v (.agg ⟨[.int .i64 n, .int .i64 n1, .int .i64 n2, .int .i64 n3, .int .i64 n4, .int .i64 n5, .int .i64 n6, .int .i64 n7, .int .i64 n8, .int .i64 n9, .int .i64 n10, .int .i64 n11, .int .i64 n12, .int .i64 n13, .int .i64 n14, .int .i64 n15, .int .i64 n16, .int .i64 n17, .int .i64 n18, .int .i64 n19, .int .i64 n20, .int .i64 n21, .int .i64 n22, .int .i64 n23, .int .i64 n24, .int .i64 n25, .int .i64 n26]⟩), .v (.pointer p)] = F58.G T45 n n1 n2 n3 n4 n5 n6 n7 n8 n9 n10 n11 n12 n13 n14 n15 n16 n17 n18 n19 n20 n21 n22 n23 n24 n25 n26 p := by kernel_rfl
theorem F58.den (V : Value → List Value → PT) (n n1 : Int) (n2 n3 : Int) (n4 n5 : Int) (n6 n7 : Int) (n8 n9 : Int) (n10 n11 : Int) (n12 n13 : Int) (n14 n15 : Int) (n16 n17 : Int) (n18 n19 : Int) (n20 n21 : Int) (n22 n23 : Int) (n24 n25 n26 : Int) (p : Option Addr) : denF Try.prog [2] [(45, F45.V)] V [(6, .order [0, 1, 2, 3, 4, 5, 6])] Try.f58 [.v (.agg ⟨[.int .i64 n, .int .i64 n1, .int .i64 n2, .int .i64 n3, .int .i64 n4, .int .i64 n5, .int .i64 n6, .int .i64 n7, .int .i64 n8, .int .i64 n9, .int .i64 n10, .int .i64 n11, .int .i64 n12, .int .i64 n13, .int .i64 n14, .int .i64 n15, .int .i64 n16, .int .i64 n17, .int .i64 n18, .int .i64 n19, .int .i64 n20, .int .i64 n21, .int .i64 n22, .int .i64 n23, .int .i64 n24, .int .i64 n25, .int .i64 n26]⟩), .v (.pointer p)] = F58.T n n1 n2 n3 n4 n5 n6 n7 n8 n9 n10 n11 n12 n13 n14 n15 n16 n17 n18 n19 n20 n21 n22 n23 n24 n25 n26 p := F58.gen V F45.T n n1 n2 n3 n4 n5 n6 n7 n8 n9 n10 n11 n12 n13 n14 n15 n16 n17 n18 n19 n20 n21 n22 n23 n24 n25 n26 p
def F58.W (T58 : Int → Int → Int → Int → Int → Int → Int → Int → Int → Int → Int → Int → Int → Int → Int → Int → Int → Int → Int → Int → Int → Int → Int → Int → Int → Int → Int → Option Addr → PT) (args : List Value) : PT := match args with
  | [.agg ⟨[.int .i64 n, .int .i64 n1, .int .i64 n2, .int .i64 n3, .int .i64 n4, .int .i64 n5, .int .i64 n6, .int .i64 n7, .int .i64 n8, .int .i64 n9, .int .i64 n10, .int .i64 n11, .int .i64 n12, .int .i64 n13, .int .i64 n14, .int .i64 n15, .int .i64 n16, .int .i64 n17, .int .i64 n18, .int .i64 n19, .int .i64 n20, .int .i64 n21, .int .i64 n22, .int .i64 n23, .int .i64 n24, .int .i64 n25, .int .i64 n26]⟩, .pointer p] => T58 n n1 n2 n3 n4 n5 n6 n7 n8 n9 n10 n11 n12 n13 n14 n15 n16 n17 n18 n19 n20 n21 n22 n23 n24 n25 n26 p
  | _ => fun _ _ => False
def F58.V : List Value → PT := F58.W F58.T
theorem F58.ok : FOk Try.prog 58 F58.V := by
  refine ⟨⟨_, Try.func58, rfl, rfl⟩, fun args => ?_⟩
  have hG : GOk Try.prog [(45, F45.V)] := GOk.cons F45.ok (GOk.nil)
  have hV : VOk Try.prog noV := noV_ok
  unfold F58.V F58.W
  split
  · exact denF_okV hG hV Try.func58 (fun h Q hq => (F58.den _ _ _ _ _ _ _ _ _ _ _ _ _ _ _ _ _ _ _ _ _ _ _ _ _ _ _ _ _) ▸ hq)
  · exact fun h Q hq => hq.elim
def F59.T (n n1 : Int) : PT := fun h Q =>
  par (n1 = 0) (Q (.int .i64 0) h) (n1 ≠ 0 ∧ Q (.int .i64 (IntKind.wrap .i64 (Int.tdiv (IntKind.wrap .i64 (1000 * n)) n1))) h)
theorem F59.den (V : Value → List Value → PT) (n n1 : Int) : denF Try.prog [] [] V [] Try.f59 [.v (.int .i64 n), .v (.int .i64 n1)] = F59.T n n1 := by kernel_rfl
def F59.W (T59 : Int → Int → PT) (args : List Value) : PT := match args with
  | [.int .i64 n, .int .i64 n1] => T59 n n1
  | _ => fun _ _ => False
def F59.V : List Value → PT := F59.W F59.T
theorem F59.ok : FOk Try.prog 59 F59.V := by
  refine ⟨⟨_, Try.func59, rfl, rfl⟩, fun args => ?_⟩
  have hG : GOk Try.prog [] := GOk.nil
  have hV : VOk Try.prog noV := noV_ok
  unfold F59.V F59.W
  split
  · exact denF_okV hG hV Try.func59 (fun h Q hq => (F59.den _ _ _) ▸ hq)
  · exact fun h Q hq => hq.elim
@[reducible] def F26.G (T27 : Option Addr → Int → PT) (T46 : Option Addr → Int → PT) (T58 : Int → Int → Int → Int → Int → Int → Int → Int → Int → Int → Int → Int → Int → Int → Int → Int → Int → Int → Int → Int → Int → Int → Int → Int → Int → Int → Int → Option Addr → PT) (T59 : Int → Int → PT) (n n1 : Int) (n2 n3 : Int) (n4 n5 : Int) (n6 n7 : Int) (n8 n9 : Int) (n10 n11 : Int) (n12 n13 : Int) (n14 n15 : Int) (n16 n17 : Int) (n18 n19 : Int) (n20 n21 : Int) (n22 n23 : Int) (n24 n25 n26 : Int) (p : Option Addr) : PT := fun h Q =>
  T58 n n1 n2 n3 n4 n5 n6 n7 n8 n9 n10 n11 n12 n13 n14 n15 n16 n17 n18 n19 n20 n21 n22 n23 n24 n25 n26 p h fun r h1 => ∃ n27 : Int, r = .int .i64 n27 ∧ ∃ (I : Sl → Int → Int → Hp → Prop) (m : Sl → Int → Int → Hp → Nat), I ⟨none, 0, 0⟩ n9 0 h1 ∧ (∀ l : Sl, ∀ n28 n29 : Int, ∀ h2 : Hp, I l n28 n29 h2 → par (n29 < (iMax n27 0)) (par (n29 = 0) (T27 p 0 h2 fun r1 h3 => ∃ l1 : Sl, r1 = .slice l1.a l1.n l1.c ∧ T59 (l1.n : Int) n5 h3 fun r2 h4 => ∃ n30 : Int, r2 = .int .i64 n30 ∧ appendD l 3 1 8 [.int .i64 0] 1 [.int .i64 n30] h4 fun l2 h5 => I l2 n28 (IntKind.wrap .i64 (n29 + 1)) h5 ∧ m l2 n28 (IntKind.wrap .i64 (n29 + 1)) h5 < m l n28 n29 h2) (T46 p n29 h2 fun r3 h6 => ∃ n31 : Int, r3 = .int .i64 n31 ∧ T59 n31 n28 h6 fun r4 h7 => ∃ n32 : Int, r4 = .int .i64 n32 ∧ appendD l 3 1 8 [.int .i64 0] 1 [.int .i64 n32] h7 fun l3 h8 => I l3 (IntKind.wrap .i64 (n28 * n10)) (IntKind.wrap .i64 (n29 + 1)) h8 ∧ m l3 (IntKind.wrap .i64 (n28 * n10)) (IntKind.wrap .i64 (n29 + 1)) h8 < m l n28 n29 h2)) (Q (.slice l.a l.n l.c) h2))
def F26.T (n n1 : Int) (n2 n3 : Int) (n4 n5 : Int) (n6 n7 : Int) (n8 n9 : Int) (n10 n11 : Int) (n12 n13 : Int) (n14 n15 : Int) (n16 n17 : Int) (n18 n19 : Int) (n20 n21 : Int) (n22 n23 : Int) (n24 n25 n26 : Int) (p : Option Addr) : PT := F26.G F27.T F46.T F58.T F59.T n n1 n2 n3 n4 n5 n6 n7 n8 n9 n10 n11 n12 n13 n14 n15 n16 n17 n18 n19 n20 n21 n22 n23 n24 n25 n26 p
theorem F26.gen (V : Value → List Value → PT) (T27 : Option Addr → Int → PT) (T46 : Option Addr → Int → PT) (T58 : Int → Int → Int → Int → Int → Int → Int → Int → Int → Int → Int → Int → Int → Int → Int → Int → Int → Int → Int → Int → Int → Int → Int → Int → Int → Int → Int → Option Addr → PT) (T59 : Int → Int → PT) (n n1 : Int) (n2 n3 : Int) (n4 n5 : Int) (n6 n7 : Int) (n8 n9 : Int) (n10 n11 : Int) (n12 n13 : Int) (n14 n15 : Int) (n16 n17 : Int) (n18 n19 : Int) (n20 n21 : Int) (n22 n23 : Int) (n24 n25 n26 : Int) (p : Option Addr) : denF Try.prog [2, 26, 34] [(27, F27.W T27), (46, F46.W T46), (58, F58.W T58), (59, F59.W T59)] V [(122, .loop [(5, .sl), (6, .int .i64), (14, .int .i64)] []), (125332, .order [0, 1, 4, 5, 2, 3, 6, 7, 8, 9])] Try.f26 [.v (.agg ⟨[.int .i64 n, .int .i64 n1, .int .i64 n2, .int .i64 n3, .int .i64 n4, .int .i64 n5, .int .i64 n6, .int .i64 n7, .int .i64 n8, .int .i64 n9, .int .i64 n10, .int .i64 n11, .int .i64 n12, .int .i64 n13, .int .i64 n14, .int .i64 n15, .int .i64 n16, .int .i64 n17, .int .i64 n18, .int .i64 n19, .int .i64 n20, .int .i64 n21, .int .i64 n22, .int .i64 n23, .int .i64 n24, .int .i64 n25, .int .i64 n26]⟩), .v (.pointer p)] = F26.G T27 T46 T58 T59 n n1 n2 n3 n4 n5 n6 n7 n8 n9 n10 n11 n12 n13 n14 n15 n16 n17 n18 n19 n20 n21 n22 n23 n24 n25 n26 p := by kernel_rfl
theorem F26.den (V : Value → List Value → PT) (n n1 : Int) (n2 n3 : Int) (n4 n5 : Int) (n6 n7 : Int) (n8 n9 : Int) (n10 n11 : Int) (n12 n13 : Int) (n14 n15 : Int) (n16 n17 : Int) (n18 n19 : Int) (n20 n21 : Int) (n22 n23 : Int) (n24 n25 n26 : Int) (p : Option Addr) : denF Try.prog [2, 26, 34] [(27, F27.V), (46, F46.V), (58, F58.V), (59, F59.V)] V [(122, .loop [(5, .sl), (6, .int .i64), (14, .int .i64)] []), (125332, .order [0, 1, 4, 5, 2, 3, 6, 7, 8, 9])] Try.f26 [.v (.agg ⟨[.int .i64 n, .int .i64 n1, .int .i64 n2, .int .i64 n3, .int .i64 n4, .int .i64 n5, .int .i64 n6, .int .i64 n7, .int .i64 n8, .int .i64 n9, .int .i64 n10, .int .i64 n11, .int .i64 n12, .int .i64 n13, .int .i64 n14, .int .i64 n15, .int .i64 n16, .int .i64 n17, .int .i64 n18, .int .i64 n19, .int .i64 n20, .int .i64 n21, .int .i64 n22, .int .i64 n23, .int .i64 n24, .int .i64 n25, .int .i64 n26]⟩), .v (.pointer p)] = F26.T n n1 n2 n3 n4 n5 n6 n7 n8 n9 n10 n11 n12 n13 n14 n15 n16 n17 n18 n19 n20 n21 n22 n23 n24 n25 n26 p := F26.gen V F27.T F46.T F58.T F59.T n n1 n2 n3 n4 n5 n6 n7 n8 n9 n10 n11 n12 n13 n14 n15 n16 n17 n18 n19 n20 n21 n22 n23 n24 n25 n26 p
def F26.W (T26 : Int → Int → Int → Int → Int → Int → Int → Int → Int → Int → Int → Int → Int → Int → Int → Int → Int → Int → Int → Int → Int → Int → Int → Int → Int → Int → Int → Option Addr → PT) (args : List Value) : PT := match args with
  | [.agg ⟨[.int .i64 n, .int .i64 n1, .int .i64 n2, .int .i64 n3, .int .i64 n4, .int .i64 n5, .int .i64 n6, .int .i64 n7, .int .i64 n8, .int .i64 n9, .int .i64 n10, .int .i64 n11, .int .i64 n12, .int .i64 n13, .int .i64 n14, .int .i64 n15, .int .i64 n16, .int .i64 n17, .int .i64 n18, .int .i64 n19, .int .i64 n20, .int .i64 n21, .int .i64 n22, .int .i64 n23, .int .i64 n24, .int .i64 n25, .int .i64 n26]⟩, .pointer p] => T26 n n1 n2 n3 n4 n5 n6 n7 n8 n9 n10 n11 n12 n13 n14 n15 n16 n17 n18 n19 n20 n21 n22 n23 n24 n25 n26 p
  | _ => fun _ _ => False
def F26.V : List Value → PT := F26.W F26.T
theorem F26.ok : FOk Try.prog 26 F26.V := by
  refine ⟨⟨_, Try.func26, rfl, rfl⟩, fun args => ?_⟩
  have hG : GOk Try.prog [(27, F27.V), (46, F46.V), (58, F58.V), (59, F59.V)] := GOk.cons F27.ok (GOk.cons F46.ok (GOk.cons F58.ok (GOk.cons F59.ok (GOk.nil))))
  have hV : VOk Try.prog noV := noV_ok
  unfold F26.V F26.W
  split
  · exact denF_okV hG hV Try.func26 (fun h Q hq => (F26.den _ _ _ _ _ _ _ _ _ _ _ _ _ _ _ _ _ _ _ _ _ _ _ _ _ _ _ _ _) ▸ hq)
  · exact fun h Q hq => hq.elim
@[reducible] def F54.G (T27 : Option Addr → Int → PT) (n n1 : Int) (n2 n3 : Int) (n4 n5 : Int) (n6 n7 : Int) (n8 n9 : Int) (n10 n11 : Int) (n12 n13 : Int) (n14 n15 : Int) (n16 n17 : Int) (n18 n19 : Int) (n20 n21 : Int) (n22 n23 : Int) (n24 n25 n26 : Int) (p : Option Addr) : PT := fun h Q =>
  T27 p 0 h fun r h1 => ∃ l : Sl, r = .slice l.a l.n l.c ∧ par (n7 ≤ (l.n : Int)) (Q (.bool true) h1) (Q (.bool false) h1)
def F54.T (n n1 : Int) (n2 n3 : Int) (n4 n5 : Int) (n6 n7 : Int) (n8 n9 : Int) (n10 n11 : Int) (n12 n13 : Int) (n14 n15 : Int) (n16 n17 : Int) (n18 n19 : Int) (n20 n21 : Int) (n22 n23 : Int) (n24 n25 n26 : Int) (p : Option Addr) : PT := F54.G F27.T n n1 n2 n3 n4 n5 n6 n7 n8 n9 n10 n11 n12 n13 n14 n15 n16 n17 n18 n19 n20 n21 n22 n23 n24 n25 n26 p
theorem F54.gen (V : Value → List Value → PT) (T27 : Option Addr → Int → PT) (n n1 : Int) (n2 n3 : Int) (n4 n5 : Int) (n6 n7 : Int) (n8 n9 : Int) (n10 n11 : Int) (n12 n13 : Int) (n14 n15 : Int) (n16 n17 : Int) (n18 n19 : Int) (n20 n21 : Int) (n22 n23 : Int) (n24 n25 n26 : Int) (p : Option Addr) : denF Try.prog [2] [(27, F27.W T27)] V [(6, .order [0, 3, 4, 1, 2, 5, 6])] Try.f54 [.v (.agg ⟨[.int .i64 n, .int .i64 n1, .int .i64 n2, .int .i64 n3, .int .i64 n4, .int .i64 n5, .int .i64 n6, .int .i64 n7, .int .i64 n8, .int .i64 n9, .int .i64 n10, .int .i64 n11, .int .i64 n12, .int .i64 n13, .int .i64 n14, .int .i64 n15, .int .i64 n16, .int .i64 n17, .int .i64 n18, .int .i64 n19, .int .i64 n20, .int .i64 n21, .int .i64 n22, .int .i64 n23, .int .i64 n24, .int .i64 n25, .int .i64 n26]⟩), .v (.pointer p)] = F54.G T27 n n1 n2 n3 n4 n5 n6 n7 n8 n9 n10 n11 n12 n13 n14 n15 n16 n17 n18 n19 n20 n21 n22 n23 n24 n25 n26 p := by kernel_rfl
theorem F54.den (V : Value → List Value → PT) (n n1 : Int) (n2 n3 : Int) (n4 n5 : Int) (n6 n7 : Int) (n8 n9 : Int) (n10 n11 : Int) (n12 n13 : Int) (n14 n15 : Int) (n16 n17 : Int) (n18 n19 : Int) (n20 n21 : Int) (n22 n23 : Int) (n24 n25 n26 : Int) (p : Option Addr) : denF Try.prog [2] [(27, F27.V)] V [(6, .order [0, 3, 4, 1, 2, 5, 6])] Try.f54 [.v (.agg ⟨[.int .i64 n, .int .i64 n1, .int .i64 n2, .int .i64 n3, .int .i64 n4, .int .i64 n5, .int .i64 n6, .int .i64 n7, .int .i64 n8, .int .i64 n9, .int .i64 n10, .int .i64 n11, .int .i64 n12, .int .i64 n13, .int .i64 n14, .int .i64 n15, .int .i64 n16, .int .i64 n17, .int .i64 n18, .int .i64 n19, .int .i64 n20, .int .i64 n21, .int .i64 n22, .int .i64 n23, .int .i64 n24, .int .i64 n25, .int .i64 n26]⟩), .v (.pointer p)] = F54.T n n1 n2 n3 n4 n5 n6 n7 n8 n9 n10 n11 n12 n13 n14 n15 n16 n17 n18 n19 n20 n21 n22 n23 n24 n25 n26 p := F54.gen V F27.T n n1 n2 n3 n4 n5 n6 n7 n8 n9 n10 n11 n12 n13 n14 n15 n16 n17 n18 n19 n20 n21 n22 n23 n24 n25 n26 p
def F54.W (T54 : Int → Int → Int → Int → Int → Int → Int → Int → Int → Int → Int → Int → Int → Int → Int → Int → Int → Int → Int → Int → Int → Int → Int → Int → Int → Int → Int → Option Addr → PT) (args : List Value) : PT := match args with
  | [.agg ⟨[.int .i64 n, .int .i64 n1, .int .i64 n2, .int .i64 n3, .int .i64 n4, .int .i64 n5, .int .i64 n6, .int .i64 n7, .int .i64 n8, .int .i64 n9, .int .i64 n10, .int .i64 n11, .int .i64 n12, .int .i64 n13, .int .i64 n14, .int .i64 n15, .int .i64 n16, .int .i64 n17, .int .i64 n18, .int .i64 n19, .int .i64 n20, .int .i64 n21, .int .i64 n22, .int .i64 n23, .int .i64 n24, .int .i64 n25, .int .i64 n26]⟩, .pointer p] => T54 n n1 n2 n3 n4 n5 n6 n7 n8 n9 n10 n11 n12 n13 n14 n15 n16 n17 n18 n19 n20 n21 n22 n23 n24 n25 n26 p
  | _ => fun _ _ => False
def F54.V : List Value → PT := F54.W F54.T
theorem F54.ok : FOk Try.prog 54 F54.V := by
  refine ⟨⟨_, Try.func54, rfl, rfl⟩, fun args => ?_⟩
  have hG : GOk Try.prog [(27, F27.V)] := GOk.cons F27.ok (GOk.nil)
  have hV : VOk Try.prog noV := noV_ok
  unfold F54.V F54.W
  split
  · exact denF_okV hG hV Try.func54 (fun h Q hq => (F54.den _ _ _ _ _ _ _ _ _ _ _ _ _ _ _ _ _ _ _ _ _ _ _ _ _ _ _ _ _) ▸ hq)
  · exact fun h Q hq => hq.elim
def F79.T (n : Int) : PT := fun h Q =>
  par (n = n) (Q (.bool false) h) (Q (.bool true) h)
theorem F79.den (V : Value → List Value → PT) (n : Int) : denF Try.prog [] [] V [] Try.f79 [.v (.int .i64 n)] = F79.T n := by kernel_rfl
def F79.W (T79 : Int → PT) (args : List Value) : PT := match args with
  | [.int .i64 n] => T79 n
  | _ => fun _ _ => False
def F79.V : List Value → PT := F79.W F79.T
theorem F79.ok : FOk Try.prog 79 F79.V := by
  refine ⟨⟨_, Try.func79, rfl, rfl⟩, fun args => ?_⟩
  have hG : GOk Try.prog [] := GOk.nil
  have hV : VOk Try.prog noV := noV_ok
  unfold F79.V F79.W
  split
  · exact denF_okV hG hV Try.func79 (fun h Q hq => (F79.den _ _) ▸ hq)
  · exact fun h Q hq => hq.elim
@[reducible] def F57.G (T79 : Int → PT) (n n1 : Int) : PT := fun h Q =>
  T79 n h fun r h1 => ∃ b : Bool, r = .bool b ∧ parB b (T79 n1 h1 fun r1 h2 => ∃ b1 : Bool, r1 = .bool b1 ∧ parB b1 (Q (.int .i64 0) h2) (Q (.int .i64 (-1)) h2)) (T79 n1 h1 fun r2 h3 => ∃ b2 : Bool, r2 = .bool b2 ∧ parB b2 (Q (.int .i64 1) h3) (par (n < n1) (Q (.int .i64 (-1)) h3) (par (n1 < n) (Q (.int .i64 1) h3) (Q (.int .i64 0) h3))))
def F57.T (n n1 : Int) : PT := F57.G F79.T n n1
theorem F57.gen (V : Value → List Value → PT) (T79 : Int → PT) (n n1 : Int) : denF Try.prog [] [(79, F79.W T79)] V [] Try.f57 [.v (.int .i64 n), .v (.int .i64 n1)] = F57.G T79 n n1 := by kernel_rfl
theorem F57.den (V : Value → List Value → PT) (n n1 : Int) : denF Try.prog [] [(79, F79.V)] V [] Try.f57 [.v (.int .i64 n), .v (.int .i64 n1)] = F57.T n n1 := F57.gen V F79.T n n1
def F57.W (T57 : Int → Int → PT) (args : List Value) : PT := match args with
  | [.int .i64 n, .int .i64 n1] => T57 n n1
  | _ => fun _ _ => False
def F57.V : List Value → PT := F57.W F57.T
theorem F57.ok : FOk Try.prog 57 F57.V := by
  refine ⟨⟨_, Try.func57, rfl, rfl⟩, fun args => ?_⟩
  have hG : GOk Try.prog [(79, F79.V)] := GOk.cons F79.ok (GOk.nil)
  have hV : VOk Try.prog noV := noV_ok
  unfold F57.V F57.W
  split
  · exact denF_okV hG hV Try.func57 (fun h Q hq => (F57.den _ _ _) ▸ hq)
  · exact fun h Q hq => hq.elim
@[reducible] def F56.G (T54 : Int → Int → Int → Int → Int → Int → Int → Int → Int → Int → Int → Int → Int → Int → Int → Int → Int → Int → Int → Int → Int → Int → Int → Int → Int → Int → Int → Option Addr → PT) (T57 : Int → Int → PT) (n n1 : Int) (b : Nat) (o : Nat) (b1 : Nat) (o1 : Nat) (b2 : Nat) (o2 : Nat) : PT := fun h Q =>
  ∃ J : Hp → Prop, (∀ h1 : Hp, J h1 → ∃ l : Sl, h1.at b2 o2 = some (.slice l.a l.n l.c) ∧ ∃ b3 o3, (l.a : Option Addr) = some ⟨b3, o3, none⟩ ∧ ((0 : Int) ≤ n1 ∧ n1 < (l.n : Int)) ∧ ∃ n2 : Int, h1.at b3 (o3 + n1.toNat) = some (.int .i64 n2) ∧ ∃ l1 : Sl, h1.at b2 o2 = some (.slice l1.a l1.n l1.c) ∧ ∃ b4 o4, (l1.a : Option Addr) = some ⟨b4, o4, none⟩ ∧ ((0 : Int) ≤ n ∧ n < (l1.n : Int)) ∧ ∃ n3 : Int, h1.at b4 (o4 + n.toNat) = some (.int .i64 n3) ∧ T57 n2 n3 h1 fun r h2 => ∃ n4 : Int, r = .int .i64 n4 ∧ Q (.int .i64 n4) h2) ∧ (par (n = 0) (par (n = n1) (J h) (∃ n5 : Int, h.at b o = some (.int .i64 n5) ∧ ∃ n6 : Int, h.at b (o + 1) = some (.int .i64 n6) ∧ ∃ n7 : Int, h.at b (o + 2) = some (.int .i64 n7) ∧ ∃ n8 : Int, h.at b (o + 3) = some (.int .i64 n8) ∧ ∃ n9 : Int, h.at b (o + 4) = some (.int .i64 n9) ∧ ∃ n10 : Int, h.at b (o + 5) = some (.int .i64 n10) ∧ ∃ n11 : Int, h.at b (o + 6) = some (.int .i64 n11) ∧ ∃ n12 : Int, h.at b (o + 7) = some (.int .i64 n12) ∧ ∃ n13 : Int, h.at b (o + 8) = some (.int .i64 n13) ∧ ∃ n14 : Int, h.at b (o + 9) = some (.int .i64 n14) ∧ ∃ n15 : Int, h.at b (o + 10) = some (.int .i64 n15) ∧ ∃ n16 : Int, h.at b (o + 11) = some (.int .i64 n16) ∧ ∃ n17 : Int, h.at b (o + 12) = some (.int .i64 n17) ∧ ∃ n18 : Int, h.at b (o + 13) = some (.int .i64 n18) ∧ ∃ n19 : Int, h.at b (o + 14) = some (.int .i64 n19) ∧ ∃ n20 : Int, h.at b (o + 15) = some (.int .i64 n20) ∧ ∃ n21 : Int, h.at b (o + 16) = some (.int .i64 n21) ∧ ∃ n22 : Int, h.at b (o + 17) = some (.int .i64 n22) ∧ ∃ n23 : Int, h.at b (o + 18) = some (.int .i64 n23) ∧ ∃ n24 : Int, h.at b (o + 19) = some (.int .i64 n24) ∧ ∃ n25 : Int, h.at b (o + 20) = some (.int .i64 n25) ∧ ∃ n26 : Int, h.at b (o + 21) = some (.int .i64 n26) ∧ ∃ n27 : Int, h.at b (o + 22) = some (.int .i64 n27) ∧ ∃ n28 : Int, h.at b (o + 23) = some (.int .i64 n28) ∧ ∃ n29 : Int, h.at b (o + 24) = some (.int .i64 n29) ∧ ∃ n30 : Int, h.at b (o + 25) = some (.int .i64 n30) ∧ ∃ n31 : Int, h.at b (o + 26) = some (.int .i64 n31) ∧ ∃ p : Option Addr, h.at b1 o1 = some (.pointer p) ∧ T54 n5 n6 n7 n8 n9 n10 n11 n12 n13 n14 n15 n16 n17 n18 n19 n20 n21 n22 n23 n24 n25 n26 n27 n28 n29 n30 n31 p h fun r1 h3 => ∃ b5 : Bool, r1 = .bool b5 ∧ parB b5 (T57 n n1 h3 fun r2 h4 => ∃ n32 : Int, r2 = .int .i64 n32 ∧ Q (.int .i64 n32) h4) (J h3))) (par (n1 = 0) (par (n = n1) (J h) (∃ n33 : Int, h.at b o = some (.int .i64 n33) ∧ ∃ n34 : Int, h.at b (o + 1) = some (.int .i64 n34) ∧ ∃ n35 : Int, h.at b (o + 2) = some (.int .i64 n35) ∧ ∃ n36 : Int, h.at b (o + 3) = some (.int .i64 n36) ∧ ∃ n37 : Int, h.at b (o + 4) = some (.int .i64 n37) ∧ ∃ n38 : Int, h.at b (o + 5) = some (.int .i64 n38) ∧ ∃ n39 : Int, h.at b (o + 6) = some (.int .i64 n39) ∧ ∃ n40 : Int, h.at b (o + 7) = some (.int .i64 n40) ∧ ∃ n41 : Int, h.at b (o + 8) = some (.int .i64 n41) ∧ ∃ n42 : Int, h.at b (o + 9) = some (.int .i64 n42) ∧ ∃ n43 : Int, h.at b (o + 10) = some (.int .i64 n43) ∧ ∃ n44 : Int, h.at b (o + 11) = some (.int .i64 n44) ∧ ∃ n45 : Int, h.at b (o + 12) = some (.int .i64 n45) ∧ ∃ n46 : Int, h.at b (o + 13) = some (.int .i64 n46) ∧ ∃ n47 : Int, h.at b (o + 14) = some (.int .i64 n47) ∧ ∃ n48 : Int, h.at b (o + 15) = some (.int .i64 n48) ∧ ∃ n49 : Int, h.at b (o + 16) = some (.int .i64 n49) ∧ ∃ n50 : Int, h.at b (o + 17) = some (.int .i64 n50) ∧ ∃ n51 : Int, h.at b (o + 18) = some (.int .i64 n51) ∧ ∃ n52 : Int, h.at b (o + 19) = some (.int .i64 n52) ∧ ∃ n53 : Int, h.at b (o + 20) = some (.int .i64 n53) ∧ ∃ n54 : Int, h.at b (o + 21) = some (.int .i64 n54) ∧ ∃ n55 : Int, h.at b (o + 22) = some (.int .i64 n55) ∧ ∃ n56 : Int, h.at b (o + 23) = some (.int .i64 n56) ∧ ∃ n57 : Int, h.at b (o + 24) = some (.int .i64 n57) ∧ ∃ n58 : Int, h.at b (o + 25) = some (.int .i64 n58) ∧ ∃ n59 : Int, h.at b (o + 26) = some (.int .i64 n59) ∧ ∃ p1 : Option Addr, h.at b1 o1 = some (.pointer p1) ∧ T54 n33 n34 n35 n36 n37 n38 n39 n40 n41 n42 n43 n44 n45 n46 n47 n48 n49 n50 n51 n52 n53 n54 n55 n56 n57 n58 n59 p1 h fun r3 h5 => ∃ b6 : Bool, r3 = .bool b6 ∧ parB b6 (T57 n n1 h5 fun r4 h6 => ∃ n60 : Int, r4 = .int .i64 n60 ∧ Q (.int .i64 n60) h6) (J h5))) (J h)))
def F56.T (n n1 : Int) (b : Nat) (o : Nat) (b1 : Nat) (o1 : Nat) (b2 : Nat) (o2 : Nat) : PT := F56.G F54.T F57.T n n1 b o b1 o1 b2 o2
theorem F56.gen (V : Value → List Value → PT) (T54 : Int → Int → Int → Int → Int → Int → Int → Int → Int → Int → Int → Int → Int → Int → Int → Int → Int → Int → Int → Int → Int → Int → Int → Int → Int → Int → Int → Option Addr → PT) (T57 : Int → Int → PT) (n n1 : Int) (b : Nat) (o : Nat) (b1 : Nat) (o1 : Nat) (b2 : Nat) (o2 : Nat) : denF Try.prog [] [(54, F54.W T54), (57, F57.W T57)] V [(3, .join [] []), (14, .order [0, 1, 2, 3, 4, 5, 6, 7, 8, 9])] Try.f56 [.v (.int .i64 n), .v (.int .i64 n1), .p b o, .p b1 o1, .p b2 o2] = F56.G T54 T57 n n1 b o b1 o1 b2 o2 := by kernel_rfl
theorem F56.den (V : Value → List Value → PT) (n n1 : Int) (b : Nat) (o : Nat) (b1 : Nat) (o1 : Nat) (b2 : Nat) (o2 : Nat) : denF Try.prog [] [(54, F54.V), (57, F57.V)] V [(3, .join [] []), (14, .order [0, 1, 2, 3, 4, 5, 6, 7, 8, 9])] Try.f56 [.v (.int .i64 n), .v (.int .i64 n1), .p b o, .p b1 o1, .p b2 o2] = F56.T n n1 b o b1 o1 b2 o2 := F56.gen V F54.T F57.T n n1 b o b1 o1 b2 o2
def F56.W (T56 : Int → Int → Nat → Nat → Nat → Nat → Nat → Nat → PT) (args : List Value) : PT := match args with
  | [.int .i64 n, .int .i64 n1, .pointer (some ⟨b, o, none⟩), .pointer (some ⟨b1, o1, none⟩), .pointer (some ⟨b2, o2, none⟩)] => T56 n n1 b o b1 o1 b2 o2
  | _ => fun _ _ => False
def F56.V : List Value → PT := F56.W F56.T
theorem F56.ok : FOk Try.prog 56 F56.V := by
  refine ⟨⟨_, Try.func56, rfl, rfl⟩, fun args => ?_⟩
  have hG : GOk Try.prog [(54, F54.V), (57, F57.V)] := GOk.cons F54.ok (GOk.cons F57.ok (GOk.nil))
  have hV : VOk Try.prog noV := noV_ok
  unfold F56.V F56.W
  split
  · exact denF_okA (xs := [.v _, .v _, .p _ _, .p _ _, .p _ _]) hG hV Try.func56 (inStep_cons rfl (inStep_cons rfl (inStep_cons rfl (inStep_cons rfl (inStep_cons rfl (inStep_nil _)))))) (by intro x hx; simp only [List.mem_cons, List.not_mem_nil, or_false] at hx; rcases hx with rfl | rfl | rfl | rfl | rfl <;> rfl) (fun h Q hq => (F56.den _ _ _ _ _ _ _ _ _) ▸ hq)
  · exact fun h Q hq => hq.elim
def F110.T (l : Sl) (n n1 n2 : Int) (b : Nat) (o : Nat) (b1 : Nat) (o1 : Nat) (b2 : Nat) (o2 : Nat) : PT := fun h Q =>
  ∃ (I : Int → Hp → Prop) (m : Int → Hp → Nat), I 0 h ∧ (∀ n3 : Int, ∀ h1 : Hp, I n3 h1 → par (n3 < n2) (∃ b3 o3, (l.a : Option Addr) = some ⟨b3, o3, none⟩ ∧ ((0 : Int) ≤ (IntKind.wrap .i64 (n1 + n3)) ∧ (IntKind.wrap .i64 (n1 + n3)) < (l.n : Int)) ∧ ∃ n4 : Int, h1.at b3 (o3 + ((IntKind.wrap .i64 (n1 + n3))).toNat) = some (.int .i64 n4) ∧ ∃ b4 o4, (l.a : Option Addr) = some ⟨b4, o4, none⟩ ∧ ((0 : Int) ≤ (IntKind.wrap .i64 (n + n3)) ∧ (IntKind.wrap .i64 (n + n3)) < (l.n : Int)) ∧ ∃ n5 : Int, h1.at b4 (o4 + ((IntKind.wrap .i64 (n + n3))).toNat) = some (.int .i64 n5) ∧ ∃ b5 o5, (l.a : Option Addr) = some ⟨b5, o5, none⟩ ∧ ((0 : Int) ≤ (IntKind.wrap .i64 (n + n3)) ∧ (IntKind.wrap .i64 (n + n3)) < (l.n : Int)) ∧ h1.canW b5 (o5 + ((IntKind.wrap .i64 (n + n3))).toNat) 1 ∧ ∃ b6 o6, (l.a : Option Addr) = some ⟨b6, o6, none⟩ ∧ ((0 : Int) ≤ (IntKind.wrap .i64 (n1 + n3)) ∧ (IntKind.wrap .i64 (n1 + n3)) < (l.n : Int)) ∧ (h1.wr b5 (o5 + ((IntKind.wrap .i64 (n + n3))).toNat) [.int .i64 n4]).canW b6 (o6 + ((IntKind.wrap .i64 (n1 + n3))).toNat) 1 ∧ I (IntKind.wrap .i64 (n3 + 1)) ((h1.wr b5 (o5 + ((IntKind.wrap .i64 (n + n3))).toNat) [.int .i64 n4]).wr b6 (o6 + ((IntKind.wrap .i64 (n1 + n3))).toNat) [.int .i64 n5]) ∧ m (IntKind.wrap .i64 (n3 + 1)) ((h1.wr b5 (o5 + ((IntKind.wrap .i64 (n + n3))).toNat) [.int .i64 n4]).wr b6 (o6 + ((IntKind.wrap .i64 (n1 + n3))).toNat) [.int .i64 n5]) < m n3 h1) (Q (.tuple ⟨[]⟩) h1))
theorem F110.den (V : Value → List Value → PT) (l : Sl) (n n1 n2 : Int) (b : Nat) (o : Nat) (b1 : Nat) (o1 : Nat) (b2 : Nat) (o2 : Nat) : denF Try.prog [] [] V [(6, .loop [(10, .int .i64)] []), (100, .order [0, 1, 2, 3, 4, 5, 6, 7, 8, 9, 10, 11, 12, 13, 14, 15, 16, 17, 18, 19, 20, 21, 22, 23])] Try.f110 [.v (.slice l.a l.n l.c), .v (.int .i64 n), .v (.int .i64 n1), .v (.int .i64 n2), .v (.func (.func 56) ⟨[]⟩ ⟨[.pointer (some ⟨b, o, none⟩), .pointer (some ⟨b1, o1, none⟩), .pointer (some ⟨b2, o2, none⟩)]⟩)] = F110.T l n n1 n2 b o b1 o1 b2 o2 := by kernel_rfl
def F110.W (T110 : Sl → Int → Int → Int → Nat → Nat → Nat → Nat → Nat → Nat → PT) (args : List Value) : PT := match args with
  | [.slice l_a l_n l_c, .int .i64 n, .int .i64 n1, .int .i64 n2, .func (.func 56) ⟨[]⟩ ⟨[.pointer (some ⟨b, o, none⟩), .pointer (some ⟨b1, o1, none⟩), .pointer (some ⟨b2, o2, none⟩)]⟩] => T110 ⟨l_a, l_n, l_c⟩ n n1 n2 b o b1 o1 b2 o2
  | _ => fun _ _ => False
def F110.V : List Value → PT := F110.W F110.T
theorem F110.ok : FOk Try.prog 110 F110.V := by
  refine ⟨⟨_, Try.func110, rfl, rfl⟩, fun args => ?_⟩
  have hG : GOk Try.prog [] := GOk.nil
  have hV : VOk Try.prog noV := noV_ok
  unfold F110.V F110.W
  split
  · exact denF_okV hG hV Try.func110 (fun h Q hq => (F110.den _ _ _ _ _ _ _ _ _ _ _) ▸ hq)
  · exact fun h Q hq => hq.elim
@[reducible] def F102.G (T110 : Sl → Int → Int → Int → Nat → Nat → Nat → Nat → Nat → Nat → PT) (l : Sl) (n n1 n2 : Int) (b : Nat) (o : Nat) (b1 : Nat) (o1 : Nat) (b2 : Nat) (o2 : Nat) : PT := fun h Q =>
  ∃ (I : Int → Int → Hp → Prop) (m : Int → Int → Hp → Nat), I (IntKind.wrap .i64 (n1 - n)) (IntKind.wrap .i64 (n2 - n1)) h ∧ (∀ n3 n4 : Int, ∀ h1 : Hp, I n3 n4 h1 → par (n3 = n4) (T110 l (IntKind.wrap .i64 (n1 - n3)) n1 n3 b o b1 o1 b2 o2 h1 fun r h2 => Q (.tuple ⟨[]⟩) h2) (par (n4 < n3) (T110 l (IntKind.wrap .i64 (n1 - n3)) n1 n4 b o b1 o1 b2 o2 h1 fun r1 h3 => I (IntKind.wrap .i64 (n3 - n4)) n4 h3 ∧ m (IntKind.wrap .i64 (n3 - n4)) n4 h3 < m n3 n4 h1) (T110 l (IntKind.wrap .i64 (n1 - n3)) (IntKind.wrap .i64 ((IntKind.wrap .i64 (n1 + n4)) - n3)) n3 b o b1 o1 b2 o2 h1 fun r2 h4 => I n3 (IntKind.wrap .i64 (n4 - n3)) h4 ∧ m n3 (IntKind.wrap .i64 (n4 - n3)) h4 < m n3 n4 h1)))
def F102.T (l : Sl) (n n1 n2 : Int) (b : Nat) (o : Nat) (b1 : Nat) (o1 : Nat) (b2 : Nat) (o2 : Nat) : PT := F102.G F110.T l n n1 n2 b o b1 o1 b2 o2
theorem F102.gen (V : Value → List Value → PT) (T110 : Sl → Int → Int → Int → Nat → Nat → Nat → Nat → Nat → Nat → PT) (l : Sl) (n n1 n2 : Int) (b : Nat) (o : Nat) (b1 : Nat) (o1 : Nat) (b2 : Nat) (o2 : Nat) : denF Try.prog [] [(110, F110.W T110)] V [(28, .loop [(10, .int .i64), (11, .int .i64)] [])] Try.f102 [.v (.slice l.a l.n l.c), .v (.int .i64 n), .v (.int .i64 n1), .v (.int .i64 n2), .v (.func (.func 56) ⟨[]⟩ ⟨[.pointer (some ⟨b, o, none⟩), .pointer (some ⟨b1, o1, none⟩), .pointer (some ⟨b2, o2, none⟩)]⟩)] = F102.G T110 l n n1 n2 b o b1 o1 b2 o2 := by kernel_rfl
theorem F102.den (V : Value → List Value → PT) (l : Sl) (n n1 n2 : Int) (b : Nat) (o : Nat) (b1 : Nat) (o1 : Nat) (b2 : Nat) (o2 : Nat) : denF Try.prog [] [(110, F110.V)] V [(28, .loop [(10, .int .i64), (11, .int .i64)] [])] Try.f102 [.v (.slice l.a l.n l.c), .v (.int .i64 n), .v (.int .i64 n1), .v (.int .i64 n2), .v (.func (.func 56) ⟨[]⟩ ⟨[.pointer (some ⟨b, o, none⟩), .pointer (some ⟨b1, o1, none⟩), .pointer (some ⟨b2, o2, none⟩)]⟩)] = F102.T l n n1 n2 b o b1 o1 b2 o2 := F102.gen V F110.T l n n1 n2 b o b1 o1 b2 o2
def F102.W (T102 : Sl → Int → Int → Int → Nat → Nat → Nat → Nat → Nat → Nat → PT) (args : List Value) : PT := match args with
  | [.slice l_a l_n l_c, .int .i64 n, .int .i64 n1, .int .i64 n2, .func (.func 56) ⟨[]⟩ ⟨[.pointer (some ⟨b, o, none⟩), .pointer (some ⟨b1, o1, none⟩), .pointer (some ⟨b2, o2, none⟩)]⟩] => T102 ⟨l_a, l_n, l_c⟩ n n1 n2 b o b1 o1 b2 o2
  | _ => fun _ _ => False
def F102.V : List Value → PT := F102.W F102.T
theorem F102.ok : FOk Try.prog 102 F102.V := by
  refine ⟨⟨_, Try.func102, rfl, rfl⟩, fun args => ?_⟩
  have hG : GOk Try.prog [(110, F110.V)] := GOk.cons F110.ok (GOk.nil)
  have hV : VOk Try.prog noV := noV_ok
  unfold F102.V F102.W
  split
  · exact denF_okV hG hV Try.func102 (fun h Q hq => (F102.den _ _ _ _ _ _ _ _ _ _ _) ▸ hq)
  · exact fun h Q hq => hq.elim
@[reducible] def F86.G (T56 : Int → Int → Nat → Nat → Nat → Nat → Nat → Nat → PT) (l : Sl) (n n1 : Int) (b : Nat) (o : Nat) (b1 : Nat) (o1 : Nat) (b2 : Nat) (o2 : Nat) : PT := fun h Q =>
  ∃ (I : Int → Hp → Prop) (m : Int → Hp → Nat), I (IntKind.wrap .i64 (n + 1)) h ∧ (∀ n2 : Int, ∀ h1 : Hp, I n2 h1 → par (n2 < n1) (∃ (I1 : Int → Hp → Prop) (m1 : Int → Hp → Nat), I1 n2 h1 ∧ (∀ n3 : Int, ∀ h2 : Hp, I1 n3 h2 → par (n < n3) (∃ b3 o3, (l.a : Option Addr) = some ⟨b3, o3, none⟩ ∧ ((0 : Int) ≤ n3 ∧ n3 < (l.n : Int)) ∧ ∃ n4 : Int, h2.at b3 (o3 + n3.toNat) = some (.int .i64 n4) ∧ ∃ b4 o4, (l.a : Option Addr) = some ⟨b4, o4, none⟩ ∧ ((0 : Int) ≤ (IntKind.wrap .i64 (n3 - 1)) ∧ (IntKind.wrap .i64 (n3 - 1)) < (l.n : Int)) ∧ ∃ n5 : Int, h2.at b4 (o4 + ((IntKind.wrap .i64 (n3 - 1))).toNat) = some (.int .i64 n5) ∧ T56 n4 n5 b o b1 o1 b2 o2 h2 fun r h3 => ∃ n6 : Int, r = .int .i64 n6 ∧ par (n6 < 0) (∃ b5 o5, (l.a : Option Addr) = some ⟨b5, o5, none⟩ ∧ ((0 : Int) ≤ (IntKind.wrap .i64 (n3 - 1)) ∧ (IntKind.wrap .i64 (n3 - 1)) < (l.n : Int)) ∧ ∃ n7 : Int, h3.at b5 (o5 + ((IntKind.wrap .i64 (n3 - 1))).toNat) = some (.int .i64 n7) ∧ ∃ b6 o6, (l.a : Option Addr) = some ⟨b6, o6, none⟩ ∧ ((0 : Int) ≤ n3 ∧ n3 < (l.n : Int)) ∧ ∃ n8 : Int, h3.at b6 (o6 + n3.toNat) = some (.int .i64 n8) ∧ ∃ b7 o7, (l.a : Option Addr) = some ⟨b7, o7, none⟩ ∧ ((0 : Int) ≤ n3 ∧ n3 < (l.n : Int)) ∧ h3.canW b7 (o7 + n3.toNat) 1 ∧ ∃ b8 o8, (l.a : Option Addr) = some ⟨b8, o8, none⟩ ∧ ((0 : Int) ≤ (IntKind.wrap .i64 (n3 - 1)) ∧ (IntKind.wrap .i64 (n3 - 1)) < (l.n : Int)) ∧ (h3.wr b7 (o7 + n3.toNat) [.int .i64 n7]).canW b8 (o8 + ((IntKind.wrap .i64 (n3 - 1))).toNat) 1 ∧ I1 (IntKind.wrap .i64 (n3 - 1)) ((h3.wr b7 (o7 + n3.toNat) [.int .i64 n7]).wr b8 (o8 + ((IntKind.wrap .i64 (n3 - 1))).toNat) [.int .i64 n8]) ∧ m1 (IntKind.wrap .i64 (n3 - 1)) ((h3.wr b7 (o7 + n3.toNat) [.int .i64 n7]).wr b8 (o8 + ((IntKind.wrap .i64 (n3 - 1))).toNat) [.int .i64 n8]) < m1 n3 h2) (I (IntKind.wrap .i64 (n2 + 1)) h3 ∧ m (IntKind.wrap .i64 (n2 + 1)) h3 < m n2 h1)) (I (IntKind.wrap .i64 (n2 + 1)) h2 ∧ m (IntKind.wrap .i64 (n2 + 1)) h2 < m n2 h1))) (Q (.tuple ⟨[]⟩) h1))
def F86.T (l : Sl) (n n1 : Int) (b : Nat) (o : Nat) (b1 : Nat) (o1 : Nat) (b2 : Nat) (o2 : Nat) : PT := F86.G F56.T l n n1 b o b1 o1 b2 o2
theorem F86.gen (V : Value → List Value → PT) (T56 : Int → Int → Nat → Nat → Nat → Nat → Nat → Nat → PT) (l : Sl) (n n1 : Int) (b : Nat) (o : Nat) (b1 : Nat) (o1 : Nat) (b2 : Nat) (o2 : Nat) : denF Try.prog [] [(56, F56.W T56)] V [(6, .loop [(8, .int .i64)] []), (402, .loop [(9, .int .i64)] []), (3216, .order [0, 1, 2, 3, 4, 5, 6, 7, 8, 9, 10, 11, 12, 13, 14, 15, 16]), (6436, .order [0, 1, 2, 3, 4, 5, 6, 7, 8, 9, 10, 11, 12, 13, 14, 15, 16, 17])] Try.f86 [.v (.slice l.a l.n l.c), .v (.int .i64 n), .v (.int .i64 n1), .v (.func (.func 56) ⟨[]⟩ ⟨[.pointer (some ⟨b, o, none⟩), .pointer (some ⟨b1, o1, none⟩), .pointer (some ⟨b2, o2, none⟩)]⟩)] = F86.G T56 l n n1 b o b1 o1 b2 o2 := by kernel_rfl
theorem F86.den (V : Value → List Value → PT) (l : Sl) (n n1 : Int) (b : Nat) (o : Nat) (b1 : Nat) (o1 : Nat) (b2 : Nat) (o2 : Nat) : denF Try.prog [] [(56, F56.V)] V [(6, .loop [(8, .int .i64)] []), (402, .loop [(9, .int .i64)] []), (3216, .order [0, 1, 2, 3, 4, 5, 6, 7, 8, 9, 10, 11, 12, 13, 14, 15, 16]), (6436, .order [0, 1, 2, 3, 4, 5, 6, 7, 8, 9, 10, 11, 12, 13, 14, 15, 16, 17])] Try.f86 [.v (.slice l.a l.n l.c), .v (.int .i64 n), .v (.int .i64 n1), .v (.func (.func 56) ⟨[]⟩ ⟨[.pointer (some ⟨b, o, none⟩), .pointer (some ⟨b1, o1, none⟩), .pointer (some ⟨b2, o2, none⟩)]⟩)] = F86.T l n n1 b o b1 o1 b2 o2 := F86.gen V F56.T l n n1 b o b1 o1 b2 o2
def F86.W (T86 : Sl → Int → Int → Nat → Nat → Nat → Nat → Nat → Nat → PT) (args : List Value) : PT := match args with
  | [.slice l_a l_n l_c, .int .i64 n, .int .i64 n1, .func (.func 56) ⟨[]⟩ ⟨[.pointer (some ⟨b, o, none⟩), .pointer (some ⟨b1, o1, none⟩), .pointer (some ⟨b2, o2, none⟩)]⟩] => T86 ⟨l_a, l_n, l_c⟩ n n1 b o b1 o1 b2 o2
  | _ => fun _ _ => False
def F86.V : List Value → PT := F86.W F86.T
theorem F86.ok : FOk Try.prog 86 F86.V := by
  refine ⟨⟨_, Try.func86, rfl, rfl⟩, fun args => ?_⟩
  have hG : GOk Try.prog [(56, F56.V)] := GOk.cons F56.ok (GOk.nil)
  have hV : VOk Try.prog noV := noV_ok
  unfold F86.V F86.W
  split
  · exact denF_okV hG hV Try.func86 (fun h Q hq => (F86.den _ _ _ _ _ _ _ _ _ _) ▸ hq)
  · exact fun h Q hq => hq.elim
@[reducible] def F87.G (T87 : Sl → Int → Int → Int → Nat → Nat → Nat → Nat → Nat → Nat → PT) (l : Sl) (n n1 n2 : Int) (b : Nat) (o : Nat) (b1 : Nat) (o1 : Nat) (b2 : Nat) (o2 : Nat) : PT := fun h Q =>
  par ((IntKind.wrap .i64 (n1 - n)) = 1) (∃ (I : Int → Int → Hp → Prop) (m : Int → Int → Hp → Nat), I n1 n2 h ∧ (∀ n3 n4 : Int, ∀ h1 : Hp, I n3 n4 h1 → par (n3 < n4) ((0 : Int) ≤ 1 ∧ ∃ b3 o3, (l.a : Option Addr) = some ⟨b3, o3, none⟩ ∧ ((0 : Int) ≤ (IntKind.wrap .i64 (shrI .u64 (IntKind.wrap .u64 (IntKind.wrap .i64 (n3 + n4))) 1)) ∧ (IntKind.wrap .i64 (shrI .u64 (IntKind.wrap .u64 (IntKind.wrap .i64 (n3 + n4))) 1)) < (l.n : Int)) ∧ ∃ n5 : Int, h1.at b3 (o3 + ((IntKind.wrap .i64 (shrI .u64 (IntKind.wrap .u64 (IntKind.wrap .i64 (n3 + n4))) 1))).toNat) = some (.int .i64 n5) ∧ ∃ b4 o4, (l.a : Option Addr) = some ⟨b4, o4, none⟩ ∧ ((0 : Int) ≤ n ∧ n < (l.n : Int)) ∧ ∃ n6 : Int, h1.at b4 (o4 + n.toNat) = some (.int .i64 n6) ∧ F56.T n5 n6 b o b1 o1 b2 o2 h1 fun r h2 => ∃ n7 : Int, r = .int .i64 n7 ∧ par (n7 < 0) (I (IntKind.wrap .i64 ((IntKind.wrap .i64 (shrI .u64 (IntKind.wrap .u64 (IntKind.wrap .i64 (n3 + n4))) 1)) + 1)) n4 h2 ∧ m (IntKind.wrap .i64 ((IntKind.wrap .i64 (shrI .u64 (IntKind.wrap .u64 (IntKind.wrap .i64 (n3 + n4))) 1)) + 1)) n4 h2 < m n3 n4 h1) (I n3 (IntKind.wrap .i64 (shrI .u64 (IntKind.wrap .u64 (IntKind.wrap .i64 (n3 + n4))) 1)) h2 ∧ m n3 (IntKind.wrap .i64 (shrI .u64 (IntKind.wrap .u64 (IntKind.wrap .i64 (n3 + n4))) 1)) h2 < m n3 n4 h1)) (∃ (I1 : Int → Hp → Prop) (m1 : Int → Hp → Nat), I1 n h1 ∧ (∀ n8 : Int, ∀ h3 : Hp, I1 n8 h3 → par (n8 < (IntKind.wrap .i64 (n3 - 1))) (∃ b5 o5, (l.a : Option Addr) = some ⟨b5, o5, none⟩ ∧ ((0 : Int) ≤ (IntKind.wrap .i64 (n8 + 1)) ∧ (IntKind.wrap .i64 (n8 + 1)) < (l.n : Int)) ∧ ∃ n9 : Int, h3.at b5 (o5 + ((IntKind.wrap .i64 (n8 + 1))).toNat) = some (.int .i64 n9) ∧ ∃ b6 o6, (l.a : Option Addr) = some ⟨b6, o6, none⟩ ∧ ((0 : Int) ≤ n8 ∧ n8 < (l.n : Int)) ∧ ∃ n10 : Int, h3.at b6 (o6 + n8.toNat) = some (.int .i64 n10) ∧ ∃ b7 o7, (l.a : Option Addr) = some ⟨b7, o7, none⟩ ∧ ((0 : Int) ≤ n8 ∧ n8 < (l.n : Int)) ∧ h3.canW b7 (o7 + n8.toNat) 1 ∧ ∃ b8 o8, (l.a : Option Addr) = some ⟨b8, o8, none⟩ ∧ ((0 : Int) ≤ (IntKind.wrap .i64 (n8 + 1)) ∧ (IntKind.wrap .i64 (n8 + 1)) < (l.n : Int)) ∧ (h3.wr b7 (o7 + n8.toNat) [.int .i64 n9]).canW b8 (o8 + ((IntKind.wrap .i64 (n8 + 1))).toNat) 1 ∧ I1 (IntKind.wrap .i64 (n8 + 1)) ((h3.wr b7 (o7 + n8.toNat) [.int .i64 n9]).wr b8 (o8 + ((IntKind.wrap .i64 (n8 + 1))).toNat) [.int .i64 n10]) ∧ m1 (IntKind.wrap .i64 (n8 + 1)) ((h3.wr b7 (o7 + n8.toNat) [.int .i64 n9]).wr b8 (o8 + ((IntKind.wrap .i64 (n8 + 1))).toNat) [.int .i64 n10]) < m1 n8 h3) (Q (.tuple ⟨[]⟩) h3))))) (par ((IntKind.wrap .i64 (n2 - n1)) = 1) (∃ (I2 : Int → Int → Hp → Prop) (m2 : Int → Int → Hp → Nat), I2 n n1 h ∧ (∀ n11 n12 : Int, ∀ h4 : Hp, I2 n11 n12 h4 → par (n11 < n12) ((0 : Int) ≤ 1 ∧ ∃ b9 o9, (l.a : Option Addr) = some ⟨b9, o9, none⟩ ∧ ((0 : Int) ≤ n1 ∧ n1 < (l.n : Int)) ∧ ∃ n13 : Int, h4.at b9 (o9 + n1.toNat) = some (.int .i64 n13) ∧ ∃ b10 o10, (l.a : Option Addr) = some ⟨b10, o10, none⟩ ∧ ((0 : Int) ≤ (IntKind.wrap .i64 (shrI .u64 (IntKind.wrap .u64 (IntKind.wrap .i64 (n11 + n12))) 1)) ∧ (IntKind.wrap .i64 (shrI .u64 (IntKind.wrap .u64 (IntKind.wrap .i64 (n11 + n12))) 1)) < (l.n : Int)) ∧ ∃ n14 : Int, h4.at b10 (o10 + ((IntKind.wrap .i64 (shrI .u64 (IntKind.wrap .u64 (IntKind.wrap .i64 (n11 + n12))) 1))).toNat) = some (.int .i64 n14) ∧ F56.T n13 n14 b o b1 o1 b2 o2 h4 fun r1 h5 => ∃ n15 : Int, r1 = .int .i64 n15 ∧ par (n15 < 0) (I2 n11 (IntKind.wrap .i64 (shrI .u64 (IntKind.wrap .u64 (IntKind.wrap .i64 (n11 + n12))) 1)) h5 ∧ m2 n11 (IntKind.wrap .i64 (shrI .u64 (IntKind.wrap .u64 (IntKind.wrap .i64 (n11 + n12))) 1)) h5 < m2 n11 n12 h4) (I2 (IntKind.wrap .i64 ((IntKind.wrap .i64 (shrI .u64 (IntKind.wrap .u64 (IntKind.wrap .i64 (n11 + n12))) 1)) + 1)) n12 h5 ∧ m2 (IntKind.wrap .i64 ((IntKind.wrap .i64 (shrI .u64 (IntKind.wrap .u64 (IntKind.wrap .i64 (n11 + n12))) 1)) + 1)) n12 h5 < m2 n11 n12 h4)) (∃ (I3 : Int → Hp → Prop) (m3 : Int → Hp → Nat), I3 n1 h4 ∧ (∀ n16 : Int, ∀ h6 : Hp, I3 n16 h6 → par (n11 < n16) (∃ b11 o11, (l.a : Option Addr) = some ⟨b11, o11, none⟩ ∧ ((0 : Int) ≤ (IntKind.wrap .i64 (n16 - 1)) ∧ (IntKind.wrap .i64 (n16 - 1)) < (l.n : Int)) ∧ ∃ n17 : Int, h6.at b11 (o11 + ((IntKind.wrap .i64 (n16 - 1))).toNat) = some (.int .i64 n17) ∧ ∃ b12 o12, (l.a : Option Addr) = some ⟨b12, o12, none⟩ ∧ ((0 : Int) ≤ n16 ∧ n16 < (l.n : Int)) ∧ ∃ n18 : Int, h6.at b12 (o12 + n16.toNat) = some (.int .i64 n18) ∧ ∃ b13 o13, (l.a : Option Addr) = some ⟨b13, o13, none⟩ ∧ ((0 : Int) ≤ n16 ∧ n16 < (l.n : Int)) ∧ h6.canW b13 (o13 + n16.toNat) 1 ∧ ∃ b14 o14, (l.a : Option Addr) = some ⟨b14, o14, none⟩ ∧ ((0 : Int) ≤ (IntKind.wrap .i64 (n16 - 1)) ∧ (IntKind.wrap .i64 (n16 - 1)) < (l.n : Int)) ∧ (h6.wr b13 (o13 + n16.toNat) [.int .i64 n17]).canW b14 (o14 + ((IntKind.wrap .i64 (n16 - 1))).toNat) 1 ∧ I3 (IntKind.wrap .i64 (n16 - 1)) ((h6.wr b13 (o13 + n16.toNat) [.int .i64 n17]).wr b14 (o14 + ((IntKind.wrap .i64 (n16 - 1))).toNat) [.int .i64 n18]) ∧ m3 (IntKind.wrap .i64 (n16 - 1)) ((h6.wr b13 (o13 + n16.toNat) [.int .i64 n17]).wr b14 (o14 + ((IntKind.wrap .i64 (n16 - 1))).toNat) [.int .i64 n18]) < m3 n16 h6) (Q (.tuple ⟨[]⟩) h6))))) ((0 : Int) ≤ 1 ∧ ∃ J : Int → Int → Hp → Prop, (∀ n19 n20 : Int, ∀ h7 : Hp, J n19 n20 h7 → ∃ (I4 : Int → Int → Hp → Prop) (m4 : Int → Int → Hp → Nat), I4 n19 n20 h7 ∧ (∀ n21 n22 : Int, ∀ h8 : Hp, I4 n21 n22 h8 → par (n21 < n22) ((0 : Int) ≤ 1 ∧ ∃ b15 o15, (l.a : Option Addr) = some ⟨b15, o15, none⟩ ∧ ((0 : Int) ≤ (IntKind.wrap .i64 ((IntKind.wrap .i64 ((IntKind.wrap .i64 ((IntKind.wrap .i64 (shrI .u64 (IntKind.wrap .u64 (IntKind.wrap .i64 (n + n2))) 1)) + n1)) - 1)) - (IntKind.wrap .i64 (shrI .u64 (IntKind.wrap .u64 (IntKind.wrap .i64 (n21 + n22))) 1)))) ∧ (IntKind.wrap .i64 ((IntKind.wrap .i64 ((IntKind.wrap .i64 ((IntKind.wrap .i64 (shrI .u64 (IntKind.wrap .u64 (IntKind.wrap .i64 (n + n2))) 1)) + n1)) - 1)) - (IntKind.wrap .i64 (shrI .u64 (IntKind.wrap .u64 (IntKind.wrap .i64 (n21 + n22))) 1)))) < (l.n : Int)) ∧ ∃ n23 : Int, h8.at b15 (o15 + ((IntKind.wrap .i64 ((IntKind.wrap .i64 ((IntKind.wrap .i64 ((IntKind.wrap .i64 (shrI .u64 (IntKind.wrap .u64 (IntKind.wrap .i64 (n + n2))) 1)) + n1)) - 1)) - (IntKind.wrap .i64 (shrI .u64 (IntKind.wrap .u64 (IntKind.wrap .i64 (n21 + n22))) 1))))).toNat) = some (.int .i64 n23) ∧ ∃ b16 o16, (l.a : Option Addr) = some ⟨b16, o16, none⟩ ∧ ((0 : Int) ≤ (IntKind.wrap .i64 (shrI .u64 (IntKind.wrap .u64 (IntKind.wrap .i64 (n21 + n22))) 1)) ∧ (IntKind.wrap .i64 (shrI .u64 (IntKind.wrap .u64 (IntKind.wrap .i64 (n21 + n22))) 1)) < (l.n : Int)) ∧ ∃ n24 : Int, h8.at b16 (o16 + ((IntKind.wrap .i64 (shrI .u64 (IntKind.wrap .u64 (IntKind.wrap .i64 (n21 + n22))) 1))).toNat) = some (.int .i64 n24) ∧ F56.T n23 n24 b o b1 o1 b2 o2 h8 fun r2 h9 => ∃ n25 : Int, r2 = .int .i64 n25 ∧ par (n25 < 0) (I4 n21 (IntKind.wrap .i64 (shrI .u64 (IntKind.wrap .u64 (IntKind.wrap .i64 (n21 + n22))) 1)) h9 ∧ m4 n21 (IntKind.wrap .i64 (shrI .u64 (IntKind.wrap .u64 (IntKind.wrap .i64 (n21 + n22))) 1)) h9 < m4 n21 n22 h8) (I4 (IntKind.wrap .i64 ((IntKind.wrap .i64 (shrI .u64 (IntKind.wrap .u64 (IntKind.wrap .i64 (n21 + n22))) 1)) + 1)) n22 h9 ∧ m4 (IntKind.wrap .i64 ((IntKind.wrap .i64 (shrI .u64 (IntKind.wrap .u64 (IntKind.wrap .i64 (n21 + n22))) 1)) + 1)) n22 h9 < m4 n21 n22 h8)) (∃ J1 : Hp → Prop, (∀ h10 : Hp, J1 h10 → ∃ J2 : Hp → Prop, (∀ h11 : Hp, J2 h11 → par ((IntKind.wrap .i64 (shrI .u64 (IntKind.wrap .u64 (IntKind.wrap .i64 (n + n2))) 1)) < (IntKind.wrap .i64 ((IntKind.wrap .i64 ((IntKind.wrap .i64 (shrI .u64 (IntKind.wrap .u64 (IntKind.wrap .i64 (n + n2))) 1)) + n1)) - n21))) (par ((IntKind.wrap .i64 ((IntKind.wrap .i64 ((IntKind.wrap .i64 (shrI .u64 (IntKind.wrap .u64 (IntKind.wrap .i64 (n + n2))) 1)) + n1)) - n21)) < n2) (T87 l (IntKind.wrap .i64 (shrI .u64 (IntKind.wrap .u64 (IntKind.wrap .i64 (n + n2))) 1)) (IntKind.wrap .i64 ((IntKind.wrap .i64 ((IntKind.wrap .i64 (shrI .u64 (IntKind.wrap .u64 (IntKind.wrap .i64 (n + n2))) 1)) + n1)) - n21)) n2 b o b1 o1 b2 o2 h11 fun r3 h12 => Q (.tuple ⟨[]⟩) h12) (Q (.tuple ⟨[]⟩) h11)) (Q (.tuple ⟨[]⟩) h11)) ∧ (par (n < n21) (par (n21 < (IntKind.wrap .i64 (shrI .u64 (IntKind.wrap .u64 (IntKind.wrap .i64 (n + n2))) 1))) (T87 l n n21 (IntKind.wrap .i64 (shrI .u64 (IntKind.wrap .u64 (IntKind.wrap .i64 (n + n2))) 1)) b o b1 o1 b2 o2 h10 fun r4 h13 => J2 h13) (J2 h10)) (J2 h10))) ∧ (par (n21 < n1) (par (n1 < (IntKind.wrap .i64 ((IntKind.wrap .i64 ((IntKind.wrap .i64 (shrI .u64 (IntKind.wrap .u64 (IntKind.wrap .i64 (n + n2))) 1)) + n1)) - n21))) (F102.T l n21 n1 (IntKind.wrap .i64 ((IntKind.wrap .i64 ((IntKind.wrap .i64 (shrI .u64 (IntKind.wrap .u64 (IntKind.wrap .i64 (n + n2))) 1)) + n1)) - n21)) b o b1 o1 b2 o2 h8 fun r5 h14 => J1 h14) (J1 h8)) (J1 h8))))) ∧ (par ((IntKind.wrap .i64 (shrI .u64 (IntKind.wrap .u64 (IntKind.wrap .i64 (n + n2))) 1)) < n1) (J (IntKind.wrap .i64 ((IntKind.wrap .i64 ((IntKind.wrap .i64 (shrI .u64 (IntKind.wrap .u64 (IntKind.wrap .i64 (n + n2))) 1)) + n1)) - n2)) (IntKind.wrap .i64 (shrI .u64 (IntKind.wrap .u64 (IntKind.wrap .i64 (n + n2))) 1)) h) (J n n1 h))))
def F87.TN : Nat → Sl → Int → Int → Int → Nat → Nat → Nat → Nat → Nat → Nat → PT
  | 0 => fun _ _ _ _ _ _ _ _ _ _ _ _ => False
  | n + 1 => F87.G (F87.TN n)
def F87.T (l : Sl) (n n1 n2 : Int) (b : Nat) (o : Nat) (b1 : Nat) (o1 : Nat) (b2 : Nat) (o2 : Nat) : PT := fun h Q => ∃ nf, F87.TN nf l n n1 n2 b o b1 o1 b2 o2 h Q
def F87.W (T87 : Sl → Int → Int → Int → Nat → Nat → Nat → Nat → Nat → Nat → PT) (args : List Value) : PT := match args with
  | [.slice l_a l_n l_c, .int .i64 n, .int .i64 n1, .int .i64 n2, .func (.func 56) ⟨[]⟩ ⟨[.pointer (some ⟨b, o, none⟩), .pointer (some ⟨b1, o1, none⟩), .pointer (some ⟨b2, o2, none⟩)]⟩] => T87 ⟨l_a, l_n, l_c⟩ n n1 n2 b o b1 o1 b2 o2
  | _ => fun _ _ => False
def F87.V : List Value → PT := F87.W F87.T
theorem F87.gen (V : Value → List Value → PT) (T56 : Int → Int → Nat → Nat → Nat → Nat → Nat → Nat → PT) (T87 : Sl → Int → Int → Int → Nat → Nat → Nat → Nat → Nat → Nat → PT) (T102 : Sl → Int → Int → Int → Nat → Nat → Nat → Nat → Nat → Nat → PT) (l : Sl) (n n1 n2 : Int) (b : Nat) (o : Nat) (b1 : Nat) (o1 : Nat) (b2 : Nat) (o2 : Nat) : denF Try.prog [] [(56, F56.W T56), (87, F87.W T87), (102, F102.W T102)] V [(63, .join [(20, .int .i64), (21, .int .i64)] []), (172, .loop [(10, .int .i64), (11, .int .i64)] []), (428, .loop [(14, .int .i64), (15, .int .i64)] []), (698, .loop [(13, .int .i64)] []), (1020, .loop [(20, .int .i64), (21, .int .i64)] []), (1023, .join [] []), (1722, .loop [(17, .int .i64)] []), (2047, .join [] []), (5514, .order [0, 1, 2, 3, 4, 5, 6, 7, 8, 9, 10]), (11172, .order [0, 1, 2, 3, 4, 5, 6, 7, 8, 9, 10, 11, 12, 13, 14, 15, 16, 17]), (13706, .order [0, 1, 2, 3, 4, 5, 6, 7, 8, 9, 10, 11]), (27556, .order [0, 1, 2, 3, 4, 5, 6, 7, 8, 9, 10, 11, 12, 13, 14, 15, 16, 17]), (32650, .order [0, 1, 2, 3, 4, 5, 6, 7, 8, 9, 10, 11, 12, 13])] Try.f87 [.v (.slice l.a l.n l.c), .v (.int .i64 n), .v (.int .i64 n1), .v (.int .i64 n2), .v (.func (.func 56) ⟨[]⟩ ⟨[.pointer (some ⟨b, o, none⟩), .pointer (some ⟨b1, o1, none⟩), .pointer (some ⟨b2, o2, none⟩)]⟩)] = fun h Q =>
  par ((IntKind.wrap .i64 (n1 - n)) = 1) (∃ (I : Int → Int → Hp → Prop) (m : Int → Int → Hp → Nat), I n1 n2 h ∧ (∀ n3 n4 : Int, ∀ h1 : Hp, I n3 n4 h1 → par (n3 < n4) ((0 : Int) ≤ 1 ∧ ∃ b3 o3, (l.a : Option Addr) = some ⟨b3, o3, none⟩ ∧ ((0 : Int) ≤ (IntKind.wrap .i64 (shrI .u64 (IntKind.wrap .u64 (IntKind.wrap .i64 (n3 + n4))) 1)) ∧ (IntKind.wrap .i64 (shrI .u64 (IntKind.wrap .u64 (IntKind.wrap .i64 (n3 + n4))) 1)) < (l.n : Int)) ∧ ∃ n5 : Int, h1.at b3 (o3 + ((IntKind.wrap .i64 (shrI .u64 (IntKind.wrap .u64 (IntKind.wrap .i64 (n3 + n4))) 1))).toNat) = some (.int .i64 n5) ∧ ∃ b4 o4, (l.a : Option Addr) = some ⟨b4, o4, none⟩ ∧ ((0 : Int) ≤ n ∧ n < (l.n : Int)) ∧ ∃ n6 : Int, h1.at b4 (o4 + n.toNat) = some (.int .i64 n6) ∧ T56 n5 n6 b o b1 o1 b2 o2 h1 fun r h2 => ∃ n7 : Int, r = .int .i64 n7 ∧ par (n7 < 0) (I (IntKind.wrap .i64 ((IntKind.wrap .i64 (shrI .u64 (IntKind.wrap .u64 (IntKind.wrap .i64 (n3 + n4))) 1)) + 1)) n4 h2 ∧ m (IntKind.wrap .i64 ((IntKind.wrap .i64 (shrI .u64 (IntKind.wrap .u64 (IntKind.wrap .i64 (n3 + n4))) 1)) + 1)) n4 h2 < m n3 n4 h1) (I n3 (IntKind.wrap .i64 (shrI .u64 (IntKind.wrap .u64 (IntKind.wrap .i64 (n3 + n4))) 1)) h2 ∧ m n3 (IntKind.wrap .i64 (shrI .u64 (IntKind.wrap .u64 (IntKind.wrap .i64 (n3 + n4))) 1)) h2 < m n3 n4 h1)) (∃ (I1 : Int → Hp → Prop) (m1 : Int → Hp → Nat), I1 n h1 ∧ (∀ n8 : Int, ∀ h3 : Hp, I1 n8 h3 → par (n8 < (IntKind.wrap .i64 (n3 - 1))) (∃ b5 o5, (l.a : Option Addr) = some ⟨b5, o5, none⟩ ∧ ((0 : Int) ≤ (IntKind.wrap .i64 (n8 + 1)) ∧ (IntKind.wrap .i64 (n8 + 1)) < (l.n : Int)) ∧ ∃ n9 : Int, h3.at b5 (o5 + ((IntKind.wrap .i64 (n8 + 1))).toNat) = some (.int .i64 n9) ∧ ∃ b6 o6, (l.a : Option Addr) = some ⟨b6, o6, none⟩ ∧ ((0 : Int) ≤ n8 ∧ n8 < (l.n : Int)) ∧ ∃ n10 : Int, h3.at b6 (o6 + n8.toNat) = some (.int .i64 n10) ∧ ∃ b7 o7, (l.a : Option Addr) = some ⟨b7, o7, none⟩ ∧ ((0 : Int) ≤ n8 ∧ n8 < (l.n : Int)) ∧ h3.canW b7 (o7 + n8.toNat) 1 ∧ ∃ b8 o8, (l.a : Option Addr) = some ⟨b8, o8, none⟩ ∧ ((0 : Int) ≤ (IntKind.wrap .i64 (n8 + 1)) ∧ (IntKind.wrap .i64 (n8 + 1)) < (l.n : Int)) ∧ (h3.wr b7 (o7 + n8.toNat) [.int .i64 n9]).canW b8 (o8 + ((IntKind.wrap .i64 (n8 + 1))).toNat) 1 ∧ I1 (IntKind.wrap .i64 (n8 + 1)) ((h3.wr b7 (o7 + n8.toNat) [.int .i64 n9]).wr b8 (o8 + ((IntKind.wrap .i64 (n8 + 1))).toNat) [.int .i64 n10]) ∧ m1 (IntKind.wrap .i64 (n8 + 1)) ((h3.wr b7 (o7 + n8.toNat) [.int .i64 n9]).wr b8 (o8 + ((IntKind.wrap .i64 (n8 + 1))).toNat) [.int .i64 n10]) < m1 n8 h3) (Q (.tuple ⟨[]⟩) h3))))) (par ((IntKind.wrap .i64 (n2 - n1)) = 1) (∃ (I2 : Int → Int → Hp → Prop) (m2 : Int → Int → Hp → Nat), I2 n n1 h ∧ (∀ n11 n12 : Int, ∀ h4 : Hp, I2 n11 n12 h4 → par (n11 < n12) ((0 : Int) ≤ 1 ∧ ∃ b9 o9, (l.a : Option Addr) = some ⟨b9, o9, none⟩ ∧ ((0 : Int) ≤ n1 ∧ n1 < (l.n : Int)) ∧ ∃ n13 : Int, h4.at b9 (o9 + n1.toNat) = some (.int .i64 n13) ∧ ∃ b10 o10, (l.a : Option Addr) = some ⟨b10, o10, none⟩ ∧ ((0 : Int) ≤ (IntKind.wrap .i64 (shrI .u64 (IntKind.wrap .u64 (IntKind.wrap .i64 (n11 + n12))) 1)) ∧ (IntKind.wrap .i64 (shrI .u64 (IntKind.wrap .u64 (IntKind.wrap .i64 (n11 + n12))) 1)) < (l.n : Int)) ∧ ∃ n14 : Int, h4.at b10 (o10 + ((IntKind.wrap .i64 (shrI .u64 (IntKind.wrap .u64 (IntKind.wrap .i64 (n11 + n12))) 1))).toNat) = some (.int .i64 n14) ∧ T56 n13 n14 b o b1 o1 b2 o2 h4 fun r1 h5 => ∃ n15 : Int, r1 = .int .i64 n15 ∧ par (n15 < 0) (I2 n11 (IntKind.wrap .i64 (shrI .u64 (IntKind.wrap .u64 (IntKind.wrap .i64 (n11 + n12))) 1)) h5 ∧ m2 n11 (IntKind.wrap .i64 (shrI .u64 (IntKind.wrap .u64 (IntKind.wrap .i64 (n11 + n12))) 1)) h5 < m2 n11 n12 h4) (I2 (IntKind.wrap .i64 ((IntKind.wrap .i64 (shrI .u64 (IntKind.wrap .u64 (IntKind.wrap .i64 (n11 + n12))) 1)) + 1)) n12 h5 ∧ m2 (IntKind.wrap .i64 ((IntKind.wrap .i64 (shrI .u64 (IntKind.wrap .u64 (IntKind.wrap .i64 (n11 + n12))) 1)) + 1)) n12 h5 < m2 n11 n12 h4)) (∃ (I3 : Int → Hp → Prop) (m3 : Int → Hp → Nat), I3 n1 h4 ∧ (∀ n16 : Int, ∀ h6 : Hp, I3 n16 h6 → par (n11 < n16) (∃ b11 o11, (l.a : Option Addr) = some ⟨b11, o11, none⟩ ∧ ((0 : Int) ≤ (IntKind.wrap .i64 (n16 - 1)) ∧ (IntKind.wrap .i64 (n16 - 1)) < (l.n : Int)) ∧ ∃ n17 : Int, h6.at b11 (o11 + ((IntKind.wrap .i64 (n16 - 1))).toNat) = some (.int .i64 n17) ∧ ∃ b12 o12, (l.a : Option Addr) = some ⟨b12, o12, none⟩ ∧ ((0 : Int) ≤ n16 ∧ n16 < (l.n : Int)) ∧ ∃ n18 : Int, h6.at b12 (o12 + n16.toNat) = some (.int .i64 n18) ∧ ∃ b13 o13, (l.a : Option Addr) = some ⟨b13, o13, none⟩ ∧ ((0 : Int) ≤ n16 ∧ n16 < (l.n : Int)) ∧ h6.canW b13 (o13 + n16.toNat) 1 ∧ ∃ b14 o14, (l.a : Option Addr) = some ⟨b14, o14, none⟩ ∧ ((0 : Int) ≤ (IntKind.wrap .i64 (n16 - 1)) ∧ (IntKind.wrap .i64 (n16 - 1)) < (l.n : Int)) ∧ (h6.wr b13 (o13 + n16.toNat) [.int .i64 n17]).canW b14 (o14 + ((IntKind.wrap .i64 (n16 - 1))).toNat) 1 ∧ I3 (IntKind.wrap .i64 (n16 - 1)) ((h6.wr b13 (o13 + n16.toNat) [.int .i64 n17]).wr b14 (o14 + ((IntKind.wrap .i64 (n16 - 1))).toNat) [.int .i64 n18]) ∧ m3 (IntKind.wrap .i64 (n16 - 1)) ((h6.wr b13 (o13 + n16.toNat) [.int .i64 n17]).wr b14 (o14 + ((IntKind.wrap .i64 (n16 - 1))).toNat) [.int .i64 n18]) < m3 n16 h6) (Q (.tuple ⟨[]⟩) h6))))) ((0 : Int) ≤ 1 ∧ ∃ J : Int → Int → Hp → Prop, (∀ n19 n20 : Int, ∀ h7 : Hp, J n19 n20 h7 → ∃ (I4 : Int → Int → Hp → Prop) (m4 : Int → Int → Hp → Nat), I4 n19 n20 h7 ∧ (∀ n21 n22 : Int, ∀ h8 : Hp, I4 n21 n22 h8 → par (n21 < n22) ((0 : Int) ≤ 1 ∧ ∃ b15 o15, (l.a : Option Addr) = some ⟨b15, o15, none⟩ ∧ ((0 : Int) ≤ (IntKind.wrap .i64 ((IntKind.wrap .i64 ((IntKind.wrap .i64 ((IntKind.wrap .i64 (shrI .u64 (IntKind.wrap .u64 (IntKind.wrap .i64 (n + n2))) 1)) + n1)) - 1)) - (IntKind.wrap .i64 (shrI .u64 (IntKind.wrap .u64 (IntKind.wrap .i64 (n21 + n22))) 1)))) ∧ (IntKind.wrap .i64 ((IntKind.wrap .i64 ((IntKind.wrap .i64 ((IntKind.wrap .i64 (shrI .u64 (IntKind.wrap .u64 (IntKind.wrap .i64 (n + n2))) 1)) + n1)) - 1)) - (IntKind.wrap .i64 (shrI .u64 (IntKind.wrap .u64 (IntKind.wrap .i64 (n21 + n22))) 1)))) < (l.n : Int)) ∧ ∃ n23 : Int, h8.at b15 (o15 + ((IntKind.wrap .i64 ((IntKind.wrap .i64 ((IntKind.wrap .i64 ((IntKind.wrap .i64 (shrI .u64 (IntKind.wrap .u64 (IntKind.wrap .i64 (n + n2))) 1)) + n1)) - 1)) - (IntKind.wrap .i64 (shrI .u64 (IntKind.wrap .u64 (IntKind.wrap .i64 (n21 + n22))) 1))))).toNat) = some (.int .i64 n23) ∧ ∃ b16 o16, (l.a : Option Addr) = some ⟨b16, o16, none⟩ ∧ ((0 : Int) ≤ (IntKind.wrap .i64 (shrI .u64 (IntKind.wrap .u64 (IntKind.wrap .i64 (n21 + n22))) 1)) ∧ (IntKind.wrap .i64 (shrI .u64 (IntKind.wrap .u64 (IntKind.wrap .i64 (n21 + n22))) 1)) < (l.n : Int)) ∧ ∃ n24 : Int, h8.at b16 (o16 + ((IntKind.wrap .i64 (shrI .u64 (IntKind.wrap .u64 (IntKind.wrap .i64 (n21 + n22))) 1))).toNat) = some (.int .i64 n24) ∧ T56 n23 n24 b o b1 o1 b2 o2 h8 fun r2 h9 => ∃ n25 : Int, r2 = .int .i64 n25 ∧ par (n25 < 0) (I4 n21 (IntKind.wrap .i64 (shrI .u64 (IntKind.wrap .u64 (IntKind.wrap .i64 (n21 + n22))) 1)) h9 ∧ m4 n21 (IntKind.wrap .i64 (shrI .u64 (IntKind.wrap .u64 (IntKind.wrap .i64 (n21 + n22))) 1)) h9 < m4 n21 n22 h8) (I4 (IntKind.wrap .i64 ((IntKind.wrap .i64 (shrI .u64 (IntKind.wrap .u64 (IntKind.wrap .i64 (n21 + n22))) 1)) + 1)) n22 h9 ∧ m4 (IntKind.wrap .i64 ((IntKind.wrap .i64 (shrI .u64 (IntKind.wrap .u64 (IntKind.wrap .i64 (n21 + n22))) 1)) + 1)) n22 h9 < m4 n21 n22 h8)) (∃ J1 : Hp → Prop, (∀ h10 : Hp, J1 h10 → ∃ J2 : Hp → Prop, (∀ h11 : Hp, J2 h11 → par ((IntKind.wrap .i64 (shrI .u64 (IntKind.wrap .u64 (IntKind.wrap .i64 (n + n2))) 1)) < (IntKind.wrap .i64 ((IntKind.wrap .i64 ((IntKind.wrap .i64 (shrI .u64 (IntKind.wrap .u64 (IntKind.wrap .i64 (n + n2))) 1)) + n1)) - n21))) (par ((IntKind.wrap .i64 ((IntKind.wrap .i64 ((IntKind.wrap .i64 (shrI .u64 (IntKind.wrap .u64 (IntKind.wrap .i64 (n + n2))) 1)) + n1)) - n21)) < n2) (T87 l (IntKind.wrap .i64 (shrI .u64 (IntKind.wrap .u64 (IntKind.wrap .i64 (n + n2))) 1)) (IntKind.wrap .i64 ((IntKind.wrap .i64 ((IntKind.wrap .i64 (shrI .u64 (IntKind.wrap .u64 (IntKind.wrap .i64 (n + n2))) 1)) + n1)) - n21)) n2 b o b1 o1 b2 o2 h11 fun r3 h12 => Q (.tuple ⟨[]⟩) h12) (Q (.tuple ⟨[]⟩) h11)) (Q (.tuple ⟨[]⟩) h11)) ∧ (par (n < n21) (par (n21 < (IntKind.wrap .i64 (shrI .u64 (IntKind.wrap .u64 (IntKind.wrap .i64 (n + n2))) 1))) (T87 l n n21 (IntKind.wrap .i64 (shrI .u64 (IntKind.wrap .u64 (IntKind.wrap .i64 (n + n2))) 1)) b o b1 o1 b2 o2 h10 fun r4 h13 => J2 h13) (J2 h10)) (J2 h10))) ∧ (par (n21 < n1) (par (n1 < (IntKind.wrap .i64 ((IntKind.wrap .i64 ((IntKind.wrap .i64 (shrI .u64 (IntKind.wrap .u64 (IntKind.wrap .i64 (n + n2))) 1)) + n1)) - n21))) (T102 l n21 n1 (IntKind.wrap .i64 ((IntKind.wrap .i64 ((IntKind.wrap .i64 (shrI .u64 (IntKind.wrap .u64 (IntKind.wrap .i64 (n + n2))) 1)) + n1)) - n21)) b o b1 o1 b2 o2 h8 fun r5 h14 => J1 h14) (J1 h8)) (J1 h8))))) ∧ (par ((IntKind.wrap .i64 (shrI .u64 (IntKind.wrap .u64 (IntKind.wrap .i64 (n + n2))) 1)) < n1) (J (IntKind.wrap .i64 ((IntKind.wrap .i64 ((IntKind.wrap .i64 (shrI .u64 (IntKind.wrap .u64 (IntKind.wrap .i64 (n + n2))) 1)) + n1)) - n2)) (IntKind.wrap .i64 (shrI .u64 (IntKind.wrap .u64 (IntKind.wrap .i64 (n + n2))) 1)) h) (J n n1 h)))) := by kernel_rfl
theorem F87.den (V : Value → List Value → PT) (nf : Nat) (l : Sl) (n n1 n2 : Int) (b : Nat) (o : Nat) (b1 : Nat) (o1 : Nat) (b2 : Nat) (o2 : Nat) : denF Try.prog [] [(56, F56.V), (87, F87.W (F87.TN nf)), (102, F102.V)] V [(63, .join [(20, .int .i64), (21, .int .i64)] []), (172, .loop [(10, .int .i64), (11, .int .i64)] []), (428, .loop [(14, .int .i64), (15, .int .i64)] []), (698, .loop [(13, .int .i64)] []), (1020, .loop [(20, .int .i64), (21, .int .i64)] []), (1023, .join [] []), (1722, .loop [(17, .int .i64)] []), (2047, .join [] []), (5514, .order [0, 1, 2, 3, 4, 5, 6, 7, 8, 9, 10]), (11172, .order [0, 1, 2, 3, 4, 5, 6, 7, 8, 9, 10, 11, 12, 13, 14, 15, 16, 17]), (13706, .order [0, 1, 2, 3, 4, 5, 6, 7, 8, 9, 10, 11]), (27556, .order [0, 1, 2, 3, 4, 5, 6, 7, 8, 9, 10, 11, 12, 13, 14, 15, 16, 17]), (32650, .order [0, 1, 2, 3, 4, 5, 6, 7, 8, 9, 10, 11, 12, 13])] Try.f87 [.v (.slice l.a l.n l.c), .v (.int .i64 n), .v (.int .i64 n1), .v (.int .i64 n2), .v (.func (.func 56) ⟨[]⟩ ⟨[.pointer (some ⟨b, o, none⟩), .pointer (some ⟨b1, o1, none⟩), .pointer (some ⟨b2, o2, none⟩)]⟩)] = F87.TN (nf + 1) l n n1 n2 b o b1 o1 b2 o2 := F87.gen V F56.T (F87.TN nf) F102.T l n n1 n2 b o b1 o1 b2 o2
theorem F87.okN : ∀ n, FOk Try.prog 87 (F87.W (F87.TN n))
  | 0 => by
    refine ⟨⟨_, Try.func87, rfl, rfl⟩, fun args => ?_⟩
    unfold F87.W
    split
    · exact fun h Q hq => hq.elim
    · exact fun h Q hq => hq.elim
  | nf + 1 => by
    refine ⟨⟨_, Try.func87, rfl, rfl⟩, fun args => ?_⟩
    have hG : GOk Try.prog [(56, F56.V), (87, F87.W (F87.TN nf)), (102, F102.V)] := GOk.cons F56.ok (GOk.cons (F87.okN nf) (GOk.cons F102.ok (GOk.nil)))
    have hV : VOk Try.prog noV := noV_ok
    unfold F87.W
    split
    · exact denF_okV hG hV Try.func87 (fun h Q hq => (F87.den _ nf _ _ _ _ _ _ _ _ _ _) ▸ hq)
    · exact fun h Q hq => hq.elim
theorem F87.ok : FOk Try.prog 87 F87.V := by
  refine ⟨(F87.okN 0).1, fun args h Q hq => ?_⟩
  unfold F87.V F87.W at hq
  split at hq
  · obtain ⟨nf, hn⟩ := hq
    exact (F87.okN nf).2 _ h Q hn
  · exact hq.elim
@[reducible] def F78.G (T86 : Sl → Int → Int → Nat → Nat → Nat → Nat → Nat → Nat → PT) (T87 : Sl → Int → Int → Int → Nat → Nat → Nat → Nat → Nat → Nat → PT) (l : Sl) (n : Int) (b : Nat) (o : Nat) (b1 : Nat) (o1 : Nat) (b2 : Nat) (o2 : Nat) : PT := fun h Q =>
  ∃ (I : Int → Int → Hp → Prop) (m : Int → Int → Hp → Nat), I 0 20 h ∧ (∀ n1 n2 : Int, ∀ h1 : Hp, I n1 n2 h1 → par (n2 ≤ n) (T86 l n1 n2 b o b1 o1 b2 o2 h1 fun r h2 => I n2 (IntKind.wrap .i64 (n2 + 20)) h2 ∧ m n2 (IntKind.wrap .i64 (n2 + 20)) h2 < m n1 n2 h1) (T86 l n1 n b o b1 o1 b2 o2 h1 fun r1 h3 => ∃ (I1 : Int → Hp → Prop) (m1 : Int → Hp → Nat), I1 20 h3 ∧ (∀ n3 : Int, ∀ h4 : Hp, I1 n3 h4 → par (n3 < n) (∃ (I2 : Int → Int → Hp → Prop) (m2 : Int → Int → Hp → Nat), I2 0 (IntKind.wrap .i64 (2 * n3)) h4 ∧ (∀ n4 n5 : Int, ∀ h5 : Hp, I2 n4 n5 h5 → par (n5 ≤ n) (T87 l n4 (IntKind.wrap .i64 (n4 + n3)) n5 b o b1 o1 b2 o2 h5 fun r2 h6 => I2 n5 (IntKind.wrap .i64 (n5 + (IntKind.wrap .i64 (2 * n3)))) h6 ∧ m2 n5 (IntKind.wrap .i64 (n5 + (IntKind.wrap .i64 (2 * n3)))) h6 < m2 n4 n5 h5) (par ((IntKind.wrap .i64 (n4 + n3)) < n) (T87 l n4 (IntKind.wrap .i64 (n4 + n3)) n b o b1 o1 b2 o2 h5 fun r3 h7 => I1 (IntKind.wrap .i64 (n3 * 2)) h7 ∧ m1 (IntKind.wrap .i64 (n3 * 2)) h7 < m1 n3 h4) (I1 (IntKind.wrap .i64 (n3 * 2)) h5 ∧ m1 (IntKind.wrap .i64 (n3 * 2)) h5 < m1 n3 h4)))) (Q (.tuple ⟨[]⟩) h4))))
def F78.T (l : Sl) (n : Int) (b : Nat) (o : Nat) (b1 : Nat) (o1 : Nat) (b2 : Nat) (o2 : Nat) : PT := F78.G F86.T F87.T l n b o b1 o1 b2 o2
theorem F78.gen (V : Value → List Value → PT) (T86 : Sl → Int → Int → Nat → Nat → Nat → Nat → Nat → Nat → PT) (T87 : Sl → Int → Int → Int → Nat → Nat → Nat → Nat → Nat → Nat → PT) (l : Sl) (n : Int) (b : Nat) (o : Nat) (b1 : Nat) (o1 : Nat) (b2 : Nat) (o2 : Nat) : denF Try.prog [] [(86, F86.W T86), (87, F87.W T87)] V [(28, .loop [(7, .int .i64), (8, .int .i64)] []), (62, .loop [(6, .int .i64)] []), (3988, .loop [(7, .int .i64), (8, .int .i64)] [])] Try.f78 [.v (.slice l.a l.n l.c), .v (.int .i64 n), .v (.func (.func 56) ⟨[]⟩ ⟨[.pointer (some ⟨b, o, none⟩), .pointer (some ⟨b1, o1, none⟩), .pointer (some ⟨b2, o2, none⟩)]⟩)] = F78.G T86 T87 l n b o b1 o1 b2 o2 := by kernel_rfl
theorem F78.den (V : Value → List Value → PT) (l : Sl) (n : Int) (b : Nat) (o : Nat) (b1 : Nat) (o1 : Nat) (b2 : Nat) (o2 : Nat) : denF Try.prog [] [(86, F86.V), (87, F87.V)] V [(28, .loop [(7, .int .i64), (8, .int .i64)] []), (62, .loop [(6, .int .i64)] []), (3988, .loop [(7, .int .i64), (8, .int .i64)] [])] Try.f78 [.v (.slice l.a l.n l.c), .v (.int .i64 n), .v (.func (.func 56) ⟨[]⟩ ⟨[.pointer (some ⟨b, o, none⟩), .pointer (some ⟨b1, o1, none⟩), .pointer (some ⟨b2, o2, none⟩)]⟩)] = F78.T l n b o b1 o1 b2 o2 := F78.gen V F86.T F87.T l n b o b1 o1 b2 o2
def F78.W (T78 : Sl → Int → Nat → Nat → Nat → Nat → Nat → Nat → PT) (args : List Value) : PT := match args with
  | [.slice l_a l_n l_c, .int .i64 n, .func (.func 56) ⟨[]⟩ ⟨[.pointer (some ⟨b, o, none⟩), .pointer (some ⟨b1, o1, none⟩), .pointer (some ⟨b2, o2, none⟩)]⟩] => T78 ⟨l_a, l_n, l_c⟩ n b o b1 o1 b2 o2
  | _ => fun _ _ => False
def F78.V : List Value → PT := F78.W F78.T
theorem F78.ok : FOk Try.prog 78 F78.V := by
  refine ⟨⟨_, Try.func78, rfl, rfl⟩, fun args => ?_⟩
  have hG : GOk Try.prog [(86, F86.V), (87, F87.V)] := GOk.cons F86.ok (GOk.cons F87.ok (GOk.nil))
  have hV : VOk Try.prog noV := noV_ok
  unfold F78.V F78.W
  split
  · exact denF_okV hG hV Try.func78 (fun h Q hq => (F78.den _ _ _ _ _ _ _ _ _) ▸ hq)
  · exact fun h Q hq => hq.elim
@[reducible] def F55.G (T78 : Sl → Int → Nat → Nat → Nat → Nat → Nat → Nat → PT) (l : Sl) (b : Nat) (o : Nat) (b1 : Nat) (o1 : Nat) (b2 : Nat) (o2 : Nat) : PT := fun h Q =>
  T78 l (l.n : Int) b o b1 o1 b2 o2 h fun r h1 => Q (.tuple ⟨[]⟩) h1
def F55.T (l : Sl) (b : Nat) (o : Nat) (b1 : Nat) (o1 : Nat) (b2 : Nat) (o2 : Nat) : PT := F55.G F78.T l b o b1 o1 b2 o2
theorem F55.gen (V : Value → List Value → PT) (T78 : Sl → Int → Nat → Nat → Nat → Nat → Nat → Nat → PT) (l : Sl) (b : Nat) (o : Nat) (b1 : Nat) (o1 : Nat) (b2 : Nat) (o2 : Nat) : denF Try.prog [] [(78, F78.W T78)] V [] Try.f55 [.v (.slice l.a l.n l.c), .v (.func (.func 56) ⟨[]⟩ ⟨[.pointer (some ⟨b, o, none⟩), .pointer (some ⟨b1, o1, none⟩), .pointer (some ⟨b2, o2, none⟩)]⟩)] = F55.G T78 l b o b1 o1 b2 o2 := by kernel_rfl
theorem F55.den (V : Value → List Value → PT) (l : Sl) (b : Nat) (o : Nat) (b1 : Nat) (o1 : Nat) (b2 : Nat) (o2 : Nat) : denF Try.prog [] [(78, F78.V)] V [] Try.f55 [.v (.slice l.a l.n l.c), .v (.func (.func 56) ⟨[]⟩ ⟨[.pointer (some ⟨b, o, none⟩), .pointer (some ⟨b1, o1, none⟩), .pointer (some ⟨b2, o2, none⟩)]⟩)] = F55.T l b o b1 o1 b2 o2 := F55.gen V F78.T l b o b1 o1 b2 o2
def F55.W (T55 : Sl → Nat → Nat → Nat → Nat → Nat → Nat → PT) (args : List Value) : PT := match args with
  | [.slice l_a l_n l_c, .func (.func 56) ⟨[]⟩ ⟨[.pointer (some ⟨b, o, none⟩), .pointer (some ⟨b1, o1, none⟩), .pointer (some ⟨b2, o2, none⟩)]⟩] => T55 ⟨l_a, l_n, l_c⟩ b o b1 o1 b2 o2
  | _ => fun _ _ => False
def F55.V : List Value → PT := F55.W F55.T
theorem F55.ok : FOk Try.prog 55 F55.V := by
  refine ⟨⟨_, Try.func55, rfl, rfl⟩, fun args => ?_⟩
  have hG : GOk Try.prog [(78, F78.V)] := GOk.cons F78.ok (GOk.nil)
  have hV : VOk Try.prog noV := noV_ok
  unfold F55.V F55.W
  split
  · exact denF_okV hG hV Try.func55 (fun h Q hq => (F55.den _ _ _ _ _ _ _ _) ▸ hq)
  · exact fun h Q hq => hq.elim
@[reducible] def F25.G (T26 : Int → Int → Int → Int → Int → Int → Int → Int → Int → Int → Int → Int → Int → Int → Int → Int → Int → Int → Int → Int → Int → Int → Int → Int → Int → Int → Int → Option Addr → PT) (T54 : Int → Int → Int → Int → Int → Int → Int → Int → Int → Int → Int → Int → Int → Int → Int → Int → Int → Int → Int → Int → Int → Int → Int → Int → Int → Int → Int → Option Addr → PT) (T55 : Sl → Nat → Nat → Nat → Nat → Nat → Nat → PT) (n n1 : Int) (n2 n3 : Int) (n4 n5 : Int) (n6 n7 : Int) (n8 n9 : Int) (n10 n11 : Int) (n12 n13 : Int) (n14 n15 : Int) (n16 n17 : Int) (n18 n19 : Int) (n20 n21 : Int) (n22 n23 : Int) (n24 n25 n26 : Int) (p : Option Addr) : PT := fun h Q =>
  ∀ b, h b = none → ∀ b1, (h.new b (.cells ⟨[.int .i64 n, .int .i64 n1, .int .i64 n2, .int .i64 n3, .int .i64 n4, .int .i64 n5, .int .i64 n6, .int .i64 n7, .int .i64 n8, .int .i64 n9, .int .i64 n10, .int .i64 n11, .int .i64 n12, .int .i64 n13, .int .i64 n14, .int .i64 n15, .int .i64 n16, .int .i64 n17, .int .i64 n18, .int .i64 n19, .int .i64 n20, .int .i64 n21, .int .i64 n22, .int .i64 n23, .int .i64 n24, .int .i64 n25, .int .i64 n26]⟩ 58 (0, 0))) b1 = none → ∃ n27 : Int, ((h.new b (.cells ⟨[.int .i64 n, .int .i64 n1, .int .i64 n2, .int .i64 n3, .int .i64 n4, .int .i64 n5, .int .i64 n6, .int .i64 n7, .int .i64 n8, .int .i64 n9, .int .i64 n10, .int .i64 n11, .int .i64 n12, .int .i64 n13, .int .i64 n14, .int .i64 n15, .int .i64 n16, .int .i64 n17, .int .i64 n18, .int .i64 n19, .int .i64 n20, .int .i64 n21, .int .i64 n22, .int .i64 n23, .int .i64 n24, .int .i64 n25, .int .i64 n26]⟩ 58 (0, 0))).new b1 (.cells ⟨[.pointer p]⟩ 31 (0, 0))).at b 0 = some (.int .i64 n27) ∧ ∃ n28 : Int, ((h.new b (.cells ⟨[.int .i64 n, .int .i64 n1, .int .i64 n2, .int .i64 n3, .int .i64 n4, .int .i64 n5, .int .i64 n6, .int .i64 n7, .int .i64 n8, .int .i64 n9, .int .i64 n10, .int .i64 n11, .int .i64 n12, .int .i64 n13, .int .i64 n14, .int .i64 n15, .int .i64 n16, .int .i64 n17, .int .i64 n18, .int .i64 n19, .int .i64 n20, .int .i64 n21, .int .i64 n22, .int .i64 n23, .int .i64 n24, .int .i64 n25, .int .i64 n26]⟩ 58 (0, 0))).new b1 (.cells ⟨[.pointer p]⟩ 31 (0, 0))).at b 1 = some (.int .i64 n28) ∧ ∃ n29 : Int, ((h.new b (.cells ⟨[.int .i64 n, .int .i64 n1, .int .i64 n2, .int .i64 n3, .int .i64 n4, .int .i64 n5, .int .i64 n6, .int .i64 n7, .int .i64 n8, .int .i64 n9, .int .i64 n10, .int .i64 n11, .int .i64 n12, .int .i64 n13, .int .i64 n14, .int .i64 n15, .int .i64 n16, .int .i64 n17, .int .i64 n18, .int .i64 n19, .int .i64 n20, .int .i64 n21, .int .i64 n22, .int .i64 n23, .int .i64 n24, .int .i64 n25, .int .i64 n26]⟩ 58 (0, 0))).new b1 (.cells ⟨[.pointer p]⟩ 31 (0, 0))).at b 2 = some (.int .i64 n29) ∧ ∃ n30 : Int, ((h.new b (.cells ⟨[.int .i64 n, .int .i64 n1, .int .i64 n2, .int .i64 n3, .int .i64 n4, .int .i64 n5, .int .i64 n6, .int .i64 n7, .int .i64 n8, .int .i64 n9, .int .i64 n10, .int .i64 n11, .int .i64 n12, .int .i64 n13, .int .i64 n14, .int .i64 n15, .int .i64 n16, .int .i64 n17, .int .i64 n18, .int .i64 n19, .int .i64 n20, .int .i64 n21, .int .i64 n22, .int .i64 n23, .int .i64 n24, .int .i64 n25, .int .i64 n26]⟩ 58 (0, 0))).new b1 (.cells ⟨[.pointer p]⟩ 31 (0, 0))).at b 3 = some (.int .i64 n30) ∧ ∃ n31 : Int, ((h.new b (.cells ⟨[.int .i64 n, .int .i64 n1, .int .i64 n2, .int .i64 n3, .int .i64 n4, .int .i64 n5, .int .i64 n6, .int .i64 n7, .int .i64 n8, .int .i64 n9, .int .i64 n10, .int .i64 n11, .int .i64 n12, .int .i64 n13, .int .i64 n14, .int .i64 n15, .int .i64 n16, .int .i64 n17, .int .i64 n18, .int .i64 n19, .int .i64 n20, .int .i64 n21, .int .i64 n22, .int .i64 n23, .int .i64 n24, .int .i64 n25, .int .i64 n26]⟩ 58 (0, 0))).new b1 (.cells ⟨[.pointer p]⟩ 31 (0, 0))).at b 4 = some (.int .i64 n31) ∧ ∃ n32 : Int, ((h.new b (.cells ⟨[.int .i64 n, .int .i64 n1, .int .i64 n2, .int .i64 n3, .int .i64 n4, .int .i64 n5, .int .i64 n6, .int .i64 n7, .int .i64 n8, .int .i64 n9, .int .i64 n10, .int .i64 n11, .int .i64 n12, .int .i64 n13, .int .i64 n14, .int .i64 n15, .int .i64 n16, .int .i64 n17, .int .i64 n18, .int .i64 n19, .int .i64 n20, .int .i64 n21, .int .i64 n22, .int .i64 n23, .int .i64 n24, .int .i64 n25, .int .i64 n26]⟩ 58 (0, 0))).new b1 (.cells ⟨[.pointer p]⟩ 31 (0, 0))).at b 5 = some (.int .i64 n32) ∧ ∃ n33 : Int, ((h.new b (.cells ⟨[.int .i64 n, .int .i64 n1, .int .i64 n2, .int .i64 n3, .int .i64 n4, .int .i64 n5, .int .i64 n6, .int .i64 n7, .int .i64 n8, .int .i64 n9, .int .i64 n10, .int .i64 n11, .int .i64 n12, .int .i64 n13, .int .i64 n14, .int .i64 n15, .int .i64 n16, .int .i64 n17, .int .i64 n18, .int .i64 n19, .int .i64 n20, .int .i64 n21, .int .i64 n22, .int .i64 n23, .int .i64 n24, .int .i64 n25, .int .i64 n26]⟩ 58 (0, 0))).new b1 (.cells ⟨[.pointer p]⟩ 31 (0, 0))).at b 6 = some (.int .i64 n33) ∧ ∃ n34 : Int, ((h.new b (.cells ⟨[.int .i64 n, .int .i64 n1, .int .i64 n2, .int .i64 n3, .int .i64 n4, .int .i64 n5, .int .i64 n6, .int .i64 n7, .int .i64 n8, .int .i64 n9, .int .i64 n10, .int .i64 n11, .int .i64 n12, .int .i64 n13, .int .i64 n14, .int .i64 n15, .int .i64 n16, .int .i64 n17, .int .i64 n18, .int .i64 n19, .int .i64 n20, .int .i64 n21, .int .i64 n22, .int .i64 n23, .int .i64 n24, .int .i64 n25, .int .i64 n26]⟩ 58 (0, 0))).new b1 (.cells ⟨[.pointer p]⟩ 31 (0, 0))).at b 7 = some (.int .i64 n34) ∧ ∃ n35 : Int, ((h.new b (.cells ⟨[.int .i64 n, .int .i64 n1, .int .i64 n2, .int .i64 n3, .int .i64 n4, .int .i64 n5, .int .i64 n6, .int .i64 n7, .int .i64 n8, .int .i64 n9, .int .i64 n10, .int .i64 n11, .int .i64 n12, .int .i64 n13, .int .i64 n14, .int .i64 n15, .int .i64 n16, .int .i64 n17, .int .i64 n18, .int .i64 n19, .int .i64 n20, .int .i64 n21, .int .i64 n22, .int .i64 n23, .int .i64 n24, .int .i64 n25, .int .i64 n26]⟩ 58 (0, 0))).new b1 (.cells ⟨[.pointer p]⟩ 31 (0, 0))).at b 8 = some (.int .i64 n35) ∧ ∃ n36 : Int, ((h.new b (.cells ⟨[.int .i64 n, .int .i64 n1, .int .i64 n2, .int .i64 n3, .int .i64 n4, .int .i64 n5, .int .i64 n6, .int .i64 n7, .int .i64 n8, .int .i64 n9, .int .i64 n10, .int .i64 n11, .int .i64 n12, .int .i64 n13, .int .i64 n14, .int .i64 n15, .int .i64 n16, .int .i64 n17, .int .i64 n18, .int .i64 n19, .int .i64 n20, .int .i64 n21, .int .i64 n22, .int .i64 n23, .int .i64 n24, .int .i64 n25, .int .i64 n26]⟩ 58 (0, 0))).new b1 (.cells ⟨[.pointer p]⟩ 31 (0, 0))).at b 9 = some (.int .i64 n36) ∧ ∃ n37 : Int, ((h.new b (.cells ⟨[.int .i64 n, .int .i64 n1, .int .i64 n2, .int .i64 n3, .int .i64 n4, .int .i64 n5, .int .i64 n6, .int .i64 n7, .int .i64 n8, .int .i64 n9, .int .i64 n10, .int .i64 n11, .int .i64 n12, .int .i64 n13, .int .i64 n14, .int .i64 n15, .int .i64 n16, .int .i64 n17, .int .i64 n18, .int .i64 n19, .int .i64 n20, .int .i64 n21, .int .i64 n22, .int .i64 n23, .int .i64 n24, .int .i64 n25, .int .i64 n26]⟩ 58 (0, 0))).new b1 (.cells ⟨[.pointer p]⟩ 31 (0, 0))).at b 10 = some (.int .i64 n37) ∧ ∃ n38 : Int, ((h.new b (.cells ⟨[.int .i64 n, .int .i64 n1, .int .i64 n2, .int .i64 n3, .int .i64 n4, .int .i64 n5, .int .i64 n6, .int .i64 n7, .int .i64 n8, .int .i64 n9, .int .i64 n10, .int .i64 n11, .int .i64 n12, .int .i64 n13, .int .i64 n14, .int .i64 n15, .int .i64 n16, .int .i64 n17, .int .i64 n18, .int .i64 n19, .int .i64 n20, .int .i64 n21, .int .i64 n22, .int .i64 n23, .int .i64 n24, .int .i64 n25, .int .i64 n26]⟩ 58 (0, 0))).new b1 (.cells ⟨[.pointer p]⟩ 31 (0, 0))).at b 11 = some (.int .i64 n38) ∧ ∃ n39 : Int, ((h.new b (.cells ⟨[.int .i64 n, .int .i64 n1, .int .i64 n2, .int .i64 n3, .int .i64 n4, .int .i64 n5, .int .i64 n6, .int .i64 n7, .int .i64 n8, .int .i64 n9, .int .i64 n10, .int .i64 n11, .int .i64 n12, .int .i64 n13, .int .i64 n14, .int .i64 n15, .int .i64 n16, .int .i64 n17, .int .i64 n18, .int .i64 n19, .int .i64 n20, .int .i64 n21, .int .i64 n22, .int .i64 n23, .int .i64 n24, .int .i64 n25, .int .i64 n26]⟩ 58 (0, 0))).new b1 (.cells ⟨[.pointer p]⟩ 31 (0, 0))).at b 12 = some (.int .i64 n39) ∧ ∃ n40 : Int, ((h.new b (.cells ⟨[.int .i64 n, .int .i64 n1, .int .i64 n2, .int .i64 n3, .int .i64 n4, .int .i64 n5, .int .i64 n6, .int .i64 n7, .int .i64 n8, .int .i64 n9, .int .i64 n10, .int .i64 n11, .int .i64 n12, .int .i64 n13, .int .i64 n14, .int .i64 n15, .int .i64 n16, .int .i64 n17, .int .i64 n18, .int .i64 n19, .int .i64 n20, .int .i64 n21, .int .i64 n22, .int .i64 n23, .int .i64 n24, .int .i64 n25, .int .i64 n26]⟩ 58 (0, 0))).new b1 (.cells ⟨[.pointer p]⟩ 31 (0, 0))).at b 13 = some (.int .i64 n40) ∧ ∃ n41 : Int, ((h.new b (.cells ⟨[.int .i64 n, .int .i64 n1, .int .i64 n2, .int .i64 n3, .int .i64 n4, .int .i64 n5, .int .i64 n6, .int .i64 n7, .int .i64 n8, .int .i64 n9, .int .i64 n10, .int .i64 n11, .int .i64 n12, .int .i64 n13, .int .i64 n14, .int .i64 n15, .int .i64 n16, .int .i64 n17, .int .i64 n18, .int .i64 n19, .int .i64 n20, .int .i64 n21, .int .i64 n22, .int .i64 n23, .int .i64 n24, .int .i64 n25, .int .i64 n26]⟩ 58 (0, 0))).new b1 (.cells ⟨[.pointer p]⟩ 31 (0, 0))).at b 14 = some (.int .i64 n41) ∧ ∃ n42 : Int, ((h.new b (.cells ⟨[.int .i64 n, .int .i64 n1, .int .i64 n2, .int .i64 n3, .int .i64 n4, .int .i64 n5, .int .i64 n6, .int .i64 n7, .int .i64 n8, .int .i64 n9, .int .i64 n10, .int .i64 n11, .int .i64 n12, .int .i64 n13, .int .i64 n14, .int .i64 n15, .int .i64 n16, .int .i64 n17, .int .i64 n18, .int .i64 n19, .int .i64 n20, .int .i64 n21, .int .i64 n22, .int .i64 n23, .int .i64 n24, .int .i64 n25, .int .i64 n26]⟩ 58 (0, 0))).new b1 (.cells ⟨[.pointer p]⟩ 31 (0, 0))).at b 15 = some (.int .i64 n42) ∧ ∃ n43 : Int, ((h.new b (.cells ⟨[.int .i64 n, .int .i64 n1, .int .i64 n2, .int .i64 n3, .int .i64 n4, .int .i64 n5, .int .i64 n6, .int .i64 n7, .int .i64 n8, .int .i64 n9, .int .i64 n10, .int .i64 n11, .int .i64 n12, .int .i64 n13, .int .i64 n14, .int .i64 n15, .int .i64 n16, .int .i64 n17, .int .i64 n18, .int .i64 n19, .int .i64 n20, .int .i64 n21, .int .i64 n22, .int .i64 n23, .int .i64 n24, .int .i64 n25, .int .i64 n26]⟩ 58 (0, 0))).new b1 (.cells ⟨[.pointer p]⟩ 31 (0, 0))).at b 16 = some (.int .i64 n43) ∧ ∃ n44 : Int, ((h.new b (.cells ⟨[.int .i64 n, .int .i64 n1, .int .i64 n2, .int .i64 n3, .int .i64 n4, .int .i64 n5, .int .i64 n6, .int .i64 n7, .int .i64 n8, .int .i64 n9, .int .i64 n10, .int .i64 n11, .int .i64 n12, .int .i64 n13, .int .i64 n14, .int .i64 n15, .int .i64 n16, .int .i64 n17, .int .i64 n18, .int .i64 n19, .int .i64 n20, .int .i64 n21, .int .i64 n22, .int .i64 n23, .int .i64 n24, .int .i64 n25, .int .i64 n26]⟩ 58 (0, 0))).new b1 (.cells ⟨[.pointer p]⟩ 31 (0, 0))).at b 17 = some (.int .i64 n44) ∧ ∃ n45 : Int, ((h.new b (.cells ⟨[.int .i64 n, .int .i64 n1, .int .i64 n2, .int .i64 n3, .int .i64 n4, .int .i64 n5, .int .i64 n6, .int .i64 n7, .int .i64 n8, .int .i64 n9, .int .i64 n10, .int .i64 n11, .int .i64 n12, .int .i64 n13, .int .i64 n14, .int .i64 n15, .int .i64 n16, .int .i64 n17, .int .i64 n18, .int .i64 n19, .int .i64 n20, .int .i64 n21, .int .i64 n22, .int .i64 n23, .int .i64 n24, .int .i64 n25, .int .i64 n26]⟩ 58 (0, 0))).new b1 (.cells ⟨[.pointer p]⟩ 31 (0, 0))).at b 18 = some (.int .i64 n45) ∧ ∃ n46 : Int, ((h.new b (.cells ⟨[.int .i64 n, .int .i64 n1, .int .i64 n2, .int .i64 n3, .int .i64 n4, .int .i64 n5, .int .i64 n6, .int .i64 n7, .int .i64 n8, .int .i64 n9, .int .i64 n10, .int .i64 n11, .int .i64 n12, .int .i64 n13, .int .i64 n14, .int .i64 n15, .int .i64 n16, .int .i64 n17, .int .i64 n18, .int .i64 n19, .int .i64 n20, .int .i64 n21, .int .i64 n22, .int .i64 n23, .int .i64 n24, .int .i64 n25, .int .i64 n26]⟩ 58 (0, 0))).new b1 (.cells ⟨[.pointer p]⟩ 31 (0, 0))).at b 19 = some (.int .i64 n46) ∧ ∃ n47 : Int, ((h.new b (.cells ⟨[.int .i64 n, .int .i64 n1, .int .i64 n2, .int .i64 n3, .int .i64 n4, .int .i64 n5, .int .i64 n6, .int .i64 n7, .int .i64 n8, .int .i64 n9, .int .i64 n10, .int .i64 n11, .int .i64 n12, .int .i64 n13, .int .i64 n14, .int .i64 n15, .int .i64 n16, .int .i64 n17, .int .i64 n18, .int .i64 n19, .int .i64 n20, .int .i64 n21, .int .i64 n22, .int .i64 n23, .int .i64 n24, .int .i64 n25, .int .i64 n26]⟩ 58 (0, 0))).new b1 (.cells ⟨[.pointer p]⟩ 31 (0, 0))).at b 20 = some (.int .i64 n47) ∧ ∃ n48 : Int, ((h.new b (.cells ⟨[.int .i64 n, .int .i64 n1, .int .i64 n2, .int .i64 n3, .int .i64 n4, .int .i64 n5, .int .i64 n6, .int .i64 n7, .int .i64 n8, .int .i64 n9, .int .i64 n10, .int .i64 n11, .int .i64 n12, .int .i64 n13, .int .i64 n14, .int .i64 n15, .int .i64 n16, .int .i64 n17, .int .i64 n18, .int .i64 n19, .int .i64 n20, .int .i64 n21, .int .i64 n22, .int .i64 n23, .int .i64 n24, .int .i64 n25, .int .i64 n26]⟩ 58 (0, 0))).new b1 (.cells ⟨[.pointer p]⟩ 31 (0, 0))).at b 21 = some (.int .i64 n48) ∧ ∃ n49 : Int, ((h.new b (.cells ⟨[.int .i64 n, .int .i64 n1, .int .i64 n2, .int .i64 n3, .int .i64 n4, .int .i64 n5, .int .i64 n6, .int .i64 n7, .int .i64 n8, .int .i64 n9, .int .i64 n10, .int .i64 n11, .int .i64 n12, .int .i64 n13, .int .i64 n14, .int .i64 n15, .int .i64 n16, .int .i64 n17, .int .i64 n18, .int .i64 n19, .int .i64 n20, .int .i64 n21, .int .i64 n22, .int .i64 n23, .int .i64 n24, .int .i64 n25, .int .i64 n26]⟩ 58 (0, 0))).new b1 (.cells ⟨[.pointer p]⟩ 31 (0, 0))).at b 22 = some (.int .i64 n49) ∧ ∃ n50 : Int, ((h.new b (.cells ⟨[.int .i64 n, .int .i64 n1, .int .i64 n2, .int .i64 n3, .int .i64 n4, .int .i64 n5, .int .i64 n6, .int .i64 n7, .int .i64 n8, .int .i64 n9, .int .i64 n10, .int .i64 n11, .int .i64 n12, .int .i64 n13, .int .i64 n14, .int .i64 n15, .int .i64 n16, .int .i64 n17, .int .i64 n18, .int .i64 n19, .int .i64 n20, .int .i64 n21, .int .i64 n22, .int .i64 n23, .int .i64 n24, .int .i64 n25, .int .i64 n26]⟩ 58 (0, 0))).new b1 (.cells ⟨[.pointer p]⟩ 31 (0, 0))).at b 23 = some (.int .i64 n50) ∧ ∃ n51 : Int, ((h.new b (.cells ⟨[.int .i64 n, .int .i64 n1, .int .i64 n2, .int .i64 n3, .int .i64 n4, .int .i64 n5, .int .i64 n6, .int .i64 n7, .int .i64 n8, .int .i64 n9, .int .i64 n10, .int .i64 n11, .int .i64 n12, .int .i64 n13, .int .i64 n14, .int .i64 n15, .int .i64 n16, .int .i64 n17, .int .i64 n18, .int .i64 n19, .int .i64 n20, .int .i64 n21, .int .i64 n22, .int .i64 n23, .int .i64 n24, .int .i64 n25, .int .i64 n26]⟩ 58 (0, 0))).new b1 (.cells ⟨[.pointer p]⟩ 31 (0, 0))).at b 24 = some (.int .i64 n51) ∧ ∃ n52 : Int, ((h.new b (.cells ⟨[.int .i64 n, .int .i64 n1, .int .i64 n2, .int .i64 n3, .int .i64 n4, .int .i64 n5, .int .i64 n6, .int .i64 n7, .int .i64 n8, .int .i64 n9, .int .i64 n10, .int .i64 n11, .int .i64 n12, .int .i64 n13, .int .i64 n14, .int .i64 n15, .int .i64 n16, .int .i64 n17, .int .i64 n18, .int .i64 n19, .int .i64 n20, .int .i64 n21, .int .i64 n22, .int .i64 n23, .int .i64 n24, .int .i64 n25, .int .i64 n26]⟩ 58 (0, 0))).new b1 (.cells ⟨[.pointer p]⟩ 31 (0, 0))).at b 25 = some (.int .i64 n52) ∧ ∃ n53 : Int, ((h.new b (.cells ⟨[.int .i64 n, .int .i64 n1, .int .i64 n2, .int .i64 n3, .int .i64 n4, .int .i64 n5, .int .i64 n6, .int .i64 n7, .int .i64 n8, .int .i64 n9, .int .i64 n10, .int .i64 n11, .int .i64 n12, .int .i64 n13, .int .i64 n14, .int .i64 n15, .int .i64 n16, .int .i64 n17, .int .i64 n18, .int .i64 n19, .int .i64 n20, .int .i64 n21, .int .i64 n22, .int .i64 n23, .int .i64 n24, .int .i64 n25, .int .i64 n26]⟩ 58 (0, 0))).new b1 (.cells ⟨[.pointer p]⟩ 31 (0, 0))).at b 26 = some (.int .i64 n53) ∧ ∃ p1 : Option Addr, ((h.new b (.cells ⟨[.int .i64 n, .int .i64 n1, .int .i64 n2, .int .i64 n3, .int .i64 n4, .int .i64 n5, .int .i64 n6, .int .i64 n7, .int .i64 n8, .int .i64 n9, .int .i64 n10, .int .i64 n11, .int .i64 n12, .int .i64 n13, .int .i64 n14, .int .i64 n15, .int .i64 n16, .int .i64 n17, .int .i64 n18, .int .i64 n19, .int .i64 n20, .int .i64 n21, .int .i64 n22, .int .i64 n23, .int .i64 n24, .int .i64 n25, .int .i64 n26]⟩ 58 (0, 0))).new b1 (.cells ⟨[.pointer p]⟩ 31 (0, 0))).at b1 0 = some (.pointer p1) ∧ T26 n27 n28 n29 n30 n31 n32 n33 n34 n35 n36 n37 n38 n39 n40 n41 n42 n43 n44 n45 n46 n47 n48 n49 n50 n51 n52 n53 p1 ((h.new b (.cells ⟨[.int .i64 n, .int .i64 n1, .int .i64 n2, .int .i64 n3, .int .i64 n4, .int .i64 n5, .int .i64 n6, .int .i64 n7, .int .i64 n8, .int .i64 n9, .int .i64 n10, .int .i64 n11, .int .i64 n12, .int .i64 n13, .int .i64 n14, .int .i64 n15, .int .i64 n16, .int .i64 n17, .int .i64 n18, .int .i64 n19, .int .i64 n20, .int .i64 n21, .int .i64 n22, .int .i64 n23, .int .i64 n24, .int .i64 n25, .int .i64 n26]⟩ 58 (0, 0))).new b1 (.cells ⟨[.pointer p]⟩ 31 (0, 0))) fun r h1 => ∃ l : Sl, r = .slice l.a l.n l.c ∧ ∀ b2, h1 b2 = none → (h1.new b2 (.cells ⟨[.slice none 0 0]⟩ 64 (0, 0))).canW b2 0 1 ∧ ∃ l1 : Sl, ((h1.new b2 (.cells ⟨[.slice none 0 0]⟩ 64 (0, 0))).wr b2 0 [.slice l.a l.n l.c]).at b2 0 = some (.slice l1.a l1.n l1.c) ∧ ∃ (I : Sl → Int → Hp → Prop) (m : Sl → Int → Hp → Nat), I ⟨none, 0, 0⟩ 0 ((h1.new b2 (.cells ⟨[.slice none 0 0]⟩ 64 (0, 0))).wr b2 0 [.slice l.a l.n l.c]) ∧ (∀ l2 : Sl, ∀ n54 : Int, ∀ h2 : Hp, I l2 n54 h2 → par (n54 < (l1.n : Int)) (∃ b3 o, (l1.a : Option Addr) = some ⟨b3, o, none⟩ ∧ ((0 : Int) ≤ n54 ∧ n54 < (l1.n : Int)) ∧ ∃ n55 : Int, h2.at b3 (o + n54.toNat) = some (.int .i64 n55) ∧ par ((1000 : Int) ≤ n55) (appendD l2 3 1 8 [.int .i64 0] 1 [.int .i64 n54] h2 fun l3 h3 => I l3 (IntKind.wrap .i64 (n54 + 1)) h3 ∧ m l3 (IntKind.wrap .i64 (n54 + 1)) h3 < m l2 n54 h2) (par (n54 = 0) (∃ n56 : Int, h2.at b 0 = some (.int .i64 n56) ∧ ∃ n57 : Int, h2.at b 1 = some (.int .i64 n57) ∧ ∃ n58 : Int, h2.at b 2 = some (.int .i64 n58) ∧ ∃ n59 : Int, h2.at b 3 = some (.int .i64 n59) ∧ ∃ n60 : Int, h2.at b 4 = some (.int .i64 n60) ∧ ∃ n61 : Int, h2.at b 5 = some (.int .i64 n61) ∧ ∃ n62 : Int, h2.at b 6 = some (.int .i64 n62) ∧ ∃ n63 : Int, h2.at b 7 = some (.int .i64 n63) ∧ ∃ n64 : Int, h2.at b 8 = some (.int .i64 n64) ∧ ∃ n65 : Int, h2.at b 9 = some (.int .i64 n65) ∧ ∃ n66 : Int, h2.at b 10 = some (.int .i64 n66) ∧ ∃ n67 : Int, h2.at b 11 = some (.int .i64 n67) ∧ ∃ n68 : Int, h2.at b 12 = some (.int .i64 n68) ∧ ∃ n69 : Int, h2.at b 13 = some (.int .i64 n69) ∧ ∃ n70 : Int, h2.at b 14 = some (.int .i64 n70) ∧ ∃ n71 : Int, h2.at b 15 = some (.int .i64 n71) ∧ ∃ n72 : Int, h2.at b 16 = some (.int .i64 n72) ∧ ∃ n73 : Int, h2.at b 17 = some (.int .i64 n73) ∧ ∃ n74 : Int, h2.at b 18 = some (.int .i64 n74) ∧ ∃ n75 : Int, h2.at b 19 = some (.int .i64 n75) ∧ ∃ n76 : Int, h2.at b 20 = some (.int .i64 n76) ∧ ∃ n77 : Int, h2.at b 21 = some (.int .i64 n77) ∧ ∃ n78 : Int, h2.at b 22 = some (.int .i64 n78) ∧ ∃ n79 : Int, h2.at b 23 = some (.int .i64 n79) ∧ ∃ n80 : Int, h2.at b 24 = some (.int .i64 n80) ∧ ∃ n81 : Int, h2.at b 25 = some (.int .i64 n81) ∧ ∃ n82 : Int, h2.at b 26 = some (.int .i64 n82) ∧ ∃ p2 : Option Addr, h2.at b1 0 = some (.pointer p2) ∧ T54 n56 n57 n58 n59 n60 n61 n62 n63 n64 n65 n66 n67 n68 n69 n70 n71 n72 n73 n74 n75 n76 n77 n78 n79 n80 n81 n82 p2 h2 fun r1 h4 => ∃ b4 : Bool, r1 = .bool b4 ∧ parB b4 (appendD l2 3 1 8 [.int .i64 0] 1 [.int .i64 n54] h4 fun l4 h5 => I l4 (IntKind.wrap .i64 (n54 + 1)) h5 ∧ m l4 (IntKind.wrap .i64 (n54 + 1)) h5 < m l2 n54 h2) (I l2 (IntKind.wrap .i64 (n54 + 1)) h4 ∧ m l2 (IntKind.wrap .i64 (n54 + 1)) h4 < m l2 n54 h2)) (I l2 (IntKind.wrap .i64 (n54 + 1)) h2 ∧ m l2 (IntKind.wrap .i64 (n54 + 1)) h2 < m l2 n54 h2))) (T55 l2 b 0 b1 0 b2 0 h2 fun r2 h6 => Q (.slice l2.a l2.n l2.c) h6))
def F25.T (n n1 : Int) (n2 n3 : Int) (n4 n5 : Int) (n6 n7 : Int) (n8 n9 : Int) (n10 n11 : Int) (n12 n13 : Int) (n14 n15 : Int) (n16 n17 : Int) (n18 n19 : Int) (n20 n21 : Int) (n22 n23 : Int) (n24 n25 n26 : Int) (p : Option Addr) : PT := F25.G F26.T F54.T F55.T n n1 n2 n3 n4 n5 n6 n7 n8 n9 n10 n11 n12 n13 n14 n15 n16 n17 n18 n19 n20 n21 n22 n23 n24 n25 n26 p
theorem F25.gen (V : Value → List Value → PT) (T26 : Int → Int → Int → Int → Int → Int → Int → Int → Int → Int → Int → Int → Int → Int → Int → Int → Int → Int → Int → Int → Int → Int → Int → Int → Int → Int → Int → Option Addr → PT) (T54 : Int → Int → Int → Int → Int → Int → Int → Int → Int → Int → Int → Int → Int → Int → Int → Int → Int → Int → Int → Int → Int → Int → Int → Int → Int → Int → Int → Option Addr → PT) (T55 : Sl → Nat → Nat → Nat → Nat → Nat → Nat → PT) (n n1 : Int) (n2 n3 : Int) (n4 n5 : Int) (n6 n7 : Int) (n8 n9 : Int) (n10 n11 : Int) (n12 n13 : Int) (n14 n15 : Int) (n16 n17 : Int) (n18 n19 : Int) (n20 n21 : Int) (n22 n23 : Int) (n24 n25 n26 : Int) (p : Option Addr) : denF Try.prog [32] [(26, F26.W T26), (54, F54.W T54), (55, F55.W T55)] V [(122, .loop [(6, .sl), (14, .int .i64)] [])] Try.f25 [.v (.agg ⟨[.int .i64 n, .int .i64 n1, .int .i64 n2, .int .i64 n3, .int .i64 n4, .int .i64 n5, .int .i64 n6, .int .i64 n7, .int .i64 n8, .int .i64 n9, .int .i64 n10, .int .i64 n11, .int .i64 n12, .int .i64 n13, .int .i64 n14, .int .i64 n15, .int .i64 n16, .int .i64 n17, .int .i64 n18, .int .i64 n19, .int .i64 n20, .int .i64 n21, .int .i64 n22, .int .i64 n23, .int .i64 n24, .int .i64 n25, .int .i64 n26]⟩), .v (.pointer p)] = F25.G T26 T54 T55 n n1 n2 n3 n4 n5 n6 n7 n8 n9 n10 n11 n12 n13 n14 n15 n16 n17 n18 n19 n20 n21 n22 n23 n24 n25 n26 p := by kernel_rfl
theorem F25.den (V : Value → List Value → PT) (n n1 : Int) (n2 n3 : Int) (n4 n5 : Int) (n6 n7 : Int) (n8 n9 : Int) (n10 n11 : Int) (n12 n13 : Int) (n14 n15 : Int) (n16 n17 : Int) (n18 n19 : Int) (n20 n21 : Int) (n22 n23 : Int) (n24 n25 n26 : Int) (p : Option Addr) : denF Try.prog [32] [(26, F26.V), (54, F54.V), (55, F55.V)] V [(122, .loop [(6, .sl), (14, .int .i64)] [])] Try.f25 [.v (.agg ⟨[.int .i64 n, .int .i64 n1, .int .i64 n2, .int .i64 n3, .int .i64 n4, .int .i64 n5, .int .i64 n6, .int .i64 n7, .int .i64 n8, .int .i64 n9, .int .i64 n10, .int .i64 n11, .int .i64 n12, .int .i64 n13, .int .i64 n14, .int .i64 n15, .int .i64 n16, .int .i64 n17, .int .i64 n18, .int .i64 n19, .int .i64 n20, .int .i64 n21, .int .i64 n22, .int .i64 n23, .int .i64 n24, .int .i64 n25, .int .i64 n26]⟩), .v (.pointer p)] = F25.T n n1 n2 n3 n4 n5 n6 n7 n8 n9 n10 n11 n12 n13 n14 n15 n16 n17 n18 n19 n20 n21 n22 n23 n24 n25 n26 p := F25.gen V F26.T F54.T F55.T n n1 n2 n3 n4 n5 n6 n7 n8 n9 n10 n11 n12 n13 n14 n15 n16 n17 n18 n19 n20 n21 n22 n23 n24 n25 n26 p
def F25.W (T25 : Int → Int → Int → Int → Int → Int → Int → Int → Int → Int → Int → Int → Int → Int → Int → Int → Int → Int → Int → Int → Int → Int → Int → Int → Int → Int → Int → Option Addr → PT) (args : List Value) : PT := match args with
  | [.agg ⟨[.int .i64 n, .int .i64 n1, .int .i64 n2, .int .i64 n3, .int .i64 n4, .int .i64 n5, .int .i64 n6, .int .i64 n7, .int .i64 n8, .int .i64 n9, .int .i64 n10, .int .i64 n11, .int .i64 n12, .int .i64 n13, .int .i64 n14, .int .i64 n15, .int .i64 n16, .int .i64 n17, .int .i64 n18, .int .i64 n19, .int .i64 n20, .int .i64 n21, .int .i64 n22, .int .i64 n23, .int .i64 n24, .int .i64 n25, .int .i64 n26]⟩, .pointer p] => T25 n n1 n2 n3 n4 n5 n6 n7 n8 n9 n10 n11 n12 n13 n14 n15 n16 n17 n18 n19 n20 n21 n22 n23 n24 n25 n26 p
  | _ => fun _ _ => False
def F25.V : List Value → PT := F25.W F25.T
theorem F25.ok : FOk Try.prog 25 F25.V := by
  refine ⟨⟨_, Try.func25, rfl, rfl⟩, fun args => ?_⟩
  have hG : GOk Try.prog [(26, F26.V), (54, F54.V), (55, F55.V)] := GOk.cons F26.ok (GOk.cons F54.ok (GOk.cons F55.ok (GOk.nil)))
  have hV : VOk Try.prog noV := noV_ok
  unfold F25.V F25.W
  split
  · exact denF_okV hG hV Try.func25 (fun h Q hq => (F25.den _ _ _ _ _ _ _ _ _ _ _ _ _ _ _ _ _ _ _ _ _ _ _ _ _ _ _ _ _) ▸ hq)
  · exact fun h Q hq => hq.elim
end Go.Eng.Ytbjnlacacapjiaa
end
