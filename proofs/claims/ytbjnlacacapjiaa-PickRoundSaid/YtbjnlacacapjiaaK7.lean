
/-
  Proved: the law PickRound answers true, whatever it is handed, and what it was handed reads behind the call as it read before. No condition.
-/
import Derived.Test.YtbjnlacacapjiaaK6
import Derived.Test.YtbjnlacacapjiaaRows
import Derived.WalkKit
import Derived.ProofKit
import Derived.OpenShut
import Derived.ShutString
import Derived.ChangeMaps5
import Derived.ChangeOld
import Derived.Below
import Derived.SizedLaws
section

/-
  SPECS OF PICKING, 3: the job of a level.
-/
set_option linter.unusedSimpArgs false
set_option linter.unusedVariables false
set_option maxRecDepth 100000
namespace Go.Eng.Ytbjnlacacapjiaa
def hullM (l : List Tab) : ByteArray × ByteArray := match l with
  | [] => (⟨#[]⟩, ⟨#[]⟩)
  | t :: _ => l.foldl (fun p u => (sMin p.1 u.least, sMax p.2 u.greatest)) (t.least, t.greatest)
def behindM (l : List Tab) (key : ByteArray) : Tab := match l.find? fun t => blB key t.least with
  | some t => t
  | none => l.head?.getD zT
structure Jb where
  lv : Int
  up : List Tab
  lo : List Tab
  cut : ByteArray
  mv : Bool
def inputsM (fan : Int) (xs : List (Sl × List Tab)) (ptrs : List ByteArray) (level : Int) : Option Jb :=
  if level < 0 ∨ (xs.length : Int) - 1 ≤ level then none else if tabsI xs level = [] then none else
  if level = 0 then some ⟨0, tabsI xs 0, overM (hullM (tabsI xs 0)).1 (hullM (tabsI xs 0)).2 (tabsI xs 1), ⟨#[]⟩, false⟩ else
  let t := behindM (tabsI xs level) (ptrs[level.toNat]?.getD ⟨#[]⟩)
  let lo := overM t.least t.greatest (tabsI xs (level + 1))
  let mv := decide (lo = [] ∧ level + 1 ≠ (xs.length : Int) - 1)
  match lo[fan.toNat]? with
  | some c => some ⟨level, [t], lo.take fan.toNat, c.least, mv⟩
  | none => some ⟨level, [t], lo, ⟨#[]⟩, mv⟩
theorem not_bl_nil (a : ByteArray) : ¬ Bl a ⟨#[]⟩ := by
  intro h
  have h1 := (sLt_bl _ _).2 h
  unfold sLt at h1
  have e : (ByteArray.mk #[]).toList = [] := by rw [ByteArray.toList, ByteArray.toList.loop]; rfl
  rw [e] at h1
  cases hl : a.toList with
  | nil => rw [hl] at h1; simp [Op.bytesLess] at h1
  | cons x l => rw [hl] at h1; simp [Op.bytesLess] at h1
theorem buf_cap {h : Hp} {s : Sl} {sz t k c : Nat} {A B : List Value} (Bf : Buf h s sz t (A ++ B)) (hA : A.length = k * sz) (hk : k ≤ s.n) (hc : k ≤ c) (hcc : c ≤ s.c) (h0 : s.a = none → c = 0) : Buf h ⟨s.a, k, c⟩ sz t A := by
  refine ⟨hA, hc, ?_⟩
  rcases Bf.own with ⟨h1, h2⟩ | ⟨b, cc, f, h1, h2, h3, h4, h5⟩
  · exact .inl ⟨h1, h0 h1⟩
  · refine .inr ⟨b, cc, f, h1, h2, Nat.le_trans (Nat.mul_le_mul_right _ hcc) h3, h4, ?_⟩
    have := congrArg (List.take A.length) h5
    rw [List.take_take, List.take_left' rfl, List.length_append, Nat.min_eq_left (Nat.le_add_right _ _)] at this
    exact this
theorem add_zero_a (a : Option Addr) : a.map (·.add 0) = a := by
  cases a with
  | none => rfl
  | some a => simp [Addr.add]
theorem cut0 (s : Sl) (sz : Nat) (k c : Int) : Sl.cut s sz 0 k c = ⟨s.a, k.toNat, c.toNat⟩ := by
  unfold Sl.cut
  have h0 : (0 : Int).toNat * sz = 0 := by simp
  rw [h0, add_zero_a]
  simp
section
variable {g h h' : Hp} {vb : Nat} {ls l : Sl} {xs : List (Sl × List Tab)} {Q : Value → Hp → Prop} {n n1 n2 n3 n4 n5 n6 n7 n8 n9 n10 n11 n12 n13 n14 n15 n16 n17 n18 n19 n20 n21 n22 n23 n24 n25 n26 : Int}
theorem hull_s {ts : List Tab} (B : h.row l.a (l.n * 6) (tabV ts)) (hl : ts.length ≤ 60000) (hne : ts ≠ []) (hQ : Q (.tuple ⟨[.string (hullM ts).1, .string (hullM ts).2]⟩) h) : F61.T l h Q := by
  have hn : l.n = ts.length := by have := B.1; rw [tabV_len] at this; omega
  rcases ts with _ | ⟨t, ts⟩
  · exact absurd rfl hne
  have e0 : (0 : Int) = ((([] : List Tab).length : Nat) : Int) := rfl
  unfold F61.T
  obtain ⟨b, o, ha, hr, _, g0, _, g1, _, g2, _, g3, s4, g4, s5, g5, hk⟩ := tab_rd (P := []) (R := ts) (t := t) (l := l) (h := h) B (i := 0) rfl (K := fun b o a c d e s s1 => s = t.least ∧ s1 = t.greatest) (fun _ _ => ⟨rfl, rfl⟩)
  obtain ⟨rfl, rfl⟩ := hk
  refine ⟨b, o, ha, hr, _, g4, b, o, ha, hr, _, g5, g5, ?_⟩
  refine ⟨fun s2 s3 n h1 => h1 = h ∧ ∃ P R, t :: ts = P ++ R ∧ n = (P.length : Int) ∧ (s2, s3) = P.foldl (fun p u => (sMin p.1 u.least, sMax p.2 u.greatest)) (t.least, t.greatest), fun _ _ n _ => (t :: ts).length - n.toNat, ⟨rfl, [], _, rfl, rfl, rfl⟩, ?_⟩
  rintro s2 s3 n h1 ⟨rfl, P, R, e, rfl, es⟩
  have e2 := congrArg List.length e
  rw [List.length_append] at e2
  refine ⟨fun hlt => ?_, fun hge => ?_⟩
  · rcases R with _ | ⟨u, R⟩
    · exact absurd hlt (by simp at e2 hn; omega)
    rw [List.length_cons] at e2
    have B' := B
    rw [e] at B'
    refine tab_rd B' rfl fun b o => ?_
    simp only [List.length_cons] at hl e2
    rw [next_i (n := 70000) (by omega) (by omega)]
    refine ⟨⟨rfl, P ++ [u], R, by rw [e]; simp, by simp, ?_⟩, by dsimp only; simp only [List.length_cons]; omega⟩
    rw [List.foldl_append, ← es]; rfl
  · have hR : R = [] := List.eq_nil_of_length_eq_zero (by omega)
    subst hR
    rw [List.append_nil] at e
    have : hullM (t :: ts) = (s2, s3) := by rw [es, ← e]; rfl
    rw [this] at hQ
    exact hQ
theorem behind_s {ts : List Tab} {key : ByteArray} (B : h.row l.a (l.n * 6) (tabV ts)) (hl : ts.length ≤ 60000) (hne : ts ≠ []) (hQ : Q (.agg ⟨(behindM ts key).cells⟩) h) : F62.T l key h Q := by
  have hn : l.n = ts.length := by have := B.1; rw [tabV_len] at this; omega
  unfold F62.T
  refine ⟨fun n n1 n2 n3 n4 s1 s2 h1 => h1 = h ∧ ∃ P R, ts = P ++ R ∧ n = (P.length : Int) ∧ ([.int .u64 n1, .int .i64 n2, .int .i64 n3, .int .i64 n4, .string s1, .string s2] : List Value) = (match P.find? fun t => blB key t.least with | some t => t.cells | none => zT.cells), fun n _ _ _ _ _ _ _ => ts.length - n.toNat, ⟨rfl, [], _, rfl, rfl, rfl⟩, ?_⟩
  rintro n n1 n2 n3 n4 s1 s2 h1 ⟨rfl, P, R, e, rfl, es⟩
  have e2 := congrArg List.length e
  rw [List.length_append] at e2
  have nz : ∀ t : Tab, blB key t.least = true → t.cells ≠ zT.cells := fun t ht hc => by
    have : t.least = ⟨#[]⟩ := by simp [Tab.cells, zT] at hc; exact hc.2.2.2.2.1
    rw [this] at ht
    exact not_bl_nil _ (blB_t.1 ht)
  refine ⟨fun hlt => ?_, fun hge => ?_⟩
  · rcases R with _ | ⟨u, R⟩
    · exact absurd hlt (by simp at e2; omega)
    rw [List.length_cons] at e2
    have B' := B
    rw [e] at B'
    refine tab_rd B' rfl fun b o => ?_
    rw [next_i (n := 70000) (by omega) (by omega)]
    refine ⟨fun hle => ⟨⟨rfl, P ++ [u], R, by rw [e]; simp, by simp, ?_⟩, by dsimp only; omega⟩, fun hgt => ⟨fun hz => ⟨⟨rfl, P ++ [u], R, by rw [e]; simp, by simp, ?_⟩, by dsimp only; omega⟩, fun hz => ⟨⟨rfl, P ++ [u], R, by rw [e]; simp, by simp, ?_⟩, by dsimp only; omega⟩⟩⟩
    · rw [List.find?_append]
      have hb : blB key u.least = false := by
        cases hb : blB key u.least with
        | false => rfl
        | true => exact absurd (blB_t.1 hb) (sle.1 hle)
      rw [es]
      cases hf : P.find? fun t => blB key t.least with
      | some t => rfl
      | none => simp [hb]
    · rw [List.find?_append]
      have hb : blB key u.least = true := by
        cases hb : blB key u.least with
        | true => rfl
        | false => exact absurd (sle.2 fun hbl => by rw [blB_t.2 hbl] at hb; cases hb) hgt
      cases hf : P.find? fun t => blB key t.least with
      | some t =>
        rw [hf] at es
        have ht : blB key t.least = true := by have := List.find?_some hf; simpa using this
        exact absurd (es.symm.trans hz) (nz t ht)
      | none => simp [hb, Tab.cells]
    · rw [List.find?_append, es]
      cases hf : P.find? fun t => blB key t.least with
      | some t => rfl
      | none => rw [hf] at es; exact absurd es hz
  · have hR : R = [] := List.eq_nil_of_length_eq_zero (by omega)
    subst hR
    rw [List.append_nil] at e
    subst e
    refine ⟨fun hz => ?_, fun hz => ?_⟩
    · rcases ts with _ | ⟨t, ts⟩
      · exact absurd rfl hne
      refine tab_rd (P := []) (R := ts) (t := t) B (i := 0) rfl fun b o => ?_
      have : behindM (t :: ts) key = t := by
        unfold behindM
        cases hf : (t :: ts).find? fun t => blB key t.least with
        | some u =>
          rw [hf] at es
          have hu : blB key u.least = true := by have := List.find?_some hf; simpa using this
          exact absurd (es.symm.trans hz) (nz u hu)
        | none => rfl
      rw [this] at hQ
      exact hQ
    · cases hf : ts.find? fun t => blB key t.least with
      | some u =>
        have : behindM ts key = u := by unfold behindM; rw [hf]
        rw [this] at hQ
        rw [hf] at es
        rw [es]; exact hQ
      | none => rw [hf] at es; exact absurd es hz
theorem pointer_s {ptrs : List ByteArray} {i : Nat} (B : h.row l.a l.n (ptrV ptrs)) (hQ : Q (.string (ptrs[i]?.getD ⟨#[]⟩)) h) : F63.T l (i : Int) h Q := by
  have hn : l.n = ptrs.length := by have := B.1; rw [ptrV_length] at this; omega
  refine ⟨fun hlt => ?_, fun hge => ?_⟩
  · obtain ⟨b, o, ha, hat⟩ := row_get B (i := i) (by omega)
    have hi : i < ptrs.length := by omega
    refine ⟨b, o, ha, ⟨by omega, hlt⟩, ptrs[i], ?_, ?_⟩
    · rw [Int.toNat_natCast, hat i (by omega)]
      unfold ptrV
      rw [List.getElem?_map, List.getElem?_eq_getElem hi]; rfl
    · rw [List.getElem?_eq_getElem hi] at hQ; exact hQ
  · rw [List.getElem?_eq_none (by omega)] at hQ; exact hQ
theorem tb_at {ts : List Tab} {k : Nat} {t : Tab} (B : TB h l ts) (hk : ts[k]? = some t) : ∃ b o, (l.a : Option Addr) = some ⟨b, o, none⟩ ∧ ((0 : Int) ≤ (k : Int) ∧ (k : Int) < (l.n : Int)) ∧ h.at b ((o + ((k : Int)).toNat * 6) + 4) = some (.string t.least) := by
  obtain ⟨P, R, rfl, rfl⟩ : ∃ P R, ts = P ++ t :: R ∧ P.length = k := by
    have hkl := (List.getElem?_eq_some_iff.1 hk)
    refine ⟨ts.take k, ts.drop (k + 1), ?_, by rw [List.length_take]; have := hkl.1; omega⟩
    have e := List.take_append_drop k ts
    rw [List.drop_eq_getElem_cons hkl.1, hkl.2] at e
    exact e.symm
  obtain ⟨b, o, h1, h2, _, _, _, _, _, _, _, _, s, h3, _, _, rfl⟩ := tab_rd B.row (i := (P.length : Int)) rfl (K := fun b o a c d e s s1 => s = t.least) (fun _ _ => rfl)
  exact ⟨b, o, h1, h2, h3⟩
/-- The job of a level, as it is answered. -/
theorem inputs_s {ptrs : List ByteArray} {level : Int} (V : Ver g h vb ls xs) (P : PkOk xs) (O : CfOk n5 n7 n8 n9 n10 n12) (h8 : n8 = (xs.length : Int)) (B : h.row l.a l.n (ptrV ptrs)) (hlv : level < 9223372036854775807)
    (hN : inputsM n12 xs ptrs level = none → ∀ h', Keep h h' → Q (.tuple ⟨[.agg ⟨[.int .i64 0, .slice none 0 0, .slice none 0 0, .string (ByteArray.mk #[]), .bool false]⟩, .bool false]⟩) h')
    (hS : ∀ j, inputsM n12 xs ptrs level = some j → ∀ h' l1 l2, Keep h h' → TB h' l1 j.up → NewN h l1 → TB h' l2 j.lo → NewN h l2 → Off l1 l2 → Off l2 l1 → Q (.tuple ⟨[.agg ⟨[.int .i64 j.lv, .slice l1.a l1.n l1.c, .slice l2.a l2.n l2.c, .string j.cut, .bool j.mv]⟩, .bool true]⟩) h') : F29.T n n1 n2 n3 n4 n5 n6 n7 n8 n9 n10 n11 n12 n13 n14 n15 n16 n17 n18 n19 n20 n21 n22 n23 n24 n25 n26 (some ⟨vb, 0, none⟩) l level h Q := by
  have hx := P.len
  have hmx : iMax n12 0 = n12 := by unfold iMax; rw [if_neg (by have := O.fan; omega)]
  obtain ⟨fan, rfl⟩ := Int.eq_ofNat_of_zero_le (show 0 ≤ n12 by have := O.fan; omega)
  have hf1 : 1 ≤ fan := by have := O.fan; omega
  unfold F29.T F29.G
  rw [hmx]
  refine ⟨fun hneg => hN (by unfold inputsM; rw [if_pos (.inl hneg)]) h (Keep.refl _), fun hpos => ?_⟩
  refine last_s V (by omega) (by omega) h8 ⟨_, rfl, fun hle => hN (by unfold inputsM; rw [if_pos (.inr hle)]) h (Keep.refl _), fun hlt => ?_⟩
  have c1 : ¬ (level < 0 ∨ (xs.length : Int) - 1 ≤ level) := fun h => h.elim hpos hlt
  refine tables_s V P.sz fun h2 l1 K2 B2 N2 => ⟨l1, rfl, ?_⟩
  have hl1 := tb_new B2
  have htl := P.tl level
  refine ⟨fun h0 => hN (by unfold inputsM; rw [if_neg c1, if_pos (List.eq_nil_of_length_eq_zero (by omega))]) h2 K2, fun h0 => ?_⟩
  have c2 : tabsI xs level ≠ [] := fun e => h0 (by rw [hl1, e]; rfl)
  refine ⟨fun hl0 => ?_, fun hl0 => ?_⟩
  · subst hl0
    refine hull_s B2.row htl c2 ⟨_, _, rfl, ?_⟩
    refine over_s (V.keep K2) P.sz (P.tl 1) fun h4 l2 K4 B4 N4 => ⟨l2, rfl, ?_⟩
    have hj : inputsM (fan : Int) xs ptrs 0 = some ⟨0, tabsI xs 0, overM (hullM (tabsI xs 0)).1 (hullM (tabsI xs 0)).2 (tabsI xs 1), ⟨#[]⟩, false⟩ := by
      unfold inputsM; rw [if_neg c1, if_neg c2, if_pos rfl]
    exact hS _ hj h4 l1 l2 (K2.trans K4) (Buf.keep K4 B2) N2 B4 (N4.mono K2.dom) (N4.off B2).1 (N4.off B2).2
  · obtain ⟨i, rfl⟩ := Int.eq_ofNat_of_zero_le (show 0 ≤ level by omega)
    refine pointer_s (K2.row B) ⟨_, rfl, ?_⟩
    refine behind_s B2.row htl c2 ⟨_, _, _, _, _, _, rfl, fun b hb => ?_⟩
    generalize ht : behindM (tabsI xs (i : Int)) (ptrs[i]?.getD ⟨#[]⟩) = t
    have K3 := Keep.new hb (.cells ⟨t.cells⟩ 47 (0, 0))
    have x3 := new_at h2 b (.cells ⟨t.cells⟩ 47 (0, 0))
    have B3 : TB (h2.new b (.cells ⟨t.cells⟩ 47 (0, 0))) ⟨some ⟨b, 0, none⟩, 1, 1⟩ [t] := by
      unfold TB
      have e : tabV [t] = t.cells := by unfold tabV; simp
      rw [e]
      refine ⟨rfl, Nat.le_refl _, .inr ⟨b, _, _, rfl, x3, Nat.le_refl 6, fun j hj => by omega, ?_⟩⟩
      exact List.take_length
    have N3 : NewN h2 ⟨some ⟨b, 0, none⟩, 1, 1⟩ := .inr ⟨b, rfl, hb⟩
    have hw1 : IntKind.wrap .i64 ((i : Int) + 1) = (i : Int) + 1 := wrap_i64 (by omega) (by omega)
    show F47.T (some ⟨vb, 0, none⟩) (IntKind.wrap .i64 ((i : Int) + 1)) t.least t.greatest (h2.new b (.cells ⟨t.cells⟩ 47 (0, 0))) _
    rw [hw1]
    generalize h2.new b (.cells ⟨t.cells⟩ 47 (0, 0)) = h3 at K3 B3 ⊢
    have K23 := K2.trans K3
    refine over_s (V.keep K23) P.sz (P.tl _) fun h7 l3 K7 B7 N7 => ⟨l3, rfl, ?_⟩
    have hl3 := tb_new B7
    generalize hlo : overM t.least t.greatest (tabsI xs ((i : Int) + 1)) = lo at B7 hl3
    have hcap := B7.cap
    have N7' : NewN h l3 := N7.mono K23.dom
    have B37 : TB h7 ⟨some ⟨b, 0, none⟩, 1, 1⟩ [t] := Buf.keep K7 B3
    have N3' : NewN h ⟨some ⟨b, 0, none⟩, 1, 1⟩ := N3.mono K2.dom
    have K27 := K23.trans K7
    have hLB : lo.length ≤ 60000 := by rw [← hlo]; exact Nat.le_trans (List.length_filter_le _ _) (P.tl _)
    have off3 := N7.off B3
    have hj : inputsM (fan : Int) xs ptrs (i : Int) = match lo[fan]? with
        | some c => some ⟨(i : Int), [t], lo.take fan, c.least, decide (lo = [] ∧ (i : Int) + 1 ≠ (xs.length : Int) - 1)⟩
        | none => some ⟨(i : Int), [t], lo, ⟨#[]⟩, decide (lo = [] ∧ (i : Int) + 1 ≠ (xs.length : Int) - 1)⟩ := by
      subst hlo; subst ht
      unfold inputsM
      rw [if_neg c1, if_neg c2, if_neg hl0]
      rfl
    have fin : ∀ mvb : Bool, decide (lo = [] ∧ (i : Int) + 1 ≠ (xs.length : Int) - 1) = mvb → par ((fan : Int) < (l3.n : Int)) (∃ b1 o, (l3.a : Option Addr) = some ⟨b1, o, none⟩ ∧ ((0 : Int) ≤ (fan : Int) ∧ (fan : Int) < (l3.n : Int)) ∧ ∃ s5 : ByteArray, h7.at b1 ((o + (fan : Int).toNat * 6) + 4) = some (.string s5) ∧ Sl.okCut l3 0 (fan : Int) (fan : Int) ∧ Q (.tuple ⟨[.agg ⟨[.int .i64 (i : Int), .slice (some ⟨b, 0, none⟩) 1 1, .slice (Sl.cut l3 6 0 (fan : Int) (fan : Int)).a (Sl.cut l3 6 0 (fan : Int) (fan : Int)).n (Sl.cut l3 6 0 (fan : Int) (fan : Int)).c, .string s5, .bool mvb]⟩, .bool true]⟩) h7) (Q (.tuple ⟨[.agg ⟨[.int .i64 (i : Int), .slice (some ⟨b, 0, none⟩) 1 1, .slice l3.a l3.n l3.c, .string (ByteArray.mk #[]), .bool mvb]⟩, .bool true]⟩) h7) := by
      intro mvb hmv
      rw [hmv] at hj
      refine ⟨fun hlt => ?_, fun hge => ?_⟩
      · have hk : fan < lo.length := by omega
        have hc : lo[fan]? = some lo[fan] := List.getElem?_eq_getElem hk
        rw [hc] at hj
        obtain ⟨b1, o, g1, g2, g3⟩ := tb_at B7 hc
        have hcap := B7.cap
        refine ⟨b1, o, g1, g2, _, g3, ⟨by omega, by omega, by omega⟩, ?_⟩
        rw [cut0]
        refine hS _ hj h7 ⟨some ⟨b, 0, none⟩, 1, 1⟩ ⟨l3.a, fan, fan⟩ K27 B37 N3' ?_ N7' off3.1 off3.2
        have e : tabV lo = tabV (lo.take fan) ++ tabV (lo.drop fan) := by rw [← tabV_app, List.take_append_drop]
        unfold TB at B7
        rw [e] at B7
        exact buf_cap B7 (by rw [tabV_len, List.length_take, Nat.min_eq_left (Nat.le_of_lt hk)]) (by omega) (Nat.le_refl _) (by omega) (fun h0 => by rw [h0] at g1; cases g1)
      · have hc : lo[fan]? = none := List.getElem?_eq_none (by omega)
        rw [hc] at hj
        exact hS _ hj h7 ⟨some ⟨b, 0, none⟩, 1, 1⟩ l3 K27 B37 N3' B7 N7' off3.1 off3.2
    refine ⟨fun h0 => ?_, fun h0 => fin false ?_⟩
    · have hlo0 : lo = [] := List.eq_nil_of_length_eq_zero (by omega)
      refine last_s (V.keep K27) (by omega) (by omega) h8 ⟨_, rfl, fun he => fin false ?_, fun he => fin true ?_⟩
      · exact decide_eq_false fun hc => hc.2 he
      · exact decide_eq_true ⟨hlo0, he⟩
    · exact decide_eq_false fun hc => h0 (by rw [hl3, hc.1]; rfl)
end
end Go.Eng.Ytbjnlacacapjiaa
end
section

/-
  SPECS OF PICKING, 4: the next job.
-/
set_option linter.unusedSimpArgs false
set_option linter.unusedVariables false
set_option maxRecDepth 100000
set_option maxHeartbeats 1000000
namespace Go.Eng.Ytbjnlacacapjiaa
def hit (lk : List Int) (j : Jb) : Bool := (j.up ++ j.lo).any fun t => lk.contains t.num
def setR (R : Nat → Bool) (i : Nat) : Nat → Bool := fun k => if k = i ∨ k = i + 1 then true else R k
def nextL (fan : Int) (xs : List (Sl × List Tab)) (ptrs : List ByteArray) (lk : List Int) : (Nat → Bool) → List Nat → Option Jb
  | _, [] => none
  | R, i :: w => match inputsM fan xs ptrs (i : Int) with
    | none => nextL fan xs ptrs lk R w
    | some j => if R i = false ∧ R (i + 1) = false ∧ hit lk j = false then some j else nextL fan xs ptrs lk (setR R i) w
def bV (R : Nat → Bool) : List Value := [.bool (R 0), .bool (R 1), .bool (R 2), .bool (R 3), .bool (R 4), .bool (R 5)]
def isF (b : Bool) : Prop := b = false
theorem bV_get (R : Nat → Bool) {i : Nat} (hi : i < 6) : (⟨bV R⟩ : Array Value)[i]? = some (.bool (R i)) := by
  have : i = 0 ∨ i = 1 ∨ i = 2 ∨ i = 3 ∨ i = 4 ∨ i = 5 := by omega
  rcases this with rfl | rfl | rfl | rfl | rfl | rfl <;> rfl
theorem bV_set (R : Nat → Bool) {i : Nat} (hi : i < 5) : (bV R).set i (.bool true) = bV (fun k => if k = i then true else R k) ∧ ((bV R).set i (.bool true)).set (i + 1) (.bool true) = bV (setR R i) := by
  have : i = 0 ∨ i = 1 ∨ i = 2 ∨ i = 3 ∨ i = 4 := by omega
  rcases this with rfl | rfl | rfl | rfl | rfl <;> exact ⟨rfl, rfl⟩
theorem mark_l {h3 : Hp} {b i : Nat} {R : Nat → Bool} (hb : h3 b = some (.cells ⟨bV R⟩ 127 (0, 0))) (hi : i < 5) :
    h3.canW b (0 + ((i : Nat) : Int).toNat) 1 ∧ (h3.wr b (0 + ((i : Nat) : Int).toNat) [.bool true]).canW b (0 + ((i + 1 : Nat) : Int).toNat) 1 ∧ ((h3.wr b (0 + ((i : Nat) : Int).toNat) [.bool true]).wr b (0 + ((i + 1 : Nat) : Int).toNat) [.bool true]) b = some (.cells ⟨bV (setR R i)⟩ 127 (0, 0)) := by
  rw [Int.toNat_natCast, Int.toNat_natCast, Nat.zero_add, Nat.zero_add]
  obtain ⟨s1, s2⟩ := bV_set R hi
  have e1 : (h3.wr b i [.bool true]) b = some (.cells ⟨bV (fun k => if k = i then true else R k)⟩ 127 (0, 0)) := by
    unfold Hp.wr
    rw [if_pos rfl, hb]
    show some (Obj.cells ((bV R).set i (.bool true)).toArray 127 (0, 0)) = _
    rw [s1]
  refine ⟨canW_new hb (by show i + 1 ≤ 6; omega), canW_new e1 (by show i + 1 + 1 ≤ 6; omega), ?_⟩
  unfold Hp.wr at e1 ⊢
  rw [if_pos rfl, if_pos rfl, hb]
  show some (Obj.cells (((bV R).set i (.bool true)).set (i + 1) (.bool true)).toArray 127 (0, 0)) = _
  rw [s2]
section
variable {g h h' : Hp} {vb b : Nat} {ls l l1 l2 : Sl} {xs : List (Sl × List Tab)} {Q : Value → Hp → Prop} {n n1 n2 n3 n4 n5 n6 n7 n8 n9 n10 n11 n12 n13 n14 n15 n16 n17 n18 n19 n20 n21 n22 n23 n24 n25 n26 : Int}
theorem index_s {lk : List Int} {n : Int} (B : h.row l.a l.n (uvs lk)) (hl : l.n < 9223372036854775807) (hQ : Q (.bool (lk.contains n)) h) : F76.T l n h Q := by
  have hn : l.n = lk.length := by have := B.1; unfold uvs at this; rw [List.length_map] at this; omega
  unfold F76.T F85.T F76.G
  refine ⟨fun k h1 => h1 = h ∧ ∃ P R, lk = P ++ R ∧ k = (P.length : Int) ∧ n ∉ P, fun k _ => lk.length - k.toNat, ⟨rfl, [], _, rfl, rfl, by simp⟩, ?_⟩
  rintro k h1 ⟨rfl, P, R, e, rfl, hP⟩
  have e2 := congrArg List.length e
  rw [List.length_append] at e2
  refine ⟨fun hlt => ?_, fun hge => ?_⟩
  · rcases R with _ | ⟨u, R⟩
    · exact absurd hlt (by simp at e2; omega)
    rw [List.length_cons] at e2
    obtain ⟨b, o, ha, hat⟩ := row_get B (i := P.length) (by omega)
    refine ⟨b, o, ha, ⟨by omega, hlt⟩, u, ?_, fun hu => ?_, fun hu => ?_⟩
    · rw [Int.toNat_natCast, hat P.length (by omega), e]
      unfold uvs
      simp
    · refine ⟨_, rfl, fun _ => ?_, fun hh => absurd (by omega) hh⟩
      have : lk.contains n = true := by rw [e, hu]; simp
      rw [this] at hQ; exact hQ
    · rw [next_i (n := lk.length) (by omega) (by omega)]
      refine ⟨⟨rfl, P ++ [u], R, by rw [e]; simp, by simp, ?_⟩, by dsimp only; omega⟩
      rw [List.mem_append, List.mem_singleton]
      exact fun hh => hh.elim hP hu
  · have hR : R = [] := List.eq_nil_of_length_eq_zero (by omega)
    subst hR
    rw [List.append_nil] at e
    subst e
    refine ⟨_, rfl, fun hh => absurd hh (by decide), fun _ => ?_⟩
    have : lk.contains n = false := by simpa using hP
    rw [this] at hQ; exact hQ
theorem grow_s {n : Nat} (hn : n ≤ 120000) (hQ : ∀ h' r, Keep h h' → TB h' r [] → NewN h r → Q (.slice r.a r.n r.c) h') : F84.T ⟨none, 0, 0⟩ (n : Int) h Q := by
  have e0 : IntKind.wrap .i64 ((((⟨none, 0, 0⟩ : Sl).c : Int)) - ((⟨none, 0, 0⟩ : Sl).n : Int)) = 0 := rfl
  unfold F84.T
  rw [e0, Int.sub_zero, wrap_i64 (by omega) (by omega), Int.toNat_natCast]
  refine ⟨fun hh => absurd hh (by omega), fun _ => ⟨fun hpos => ⟨⟨Int.le_refl _, Int.le_refl _, Int.le_refl _, Int.le_refl _⟩, by omega, ?_⟩, fun h0 => hQ h ⟨none, 0, 0⟩ (Keep.refl h) (Buf.nil _ _ _) (NewN.nil _)⟩⟩
  have ec : Sl.cut ⟨none, 0, 0⟩ 6 0 (((⟨none, 0, 0⟩ : Sl).c : Int)) (((⟨none, 0, 0⟩ : Sl).c : Int)) = ⟨none, 0, 0⟩ := rfl
  rw [ec]
  refine append_buf (Buf.nil h 6 47) rfl (by rw [zerosV_length]; rfl) (by show (0 + n) * 64 ≤ _; omega) fun r h1 B1 hrn U1 => ?_
  obtain ⟨K1, N1⟩ := NewN.upd (Keep.refl h) (NewN.nil h) U1
  refine ⟨⟨Int.le_refl _, by show (0 : Int) ≤ ((0 : Nat) : Int); omega, by show ((0 : Nat) : Int) ≤ _; omega, Int.le_refl _⟩, ?_⟩
  rw [cut0]
  refine hQ h1 ⟨r.a, 0, r.c⟩ K1 ?_ N1
  have B2 : Buf h1 r 6 47 ([] ++ zerosV [.int .u64 0, .int .i64 0, .int .i64 0, .int .i64 0, .string (ByteArray.mk #[]), .string (ByteArray.mk #[])] n) := B1
  unfold TB
  refine buf_cap B2 rfl (Nat.zero_le _) (Nat.zero_le _) (Nat.le_refl _) (fun h0 => ?_)
  rcases B2.own with ⟨_, hc⟩ | ⟨b, c, f, hb, _⟩
  · exact hc
  · rw [h0] at hb; cases hb
theorem concat_s {A B : List Tab} (x : h b = some (.cells ⟨[.slice l1.a l1.n l1.c, .slice l2.a l2.n l2.c]⟩ 66 (0, 0))) (B1 : TB h l1 A) (B2 : TB h l2 B) (hA : A.length ≤ 60000) (hB : B.length ≤ 60000) (hQ : ∀ h' r, Keep h h' → TB h' r (A ++ B) → NewN h r → Q (.slice r.a r.n r.c) h') : F75.T ⟨some ⟨b, 0, none⟩, 2, 2⟩ h Q := by
  have n1 := tb_new B1
  have n2 := tb_new B2
  have tA := tabV_len A
  have tB := tabV_len B
  unfold F75.T F75.G
  refine ⟨fun n k h1 => h1 = h ∧ ((k = 0 ∧ n = 0) ∨ (k = 1 ∧ n = (A.length : Int)) ∨ (k = 2 ∧ n = ((A.length + B.length : Nat) : Int))), fun _ k _ => 2 - k.toNat, ⟨rfl, .inl ⟨rfl, rfl⟩⟩, ?_⟩
  rintro n k h1 ⟨rfl, hk⟩
  refine ⟨fun hlt => ?_, fun hge => ?_⟩
  · have hlt' : k < 2 := hlt
    rcases hk with ⟨rfl, rfl⟩ | ⟨rfl, rfl⟩ | ⟨rfl, rfl⟩
    · refine ⟨b, 0, rfl, ⟨by decide, hlt⟩, l1, at_of x 0, ?_⟩
      rw [Int.zero_add, wrap_i64 (by omega) (by omega)]
      refine ⟨fun hh => absurd hh (by omega), fun _ => ⟨⟨rfl, .inr (.inl ⟨rfl, by rw [n1]⟩)⟩, by show 2 - 1 < 2 - 0; decide⟩⟩
    · refine ⟨b, 0, rfl, ⟨by decide, hlt⟩, l2, at_of x 1, ?_⟩
      rw [wrap_i64 (by omega) (by omega)]
      refine ⟨fun hh => absurd hh (by omega), fun _ => ⟨⟨rfl, .inr (.inr ⟨rfl, by rw [n2]; omega⟩)⟩, by show 2 - 2 < 2 - 1; decide⟩⟩
    · exact absurd hlt' (by decide)
  · have hge' : ¬ k < 2 := hge
    rcases hk with ⟨rfl, rfl⟩ | ⟨rfl, rfl⟩ | ⟨rfl, rfl⟩
    · exact absurd (by decide) hge'
    · exact absurd (by decide) hge'
    refine grow_s (by omega) fun h2 r K2 B0 N0 => ⟨r, rfl, ?_⟩
    refine ⟨fun l3 k h3 => Keep h1 h3 ∧ NewN h1 l3 ∧ ((k = 0 ∧ TB h3 l3 []) ∨ (k = 1 ∧ TB h3 l3 A) ∨ (k = 2 ∧ TB h3 l3 (A ++ B))), fun _ k _ => 2 - k.toNat, ⟨K2, N0, .inl ⟨rfl, B0⟩⟩, ?_⟩
    rintro l3 k h3 ⟨K3, N3, hk⟩
    refine ⟨fun hlt => ?_, fun hge => ?_⟩
    · have hlt' : k < 2 := hlt
      rcases hk with ⟨rfl, B3⟩ | ⟨rfl, B3⟩ | ⟨rfl, B3⟩
      · refine ⟨b, 0, rfl, ⟨by decide, hlt⟩, l1, at_of (K3 _ _ x) 0, tabV A, Buf.row (Buf.keep K3 B1), tab_one _, ?_⟩
        have n3 := tb_new B3
        refine append_buf B3 rfl (by rw [tA, n1]) (by rw [n3]; show (0 + l1.n) * 64 ≤ _; omega) fun l5 h4 B4 _ U4 => ?_
        obtain ⟨K4, N4⟩ := NewN.upd K3 N3 U4
        exact ⟨⟨K4, N4, .inr (.inl ⟨rfl, B4⟩)⟩, by show 2 - 1 < 2 - 0; decide⟩
      · refine ⟨b, 0, rfl, ⟨by decide, hlt⟩, l2, at_of (K3 _ _ x) 1, tabV B, Buf.row (Buf.keep K3 B2), tab_one _, ?_⟩
        have n3 := tb_new B3
        refine append_buf B3 rfl (by rw [tB, n2]) (by omega) fun l5 h4 B4 _ U4 => ?_
        obtain ⟨K4, N4⟩ := NewN.upd K3 N3 U4
        refine ⟨⟨K4, N4, .inr (.inr ⟨rfl, ?_⟩)⟩, by show 2 - 2 < 2 - 1; decide⟩
        unfold TB
        rw [tabV_app]
        exact B4
      · exact absurd hlt' (by decide)
    · have hge' : ¬ k < 2 := hge
      rcases hk with ⟨rfl, B3⟩ | ⟨rfl, B3⟩ | ⟨rfl, B3⟩
      · exact absurd (by decide) hge'
      · exact absurd (by decide) hge'
      · exact hQ h3 l3 K3 B3 N3
theorem inputs_sz {fan level : Int} {ptrs : List ByteArray} {j : Jb} (P : PkOk xs) (e : inputsM fan xs ptrs level = some j) : j.up.length ≤ 60000 ∧ j.lo.length ≤ 60000 := by
  have ov : ∀ a c n, (overM a c (tabsI xs n)).length ≤ 60000 := fun a c n => Nat.le_trans (List.length_filter_le _ _) (P.tl n)
  unfold inputsM at e
  split at e
  · cases e
  split at e
  · cases e
  split at e
  · cases e; exact ⟨P.tl 0, ov _ _ _⟩
  dsimp only at e
  split at e
  · cases e
    exact ⟨by simp, by dsimp only; rw [List.length_take]; exact Nat.le_trans (Nat.min_le_right _ _) (ov _ _ _)⟩
  · cases e; exact ⟨by simp, ov _ _ _⟩
/-- The next job. -/
theorem next_s {ptrs : List ByteArray} {lk : List Int} (V : Ver g h vb ls xs) (P : PkOk xs) (O : CfOk n5 n7 n8 n9 n10 n12) (h8 : n8 = (xs.length : Int)) (B : h.row l.a l.n (ptrV ptrs)) (BL : h.row l1.a l1.n (uvs lk)) (hlk : l1.n < 9223372036854775807)
    (hN : ∀ o, IsOrder (xs.length - 1) (decide (n7 ≤ ((tabsI xs 0).length : Int))) (scoreM n5 n9 n10 xs) o → nextL n12 xs ptrs lk (fun _ => false) o = none → ∀ h', Keep h h' → Q (.tuple ⟨[.agg ⟨[.int .i64 0, .slice none 0 0, .slice none 0 0, .string (ByteArray.mk #[]), .bool false]⟩, .int .i64 (if o = [] then 0 else 1)]⟩) h')
    (hS : ∀ o j, IsOrder (xs.length - 1) (decide (n7 ≤ ((tabsI xs 0).length : Int))) (scoreM n5 n9 n10 xs) o → nextL n12 xs ptrs lk (fun _ => false) o = some j → ∀ h' u1 u2, Keep h h' → TB h' u1 j.up → NewN h u1 → TB h' u2 j.lo → NewN h u2 → Off u1 u2 → Off u2 u1 → Q (.tuple ⟨[.agg ⟨[.int .i64 j.lv, .slice u1.a u1.n u1.c, .slice u2.a u2.n u2.c, .string j.cut, .bool j.mv]⟩, .int .i64 2]⟩) h') : F50.T n n1 n2 n3 n4 n5 n6 n7 n8 n9 n10 n11 n12 n13 n14 n15 n16 n17 n18 n19 n20 n21 n22 n23 n24 n25 n26 (some ⟨vb, 0, none⟩) l l1 h Q := by
  have hx := P.len
  unfold F50.T F50.G
  refine order_s V P O h8 fun h1 r o K1 B1 N1 hO => ⟨r, rfl, fun b hb => ?_⟩
  have hol : ∀ i ∈ o, i < xs.length - 1 := fun i hi => ((hO.mem i).1 hi).1
  have hon : r.n = o.length := by have := B1.len; rw [iV_len] at this; omega
  have holn : o.length ≤ 4 := by
    have h2 := List.Nodup.length_le_of_subset hO.nd (l₂ := List.range (xs.length - 1)) (fun i hi => List.mem_range.2 (hol i hi))
    rw [List.length_range] at h2; omega
  have hN := hN o hO
  have hS := fun j => hS o j hO
  generalize hT : nextL n12 xs ptrs lk (fun _ => false) o = T at hN hS
  refine ⟨fun n _ _ _ _ f h2 => isF f ∧ ∃ A w R, o = A ++ w ∧ n = (A.length : Int) ∧ Keep h1 h2 ∧ h2 b = some (.cells ⟨bV R⟩ 127 (0, 0)) ∧ nextL n12 xs ptrs lk R w = T, fun n _ _ _ _ _ _ => o.length - n.toNat, ⟨rfl, [], o, fun _ => false, rfl, rfl, Keep.new hb _, new_at _ _ _, hT⟩, ?_⟩
  intro n28 n29 l3 l4 s
  refine ⟨fun h2 hh => (Bool.noConfusion (show true = false from hh.1)), ?_⟩
  rintro h2 ⟨-, A, w, R, e, rfl, K2, x2, hw⟩
  have e2 := congrArg List.length e
  rw [List.length_append] at e2
  refine ⟨fun hlt => ?_, fun hge => ?_⟩
  · rcases w with _ | ⟨i, w⟩
    · exact absurd hlt (by simp at e2; omega)
    rw [List.length_cons] at e2
    have hi : i < 4 := by
      have := hol i (by rw [e]; simp)
      omega
    obtain ⟨b2, ha, hat, _⟩ := buf_set (B1.keep K2) (k := A.length) (by rw [iV_len]; omega)
    have hat' : h2.at b2 (0 + ((A.length : Int)).toNat) = some (.int .i64 (i : Int)) := by
      rw [Int.toNat_natCast, Nat.zero_add, hat, e]
      unfold iV
      simp
    refine ⟨b2, 0, ha, ⟨by omega, hlt⟩, (i : Int), hat', ?_⟩
    have w1 : IntKind.wrap .i64 ((i : Int) + 1) = ((i + 1 : Nat) : Int) := next_i (n := 10) (by omega) (by omega)
    have w2 : IntKind.wrap .i64 ((A.length : Int) + 1) = ((A.length + 1 : Nat) : Int) := next_i (n := 10) (by omega) (by omega)
    have K12 := K1.trans K2
    have hb2 : h1 b = none := hb
    -- a level that is marked
    have mk : ∀ h3, Keep h2 h3 → nextL n12 xs ptrs lk (setR R i) w = T →
        h3.canW b (0 + ((i : Nat) : Int).toNat) 1 ∧ ((0 : Int) ≤ ((i + 1 : Nat) : Int) ∧ ((i + 1 : Nat) : Int) < ((6 : Nat) : Int)) ∧ (h3.wr b (0 + ((i : Nat) : Int).toNat) [.bool true]).canW b (0 + ((i + 1 : Nat) : Int).toNat) 1 ∧ (isF false ∧ ∃ A' w R, o = A' ++ w ∧ ((A.length + 1 : Nat) : Int) = (A'.length : Int) ∧ Keep h1 ((h3.wr b (0 + ((i : Nat) : Int).toNat) [.bool true]).wr b (0 + ((i + 1 : Nat) : Int).toNat) [.bool true]) ∧ ((h3.wr b (0 + ((i : Nat) : Int).toNat) [.bool true]).wr b (0 + ((i + 1 : Nat) : Int).toNat) [.bool true]) b = some (.cells ⟨bV R⟩ 127 (0, 0)) ∧ nextL n12 xs ptrs lk R w = T) ∧ o.length - ((A.length + 1 : Nat) : Int).toNat < o.length - ((A.length : Nat) : Int).toNat := fun h3 K3 ht => by
      obtain ⟨c1, c2, c3⟩ := mark_l (K3 _ _ x2) (i := i) (by omega)
      exact ⟨c1, ⟨by omega, by omega⟩, c2, ⟨rfl, A ++ [i], w, _, by rw [e]; simp, by simp, ((K2.trans K3).wr hb2 _ _).wr hb2 _ _, c3, ht⟩, by omega⟩
    unfold nextL at hw
    refine inputs_s (V.keep K12) P O h8 (K12.row B) (by omega) (fun hin h3 K3 => ?_) (fun j hin h3 u1 u2 K3 T1 N1' T2 N2' o1 o2 => ?_)
    · rw [hin] at hw
      refine ⟨0, ⟨none, 0, 0⟩, ⟨none, 0, 0⟩, _, false, fun hh => (Bool.noConfusion hh), fun _ => ⟨false, fun hh => (Bool.noConfusion hh), fun _ => ⟨rfl, ?_⟩⟩⟩
      rw [w2]
      exact ⟨⟨rfl, A ++ [i], w, R, by rw [e]; simp, by simp, K2.trans K3, K3 _ _ x2, hw⟩, by dsimp only; omega⟩
    · rw [hin] at hw
      dsimp only at hw
      obtain ⟨zu, zl⟩ := inputs_sz P hin
      have rd : ∀ k, k < 6 → h3.at b (0 + ((k : Nat) : Int).toNat) = some (.bool (R k)) := fun k hk => by
        rw [Int.toNat_natCast, Nat.zero_add, at_of (K3 _ _ x2) k, bV_get R hk]
      have K13 := K12.trans K3
      have fnd := hS j
      rw [w1, w2]
      refine ⟨j.lv, u1, u2, j.cut, j.mv, ?_⟩
      obtain ⟨lv, up, lo, cut, mv⟩ := j
      dsimp only at zu zl T1 T2 fnd hw ⊢
      cases mv
      all_goals
        first
          | refine ⟨fun hh => (Bool.noConfusion hh), fun _ => ⟨true, fun _ => ?_, fun hh => (Bool.noConfusion hh)⟩⟩
          | refine ⟨fun _ => ⟨true, fun _ => ?_, fun hh => (Bool.noConfusion hh)⟩, fun hh => (Bool.noConfusion hh)⟩
        refine ⟨rfl, ⟨by omega, by omega⟩, R i, rd i (by omega), fun hr => ?_, fun hr => ⟨⟨by omega, by omega⟩, R (i + 1), rd (i + 1) (by omega), fun hr1 => ?_, fun hr1 b7 hb7 => ?_⟩⟩
        · rw [if_neg (fun c => by rw [c.1] at hr; cases hr)] at hw
          exact ⟨⟨by omega, by omega⟩, mk h3 K3 hw⟩
        · rw [if_neg (fun c => by rw [c.2.1] at hr1; cases hr1)] at hw
          exact ⟨⟨by omega, by omega⟩, mk h3 K3 hw⟩
        · have K4 := Keep.new hb7 (.cells ⟨[.slice u1.a u1.n u1.c, .slice u2.a u2.n u2.c]⟩ 66 (0, 0))
          have x4 := new_at h3 b7 (.cells ⟨[.slice u1.a u1.n u1.c, .slice u2.a u2.n u2.c]⟩ 66 (0, 0))
          generalize h3.new b7 (.cells ⟨[.slice u1.a u1.n u1.c, .slice u2.a u2.n u2.c]⟩ 66 (0, 0)) = h4 at K4 x4 ⊢
          refine concat_s x4 (Buf.keep K4 T1) (Buf.keep K4 T2) zu zl fun h5 l7 K5 B7 _ => ⟨l7, rfl, ?_⟩
          have n7' := tb_new B7
          have K35 := K3.trans (K4.trans K5)
          have hll : (up ++ lo).length ≤ 120000 := by rw [List.length_append]; omega
          refine ⟨fun n h6 => h6 = h5 ∧ ∃ C D, up ++ lo = C ++ D ∧ n = (C.length : Int) ∧ ∀ t ∈ C, lk.contains t.num = false, fun n _ => (up ++ lo).length - n.toNat, ⟨rfl, [], _, rfl, rfl, fun t ht => (by cases ht)⟩, ?_⟩
          rintro n h6 ⟨rfl, C, D, eC, rfl, hC⟩
          have eC2 := congrArg List.length eC
          rw [List.length_append, List.length_append] at eC2
          have eL : (up ++ lo).length = up.length + lo.length := List.length_append
          refine ⟨fun hlt6 => ?_, fun hge6 => ?_⟩
          · rcases D with _ | ⟨t, D⟩
            · exact absurd hlt6 (by simp at eC2; omega)
            rw [List.length_cons] at eC2
            have r7 := Buf.row B7
            rw [eC] at r7
            refine tab_rd r7 rfl fun b8 o1 => ?_
            refine index_s (K12.trans K35 |>.row BL) hlk ⟨_, rfl, fun hc => ?_, fun hc => ?_⟩
            · rw [if_neg (fun c => by
                have := c.2.2
                unfold hit at this
                rw [List.any_eq_false] at this
                exact this t (by dsimp only; rw [eC]; simp) hc)] at hw
              exact ⟨⟨by omega, by omega⟩, mk h6 K35 hw⟩
            · rw [next_i (n := 130000) (by omega) (by omega)]
              refine ⟨⟨rfl, C ++ [t], D, by rw [eC]; simp, by simp, fun u hu => ?_⟩, by dsimp only; omega⟩
              rcases List.mem_append.1 hu with hu | hu
              · exact hC u hu
              · rw [List.mem_singleton.1 hu]; exact hc
          · have hD : D = [] := List.eq_nil_of_length_eq_zero (by omega)
            subst hD
            rw [List.append_nil] at eC
            rw [if_pos ⟨hr, hr1, by
              unfold hit
              rw [List.any_eq_false]
              dsimp only
              rw [eC]
              exact fun u hu hh => by rw [hC u hu] at hh; cases hh⟩] at hw
            have K45 := K4.trans K5
            exact fnd hw.symm h6 u1 u2 (K12.trans K35) (Buf.keep K45 T1) (N1'.mono K12.dom) (Buf.keep K45 T2) (N2'.mono K12.dom) o1 o2
  · have hw0 : w = [] := List.eq_nil_of_length_eq_zero (by omega)
    subst hw0
    have hTn : T = none := hw.symm
    refine ⟨fun hp => ?_, fun hp => ?_⟩
    · have hne : o ≠ [] := fun h0 => by rw [h0] at hon; rw [hon] at hp; exact absurd hp (by decide)
      have := hN hTn h2 (K1.trans K2)
      rw [if_neg hne] at this
      exact this
    · have h0 : o = [] := List.eq_nil_of_length_eq_zero (by omega)
      have := hN hTn h2 (K1.trans K2)
      rw [if_pos h0] at this
      exact this
end
end Go.Eng.Ytbjnlacacapjiaa
end
section

/-
  SPECS OF PICKING, 5: what the statements' helpers tell.
-/
set_option linter.unusedSimpArgs false
set_option linter.unusedVariables false
set_option maxRecDepth 100000
set_option maxHeartbeats 1000000
namespace Go.Eng.Ytbjnlacacapjiaa
theorem cells_inj {t u : Tab} (h : t.cells = u.cells) : t = u := by
  obtain ⟨a, b, c, d, e, f⟩ := t
  obtain ⟨a', b', c', d', e', f'⟩ := u
  simp only [Tab.cells, List.cons.injEq, Value.int.injEq, Value.string.injEq, true_and, and_true] at h
  obtain ⟨rfl, rfl, rfl, rfl, rfl, rfl⟩ := h
  rfl
theorem tmod_rng {a n : Int} (ha : 0 ≤ a) (hn : 0 < n) : 0 ≤ Int.tmod a n ∧ Int.tmod a n < n := ⟨Int.tmod_nonneg _ ha, Int.tmod_lt_of_pos _ hn⟩
section
variable {g h h' : Hp} {vb b : Nat} {ls l l1 l2 l3 : Sl} {xs : List (Sl × List Tab)} {Q : Value → Hp → Prop} {n n1 n2 n3 n4 n5 n6 n7 n8 n9 n10 n11 n12 n13 n14 n15 n16 n17 n18 n19 n20 n21 n22 n23 n24 n25 n26 : Int}
theorem sameT_s {A B : List Tab} (BA : h.row l.a (l.n * 6) (tabV A)) (BB : h.row l1.a (l1.n * 6) (tabV B)) (hA : A.length ≤ 60000) (hT : A = B → Q (.bool true) h) (hF : A ≠ B → Q (.bool false) h) : F77.T l l1 h Q := by
  have n1 : l.n = A.length := by have := BA.1; rw [tabV_len] at this; omega
  have n2 : l1.n = B.length := by have := BB.1; rw [tabV_len] at this; omega
  unfold F77.T
  refine ⟨fun hl => ?_, fun hl => hF fun e => hl (by rw [n1, n2, e])⟩
  have hAB : A.length = B.length := by omega
  refine ⟨fun k h1 => h1 = h ∧ ∃ P R S, A = P ++ R ∧ B = P ++ S ∧ k = (P.length : Int), fun k _ => A.length - k.toNat, ⟨rfl, [], _, _, rfl, rfl, rfl⟩, ?_⟩
  rintro k h1 ⟨rfl, P, R, S, e, e', rfl⟩
  have e2 := congrArg List.length e
  have e3 := congrArg List.length e'
  rw [List.length_append] at e2 e3
  refine ⟨fun hlt => ?_, fun hge => ?_⟩
  · rcases R with _ | ⟨t, R⟩
    · exact absurd hlt (by simp at e2; omega)
    rw [List.length_cons] at e2
    rcases S with _ | ⟨u, S⟩
    · simp at e3; omega
    rw [List.length_cons] at e3
    have BA' := BA
    have BB' := BB
    rw [e] at BA'
    rw [e'] at BB'
    refine tab_rd BA' rfl fun b o => ?_
    refine tab_rd BB' rfl fun b1 o1 => ⟨fun heq => ?_, fun hne => hF fun hAB' => hne ?_⟩
    · have htu : t = u := cells_inj heq
      subst htu
      rw [next_i (n := 70000) (by omega) (by omega)]
      exact ⟨⟨rfl, P ++ [t], R, S, by rw [e]; simp, by rw [e']; simp, by simp⟩, by dsimp only; omega⟩
    · rw [e, e'] at hAB'
      have := List.append_cancel_left hAB'
      cases this; rfl
  · have hR : R = [] := List.eq_nil_of_length_eq_zero (by omega)
    have hS : S = [] := List.eq_nil_of_length_eq_zero (by omega)
    subst hR hS
    exact hT (by rw [e, e'])
theorem sameI_s {A B : List Int} (BA : h.row l.a l.n (nV3 A)) (BB : h.row l1.a l1.n (nV3 B)) (hA : A.length ≤ 60000) (hT : A = B → Q (.bool true) h) (hF : A ≠ B → Q (.bool false) h) : F49.T l l1 h Q := by
  have n1 : l.n = A.length := by have := BA.1; rw [nV3_len] at this; omega
  have n2 : l1.n = B.length := by have := BB.1; rw [nV3_len] at this; omega
  unfold F49.T
  refine ⟨fun hl => ?_, fun hl => hF fun e => hl (by rw [n1, n2, e])⟩
  have hAB : A.length = B.length := by omega
  refine ⟨fun k h1 => h1 = h ∧ ∃ P R S, A = P ++ R ∧ B = P ++ S ∧ k = (P.length : Int), fun k _ => A.length - k.toNat, ⟨rfl, [], _, _, rfl, rfl, rfl⟩, ?_⟩
  rintro k h1 ⟨rfl, P, R, S, e, e', rfl⟩
  have e2 := congrArg List.length e
  have e3 := congrArg List.length e'
  rw [List.length_append] at e2 e3
  refine ⟨fun hlt => ?_, fun hge => ?_⟩
  · rcases R with _ | ⟨t, R⟩
    · exact absurd hlt (by simp at e2; omega)
    rw [List.length_cons] at e2
    rcases S with _ | ⟨u, S⟩
    · simp at e3; omega
    rw [List.length_cons] at e3
    obtain ⟨b, o, ha, hat⟩ := row_get BA (i := P.length) (by omega)
    obtain ⟨b1, o1, ha1, hat1⟩ := row_get BB (i := P.length) (by omega)
    refine ⟨b, o, ha, ⟨by omega, hlt⟩, t, ?_, b1, o1, ha1, ⟨by omega, by omega⟩, u, ?_, fun heq => ?_, fun hne => hF fun hAB' => hne ?_⟩
    · rw [Int.toNat_natCast, hat P.length (by omega), e]; unfold nV3; simp
    · rw [Int.toNat_natCast, hat1 P.length (by omega), e']; unfold nV3; simp
    · subst heq
      rw [next_i (n := 70000) (by omega) (by omega)]
      exact ⟨⟨rfl, P ++ [t], R, S, by rw [e]; simp, by rw [e']; simp, by simp⟩, by dsimp only; omega⟩
    · rw [e, e'] at hAB'
      have := List.append_cancel_left hAB'
      cases this; rfl
  · have hR : R = [] := List.eq_nil_of_length_eq_zero (by omega)
    have hS : S = [] := List.eq_nil_of_length_eq_zero (by omega)
    subst hR hS
    exact hT (by rw [e, e'])
theorem sameJ_s {i j : Jb} (U : h.row l.a (l.n * 6) (tabV i.up)) (L : h.row l1.a (l1.n * 6) (tabV i.lo)) (U' : h.row l2.a (l2.n * 6) (tabV j.up)) (L' : h.row l3.a (l3.n * 6) (tabV j.lo)) (hu : i.up.length ≤ 60000) (hl : i.lo.length ≤ 60000)
    (hT : i = j → Q (.bool true) h) (hF : i ≠ j → Q (.bool false) h) : F51.T i.lv l l1 i.cut i.mv j.lv l2 l3 j.cut j.mv h Q := by
  obtain ⟨a, b, c, d, e⟩ := i
  obtain ⟨a', b', c', d', e'⟩ := j
  dsimp only at U L U' L' hu hl
  unfold F51.T F51.G
  refine ⟨fun h1 => ?_, fun h1 => hF fun hh => h1 (by cases hh; rfl)⟩
  refine sameT_s U U' hu (fun h2 => ⟨_, rfl, fun _ => ?_, fun hh => Bool.noConfusion hh⟩) (fun h2 => ⟨_, rfl, fun hh => Bool.noConfusion hh, fun _ => hF fun hh => h2 (by cases hh; rfl)⟩)
  refine sameT_s L L' hl (fun h3 => ⟨_, rfl, fun _ => ?_, fun hh => Bool.noConfusion hh⟩) (fun h3 => ⟨_, rfl, fun hh => Bool.noConfusion hh, fun _ => hF fun hh => h3 (by cases hh; rfl)⟩)
  refine ⟨fun h4 => ⟨fun h5 => ?_, fun h5 => hF fun hh => h5 (by cases hh; rfl)⟩, fun h4 => hF fun hh => h4 (by cases hh; rfl)⟩
  dsimp only at h1 h4 h5
  subst h1 h2 h3 h4 h5
  exact hT rfl
theorem in_s {A : List Tab} {n : Int} (BA : h.row l.a (l.n * 6) (tabV A)) (hA : A.length ≤ 60000) (hT : n ∈ A.map Tab.num → Q (.bool true) h) (hF : n ∉ A.map Tab.num → Q (.bool false) h) : F33.T l n h Q := by
  have n1 : l.n = A.length := by have := BA.1; rw [tabV_len] at this; omega
  unfold F33.T
  refine ⟨fun k h1 => h1 = h ∧ ∃ P R, A = P ++ R ∧ k = (P.length : Int) ∧ n ∉ P.map Tab.num, fun k _ => A.length - k.toNat, ⟨rfl, [], _, rfl, rfl, by simp⟩, ?_⟩
  rintro k h1 ⟨rfl, P, R, e, rfl, hP⟩
  have e2 := congrArg List.length e
  rw [List.length_append] at e2
  refine ⟨fun hlt => ?_, fun hge => ?_⟩
  · rcases R with _ | ⟨t, R⟩
    · exact absurd hlt (by simp at e2; omega)
    rw [List.length_cons] at e2
    have BA' := BA
    rw [e] at BA'
    obtain ⟨b, o, a1, a2, n2, a3, _, _, _, _, _, _, _, _, _, _, rfl⟩ := tab_rd BA' (i := (P.length : Int)) rfl (K := fun b o a c d e s s1 => a = t.num) (fun _ _ => rfl)
    refine ⟨b, o, a1, a2, t.num, a3, fun heq => hT ?_, fun hne => ?_⟩
    · rw [← heq, e]; simp
    · rw [next_i (n := 70000) (by omega) (by omega)]
      refine ⟨⟨rfl, P ++ [t], R, by rw [e]; simp, by simp, ?_⟩, by dsimp only; omega⟩
      rw [List.map_append, List.mem_append]
      exact fun hh => hh.elim hP fun hh => hne (by simp at hh; exact hh.symm)
  · have hR : R = [] := List.eq_nil_of_length_eq_zero (by omega)
    subst hR
    rw [List.append_nil] at e
    exact hF (by rw [e]; exact hP)
theorem place_s {n n1 : Int} (hn : -9223372036854775808 ≤ n) (h1 : 0 < n1) (hQ : ∀ m, 0 ≤ m → m < n1 → Q (.int .i64 m) h) : F32.T n n1 h Q := by
  unfold F32.T
  refine ⟨fun hneg => ⟨by omega, ?_⟩, fun hpos => ⟨by omega, ?_⟩⟩
  · rw [wrap_i64 (n := n + 1) (by omega) (by omega), wrap_i64 (by omega) (by omega)]
    obtain ⟨a, b⟩ := tmod_rng (a := 0 - (n + 1)) (by omega) h1
    exact hQ _ a b
  · obtain ⟨a, b⟩ := tmod_rng (a := n) (by omega) h1
    exact hQ _ a b
/-- A configuration brought to what may be. -/
theorem right_s (r5 : -9223372036854775808 ≤ n5) (r7 : -9223372036854775808 ≤ n7) (r8 : -9223372036854775808 ≤ n8) (r9 : -9223372036854775808 ≤ n9) (r10 : -9223372036854775808 ≤ n10) (r12 : -9223372036854775808 ≤ n12)
    (hQ : ∀ m5 m7 m8 m9 m10 m12, CfOk m5 m7 m8 m9 m10 m12 → Q (.agg ⟨[.int .i64 n, .int .i64 n1, .int .i64 n2, .int .i64 n3, .int .i64 n4, .int .i64 m5, .int .i64 n6, .int .i64 m7, .int .i64 m8, .int .i64 m9, .int .i64 m10, .int .i64 n11, .int .i64 m12, .int .i64 n13, .int .i64 n14, .int .i64 n15, .int .i64 n16, .int .i64 n17, .int .i64 n18, .int .i64 n19, .int .i64 n20, .int .i64 n21, .int .i64 n22, .int .i64 n23, .int .i64 n24, .int .i64 n25, .int .i64 n26]⟩) h) : F23.T n n1 n2 n3 n4 n5 n6 n7 n8 n9 n10 n11 n12 n13 n14 n15 n16 n17 n18 n19 n20 n21 n22 n23 n24 n25 n26 h Q := by
  unfold F23.T F23.G
  refine place_s r8 (by decide) fun a a1 a2 => ⟨a, rfl, ?_⟩
  refine place_s r9 (by decide) fun c c1 c2 => ⟨c, rfl, ?_⟩
  refine place_s r10 (by decide) fun d d1 d2 => ⟨d, rfl, ?_⟩
  refine place_s r5 (by decide) fun e e1 e2 => ⟨e, rfl, ?_⟩
  refine place_s r7 (by decide) fun f f1 f2 => ⟨f, rfl, ?_⟩
  refine place_s r12 (by decide) fun i i1 i2 => ⟨i, rfl, ?_⟩
  rw [wrap_i64 (n := 1 + e) (by omega) (by omega), wrap_i64 (n := 1 + f) (by omega) (by omega), wrap_i64 (n := 3 + a) (by omega) (by omega), wrap_i64 (n := 4096 + c) (by omega) (by omega), wrap_i64 (n := 2 + d) (by omega) (by omega), wrap_i64 (n := 1 + i) (by omega) (by omega)]
  refine hQ _ _ _ _ _ _ ⟨by omega, ?_, by omega, by omega, by omega, by omega⟩
  unfold iMax
  split <;> split <;> omega
/-- A counter. -/
def Cn (h : Hp) (b : Nat) : Prop := ∃ c : Int, h b = some (.cells ⟨[.int .i64 c]⟩ 117 (0, 0))
theorem cadd_s (C : Cn h b) {n : Int} (hQ : ∀ h' r, Cn h' b → (∀ k x, k ≠ b → h k = some x → h' k = some x) → Q (.bool r) h') : F52.T (some ⟨b, 0, none⟩) n h Q := by
  obtain ⟨c, x⟩ := C
  unfold F52.T
  have y : (h.wr b 0 [.int .i64 (IntKind.wrap .i64 (c - n))]) b = some (.cells ⟨[.int .i64 (IntKind.wrap .i64 (c - n))]⟩ 117 (0, 0)) := by
    unfold Hp.wr; rw [if_pos rfl, x]; rfl
  have keep : ∀ k x, k ≠ b → h k = some x → (h.wr b 0 [.int .i64 (IntKind.wrap .i64 (c - n))]) k = some x := fun k z hk e => by
    unfold Hp.wr; rw [if_neg hk]; exact e
  refine ⟨b, 0, rfl, c, at_of x 0, fun _ => ⟨b, 0, rfl, c, at_of x 0, b, 0, rfl, canW_new x (Nat.le_refl 1), b, 0, rfl, _, at_of y 0, fun _ => hQ _ _ ⟨_, y⟩ keep, fun _ => hQ _ _ ⟨_, y⟩ keep⟩, fun _ => ⟨b, 0, rfl, c, at_of x 0, fun _ => hQ _ _ ⟨_, x⟩ (fun _ _ _ e => e), fun _ => hQ _ _ ⟨_, x⟩ (fun _ _ _ e => e)⟩⟩
theorem cok_s (C : Cn h b) (hQ : ∀ r, Q (.bool r) h) : F39.T (some ⟨b, 0, none⟩) h Q := by
  obtain ⟨c, x⟩ := C
  exact ⟨b, 0, rfl, c, at_of x 0, fun _ => hQ _, fun _ => hQ _⟩
theorem ctext_s (C : Cn h b) {s : ByteArray} (hQ : ∀ h' r, Cn h' b → (∀ k x, k ≠ b → h k = some x → h' k = some x) → Q r h') : F53.T (some ⟨b, 0, none⟩) s h Q := by
  unfold F53.T F53.G
  refine cadd_s C fun h' r C' k' => ⟨r, rfl, fun _ => hQ _ _ C' k', fun _ => hQ _ _ C' k'⟩
theorem few_s {ptrs : List ByteArray} (B : h.row l1.a l1.n (ptrV ptrs)) (hl : l1.n < 9223372036854775807) (hQ : ∀ h' r, Keep h h' → Q (.bool r) h') : F22.T l l1 h Q := by
  have hn : l1.n = ptrs.length := by have := B.1; rw [ptrV_length] at this; omega
  unfold F22.T F37.T F22.G
  intro b hb
  have K1 := Keep.new hb (.cells ⟨[.int .i64 10000]⟩ 117 (0, 0))
  have C1 : Cn (h.new b (.cells ⟨[.int .i64 10000]⟩ 117 (0, 0))) b := ⟨_, new_at _ _ _⟩
  generalize h.new b (.cells ⟨[.int .i64 10000]⟩ 117 (0, 0)) = h1 at K1 C1 ⊢
  refine ⟨_, rfl, cadd_s C1 fun h2 r C2 k2 => ⟨r, rfl, ?_⟩⟩
  have K2 : Keep h h2 := fun k x e => k2 k x (ne_of e hb) (K1 k x e)
  have ok : ∀ h3, Cn h3 b → Keep h h3 → F39.T (some ⟨b, 0, none⟩) h3 fun r5 h7 => ∃ b4 : Bool, r5 = .bool b4 ∧ parB b4 (Q (.bool true) h7) (Q (.bool false) h7) := fun h3 C3 K3 => cok_s C3 fun r => ⟨r, rfl, fun _ => hQ _ _ K3, fun _ => hQ _ _ K3⟩
  have loop : ∃ (I : Int → Hp → Prop) (m : Int → Hp → Nat), I 0 h2 ∧ (∀ n : Int, ∀ h3 : Hp, I n h3 → par (n < (l1.n : Int)) (F39.T (some ⟨b, 0, none⟩) h3 fun r2 h4 => ∃ b1 : Bool, r2 = .bool b1 ∧ parB b1 (∃ b2 o, (l1.a : Option Addr) = some ⟨b2, o, none⟩ ∧ ((0 : Int) ≤ n ∧ n < (l1.n : Int)) ∧ ∃ s : ByteArray, h4.at b2 (o + n.toNat) = some (.string s) ∧ F53.T (some ⟨b, 0, none⟩) s h4 fun r3 h5 => I (IntKind.wrap .i64 (n + 1)) h5 ∧ m (IntKind.wrap .i64 (n + 1)) h5 < m n h3) (F39.T (some ⟨b, 0, none⟩) h4 fun r4 h6 => ∃ b3 : Bool, r4 = .bool b3 ∧ parB b3 (Q (.bool true) h6) (Q (.bool false) h6))) (F39.T (some ⟨b, 0, none⟩) h3 fun r5 h7 => ∃ b4 : Bool, r5 = .bool b4 ∧ parB b4 (Q (.bool true) h7) (Q (.bool false) h7))) := by
    refine ⟨fun n h3 => Cn h3 b ∧ Keep h h3 ∧ ∃ k : Nat, n = (k : Int) ∧ k ≤ ptrs.length, fun n _ => ptrs.length - n.toNat, ⟨C2, K2, 0, rfl, Nat.zero_le _⟩, ?_⟩
    rintro n h3 ⟨C3, K3, k, rfl, hk⟩
    refine ⟨fun hlt => ?_, fun hge => ok h3 C3 K3⟩
    refine cok_s C3 fun r => ⟨r, rfl, fun _ => ?_, fun _ => ok h3 C3 K3⟩
    have hk' : k < ptrs.length := by omega
    obtain ⟨b2, o, ha, hat⟩ := row_get (K3.row B) (i := k) (by omega)
    refine ⟨b2, o, ha, ⟨by omega, hlt⟩, ptrs[k], ?_, ?_⟩
    · rw [Int.toNat_natCast, hat k (by omega)]
      unfold ptrV
      rw [List.getElem?_map, List.getElem?_eq_getElem hk']; rfl
    · refine ctext_s C3 fun h5 r C5 k5 => ?_
      rw [next_i (n := ptrs.length) hk' (by omega)]
      exact ⟨⟨C5, fun k x e => k5 k x (ne_of e hb) (K3 k x e), k + 1, rfl, hk'⟩, by dsimp only; omega⟩
  exact ⟨fun _ => loop, fun _ => loop⟩
end
end Go.Eng.Ytbjnlacacapjiaa
end
section

/-
  SPECS OF PICKING, 6: a version is built.
-/
set_option linter.unusedSimpArgs false
set_option linter.unusedVariables false
set_option maxRecDepth 100000
set_option maxHeartbeats 1000000
namespace Go.Eng.Ytbjnlacacapjiaa
/-- Levels as a set keeps them. -/
structure GoodL (lv : Lv) : Prop where
  hulls : Hulls lv
  nd : (nums lv).Nodup
  adj : ∀ i ts, 1 ≤ i → lv[i]? = some ts → Adj ts
  w : ∀ l ∈ lv, ∀ t ∈ l, 0 ≤ t.weight ∧ t.weight < 2147483648
theorem nums_cons (l : List Tab) (lv : Lv) : nums (l :: lv) = l.map Tab.num ++ nums lv := by unfold nums; simp
theorem nums_set : ∀ {lv : Lv} {k : Nat} {ts : List Tab} {t : Tab}, lv[k]? = some ts → (nums (lv.set k (ts ++ [t]))).Perm (t.num :: nums lv)
  | [], k, ts, t, h => by simp at h
  | l :: lv, 0, ts, t, h => by
    simp only [List.getElem?_cons_zero, Option.some.injEq] at h
    subst h
    rw [List.set_cons_zero, nums_cons, nums_cons, List.map_append, List.append_assoc]
    exact List.perm_middle
  | l :: lv, k + 1, ts, t, h => by
    rw [List.getElem?_cons_succ] at h
    rw [List.set_cons_succ, nums_cons, nums_cons]
    exact ((nums_set h).append_left _).trans List.perm_middle
theorem nums_perm : ∀ {lv lw : Lv}, lw.length = lv.length → (∀ (i : Nat) (a b : List Tab), lv[i]? = some a → lw[i]? = some b → List.Perm b a) → (nums lw).Perm (nums lv)
  | [], [], _, _ => List.Perm.refl _
  | [], _ :: _, h, _ => (by simp at h)
  | _ :: _, [], h, _ => (by simp at h)
  | a :: lv, b :: lw, h, hp => by
    rw [nums_cons, nums_cons]
    have h1 : List.Perm b a := hp 0 a b rfl rfl
    have h2 := nums_perm (lv := lv) (lw := lw) (by simpa using h) (fun i x y hx hy => hp (i + 1) x y (by simpa using hx) (by simpa using hy))
    exact (h1.map _).append h2
theorem Sorted.perm {lv lw : Lv} (h : Sorted lv lw) : ∀ (i : Nat) (a b : List Tab), lv[i]? = some a → lw[i]? = some b → List.Perm b a := fun i a b ha hb => by
  rcases Nat.eq_zero_or_pos i with rfl | h0
  · have := h.2.1
    rw [ha, hb] at this
    cases this
    exact List.Perm.refl _
  · exact (h.2.2 i a b h0 ha hb).1
theorem good_nil (k : Nat) : GoodL (List.replicate k []) := by
  have e : nums (List.replicate k []) = [] := by
    induction k with
    | zero => rfl
    | succ k ih => rw [List.replicate_succ, nums_cons, ih]; rfl
  refine ⟨fun l hl t ht => ?_, by rw [e]; exact List.nodup_nil, fun i ts _ hts => ?_, fun l hl t ht => ?_⟩
  · rw [(List.mem_replicate.1 hl).2] at ht; cases ht
  · have := (List.mem_replicate.1 (List.mem_of_getElem? hts)).2
    subst this
    intro j x y hx; simp at hx
  · rw [(List.mem_replicate.1 hl).2] at ht; cases ht
theorem good_step {lv lw : Lv} {e : Edit} {p : Placed} (G : GoodL lv) (ho : e.out = []) (hi : e.inn = [p]) (hw : 0 ≤ p.weight ∧ p.weight < 2147483648) (h : Res lv e 0 lw) : GoodL lw ∧ totL lw ≤ totL lv + 1 ∧ lw.length = lv.length := by
  unfold Res at h
  rw [ho, hi] at h
  split at h
  · next h1 =>
    have o0 : outM [] lv = (0, lv) := rfl
    rw [o0] at h
    dsimp only at h
    rw [if_pos rfl] at h
    have hs := inM_sum [p] lv
    split at h
    · next h3 =>
      rcases h with ⟨h, _⟩ | ⟨_, h⟩
      · exact absurd h (by decide)
      have H2 : Hulls (inM [p] lv).2 := hs.2.2 G.hulls
      have nd2 : (nums (inM [p] lv).2).Nodup ∧ ∀ l ∈ (inM [p] lv).2, ∀ t ∈ l, 0 ≤ t.weight ∧ t.weight < 2147483648 := by
        unfold inM at h3
        split at h3
        · exact absurd h3 (by simp)
        · next hp =>
          split at h3
          · exact absurd h3 (by simp)
          · next ts hts =>
            split at h3
            · exact absurd h3 (by simp)
            · next hn =>
              split at h3
              · exact absurd h3 (by simp)
              · next hb =>
                have hin : inM [p] lv = (0, lv.set p.lv.toNat (ts ++ [p.tab])) := by
                  unfold inM
                  rw [if_neg hp]
                  simp only [hts]
                  rw [if_neg hn, if_neg hb]
                  rfl
                rw [hin]
                refine ⟨(nums_set hts).nodup_iff.2 (List.nodup_cons.2 ⟨hn, G.nd⟩), fun l hl t ht => ?_⟩
                rcases List.mem_or_eq_of_mem_set hl with hl | hl
                · exact G.w l hl t ht
                · subst hl
                  rcases List.mem_append.1 ht with ht | ht
                  · exact G.w ts (List.mem_of_getElem? hts) t ht
                  · rw [List.mem_singleton.1 ht]; exact hw
      refine ⟨⟨h.hulls H2, ?_, fun i us h0 hu => ?_, fun l hl t ht => ?_⟩, ?_, ?_⟩
      · exact (nums_perm h.1 h.perm).nodup_iff.2 nd2.1
      · have hlt : i < (inM [p] lv).2.length := by rw [← h.1]; exact (List.getElem?_eq_some_iff.1 hu).1
        exact (h.2.2 i _ us h0 (List.getElem?_eq_getElem hlt) hu).2.2
      · obtain ⟨i, hi', hl'⟩ := List.mem_iff_getElem.1 hl
        have hlt : i < (inM [p] lv).2.length := by rw [← h.1]; exact hi'
        have := h.perm i _ l (List.getElem?_eq_getElem hlt) (by rw [← hl']; exact List.getElem?_eq_getElem hi')
        exact nd2.2 _ (List.getElem_mem hlt) t (this.mem_iff.1 ht)
      · have := h.totL
        have := hs.1
        simp only [List.length_singleton] at this
        omega
      · rw [h.1, hs.2.1]
    · next h3 => exact absurd h.symm h3
  · exact absurd h (by decide)
theorem zero_ptrs (n : Nat) : (Builtin.zeroCells (List.toArray [Value.string (ByteArray.mk #[])]) ((n : Nat) : Int).toNat) = ⟨ptrV (List.replicate n ⟨#[]⟩)⟩ := by
  rw [Int.toNat_natCast]
  unfold Builtin.zeroCells ptrV
  apply Array.ext
  · simp
  · intro i h1 h2
    simp [Nat.mod_one]
theorem NewN.grow {g h : Hp} {s : Sl} {sz t b : Nat} {o : Obj} {vs : List Value} (N : NewN g s) (B : Buf h s sz t vs) (hb : h b = none) : NewN (g.new b o) s := by
  rcases N with h0 | ⟨k, hk, hn⟩
  · exact .inl h0
  · refine .inr ⟨k, hk, ?_⟩
    rcases B.own with ⟨ha, _⟩ | ⟨c, _, _, ha, hc, _⟩
    · rw [hk] at ha; cases ha
    · rw [hk] at ha
      simp only [Option.some.injEq, Addr.mk.injEq] at ha
      rw [new_ne _ _ (by rw [ha.1]; exact ne_of hc hb)]; exact hn
section
variable {g h h' : Hp} {sb vb pm cm b : Nat} {ps ls l l1 l2 : Sl} {xs : List (Sl × List Tab)} {ptrs : List ByteArray} {Q : Value → Hp → Prop} {n n1 n2 n3 n4 n5 n6 n7 n8 n9 n10 n11 n12 n13 n14 n15 n16 n17 n18 n19 n20 n21 n22 n23 n24 n25 n26 : Int}
theorem SetA.grow (S : SetA g h sb vb pm cm ps ls xs ptrs) (hb : h b = none) (o : Obj) : SetA (g.new b o) (h.new b o) sb vb pm cm ps ls xs ptrs := by
  have K := Keep.new hb o
  have kk : Keep (g.new b o) (h.new b o) := fun k x e => by
    by_cases hk : k = b
    · subst hk; rw [new_at] at e ⊢; exact e
    · rw [new_ne _ _ hk] at e ⊢; exact S.V.L.k k x e
  obtain ⟨c, hc⟩ := S.m
  obtain ⟨es, c2, h2, h3⟩ := S.c
  refine ⟨⟨⟨kk, NewN.grow S.V.L.nl S.V.L.l hb, S.V.L.l.keep K, fun x hx => Buf.keep K (S.V.L.t x hx), fun x hx => NewN.grow (S.V.L.n x hx) (S.V.L.t x hx) hb, S.V.L.d⟩, ?_, K _ _ S.V.v⟩, ?_, K _ _ S.s, NewN.grow S.np S.p hb, S.p.keep K, ⟨c, K _ _ hc⟩, ?_, ⟨es, c2, K _ _ h2, h3⟩, S.ne⟩
  · rw [new_ne _ _ (ne_of S.V.v hb)]; exact S.V.nv
  · rw [new_ne _ _ (ne_of S.s hb)]; exact S.ns
  · rw [new_ne _ _ (ne_of h2 hb)]; exact S.nc
theorem SetA.base {g0 : Hp} (K : Keep g0 g) (S : SetA g h sb vb pm cm ps ls xs ptrs) : SetA g0 h sb vb pm cm ps ls xs ptrs :=
  ⟨Ver.base K S.V, K.dom _ S.ns, S.s, S.np.mono K.dom, S.p, S.m, K.dom _ S.nc, S.c, S.ne⟩
/-- A list of levels that may be written. -/
def LT (h : Hp) (r : Sl) (lv : Lv) : Prop := ∃ ys : List (Sl × List Tab), Buf h r 1 66 (slV (ys.map (·.1))) ∧ (∀ y ∈ ys, TB h y.1 y.2) ∧ ys.map (·.2) = lv
theorem totL_le {lv : Lv} {n : Nat} (h : totL lv ≤ n) : ∀ l ∈ lv, l.length ≤ n := fun l hl => Nat.le_trans (totL_mem hl) h
/-- A version is built of placed tables. -/
theorem built_s {inn : List Placed} (hin : h.row l.a (l.n * 7) (inV inn)) (hr : ∀ p ∈ inn, -9223372036854775808 ≤ p.lv ∧ -9223372036854775808 ≤ p.weight) (h8 : 3 ≤ n8 ∧ n8 ≤ 5)
    (hQ : ∀ h' vb ls xs r, Keep h h' → Ver h h' vb ls xs → GoodL (xs.map (·.2)) → totL (xs.map (·.2)) ≤ 400 → n8 = (xs.length : Int) → LT h' r (xs.map (·.2)) → Q (.tuple ⟨[.pointer (some ⟨vb, 0, none⟩), .slice r.a r.n r.c]⟩) h') : F24.T n n1 n2 n3 n4 n5 n6 n7 n8 n9 n10 n11 n12 n13 n14 n15 n16 n17 n18 n19 n20 n21 n22 n23 n24 n25 n26 l h Q := by
  obtain ⟨k, hk⟩ := Int.eq_ofNat_of_zero_le (show 0 ≤ n8 by omega)
  have hln : l.n = inn.length := by have := hin.1; rw [inV_len] at this; omega
  subst hk
  unfold F24.T F24.G
  refine new_spec (k := k) rfl (by omega) (by omega) fun h1 sb vb pm cm ps ls xs S0 ex0 => ⟨_, rfl, fun a b _ e => (by cases e), fun e => (by cases e), fun _ => ⟨⟨by omega, by omega, by omega⟩, fun b hb => ?_⟩⟩
  rw [zero_ptrs, Int.toNat_natCast]
  have S1 := S0.grow hb (.cells ⟨ptrV (List.replicate k ⟨#[]⟩)⟩ 9 (0, 0))
  have hgb := S0.V.L.k.dom b hb
  have KG := Keep.new hgb (.cells ⟨ptrV (List.replicate k ⟨#[]⟩)⟩ 9 (0, 0))
  have xG := new_at h b (.cells ⟨ptrV (List.replicate k ⟨#[]⟩)⟩ 9 (0, 0))
  generalize h1.new b (.cells ⟨ptrV (List.replicate k ⟨#[]⟩)⟩ 9 (0, 0)) = h2 at S1 ⊢
  generalize h.new b (.cells ⟨ptrV (List.replicate k ⟨#[]⟩)⟩ 9 (0, 0)) = G at S1 KG xG
  have hxl : xs.length = k := by have := congrArg List.length ex0; simpa using this
  refine ⟨fun h3 => ∃ vb ls xs ptrs, SetA G h3 sb vb pm cm ps ls xs ptrs ∧ GoodL (xs.map (·.2)) ∧ totL (xs.map (·.2)) ≤ 400 ∧ xs.length = k, ?_, ?_⟩
  · rintro h3 ⟨vb, ls, xs, ptrs, S, Gd, ht, hxk⟩
    have hK : Keep h h3 := KG.trans S.V.L.k
    have V : Ver h h3 vb ls xs := Ver.base KG S.V
    have hsz : ∀ x ∈ xs, x.2.length ≤ 60000 := fun x hx => by
      have := totL_le ht x.2 (List.mem_map.2 ⟨x, hx, rfl⟩); omega
    refine current_spec S ⟨_, rfl, ?_⟩
    refine ⟨fun l1 n h4 => ∃ i : Nat, n = (i : Int) ∧ i ≤ k ∧ Keep h3 h4 ∧ NewN h3 l1 ∧ ∃ ys : List (Sl × List Tab), Buf h4 l1 1 66 (slV (ys.map (·.1))) ∧ (∀ y ∈ ys, TB h4 y.1 y.2) ∧ ys.map (·.2) = (xs.map (·.2)).take i, fun _ n _ => k - n.toNat, ⟨0, rfl, Nat.zero_le _, Keep.refl _, NewN.nil _, [], Buf.nil _ _ _, fun y hy => (by cases hy), rfl⟩, ?_⟩
    rintro l1 n h4 ⟨i, rfl, hi, K4, N4, ys, B4, T4, ey⟩
    refine ⟨fun hlt => ?_, fun hge => ?_⟩
    · refine tables_s (V.keep K4) hsz fun h5 r K5 B5 N5 => ⟨r, rfl, ?_⟩
      have hyl : ys.length = i := by
        have := congrArg List.length ey
        rw [List.length_map, List.length_take, List.length_map, Nat.min_eq_left (by omega)] at this
        exact this
      have hl1 : l1.n = i := by have := B4.len; rw [slV_length, List.length_map] at this; omega
      have hi' : i < xs.length := by omega
      have B4' := B4.keep K5
      refine append_buf (us := [.slice r.a r.n r.c]) B4' rfl rfl (by omega) fun l3 h6 B6 _ U6 => ?_
      obtain ⟨K6, N6⟩ := NewN.upd (K4.trans K5) N4 U6
      have C6 := Ck.of_upd B4' U6
      rw [next_i (n := 100) (by omega) (by omega)]
      refine ⟨⟨i + 1, rfl, by omega, K6, N6, ys ++ [(r, (xs[i]).2)], ?_, fun y hy => ?_, ?_⟩, by dsimp only; omega⟩
      · have : slV ((ys ++ [(r, (xs[i]).2)]).map (·.1)) = slV (ys.map (·.1)) ++ [.slice r.a r.n r.c] := by unfold slV; simp
        rw [this]; exact B6
      · rcases List.mem_append.1 hy with hy | hy
        · exact C6.buf (by decide) (Buf.keep K5 (T4 y hy))
        · rw [List.mem_singleton.1 hy]
          have e := tabsI_nat xs (List.getElem?_eq_getElem hi')
          rw [e] at B5
          exact C6.buf (by decide) B5
      · rw [List.map_append, ey, List.take_add_one]
        congr 1
        simp [hi']
    · have : i = k := by omega
      subst this
      refine hQ h4 vb ls xs l1 (hK.trans K4) (V.keep K4) Gd ht (by rw [hxk]) ⟨ys, B4, T4, ?_⟩
      rw [ey, List.take_of_length_le (by rw [List.length_map]; omega)]
  · refine ⟨fun n h7 => ∃ i : Nat, n = (i : Int) ∧ i ≤ inn.length ∧ i ≤ 400 ∧ ∃ vb ls xs ptrs, SetA G h7 sb vb pm cm ps ls xs ptrs ∧ GoodL (xs.map (·.2)) ∧ totL (xs.map (·.2)) ≤ i ∧ xs.length = k ∧ ptrs.length = k, fun n _ => 400 - n.toNat, ⟨0, rfl, Nat.zero_le _, by omega, vb, ls, xs, _, S1, by rw [ex0]; exact good_nil k, ?_, hxl, by simp⟩, ?_⟩
    · rw [ex0]; unfold totL; simp
    rintro n h7 ⟨i, rfl, hi, hi4, vb, ls, xs, ptrs, S, Gd, ht, hxk, hpk⟩
    refine ⟨fun hlt => ⟨fun h4 => ?_, fun h4 => ⟨vb, ls, xs, ptrs, S, Gd, by omega, hxk⟩⟩, fun hge => ⟨vb, ls, xs, ptrs, S, Gd, by omega, hxk⟩⟩
    have hii : i < inn.length := by omega
    obtain ⟨A, p, R, rfl, hA⟩ : ∃ A p R, inn = A ++ p :: R ∧ A.length = i := by
      refine ⟨inn.take i, inn[i], inn.drop (i + 1), ?_, by rw [List.length_take]; omega⟩
      have e := List.take_append_drop i inn
      rw [List.drop_eq_getElem_cons hii] at e
      exact e.symm
    obtain ⟨r1, r2⟩ := hr p (by simp)
    have hKG : Keep h h7 := KG.trans S.V.L.k
    refine in_rd (hKG.row hin) (by rw [hA]) fun b1 o => ?_
    refine place_s r1 (by omega) fun m m1 m2 => ⟨m, rfl, ?_⟩
    refine place_s r2 (by decide) fun w w1 w2 => ⟨w, rfl, fun b2 hb2 => ?_⟩
    have S2 := S.grow hb2 (.cells ⟨[.int .i64 m, .int .u64 p.num, .int .i64 w, .int .i64 p.bytes, .int .i64 p.entries, .string p.least, .string p.greatest]⟩ 49 (0, 0))
    have hg2 := S.V.L.k.dom b2 hb2
    have K2 := Keep.new hg2 (.cells ⟨[.int .i64 m, .int .u64 p.num, .int .i64 w, .int .i64 p.bytes, .int .i64 p.entries, .string p.least, .string p.greatest]⟩ 49 (0, 0))
    have x2 := new_at G b2 (.cells ⟨[.int .i64 m, .int .u64 p.num, .int .i64 w, .int .i64 p.bytes, .int .i64 p.entries, .string p.least, .string p.greatest]⟩ 49 (0, 0))
    have xG2 := K2 _ _ xG
    generalize h7.new b2 (.cells ⟨[.int .i64 m, .int .u64 p.num, .int .i64 w, .int .i64 p.bytes, .int .i64 p.entries, .string p.least, .string p.greatest]⟩ 49 (0, 0)) = h8' at S2 ⊢
    generalize G.new b2 (.cells ⟨[.int .i64 m, .int .u64 p.num, .int .i64 w, .int .i64 p.bytes, .int .i64 p.entries, .string p.least, .string p.greatest]⟩ 49 (0, 0)) = G2 at S2 K2 x2 xG2
    have E : EdAt G2 ⟨0, 0, 0, [], [⟨m, p.num, w, p.bytes, p.entries, p.least, p.greatest⟩], List.replicate k ⟨#[]⟩⟩ ⟨none, 0, 0⟩ ⟨some ⟨b2, 0, none⟩, 1, 1⟩ ⟨some ⟨b, 0, none⟩, k, k⟩ := by
      refine ⟨⟨rfl, .inl rfl⟩, ⟨rfl, .inr ⟨b2, 0, rfl, fun j _ => ?_⟩⟩, ⟨by simp [ptrV], .inr ⟨b, 0, rfl, fun j _ => ?_⟩⟩⟩
      · rw [Nat.zero_add, at_of x2]
        simp [inV, Placed.cells]
      · rw [Nat.zero_add, at_of xG2]
        simp
    refine apply_spec S2 E (by rw [hpk, hxk]) (by omega) (by omega) (by show totL (xs.map (·.2)) + 1 ≤ 50000; omega) (by show 0 ≤ 50000; omega) fun h10 c r vb' ls' xs' ptrs' _ S' R e1 e2 => ?_
    have S3 := S'.base K2
    rw [next_i (n := 1000) (by omega) (by omega)]
    refine ⟨r, c, rfl, ⟨i + 1, rfl, hii, by omega, vb', ls', xs', ptrs', S3, ?_⟩, by dsimp only; omega⟩
    by_cases hc : c = 0
    · subst hc
      obtain ⟨g1, g2, g3⟩ := good_step Gd rfl rfl ⟨w1, w2⟩ R
      rw [List.length_map, List.length_map] at g3
      refine ⟨g1, by omega, by omega, ?_⟩
      rw [e1 rfl]; simp
    · obtain ⟨rfl, rfl⟩ := e2 hc
      exact ⟨Gd, by omega, hxk, hpk⟩
end
end Go.Eng.Ytbjnlacacapjiaa
end
section

/-
  SPECS OF PICKING, 7: the chapter's example.
-/
set_option linter.unusedSimpArgs false
set_option linter.unusedVariables false
set_option maxRecDepth 100000
set_option maxHeartbeats 1000000
namespace Go.Eng.Ytbjnlacacapjiaa
def tb (n w : Int) (a b : UInt8) : Tab := ⟨n, w, 0, 0, ⟨#[a]⟩, ⟨#[b]⟩⟩
def exLv : Lv := [[tb 9 500 98 100, tb 12 500 99 107], [tb 3 2000 97 99, tb 4 2000 101 112, tb 5 1000 113 122], [tb 6 3000 100 102, tb 7 3000 103 105, tb 8 2000 107 108, tb 10 1000 120 122], [tb 11 90000 97 122]]
def pl (l n w : Int) (a b : UInt8) : Placed := ⟨l, n, w, 0, 0, ⟨#[a]⟩, ⟨#[b]⟩⟩
def exIn : List Placed := [pl 0 9 500 98 100, pl 0 12 500 99 107, pl 1 3 2000 97 99, pl 1 4 2000 101 112, pl 1 5 1000 113 122, pl 2 6 3000 100 102, pl 2 7 3000 103 105, pl 2 8 2000 107 108, pl 2 10 1000 120 122, pl 3 11 90000 97 122]
def exEd : Edit := ⟨0, 0, 0, [], exIn, List.replicate 4 ⟨#[]⟩⟩
theorem ex_in : inM exIn (List.replicate 4 []) = (0, exLv) := by rfl
instance (a b : ByteArray) : Decidable (Bl a b) := inferInstanceAs (Decidable (cmpI a b < 0))
instance (a b : ByteArray) : Decidable (Le a b) := inferInstanceAs (Decidable (¬ Bl b a))
theorem fine_of {us : List Tab} (h1 : Srt us) (h2 : Adj us) : Fine us us := ⟨List.Perm.refl _, h1, h2⟩
theorem ex_fine : ∀ i ts, 1 ≤ i → exLv[i]? = some ts → Fine ts ts := fun i ts hi h => by
  match i, hi with
  | 1, _ => cases h; exact fine_of (by unfold Srt; decide) (fun i x y h1 h2 => by
      match i with
      | 0 => cases h1; cases h2; decide
      | 1 => cases h1; cases h2; decide
      | n + 2 => simp at h2)
  | 2, _ => cases h; exact fine_of (by unfold Srt; decide) (fun i x y h1 h2 => by
      match i with
      | 0 => cases h1; cases h2; decide
      | 1 => cases h1; cases h2; decide
      | 2 => cases h1; cases h2; decide
      | n + 3 => simp at h2)
  | 3, _ => cases h; exact fine_of (by unfold Srt; decide) (fun i x y h1 h2 => by simp at h2)
  | n + 4, _ => simp [exLv] at h
theorem ex_res : Res (List.replicate 4 []) exEd 0 exLv := by
  unfold Res
  rw [if_pos (by rfl)]
  have o : outM exEd.out (List.replicate 4 []) = (0, List.replicate 4 []) := rfl
  rw [o]
  dsimp only
  rw [if_pos rfl]
  have i : inM exEd.inn (List.replicate 4 []) = (0, exLv) := ex_in
  rw [i]
  dsimp only
  rw [if_pos rfl]
  refine .inr ⟨rfl, rfl, rfl, fun i ts us hi h1 h2 => ?_⟩
  rw [h1] at h2
  cases h2
  exact ex_fine i ts hi h1
theorem weight_bd (ts : List Tab) : ∀ (a : Int) (k : Nat), (∀ t ∈ ts, 0 ≤ t.weight ∧ t.weight < 2147483648) → k + ts.length ≤ 1000 → 0 ≤ a → a ≤ 2147483648 * (k : Int) → 0 ≤ ts.foldl (fun n t => IntKind.wrap .i64 (n + t.weight)) a ∧ ts.foldl (fun n t => IntKind.wrap .i64 (n + t.weight)) a ≤ 2147483648 * ((k + ts.length : Nat) : Int) := by
  induction ts with
  | nil => intro a k _ _ h0 h1; exact ⟨h0, h1⟩
  | cons t ts ih =>
    intro a k hw hl h0 h1
    obtain ⟨w0, w1⟩ := hw t List.mem_cons_self
    rw [List.length_cons] at hl ⊢
    rw [List.foldl_cons, wrap_i64 (n := a + t.weight) (by omega) (by omega)]
    have := ih (a + t.weight) (k + 1) (fun u hu => hw u (List.mem_cons_of_mem _ hu)) (by omega) (by omega) (by omega)
    rw [show k + (ts.length + 1) = k + 1 + ts.length by omega]
    exact this
theorem pk_ok {xs : List (Sl × List Tab)} (hl : 3 ≤ xs.length ∧ xs.length ≤ 5) (ht : totL (xs.map (·.2)) ≤ 400) (hw : ∀ l ∈ xs.map (·.2), ∀ t ∈ l, 0 ≤ t.weight ∧ t.weight < 2147483648) : PkOk xs := by
  have sz : ∀ x ∈ xs, x.2.length ≤ 400 := fun x hx => totL_le ht x.2 (List.mem_map.2 ⟨x, hx, rfl⟩)
  refine ⟨hl, fun x hx => Nat.le_trans (sz x hx) (by omega), fun i => ?_⟩
  have key : (tabsI xs i).length ≤ 400 ∧ ∀ t ∈ tabsI xs i, 0 ≤ t.weight ∧ t.weight < 2147483648 := by
    unfold tabsI
    split
    · exact ⟨by simp, fun t ht => by cases ht⟩
    · split
      · next x hx =>
        have := List.mem_of_getElem? hx
        exact ⟨sz x this, hw x.2 (List.mem_map.2 ⟨x, this, rfl⟩)⟩
      · exact ⟨by simp, fun t ht => by cases ht⟩
  have := weight_bd (tabsI xs i) 0 0 key.2 (by omega) (Int.le_refl _) (by omega)
  unfold weightW
  exact ⟨this.1, by omega⟩
theorem new_row (h : Hp) (b : Nat) (L : List Value) (t : Nat) : (h.new b (.cells ⟨L⟩ t (0, 0))).row (some ⟨b, 0, none⟩) L.length L :=
  ⟨rfl, .inr ⟨b, 0, rfl, fun j _ => by rw [Nat.zero_add, at_of (new_at _ _ _)]; simp⟩⟩
def exP : List ByteArray := [⟨#[]⟩, ⟨#[99]⟩]
def exJ : Jb := ⟨1, [tb 4 2000 101 112], [tb 6 3000 100 102, tb 7 3000 103 105], ⟨#[107]⟩, false⟩
section
variable {g h h' : Hp} {vb b : Nat} {ls l l1 l2 l3 : Sl} {xs : List (Sl × List Tab)} {Q : Value → Hp → Prop}
theorem ex_xs (e : xs.map (·.2) = exLv) : ∃ s0 s1 s2 s3, xs = [(s0, [tb 9 500 98 100, tb 12 500 99 107]), (s1, [tb 3 2000 97 99, tb 4 2000 101 112, tb 5 1000 113 122]), (s2, [tb 6 3000 100 102, tb 7 3000 103 105, tb 8 2000 107 108, tb 10 1000 120 122]), (s3, [tb 11 90000 97 122])] := by
  unfold exLv at e
  match xs, e with
  | [(s0, _), (s1, _), (s2, _), (s3, _)], e =>
    simp only [List.map_cons, List.map_nil, List.cons.injEq, and_true] at e
    obtain ⟨rfl, rfl, rfl, rfl⟩ := e
    exact ⟨s0, s1, s2, s3, rfl⟩
theorem ex_ok (e : xs.map (·.2) = exLv) : PkOk xs := by
  have hl : xs.length = 4 := by have := congrArg List.length e; simpa [exLv] using this
  refine pk_ok (by omega) (by rw [e]; decide) ?_
  rw [e]
  decide
theorem ex_sc (e : xs.map (·.2) = exLv) : scoreM 2 4096 2 xs 0 = 1000 ∧ scoreM 2 4096 2 xs 1 = 1220 ∧ scoreM 2 4096 2 xs 2 = 1098 ∧ decide ((4 : Int) ≤ ((tabsI xs 0).length : Int)) = false ∧ xs.length = 4 := by
  obtain ⟨s0, s1, s2, s3, rfl⟩ := ex_xs e
  have t0 : tabsI [(s0, [tb 9 500 98 100, tb 12 500 99 107]), (s1, [tb 3 2000 97 99, tb 4 2000 101 112, tb 5 1000 113 122]), (s2, [tb 6 3000 100 102, tb 7 3000 103 105, tb 8 2000 107 108, tb 10 1000 120 122]), (s3, [tb 11 90000 97 122])] 0 = [tb 9 500 98 100, tb 12 500 99 107] := rfl
  have t1 : tabsI [(s0, [tb 9 500 98 100, tb 12 500 99 107]), (s1, [tb 3 2000 97 99, tb 4 2000 101 112, tb 5 1000 113 122]), (s2, [tb 6 3000 100 102, tb 7 3000 103 105, tb 8 2000 107 108, tb 10 1000 120 122]), (s3, [tb 11 90000 97 122])] ((1 : Nat) : Int) = [tb 3 2000 97 99, tb 4 2000 101 112, tb 5 1000 113 122] := rfl
  have t2 : tabsI [(s0, [tb 9 500 98 100, tb 12 500 99 107]), (s1, [tb 3 2000 97 99, tb 4 2000 101 112, tb 5 1000 113 122]), (s2, [tb 6 3000 100 102, tb 7 3000 103 105, tb 8 2000 107 108, tb 10 1000 120 122]), (s3, [tb 11 90000 97 122])] ((2 : Nat) : Int) = [tb 6 3000 100 102, tb 7 3000 103 105, tb 8 2000 107 108, tb 10 1000 120 122] := rfl
  refine ⟨?_, ?_, ?_, ?_, rfl⟩
  · unfold scoreM; rw [if_pos rfl, t0]; decide
  · unfold scoreM; rw [if_neg (by decide), t1]; decide
  · unfold scoreM; rw [if_neg (by decide), t2]; decide
  · rw [t0]; decide
theorem ex_scores (e : xs.map (·.2) = exLv) : (List.range (xs.length - 1)).map (scoreM 2 4096 2 xs) = [1000, 1220, 1098] := by
  obtain ⟨c0, c1, c2, _, hl⟩ := ex_sc e
  rw [hl]
  show [scoreM 2 4096 2 xs 0, scoreM 2 4096 2 xs 1, scoreM 2 4096 2 xs 2] = _
  rw [c0, c1, c2]
theorem ex_order (e : xs.map (·.2) = exLv) : IsOrder (xs.length - 1) (decide ((4 : Int) ≤ ((tabsI xs 0).length : Int))) (scoreM 2 4096 2 xs) [1, 2, 0] := by
  obtain ⟨c0, c1, c2, cd, hl⟩ := ex_sc e
  rw [cd, hl]
  generalize scoreM 2 4096 2 xs = sc at c0 c1 c2 ⊢
  refine ⟨by decide, fun i => ?_, ?_⟩
  · constructor
    · intro hi
      have : i = 1 ∨ i = 2 ∨ i = 0 := by simpa using hi
      rcases this with rfl | rfl | rfl
      · exact ⟨by decide, .inl (by omega)⟩
      · exact ⟨by decide, .inl (by omega)⟩
      · exact ⟨by decide, .inl (by omega)⟩
    · rintro ⟨hi, _⟩
      have hi' : i < 3 := hi
      have : i = 0 ∨ i = 1 ∨ i = 2 := by omega
      rcases this with rfl | rfl | rfl <;> simp
  · unfold bef
    simp [c0, c1, c2]
theorem ex_inputs (e : xs.map (·.2) = exLv) : inputsM 2 xs exP 1 = some exJ := by
  obtain ⟨s0, s1, s2, s3, rfl⟩ := ex_xs e
  rfl
theorem ex_next9 (e : xs.map (·.2) = exLv) : nextL 2 xs exP [9] (fun _ => false) [1, 2, 0] = some exJ := by
  unfold nextL
  have : inputsM 2 xs exP ((1 : Nat) : Int) = some exJ := ex_inputs e
  rw [this]
  rfl
theorem ex_next7 (e : xs.map (·.2) = exLv) : nextL 2 xs exP [7] (fun _ => false) [1, 2, 0] = none := by
  obtain ⟨s0, s1, s2, s3, rfl⟩ := ex_xs e
  rfl
theorem ex_s (hQ : ∀ h' vb ls xs, Keep h h' → Ver h h' vb ls xs → xs.map (·.2) = exLv → Q (.tuple ⟨[.agg ⟨[.int .i64 0, .int .i64 0, .int .i64 0, .int .i64 0, .int .i64 0, .int .i64 2, .int .i64 0, .int .i64 4, .int .i64 4, .int .i64 4096, .int .i64 2, .int .i64 0, .int .i64 2, .int .i64 0, .int .i64 0, .int .i64 0, .int .i64 0, .int .i64 0, .int .i64 0, .int .i64 0, .int .i64 0, .int .i64 0, .int .i64 0, .int .i64 0, .int .i64 0, .int .i64 0, .int .i64 0]⟩, .pointer (some ⟨vb, 0, none⟩)]⟩) h') : F48.T h Q := by
  unfold F48.T F48.G
  refine new_spec (k := 4) rfl (by decide) (by decide) fun h1 sb vb pm cm ps ls xs S0 ex0 => ⟨_, rfl, fun a b _ e => (by cases e), fun e => (by cases e), fun _ => ?_⟩
  unfold F74.T
  refine ⟨_, _, _, _, _, _, rfl, ⟨_, _, _, _, _, _, rfl, ⟨_, _, _, _, _, _, rfl, ⟨_, _, _, _, _, _, rfl, ⟨_, _, _, _, _, _, rfl, ⟨_, _, _, _, _, _, rfl, ⟨_, _, _, _, _, _, rfl, ⟨_, _, _, _, _, _, rfl, ⟨_, _, _, _, _, _, rfl, ⟨_, _, _, _, _, _, rfl, fun b hb b1 hb1 => ?_⟩⟩⟩⟩⟩⟩⟩⟩⟩⟩
  have S1 := S0.grow hb (.cells ⟨inV exIn⟩ 49 (0, 0))
  have S2 := S1.grow hb1 (.cells ⟨ptrV (List.replicate 4 ⟨#[]⟩)⟩ 9 (0, 0))
  have hgb := S0.V.L.k.dom b hb
  have KG := Keep.new hgb (.cells ⟨inV exIn⟩ 49 (0, 0))
  have xG := new_at h b (.cells ⟨inV exIn⟩ 49 (0, 0))
  have rG := new_row h b (inV exIn) 49
  have hgb1 := S1.V.L.k.dom b1 hb1
  have KG1 := Keep.new hgb1 (.cells ⟨ptrV (List.replicate 4 ⟨#[]⟩)⟩ 9 (0, 0))
  have rG1 := new_row (h.new b (.cells ⟨inV exIn⟩ 49 (0, 0))) b1 (ptrV (List.replicate 4 ⟨#[]⟩)) 9
  have rG' := KG1.row rG
  have E : EdAt ((h.new b (.cells ⟨inV exIn⟩ 49 (0, 0))).new b1 (.cells ⟨ptrV (List.replicate 4 ⟨#[]⟩)⟩ 9 (0, 0))) exEd ⟨none, 0, 0⟩ ⟨some ⟨b, 0, none⟩, 10, 10⟩ ⟨some ⟨b1, 0, none⟩, 4, 4⟩ := ⟨⟨rfl, .inl rfl⟩, rG', rG1⟩
  have hxl : xs.length = 4 := by have := congrArg List.length ex0; simpa using this
  refine apply_spec S2 E (by rw [hxl]; rfl) (by omega) (by omega) (by rw [ex0]; decide) (by decide) fun h10 c r vb' ls' xs' ptrs' _ S' R e1 e2 => ?_
  rw [ex0] at R
  obtain ⟨hc, hx⟩ := Res.one (good_nil 4).hulls R ex_res
  refine ⟨r, c, rfl, fun _ => ?_, fun h0 => absurd hc h0⟩
  have S3 := (S'.base KG1).base KG
  exact current_spec S3 ⟨_, rfl, hQ h10 vb' ls' xs' S3.V.L.k S3.V (hx hc)⟩
theorem known_s (hQ : ∀ h', Keep h h' → Q (.bool true) h') : F21.T h Q := by
  have O : CfOk 2 4 4 4096 2 2 := ⟨by decide, by decide, by decide, by decide, by decide, by decide⟩
  unfold F21.T F21.G
  refine ex_s fun h1 vb ls xs K1 V e => ⟨_, _, _, _, _, _, _, _, _, _, _, _, _, _, _, _, _, _, _, _, _, _, _, _, _, _, _, _, rfl, fun a b _ e => (by cases e), fun e => (by cases e), fun _ => ?_⟩
  have P := ex_ok e
  have h8 : (4 : Int) = (xs.length : Int) := by have := congrArg List.length e; simp [exLv] at this; omega
  refine scores_s V P O h8 fun h2 l K2 B2 N2 => ⟨l, rfl, fun b hb => ?_⟩
  rw [ex_scores e] at B2
  have K3 := Keep.new hb (.cells ⟨[.int .i64 1000, .int .i64 1220, .int .i64 1098]⟩ 3 (0, 0))
  have r3 := new_row h2 b [.int .i64 1000, .int .i64 1220, .int .i64 1098] 3
  generalize h2.new b (.cells ⟨[.int .i64 1000, .int .i64 1220, .int .i64 1098]⟩ 3 (0, 0)) = h3 at K3 r3 ⊢
  refine sameI_s (A := [1000, 1220, 1098]) (B := [1000, 1220, 1098]) (row_one (B2.keep K3)) r3 (by decide) (fun _ => ⟨_, rfl, fun _ => ?_, fun hh => Bool.noConfusion hh⟩) (fun hh => absurd rfl hh)
  have K13 := K2.trans K3
  refine order_s (V.keep K13) P O h8 fun h4 l1 o K4 B4 N4 hO => ⟨l1, rfl, fun b2 hb2 => ?_⟩
  obtain rfl := hO.one (ex_order e)
  have K5 := Keep.new hb2 (.cells ⟨[.int .i64 1, .int .i64 2, .int .i64 0]⟩ 3 (0, 0))
  have r5 := new_row h4 b2 [.int .i64 1, .int .i64 2, .int .i64 0] 3
  generalize h4.new b2 (.cells ⟨[.int .i64 1, .int .i64 2, .int .i64 0]⟩ 3 (0, 0)) = h5 at K5 r5 ⊢
  refine sameI_s (A := [1, 2, 0]) (B := [1, 2, 0]) (row_one (B4.keep K5)) r5 (by decide) (fun _ => ⟨_, rfl, fun _ => fun b4 hb4 => ?_, fun hh => Bool.noConfusion hh⟩) (fun hh => absurd rfl hh)
  have K6 := Keep.new hb4 (.cells ⟨ptrV exP⟩ 9 (0, 0))
  have r6 := new_row h5 b4 (ptrV exP) 9
  show F29.T 0 0 0 0 0 2 0 4 4 4096 2 0 2 0 0 0 0 0 0 0 0 0 0 0 0 0 0 _ _ _ (h5.new b4 (.cells ⟨ptrV exP⟩ 9 (0, 0))) _
  generalize h5.new b4 (.cells ⟨ptrV exP⟩ 9 (0, 0)) = h6 at K6 r6 ⊢
  have K16 := K13.trans (K4.trans (K5.trans K6))
  refine inputs_s (ptrs := exP) (V.keep K16) P O h8 r6 (by decide) (fun hin => absurd ((ex_inputs e).symm.trans hin) (by simp)) (fun j hin h7 u1 u2 K7 T1 N1 T2 N2 o1 o2 => ?_)
  obtain rfl : exJ = j := Option.some.inj ((ex_inputs e).symm.trans hin)
  refine ⟨_, u1, u2, _, false, fun hh => Bool.noConfusion hh, fun _ => ⟨true, fun _ => ⟨rfl, fun b7 hb7 b8 hb8 => ?_⟩, fun hh => Bool.noConfusion hh⟩⟩
  have K8 := Keep.new hb7 (.cells ⟨ptrV exP⟩ 9 (0, 0))
  have r8 := new_row h7 b7 (ptrV exP) 9
  have K9 : Keep (h7.new b7 (.cells ⟨ptrV exP⟩ 9 (0, 0))) ((h7.new b7 (.cells ⟨ptrV exP⟩ 9 (0, 0))).new b8 (.cells ⟨uvs [9]⟩ 33 (0, 0))) := Keep.new hb8 (.cells ⟨uvs [9]⟩ 33 (0, 0))
  have r9 := new_row (h7.new b7 (.cells ⟨ptrV exP⟩ 9 (0, 0))) b8 (uvs [9]) 33
  have r8' := K9.row r8
  show F50.T 0 0 0 0 0 2 0 4 4 4096 2 0 2 0 0 0 0 0 0 0 0 0 0 0 0 0 0 _ _ _ ((h7.new b7 (.cells ⟨ptrV exP⟩ 9 (0, 0))).new b8 (.cells ⟨uvs [9]⟩ 33 (0, 0))) _
  have K89 := K8.trans K9
  generalize (h7.new b7 (.cells ⟨ptrV exP⟩ 9 (0, 0))).new b8 (.cells ⟨uvs [9]⟩ 33 (0, 0)) = h9 at K89 r8' r9 ⊢
  have K19 := K16.trans (K7.trans K89)
  refine next_s (ptrs := exP) (lk := [9]) (V.keep K19) P O h8 r8' r9 (show (1 : Nat) < 9223372036854775807 by decide) (fun o hO hn => ?_) (fun o j hO hn h10 v1 v2 K10 T3 N3 T4 N4 _ _ => ?_)
  · obtain rfl := hO.one (ex_order e)
    exact absurd ((ex_next9 e).symm.trans hn) (by simp)
  obtain rfl := hO.one (ex_order e)
  obtain rfl : exJ = j := Option.some.inj ((ex_next9 e).symm.trans hn)
  refine ⟨_, v1, v2, _, false, fun hh => Bool.noConfusion hh, fun _ => ⟨_, rfl, fun b10 hb10 b11 hb11 => ?_⟩⟩
  have K11 := Keep.new hb10 (.cells ⟨ptrV exP⟩ 9 (0, 0))
  have r11 := new_row h10 b10 (ptrV exP) 9
  have K12 : Keep (h10.new b10 (.cells ⟨ptrV exP⟩ 9 (0, 0))) ((h10.new b10 (.cells ⟨ptrV exP⟩ 9 (0, 0))).new b11 (.cells ⟨uvs [7]⟩ 33 (0, 0))) := Keep.new hb11 (.cells ⟨uvs [7]⟩ 33 (0, 0))
  have r12 := new_row (h10.new b10 (.cells ⟨ptrV exP⟩ 9 (0, 0))) b11 (uvs [7]) 33
  have r11' := K12.row r11
  show F50.T 0 0 0 0 0 2 0 4 4 4096 2 0 2 0 0 0 0 0 0 0 0 0 0 0 0 0 0 _ _ _ ((h10.new b10 (.cells ⟨ptrV exP⟩ 9 (0, 0))).new b11 (.cells ⟨uvs [7]⟩ 33 (0, 0))) _
  have K112 := K11.trans K12
  generalize (h10.new b10 (.cells ⟨ptrV exP⟩ 9 (0, 0))).new b11 (.cells ⟨uvs [7]⟩ 33 (0, 0)) = h12 at K112 r11' r12 ⊢
  have K1_12 := K19.trans (K10.trans K112)
  refine next_s (ptrs := exP) (lk := [7]) (V.keep K1_12) P O h8 r11' r12 (show (1 : Nat) < 9223372036854775807 by decide) (fun o hO hn h13 K13 => ?_) (fun o j hO hn => by
    obtain rfl := hO.one (ex_order e)
    exact absurd ((ex_next7 e).symm.trans hn) (by simp))
  obtain rfl := hO.one (ex_order e)
  have Ku : Keep h7 h13 := K89.trans (K10.trans (K112.trans K13))
  have Kv : Keep h10 h13 := K112.trans K13
  have T1' : TB h13 u1 [tb 4 2000 101 112] := Buf.keep Ku T1
  have T2' : TB h13 u2 [tb 6 3000 100 102, tb 7 3000 103 105] := Buf.keep Ku T2
  have T3' : TB h13 v1 [tb 4 2000 101 112] := Buf.keep Kv T3
  have T4' : TB h13 v2 [tb 6 3000 100 102, tb 7 3000 103 105] := Buf.keep Kv T4
  have m1 := tb_new T1'
  have m2 := tb_new T2'
  refine ⟨0, ⟨none, 0, 0⟩, ⟨none, 0, 0⟩, _, false, fun hh => Bool.noConfusion hh, fun _ => ⟨1, rfl, fun _ => ?_, fun hh => absurd (by rw [m1]; rfl) hh⟩⟩
  obtain ⟨b50, o50, a1, a2, n, a3, _, _, _, _, _, _, _, _, _, _, rfl⟩ := tab_rd (P := []) (R := []) (t := tb 4 2000 101 112) (Buf.row T1') (i := 0) rfl (K := fun b o a c d e s s1 => a = 4) (fun _ _ => rfl)
  refine ⟨b50, o50, a1, a2, 4, a3, fun _ => ⟨fun _ => ?_, fun hh => absurd (by rw [m2]; rfl) hh⟩, fun hh => absurd rfl hh⟩
  obtain ⟨b51, o51, a4, a5, n', a6, _, _, _, _, _, _, _, _, _, _, rfl⟩ := tab_rd (P := [tb 6 3000 100 102]) (R := []) (t := tb 7 3000 103 105) (Buf.row T2') (i := 1) rfl (K := fun b o a c d e s s1 => a = 7) (fun _ _ => rfl)
  refine ⟨b51, o51, a4, a5, 7, a6, fun _ => ⟨fun _ => ⟨fun _ => ?_, fun hh => absurd rfl hh⟩, fun hh => absurd rfl hh⟩, fun hh => absurd rfl hh⟩
  refine sameJ_s (i := exJ) (j := exJ) (Buf.row T3') (Buf.row T4') (Buf.row T1') (Buf.row T2') (by decide) (by decide) (fun _ => ⟨_, rfl, fun _ => ⟨fun _ => ?_, fun hh => absurd rfl hh⟩, fun hh => Bool.noConfusion hh⟩) (fun hh => absurd rfl hh)
  exact hQ h13 (K1.trans (K1_12.trans K13))
end
end Go.Eng.Ytbjnlacacapjiaa
end
section

/-
  SPECS OF PICKING, 8: the round.
-/
set_option linter.unusedSimpArgs false
set_option linter.unusedVariables false
set_option maxRecDepth 100000
set_option maxHeartbeats 1000000
namespace Go.Eng.Ytbjnlacacapjiaa
theorem behind_any (ts : List Tab) (hn : ts ≠ []) (key : ByteArray) : ∃ k, ∃ hk : k < ts.length, behindM ts key = ts[k] := by
  have hm : behindM ts key ∈ ts := by
    unfold behindM
    cases hf : ts.find? fun t => blB key t.least with
    | some t => exact List.mem_of_find?_eq_some hf
    | none =>
      cases ts with
      | nil => exact absurd rfl hn
      | cons t ts => exact List.mem_cons_self
  obtain ⟨k, hk, e⟩ := List.mem_iff_getElem.1 hm
  exact ⟨k, hk, e.symm⟩
theorem least_le {ts : List Tab} (A : Adj ts) (H : ∀ t ∈ ts, Le t.least t.greatest) {i j : Nat} (hij : i ≤ j) (hj : j < ts.length) : Le (ts[i]'(by omega)).least ts[j].greatest := by
  have hg := H ts[j] (List.getElem_mem hj)
  by_cases he : i = j
  · subst he; exact hg
  · have := (List.pairwise_iff_getElem.1 (adj_strict A H)) i j (by omega) hj (by omega)
    exact (this.le hg).asym
theorem behind_next {ts : List Tab} (A : Adj ts) (H : ∀ t ∈ ts, Le t.least t.greatest) {k : Nat} (hk : k < ts.length) : behindM ts ts[k].greatest = ts[(k + 1) % ts.length]'(Nat.mod_lt _ (by omega)) := by
  have pre : ∀ t ∈ ts.take (k + 1), ¬ blB ts[k].greatest t.least = true := fun t ht hb => by
    obtain ⟨i, hi, rfl⟩ := List.mem_iff_getElem.1 ht
    rw [List.length_take] at hi
    rw [List.getElem_take] at hb
    exact least_le A H (i := i) (j := k) (by omega) hk (blB_t.1 hb)
  unfold behindM
  by_cases hl : k + 1 < ts.length
  · have e : ts = ts.take (k + 1) ++ ts[k + 1] :: ts.drop (k + 1 + 1) := by
      have e := List.take_append_drop (k + 1) ts
      rw [List.drop_eq_getElem_cons hl] at e
      exact e.symm
    have hf : ts.find? (fun t => blB ts[k].greatest t.least) = some ts[k + 1] := by
      have h1 : (ts.take (k + 1) ++ ts[k + 1] :: ts.drop (k + 1 + 1)).find? (fun t => blB ts[k].greatest t.least) = some ts[k + 1] := by
        rw [List.find?_append, List.find?_eq_none.2 pre]
        have : blB ts[k].greatest ts[k + 1].least = true := blB_t.2 (A k _ _ (List.getElem?_eq_getElem hk) (List.getElem?_eq_getElem hl))
        rw [List.find?_cons, this]; rfl
      rwa [← e] at h1
    rw [hf]
    simp only [Nat.mod_eq_of_lt hl]
  · have hkl : k + 1 = ts.length := by omega
    have hf : ts.find? (fun t => blB ts[k].greatest t.least) = none := List.find?_eq_none.2 fun t ht => by
      have : ts.take (k + 1) = ts := List.take_of_length_le (by omega)
      rw [this] at pre
      exact pre t ht
    rw [hf]
    simp only [hkl, Nat.mod_self]
    cases ts with
    | nil => simp at hk
    | cons t ts => rfl
/-- What has been seen so far. -/
def seenL (ts : List Tab) (k : Nat) : Nat → List Tab
  | 0 => []
  | i + 1 => seenL ts k i ++ (ts[(k + i) % ts.length]?).toList
theorem seen_len (ts : List Tab) (h0 : 0 < ts.length) (k : Nat) : ∀ i, (seenL ts k i).length = i
  | 0 => rfl
  | i + 1 => by
    unfold seenL
    rw [List.length_append, seen_len ts h0 k i, List.getElem?_eq_getElem (Nat.mod_lt _ h0)]; rfl
theorem seen_mem (ts : List Tab) (h0 : 0 < ts.length) (k : Nat) : ∀ i t, t ∈ seenL ts k i → ∃ m, m < i ∧ ts[(k + m) % ts.length]? = some t
  | 0, t, h => (by cases h)
  | i + 1, t, h => by
    unfold seenL at h
    rcases List.mem_append.1 h with h | h
    · obtain ⟨m, hm, e⟩ := seen_mem ts h0 k i t h
      exact ⟨m, by omega, e⟩
    · rw [List.getElem?_eq_getElem (Nat.mod_lt _ h0)] at h
      refine ⟨i, by omega, ?_⟩
      rw [List.getElem?_eq_getElem (Nat.mod_lt _ h0)]
      have : t = ts[(k + i) % ts.length]'(Nat.mod_lt _ h0) := by simpa using h
      rw [this]
theorem seen_new {ts : List Tab} (nd : (ts.map Tab.num).Nodup) {k i : Nat} (hi : i < ts.length) : (ts[(k + i) % ts.length]'(Nat.mod_lt _ (by omega))).num ∉ (seenL ts k i).map Tab.num := fun hm => by
  obtain ⟨t, ht, e⟩ := List.mem_map.1 hm
  obtain ⟨m, hmi, e2⟩ := seen_mem ts (by omega) k i t ht
  have hm' : (k + m) % ts.length < ts.length := Nat.mod_lt _ (by omega)
  have hi' : (k + i) % ts.length < ts.length := Nat.mod_lt _ (by omega)
  rw [List.getElem?_eq_getElem hm'] at e2
  simp only [Option.some.injEq] at e2
  subst e2
  have := (List.pairwise_iff_getElem.1 nd)
  have hne : (k + m) % ts.length ≠ (k + i) % ts.length := fun h => by
    have h1 := Nat.div_add_mod (k + m) ts.length
    have h2 := Nat.div_add_mod (k + i) ts.length
    rw [h] at h1
    have h3 : ts.length * ((k + i) / ts.length) = ts.length * ((k + m) / ts.length) + (i - m) := by omega
    have h4 : (k + m) / ts.length < (k + i) / ts.length := by
      apply Nat.lt_of_not_le
      intro hle
      have := Nat.mul_le_mul_left ts.length hle
      omega
    have h5 : ts.length * ((k + m) / ts.length + 1) ≤ ts.length * ((k + i) / ts.length) := Nat.mul_le_mul_left _ h4
    rw [Nat.mul_add, Nat.mul_one] at h5
    omega
  rcases Nat.lt_or_gt_of_ne hne with h | h
  · exact this _ _ (by rw [List.length_map]; exact hm') (by rw [List.length_map]; exact hi') h (by simp only [List.getElem_map]; exact e)
  · exact this _ _ (by rw [List.length_map]; exact hi') (by rw [List.length_map]; exact hm') h (by simp only [List.getElem_map]; exact e.symm)
theorem inputs_up {fan : Int} {xs : List (Sl × List Tab)} {ptrs : List ByteArray} {a : Nat} (h1 : 1 ≤ a) (h2 : a + 1 < xs.length) (h3 : tabsI xs (a : Int) ≠ []) : ∃ j, inputsM fan xs ptrs (a : Int) = some j ∧ j.up = [behindM (tabsI xs (a : Int)) (ptrs[a]?.getD ⟨#[]⟩)] ∧ j.lv = (a : Int) := by
  unfold inputsM
  rw [if_neg (by omega), if_neg h3, if_neg (by omega)]
  dsimp only
  split
  · exact ⟨_, rfl, by simp only [Int.toNat_natCast], rfl⟩
  · exact ⟨_, rfl, by simp only [Int.toNat_natCast], rfl⟩
theorem lvl_nodup {lv : Lv} (h : (nums lv).Nodup) {i : Nat} {ts : List Tab} (hi : lv[i]? = some ts) : (ts.map Tab.num).Nodup := by
  have : ∀ (lv : Lv) (i : Nat) (ts : List Tab), (nums lv).Nodup → lv[i]? = some ts → (ts.map Tab.num).Nodup := fun lv => by
    induction lv with
    | nil => intro i ts _ h; simp at h
    | cons l lv ih =>
      intro i ts hn h
      rw [nums_cons] at hn
      cases i with
      | zero => simp at h; subst h; exact (List.nodup_append.1 hn).1
      | succ i => exact ih i ts (List.nodup_append.1 hn).2.1 (by simpa using h)
  exact this lv i ts h hi
section
variable {g h h' : Hp} {vb b : Nat} {ls l l1 l2 l3 : Sl} {xs : List (Sl × List Tab)} {Q : Value → Hp → Prop} {n n1 n2 n3 n4 n5 n6 n7 n8 n9 n10 n11 n12 n13 n14 n15 n16 n17 n18 n19 n20 n21 n22 n23 n24 n25 n26 : Int}
theorem round_s {inn : List Placed} {s : ByteArray} {n27 : Int} (hin : h.row l.a (l.n * 7) (inV inn)) (hr : ∀ p ∈ inn, -9223372036854775808 ≤ p.lv ∧ -9223372036854775808 ≤ p.weight)
    (r5 : -9223372036854775808 ≤ n5) (r7 : -9223372036854775808 ≤ n7) (r8 : -9223372036854775808 ≤ n8) (r9 : -9223372036854775808 ≤ n9) (r10 : -9223372036854775808 ≤ n10) (r12 : -9223372036854775808 ≤ n12) (r27 : -9223372036854775808 ≤ n27)
    (hQ : ∀ h', Keep h h' → Q (.bool true) h') : F8.T n n1 n2 n3 n4 n5 n6 n7 n8 n9 n10 n11 n12 n13 n14 n15 n16 n17 n18 n19 n20 n21 n22 n23 n24 n25 n26 l s n27 h Q := by
  unfold F8.T F8.G
  refine known_s fun h1 K1 => ⟨_, rfl, fun _ b1 hb1 => ?_, fun hh => Bool.noConfusion hh⟩
  have Kb := Keep.new hb1 (.cells ⟨ptrV [s]⟩ 9 (0, 0))
  have rb := new_row h1 b1 (ptrV [s]) 9
  show F22.T l ⟨some ⟨b1, 0, none⟩, 1, 1⟩ (h1.new b1 (.cells ⟨ptrV [s]⟩ 9 (0, 0))) _
  generalize h1.new b1 (.cells ⟨ptrV [s]⟩ 9 (0, 0)) = h1' at Kb rb ⊢
  refine few_s rb (show (1 : Nat) < 9223372036854775807 by decide) fun h2 r K2 => ⟨r, rfl, fun _ => ?_, fun _ => hQ _ (K1.trans (Kb.trans K2))⟩
  have K02 := K1.trans (Kb.trans K2)
  refine right_s r5 r7 r8 r9 r10 r12 fun m5 m7 m8 m9 m10 m12 O => ⟨_, _, _, _, _, _, _, _, _, _, _, _, _, _, _, _, _, _, _, _, _, _, _, _, _, _, _, rfl, ?_⟩
  refine built_s (K02.row hin) hr O.lv fun h4 vb ls xs lr K4 V Gd ht h8 _ => ⟨_, _, rfl, fun a b _ e => (by cases e), fun e => (by cases e), fun _ => ?_⟩
  have hlv := O.lv
  rw [wrap_i64 (n := m8 - 2) (by omega) (by omega)]
  refine place_s r27 (by omega) fun m m1 m2 => ⟨m, rfl, ?_⟩
  rw [wrap_i64 (n := 1 + m) (by omega) (by omega)]
  have P : PkOk xs := pk_ok (by omega) ht Gd.w
  obtain ⟨a, ha⟩ := Int.eq_ofNat_of_zero_le (show 0 ≤ 1 + m by omega)
  rw [ha]
  have ha1 : 1 ≤ a := by omega
  have ha2 : a + 1 < xs.length := by omega
  have hx : xs[a]? = some xs[a] := List.getElem?_eq_getElem (by omega)
  have htx : tabsI xs (a : Int) = xs[a].2 := tabsI_nat xs hx
  have hlvx : (xs.map (·.2))[a]? = some xs[a].2 := by rw [List.getElem?_map, hx]; rfl
  have hts4 : (tabsI xs (a : Int)).length ≤ 400 := by rw [htx]; exact totL_le ht _ (List.mem_of_getElem? hlvx)
  refine tables_s V P.sz fun h6 l2 K6 B6 N6 => ⟨l2, rfl, ⟨by omega, by omega, by omega⟩, fun b3 hb3 => ?_⟩
  have hadj : Adj (tabsI xs (a : Int)) := by rw [htx]; exact Gd.adj a _ ha1 hlvx
  have hhull : ∀ t ∈ tabsI xs (a : Int), Le t.least t.greatest := by rw [htx]; exact Gd.hulls _ (List.mem_of_getElem? hlvx)
  have hnd : ((tabsI xs (a : Int)).map Tab.num).Nodup := by rw [htx]; exact lvl_nodup Gd.nd hlvx
  have hup := fun (ptrs : List ByteArray) (h3 : tabsI xs (a : Int) ≠ []) => inputs_up (fan := m12) (ptrs := ptrs) ha1 ha2 h3
  have hl2 := tb_new B6
  generalize hts : tabsI xs (a : Int) = ts at hts4 hadj hhull hnd hup hl2
  subst h8
  rw [zero_ptrs, Int.toNat_natCast, Int.toNat_natCast]
  obtain ⟨k0, hk0⟩ : ∃ k0 : Nat, ts ≠ [] → ts[(k0 + 0) % ts.length]? = some (behindM ts s) := by
    by_cases hne : ts = []
    · exact ⟨0, fun hh => absurd hne hh⟩
    · obtain ⟨k, hk, e⟩ := behind_any ts hne s
      refine ⟨k, fun _ => ?_⟩
      rw [Nat.add_zero, Nat.mod_eq_of_lt hk, e]
      exact List.getElem?_eq_getElem hk
  have K7 := Keep.new hb3 (.cells ⟨ptrV (List.replicate xs.length ⟨#[]⟩)⟩ 9 (0, 0))
  have B3 : Buf (h6.new b3 (.cells ⟨ptrV (List.replicate xs.length ⟨#[]⟩)⟩ 9 (0, 0))) ⟨some ⟨b3, 0, none⟩, xs.length, xs.length⟩ 1 9 (ptrV (List.replicate xs.length ⟨#[]⟩)) :=
    ⟨by simp [ptrV], Nat.le_refl _, .inr ⟨b3, _, _, rfl, new_at _ _ _, by simp [ptrV], fun j hj => by omega, List.take_length⟩⟩
  obtain ⟨b', hb', e1, e2, e3⟩ := buf_set B3 (k := a) (by simp [ptrV]; omega)
  cases hb'
  obtain ⟨U3, B3'⟩ := e3 (.string s)
  refine ⟨b3, 0, rfl, ⟨by omega, by omega⟩, by rw [Nat.zero_add]; exact e2, ?_⟩
  rw [Nat.zero_add]
  have K7' := K7.wr hb3 a [.string s]
  have pset : ∀ (P : List ByteArray) (v : ByteArray), (ptrV P).set a (.string v) = ptrV (P.set a v) := fun P v => by unfold ptrV; rw [List.map_set]
  rw [pset] at B3'
  generalize (h6.new b3 (.cells ⟨ptrV (List.replicate xs.length ⟨#[]⟩)⟩ 9 (0, 0))).wr b3 a [.string s] = h7 at B3' K7' ⊢
  refine ⟨fun l3 n h8 => ∃ (i : Nat) (ptr : ByteArray) (S : List ByteArray), n = (i : Int) ∧ i ≤ ts.length ∧ Keep h6 h8 ∧ NewN h6 l3 ∧ TB h8 l3 (seenL ts k0 i) ∧ Buf h8 ⟨some ⟨b3, 0, none⟩, xs.length, xs.length⟩ 1 9 (ptrV S) ∧ S[a]? = some ptr ∧ S.length = xs.length ∧ (ts ≠ [] → ts[(k0 + i) % ts.length]? = some (behindM ts ptr)), fun _ n _ => ts.length - n.toNat, ⟨0, s, _, rfl, Nat.zero_le _, K7', NewN.nil _, Buf.nil _ _ _, B3', ?_, by simp, hk0⟩, ?_⟩
  · rw [List.getElem?_set_self (by simp; omega)]
  rintro l3 n h7 ⟨i, ptr, S, rfl, hi, K7, N3, T3, B3, eP, lP, nx⟩
  refine ⟨fun hlt => ?_, fun hge => ?_⟩
  · have hil : i < ts.length := by omega
    have hne : ts ≠ [] := fun h0 => by rw [h0] at hil; simp at hil
    have nx := nx hne
    obtain ⟨j, hin, ju, jl⟩ := hup S hne
    rw [eP] at ju
    simp only [Option.getD_some] at ju
    generalize behindM ts ptr = t at ju nx
    refine inputs_s (V.keep (K6.trans K7)) P O rfl (row_one B3) (by omega) (fun hn => absurd (hin.symm.trans hn) (by simp)) (fun j' hj' h8 u1 u2 K8 T1 N1 T2 N2 o1 o2 => ?_)
    obtain rfl : j = j' := Option.some.inj (hin.symm.trans hj')
    refine ⟨j.lv, u1, u2, j.cut, j.mv, ?_⟩
    obtain ⟨lv, up, lo, cut, mv⟩ := j
    dsimp only at T1 T2 ju jl ⊢
    subst ju
    have m1 := tb_new T1
    have T3' : TB h8 l3 (seenL ts k0 i) := Buf.keep K8 T3
    have hsl : (seenL ts k0 i).length = i := seen_len ts (by omega) k0 i
    have hl3 := tb_new T3'
    have off1 := N1.off T3
    have K68 := K7.trans K8
    have hkm : (k0 + i) % ts.length < ts.length := Nat.mod_lt _ (by omega)
    have et : ts[(k0 + i) % ts.length] = t := by
      rw [List.getElem?_eq_getElem hkm] at nx
      exact Option.some.inj nx
    have hnew := seen_new hnd (k := k0) hil
    rw [et] at hnew
    have hsn : seenL ts k0 (i + 1) = seenL ts k0 i ++ [t] := by
      show seenL ts k0 i ++ (ts[(k0 + i) % ts.length]?).toList = _
      rw [nx]; rfl
    have nx2 : ts[(k0 + (i + 1)) % ts.length]? = some (behindM ts t.greatest) := by
      have := behind_next hadj hhull hkm
      rw [et] at this
      rw [this, List.getElem?_eq_getElem (Nat.mod_lt _ (by omega))]
      congr 2
      rw [Nat.mod_add_mod, Nat.add_assoc]
    cases mv
    all_goals
      first
        | refine ⟨fun hh => (Bool.noConfusion hh), fun _ => ⟨true, fun _ => ⟨rfl, fun _ => ?_, fun hh => absurd (by rw [m1]; rfl) hh⟩, fun hh => (Bool.noConfusion hh)⟩⟩
        | refine ⟨fun _ => ⟨true, fun _ => ⟨rfl, fun _ => ?_, fun hh => absurd (by rw [m1]; rfl) hh⟩, fun hh => (Bool.noConfusion hh)⟩, fun hh => (Bool.noConfusion hh)⟩
      obtain ⟨b7, o7, a1, a2, n7, a3, _, _, _, _, _, _, _, _, _, _, rfl⟩ := tab_rd (P := []) (R := []) (t := t) (Buf.row T1) (i := 0) rfl (K := fun b o a c d e s s1 => a = t.num) (fun _ _ => rfl)
      refine ⟨b7, o7, a1, a2, t.num, a3, ?_⟩
      refine in_s (A := seenL ts k0 i) (Buf.row T3') (by omega) (fun hm => absurd hm hnew) (fun _ => ⟨_, rfl, fun hh => (Bool.noConfusion hh), fun _ => ?_⟩)
      refine tab_rd (P := []) (R := []) (t := t) (Buf.row T1) (i := 0) rfl fun b9 o9 => ?_
      refine append_buf (us := t.cells) T3' rfl rfl (by omega) fun l6 h10 B10 _ U10 => ?_
      obtain ⟨K10, N10⟩ := NewN.upd K68 N3 U10
      have r10 := row_upd U10 (.inr off1.2) (Buf.row T1)
      obtain ⟨b10, o10, c1, c2, _, _, _, _, _, _, _, _, _, _, gs, c3, rfl⟩ := tab_rd (P := []) (R := []) (t := t) r10 (i := 0) rfl (K := fun b o a c d e s s1 => s1 = t.greatest) (fun _ _ => rfl)
      have B3h : Buf h10 ⟨some ⟨b3, 0, none⟩, xs.length, xs.length⟩ 1 9 (ptrV S) := (Ck.of_upd T3' U10).buf (by decide) (B3.keep K8)
      obtain ⟨b', hb', _, d2, d3⟩ := buf_set B3h (k := a) (by rw [ptrV_length, lP]; omega)
      cases hb'
      obtain ⟨U11, B11⟩ := d3 (.string t.greatest)
      refine ⟨b10, o10, c1, c2, t.greatest, c3, b3, 0, rfl, ⟨by omega, by omega⟩, by rw [Nat.zero_add]; exact d2, ?_⟩
      rw [Nat.zero_add, next_i (n := 1000) (by omega) (by omega)]
      rw [pset] at B11
      refine ⟨⟨i + 1, t.greatest, S.set a t.greatest, rfl, by omega, K10.wr hb3 _ _, N10, ?_, B11, ?_, by rw [List.length_set]; exact lP, fun _ => nx2⟩, by omega⟩
      · rw [hsn]
        unfold TB
        rw [tabV_app]
        have : tabV [t] = t.cells := by unfold tabV; simp
        rw [this]
        exact (Ck.of_upd B3h U11).buf (by decide) B10
      · rw [List.getElem?_set_self (by omega)]
  · have hi' : i = ts.length := by omega
    have hl3 := tb_new T3
    have hsl : (seenL ts k0 i).length = i := by
      rcases Nat.eq_zero_or_pos ts.length with h0 | h0
      · have : i = 0 := by omega
        subst this; rfl
      · exact seen_len ts h0 k0 i
    exact ⟨fun _ => hQ _ (K02.trans (K4.trans (K6.trans K7))), fun hh => absurd (by omega) hh⟩
end
end Go.Eng.Ytbjnlacacapjiaa
end
section
namespace Go.Proofs.Ytbjnlacacapjiaa.pickRound
open Go.ChangeShapes Go.WideShapes Go.ChangeAt Go.RowKit Go.Eng Go.Eng.Ytbjnlacacapjiaa
set_option linter.unusedVariables false
theorem own : ownKnob Try.prog.godebug = none := by kernel_rfl
theorem laidOut : laidOutB Try.prog = true := by kernel_rfl
theorem walk {m0 m1 m2 m3 m4 m5 m6 m7 m8 m9 m10 m11 m12 m13 m14 m15 m16 m17 m18 m19 m20 m21 m22 m23 m24 m25 m26 : Int} {a1 : Option Addr} {len1 cap1 : Nat} {L1 : List Placed} {s2 : ByteArray} {i3 : Int} {W : World} (hC : ∀ x ∈ [m0, m1, m2, m3, m4, m5, m6, m7, m8, m9, m10, m11, m12, m13, m14, m15, m16, m17, m18, m19, m20, m21, m22, m23, m24, m25, m26], iI x) (R1 : (wh W).row a1 (len1 * 7) (inV L1)) (z1 : len1 ≤ 140737488355328) (e1 : L1.length = len1) (P1 : ∀ x ∈ L1, okP x) (w3 : iI i3) :
    Calls Try.prog 8 #[.agg ⟨[.int .i64 m0, .int .i64 m1, .int .i64 m2, .int .i64 m3, .int .i64 m4, .int .i64 m5, .int .i64 m6, .int .i64 m7, .int .i64 m8, .int .i64 m9, .int .i64 m10, .int .i64 m11, .int .i64 m12, .int .i64 m13, .int .i64 m14, .int .i64 m15, .int .i64 m16, .int .i64 m17, .int .i64 m18, .int .i64 m19, .int .i64 m20, .int .i64 m21, .int .i64 m22, .int .i64 m23, .int .i64 m24, .int .i64 m25, .int .i64 m26]⟩, .slice a1 len1 cap1, .string s2, .int .i64 i3] W fun e W' => e = .returned (.bool true) ∧ Below W.heap.size W W' := by
  have hT : F8.T m0 m1 m2 m3 m4 m5 m6 m7 m8 m9 m10 m11 m12 m13 m14 m15 m16 m17 m18 m19 m20 m21 m22 m23 m24 m25 m26 ⟨a1, len1, cap1⟩ s2 i3 (wh W) (fun v h' => v = .bool true ∧ Keep (wh W) h') := round_s (inn := L1) R1 (fun p hp => ⟨(P1 p hp).1.1, (P1 p hp).2.2.1.1⟩) (hC m5 (by simp)).1 (hC m7 (by simp)).1 (hC m8 (by simp)).1 (hC m9 (by simp)).1 (hC m10 (by simp)).1 (hC m12 (by simp)).1 w3.1 fun h' K => ⟨rfl, K⟩
  have hV : F8.V [.agg ⟨[.int .i64 m0, .int .i64 m1, .int .i64 m2, .int .i64 m3, .int .i64 m4, .int .i64 m5, .int .i64 m6, .int .i64 m7, .int .i64 m8, .int .i64 m9, .int .i64 m10, .int .i64 m11, .int .i64 m12, .int .i64 m13, .int .i64 m14, .int .i64 m15, .int .i64 m16, .int .i64 m17, .int .i64 m18, .int .i64 m19, .int .i64 m20, .int .i64 m21, .int .i64 m22, .int .i64 m23, .int .i64 m24, .int .i64 m25, .int .i64 m26]⟩, .slice a1 len1 cap1, .string s2, .int .i64 i3] (wh W) (fun v h' => v = .bool true ∧ Keep (wh W) h') := hT
  refine (F8.ok.2 _ (wh W) _ hV (fun _ => none) W (own_wh W)).mono fun e W' ⟨v, h', he, ho, hw, hv, K⟩ => ?_
  subst hv
  exact ⟨he, below_of hw ho K⟩
set_option maxRecDepth 100000 in
set_option maxHeartbeats 1000000 in
theorem lifted (os : Os) (started : os.Started) (H : Type) (enc : TypeId × Value → H) :
    ReturnsInHanded {} Try.checked os 8 .any (Rows.pickRoundSpec.pre6 enc Try.prog Try.f8 Rows.pickRoundRow.domain false) (Rows.pickRoundSpec.post enc Try.prog Try.f8 false true false false) := by
  refine returnsInHanded_of_change_sized (C := Try.checked) own started (by kernel_rfl) Try.func8
    (ChangeSpec.witness6 (enc := enc) (C := Try.checked) false ⟨#[], #[.agg ⟨[.int .i64 0, .int .i64 0, .int .i64 0, .int .i64 0, .int .i64 0, .int .i64 0, .int .i64 0, .int .i64 0, .int .i64 0, .int .i64 0, .int .i64 0, .int .i64 0, .int .i64 0, .int .i64 0, .int .i64 0, .int .i64 0, .int .i64 0, .int .i64 0, .int .i64 0, .int .i64 0, .int .i64 0, .int .i64 0, .int .i64 0, .int .i64 0, .int .i64 0, .int .i64 0, .int .i64 0]⟩, .slice none 0 0, .string ⟨#[]⟩, .int .i64 0], []⟩ 8 (by kernel_rfl) (by kernel_rfl) (by kernel_rfl) (by kernel_rfl)) ?_
  intro W base args ds gs before hval0 hW hcnd hsz0 _
  have hval : ∀ (j : Nat) t v, Try.f8.params[j]? = some t → args[j]? = some v → Value.okWide Try.prog W .any base t v := hval0
  have hsz : (DataW.weightsEach Try.prog (Try.f8.params.toList ++ Rows.pickRoundSpec.plain.varTypes Try.prog) (ds ++ gs)).all (· ≤ reachBytes) = true := hsz0
  have hW' := hW
  obtain ⟨p, q, hA0, hV, rfl, hfz, hnd⟩ := hW
  have hA : DataW.TrodAll enc Try.prog W 0 (fun _ => true) true Try.f8.params.toList args.toList ds p := hA0
  rw [Try.params8] at hA hval
  obtain ⟨v0, vs0, d0, ds0, p0, q0, hargs, rfl, rfl, h0, r0⟩ := trodAll_cons hA
  obtain ⟨v1, vs1, d1, ds1, p1, q1, rfl, rfl, rfl, h1, r1⟩ := trodAll_cons r0
  obtain ⟨v2, vs2, d2, ds2, p2, q2, rfl, rfl, rfl, h2, r2⟩ := trodAll_cons r1
  obtain ⟨v3, vs3, d3, ds3, p3, q3, rfl, rfl, rfl, h3, r3⟩ := trodAll_cons r2
  obtain ⟨rfl, rfl, rfl⟩ := trodAll_nil r3
  obtain rfl : args = #[v0, v1, v2, v3] := by cases args; simp_all
  obtain ⟨rfl, rfl⟩ := trodVars_none hV
  obtain ⟨cs, rfl, hcs⟩ := okWide_struct Try.underlying58 (hval 0 58 v0 rfl rfl)
  have k0 := h0
  have lt0 : ∀ x ∈ p0, x.block < W.heap.size := by obtain ⟨m, hm⟩ := k0; exact DataW.trod_lt m _ _ _ hm
  obtain ⟨m0, m1, m2, m3, m4, m5, m6, m7, m8, m9, m10, m11, m12, m13, m14, m15, m16, m17, m18, m19, m20, m21, m22, m23, m24, m25, m26, hcs2, hC⟩ := (by obtain ⟨m, hm⟩ := h0; exact open_config (by show cs.toList.length = 27; rw [Array.length_toList, hcs, c58]) hm : ∃ m0 m1 m2 m3 m4 m5 m6 m7 m8 m9 m10 m11 m12 m13 m14 m15 m16 m17 m18 m19 m20 m21 m22 m23 m24 m25 m26 : Int, cs.toList = [.int .i64 m0, .int .i64 m1, .int .i64 m2, .int .i64 m3, .int .i64 m4, .int .i64 m5, .int .i64 m6, .int .i64 m7, .int .i64 m8, .int .i64 m9, .int .i64 m10, .int .i64 m11, .int .i64 m12, .int .i64 m13, .int .i64 m14, .int .i64 m15, .int .i64 m16, .int .i64 m17, .int .i64 m18, .int .i64 m19, .int .i64 m20, .int .i64 m21, .int .i64 m22, .int .i64 m23, .int .i64 m24, .int .i64 m25, .int .i64 m26] ∧ (∀ x ∈ [m0, m1, m2, m3, m4, m5, m6, m7, m8, m9, m10, m11, m12, m13, m14, m15, m16, m17, m18, m19, m20, m21, m22, m23, m24, m25, m26], iI x))
  obtain rfl : cs = ⟨[.int .i64 m0, .int .i64 m1, .int .i64 m2, .int .i64 m3, .int .i64 m4, .int .i64 m5, .int .i64 m6, .int .i64 m7, .int .i64 m8, .int .i64 m9, .int .i64 m10, .int .i64 m11, .int .i64 m12, .int .i64 m13, .int .i64 m14, .int .i64 m15, .int .i64 m16, .int .i64 m17, .int .i64 m18, .int .i64 m19, .int .i64 m20, .int .i64 m21, .int .i64 m22, .int .i64 m23, .int .i64 m24, .int .i64 m25, .int .i64 m26]⟩ := Array.ext' hcs2
  obtain ⟨a1, len1, cap1, rfl⟩ := okWide_slice Try.underlying35 (hval 1 35 v1 rfl rfl)
  have k1 := h1
  have lt1 : ∀ x ∈ p1, x.block < W.heap.size := by obtain ⟨m, hm⟩ := k1; exact DataW.trod_lt m _ _ _ hm
  have wb1 : WB Try.prog 35 d1 := wb_arg (j := 1) hsz rfl rfl
  obtain ⟨L1, R1, z1, e1, P1⟩ := (by obtain ⟨m, hm⟩ := k1; exact open_placed hm wb1 : ∃ L : List Placed, (wh W).row a1 (len1 * 7) (inV L) ∧ len1 ≤ 140737488355328 ∧ L.length = len1 ∧ ∀ p ∈ L, okP p)
  obtain ⟨s2, rfl, rfl, rfl, hs2⟩ := Go.ChangeMaps.open_string Try.underlying9 (hval 2 9 v2 rfl rfl) h2
  obtain ⟨a3, rfl, rfl, rfl, w3⟩ := open_int Try.underlying3 (hval 3 3 v3 rfl rfl) h3
  clear hA0 hval0 hsz0
  refine (walk hC R1 z1 e1 P1 (wf_i64 w3)).mono fun e W' ⟨he, bel⟩ => ?_
  subst he
  exact ⟨_, rfl, _, _, _, [], _, [], hW', trodAll_mk1 (shut_bool Try.underlying4 _), (trodAll_cons_mk (Below.trod laidOut (by kernel_rfl) (of_decide_eq_true (by kernel_rfl)) k0 bel lt0) (trodAll_cons_mk (Below.trod laidOut (by kernel_rfl) (of_decide_eq_true (by kernel_rfl)) k1 bel lt1) (trodAll_cons_mk (Go.ChangeMaps.shut_string Try.underlying9 hs2) (trodAll_cons_mk (shut_int Try.underlying3 w3) ( trodAll_mk0))))), rfl, bel.frame _, fun h => by cases h⟩
theorem over : Rows.pickRoundRow.holds Try.pinned (OpenSpec.ofChange Rows.pickRoundSpec) :=
  OpenClaim.holds_of_wide 8 Try.f8 rfl rfl rfl rfl rfl rfl rfl ⟨rfl, rfl, rfl, rfl, rfl⟩ rfl rfl rfl rfl rfl (by kernel_rfl) Try.func8 (by kernel_rfl)
    (of_decide_eq_true (by kernel_rfl)) (by unfold Func.isWrapper; first | (rw [if_pos (by decide +kernel)]; kernel_rfl) | (rw [if_neg (by decide +kernel)]; exact ⟨rfl, rfl⟩))
    (fun os started H enc _ => lifted os started H enc)
theorem proved : Rows.PickRoundSaid := over
#print axioms proved
end Go.Proofs.Ytbjnlacacapjiaa.pickRound
end
