
/-
  Proved: the law PickFair answers true, whatever it is handed, and what it was handed reads behind the call as it read before. No condition.
-/
import Derived.Test.YtbjnlacacapjiaaK7
import Derived.Test.YtbjnlacacapjiaaK6
import Derived.Test.YtbjnlacacapjiaaRows
import Derived.WalkKit
import Derived.ProofKit
import Derived.OpenShut
import Derived.ShutString
import Derived.ChangeMaps5
import Derived.ChangeOld
import Derived.Below
import Derived.SizedLaws
set_option linter.unusedSimpArgs false
set_option linter.unusedVariables false
section
set_option maxRecDepth 100000
set_option maxHeartbeats 2000000
namespace Go.Eng.Ytbjnlacacapjiaa
section
variable {g h h' : Hp} {vb b : Nat} {ls l l1 l2 l3 : Sl} {xs : List (Sl × List Tab)} {Q : Value → Hp → Prop} {n n1 n2 n3 n4 n5 n6 n7 n8 n9 n10 n11 n12 n13 n14 n15 n16 n17 n18 n19 n20 n21 n22 n23 n24 n25 n26 : Int}
theorem pfair_s {inn : List Placed} {ptrs : List ByteArray} {lk : List Int} (hin : h.row l.a (l.n * 7) (inV inn)) (hr : ∀ p ∈ inn, -9223372036854775808 ≤ p.lv ∧ -9223372036854775808 ≤ p.weight) (RP : h.row l1.a l1.n (ptrV ptrs)) (hlp : l1.n < 9223372036854775807) (RL : h.row l2.a l2.n (uvs lk)) (hlk : l2.n < 9223372036854775807)
    (r5 : -9223372036854775808 ≤ n5) (r7 : -9223372036854775808 ≤ n7) (r8 : -9223372036854775808 ≤ n8) (r9 : -9223372036854775808 ≤ n9) (r10 : -9223372036854775808 ≤ n10) (r12 : -9223372036854775808 ≤ n12)
    (hQ : ∀ h', Keep h h' → Q (.bool true) h') : F7.T n n1 n2 n3 n4 n5 n6 n7 n8 n9 n10 n11 n12 n13 n14 n15 n16 n17 n18 n19 n20 n21 n22 n23 n24 n25 n26 l l1 l2 h Q := by
  unfold F7.T F7.G
  refine known_s fun h1 K1 => ⟨_, rfl, fun _ => ?_, fun hh => Bool.noConfusion hh⟩
  refine few_s (K1.row RP) hlp fun h2 r K2 => ⟨r, rfl, fun _ => ?_, fun _ => hQ _ (K1.trans K2)⟩
  have K02 := K1.trans K2
  refine right_s r5 r7 r8 r9 r10 r12 fun m5 m7 m8 m9 m10 m12 O => ⟨_, _, _, _, _, _, _, _, _, _, _, _, _, _, _, _, _, _, _, _, _, _, _, _, _, _, _, rfl, ?_⟩
  refine built_s (K02.row hin) hr O.lv fun h4 vb ls xs lr K4 V Gd ht h8 _ => ⟨_, _, rfl, fun a b _ e => (by cases e), fun e => (by cases e), fun _ => ?_⟩
  have hlv := O.lv
  have P : PkOk xs := pk_ok (by omega) ht Gd.w
  have hx := P.len
  subst h8
  refine order_s V P O rfl fun h5 l4 o K5 B5 N5 hO => ⟨l4, rfl, ?_⟩
  refine scores_s (V.keep K5) P O rfl fun h6 l5 K6 B6 N6 => ⟨l5, rfl, ?_⟩
  have hn5 : l5.n = xs.length - 1 := by have := B6.len; rw [nV3_len, List.length_map, List.length_range] at this; omega
  rw [wrap_i64 (n := (xs.length : Int) - 1) (by omega) (by omega)]
  refine ⟨fun _ => ?_, fun c => absurd (by omega) c⟩
  refine tables_s (V.keep (K5.trans K6)) P.sz fun h7 l6 K7 B7 N7 => ⟨l6, rfl, ?_⟩
  have hn6 := tb_new B7
  have V7 := V.keep (K5.trans (K6.trans K7))
  have K07 : Keep h h7 := K02.trans (K4.trans (K5.trans (K6.trans K7)))
  have RO7 : h7.row l4.a l4.n (iV o) := row_one (B5.keep (K6.trans K7))
  have B67 := B6.keep K7
  have hl4 : l4.n = o.length := by have := RO7.1; rw [iV_len] at this; omega
  have hol : ∀ i ∈ o, i < xs.length - 1 := fun i hi => ((hO.mem i).1 hi).1
  have holn : o.length ≤ 4 := by
    have h2 := List.Nodup.length_le_of_subset hO.nd (l₂ := List.range (xs.length - 1)) (fun i hi => List.mem_range.2 (hol i hi))
    rw [List.length_range] at h2; omega
  have srd : ∀ i : Nat, i < xs.length - 1 → ∃ b, l5.a = some ⟨b, 0, none⟩ ∧ ((0 : Int) ≤ (i : Int) ∧ (i : Int) < (l5.n : Int)) ∧ h7.at b (0 + ((i : Int)).toNat) = some (.int .i64 (scoreM m5 m9 m10 xs i)) := fun i hi => by
    obtain ⟨b, a1, a2, a3⟩ := sc_rd B67 (i := i) (by simp; omega)
    refine ⟨b, a1, a2, ?_⟩
    rw [a3, List.getElem?_map, List.getElem?_range hi]; rfl
  have ord : ∀ (i : Nat) (hi : i < o.length), ∃ b o4, l4.a = some ⟨b, o4, none⟩ ∧ ((0 : Int) ≤ (i : Int) ∧ (i : Int) < (l4.n : Int)) ∧ h7.at b (o4 + ((i : Nat) : Int).toNat) = some (.int .i64 (o[i] : Int)) := fun i hi => by
    obtain ⟨b, o4, ha, hat⟩ := row_get RO7 (i := i) (by omega)
    refine ⟨b, o4, ha, ⟨by omega, by omega⟩, ?_⟩
    rw [Int.toNat_natCast, hat i (by omega)]; unfold iV; rw [List.getElem?_map, List.getElem?_eq_getElem hi]; rfl
  have lev : ∀ (i : Nat), i < xs.length - 1 → ∀ K : Value → Hp → Prop, (want (decide (m7 ≤ ((tabsI xs 0).length : Int))) (scoreM m5 m9 m10 xs) i → ∀ k : Nat, K (.int .i64 (k : Int)) h7) → (¬ want (decide (m7 ≤ ((tabsI xs 0).length : Int))) (scoreM m5 m9 m10 xs) i → K (.int .i64 (-1)) h7) → F28.T l4 (i : Int) h7 K := fun i hi K hT hF => by
    refine level_s RO7 (by omega) (fun k hk _ => hT ?_ k) (fun hno => hF fun hw => hno i ((hO.mem i).2 ⟨hi, hw⟩) rfl)
    cases ho : o[k]? with
    | none => rw [ho] at hk; cases hk
    | some x =>
      rw [ho] at hk
      have : (x : Int) = (i : Int) := by simpa using hk
      have hx : x = i := by omega
      subst hx
      exact ((hO.mem x).1 (List.mem_of_getElem? ho)).2
  have first0 : decide (m7 ≤ ((tabsI xs 0).length : Int)) = true → ∀ (k : Nat) (hk : k < o.length), o[k] = 0 → k = 0 := fun hs k hk e => by
    apply Classical.byContradiction
    intro hne
    have hb := (List.pairwise_iff_getElem.1 hO.pw) 0 k (by omega) hk (by omega)
    have hd := (List.pairwise_iff_getElem.1 hO.nd) 0 k (by omega) hk (by omega)
    unfold bef at hb
    rw [if_pos ⟨hs, .inr e, hd⟩] at hb
    omega
  refine ⟨fun hs => ?_, fun hs => ?_⟩
  · have hst1 : decide (m7 ≤ ((tabsI xs 0).length : Int)) = true := decide_eq_true (by omega)
    refine ⟨fun n h8 => h8 = h7 ∧ ∃ i : Nat, n = (i : Int) ∧ i ≤ xs.length - 1, fun n _ => xs.length - 1 - n.toNat, ⟨rfl, 0, rfl, Nat.zero_le _⟩, ?_⟩
    rintro n h8 ⟨e8, i, rfl, hi⟩
    subst e8
    refine ⟨fun hlt => ?_, fun hge => ?_⟩
    · have hi1 : i < xs.length - 1 := by omega
      have step : ((h8 = h8 ∧ ∃ i_1 : Nat, IntKind.wrap .i64 ((i : Int) + 1) = (i_1 : Int) ∧ i_1 ≤ xs.length - 1) ∧ xs.length - 1 - (IntKind.wrap .i64 ((i : Int) + 1)).toNat < xs.length - 1 - ((i : Nat) : Int).toNat) := by
        rw [next_i (n := 100) (by omega) (by omega)]
        exact ⟨⟨rfl, i + 1, rfl, hi1⟩, by omega⟩
      obtain ⟨b2, a1, a2, a3⟩ := srd i hi1
      refine ⟨b2, 0, a1, a2, _, a3, fun hw => ?_, fun hw => ?_⟩
      · exact lev i hi1 _ (fun w k => ⟨_, rfl, a3, fun _ => ⟨fun _ => step, fun c => absurd rfl c⟩, fun c => absurd (by omega) c⟩) (fun nw => absurd (.inl hw) nw)
      · exact lev i hi1 _ (fun w k => ⟨_, rfl, a3, fun _ => ⟨fun h0 => ⟨fun _ => step, fun c => absurd rfl c⟩, fun h0 => (by rcases w with w | ⟨w0, _⟩ <;> first | exact absurd w hw | exact absurd (by omega) h0)⟩, fun c => absurd (by omega) c⟩) (fun nw => ⟨_, rfl, a3, fun c => absurd c (by decide), fun _ => ⟨fun h0 => absurd (.inr ⟨by omega, hst1⟩) nw, fun h0 => ⟨fun _ => step, fun c => absurd rfl c⟩⟩⟩)
    · refine ⟨fun n h11 => h11 = h8 ∧ ∃ i : Nat, n = ((i + 1 : Nat) : Int), fun n _ => o.length - n.toNat, ⟨rfl, 0, rfl⟩, ?_⟩
      rintro n h11 ⟨e11, i, rfl⟩
      subst e11
      refine ⟨fun hlt => ?_, fun hge => ?_⟩
      · have hi1 : i + 1 < o.length := by omega
        have e1 : IntKind.wrap .i64 (((i + 1 : Nat) : Int) - 1) = (i : Int) := by rw [wrap_i64 (by omega) (by omega)]; omega
        rw [e1, next_i (n := 100) (by omega) (by omega)]
        have step : ((h11 = h11 ∧ ∃ i_1 : Nat, ((i + 1 + 1 : Nat) : Int) = ((i_1 + 1 : Nat) : Int)) ∧ o.length - ((i + 1 + 1 : Nat) : Int).toNat < o.length - ((i + 1 : Nat) : Int).toNat) := ⟨⟨rfl, i + 1, rfl⟩, by omega⟩
        obtain ⟨b3, o3, c1, c2, c3⟩ := ord i (by omega)
        obtain ⟨b4, o4, d1, d2, d3⟩ := ord (i + 1) hi1
        obtain ⟨b5, p1, p2, p3⟩ := srd o[i] (hol o[i] (List.getElem_mem _))
        obtain ⟨b6, q1, q2, q3⟩ := srd o[i + 1] (hol o[i + 1] (List.getElem_mem _))
        have hbef := (List.pairwise_iff_getElem.1 hO.pw) i (i + 1) (by omega) hi1 (by omega)
        unfold bef at hbef
        refine ⟨b3, o3, c1, c2, _, c3, b4, o4, d1, d2, _, d3, d3, ?_⟩
        refine ⟨fun ha0 => ⟨fun _ => step, fun hne => absurd (first0 hst1 i (by omega) (by omega)) (by omega)⟩, fun ha0 => ?_⟩
        have hb0 : o[i + 1] ≠ 0 := fun h => absurd (first0 hst1 (i + 1) hi1 h) (by omega)
        rw [if_neg (fun c => c.2.1.elim (fun h => ha0 (by omega)) hb0)] at hbef
        exact ⟨b5, 0, p1, p2, _, p3, b6, 0, q1, q2, _, q3, fun c => absurd c (by omega), fun _ => ⟨b5, 0, p1, p2, _, p3, b6, 0, q1, q2, _, q3, fun e => ⟨fun c => absurd c (by omega), fun _ => step⟩, fun _ => step⟩⟩
      · have h0m : 0 ∈ o := (hO.mem 0).2 ⟨by omega, .inr ⟨rfl, hst1⟩⟩
        have hop : 0 < o.length := List.length_pos_iff.2 (fun h => by rw [h] at h0m; cases h0m)
        have ho0 : o[0] = 0 := by
          obtain ⟨k, hk, ek⟩ := List.mem_iff_getElem.1 h0m
          have := first0 hst1 k hk ek
          subst this; exact ek
        obtain ⟨b13, o11, c1, c2, c3⟩ := ord 0 hop
        refine ⟨fun c => absurd c (by omega), fun _ => ⟨b13, o11, c1, c2, _, c3, fun _ => ?_, fun c => absurd (by rw [ho0]; rfl) c⟩⟩
        refine ⟨fun n h12 => Keep h11 h12 ∧ ∃ i : Nat, n = (i : Int) ∧ i ≤ xs.length - 1, fun n _ => xs.length - 1 - n.toNat, ⟨Keep.refl _, 0, rfl, Nat.zero_le _⟩, ?_⟩
        rintro n h12 ⟨K12, i, rfl, hi⟩
        refine ⟨fun hlt => ?_, fun hge => ?_⟩
        · have hi1 : i < xs.length - 1 := by omega
          have step : ∀ h, Keep h12 h → ((Keep h11 h ∧ ∃ i_1 : Nat, IntKind.wrap .i64 ((i : Int) + 1) = (i_1 : Int) ∧ i_1 ≤ xs.length - 1) ∧ xs.length - 1 - (IntKind.wrap .i64 ((i : Int) + 1)).toNat < xs.length - 1 - ((i : Nat) : Int).toNat) := fun h K => by
            rw [next_i (n := 100) (by omega) (by omega)]
            exact ⟨⟨K12.trans K, i + 1, rfl, hi1⟩, by omega⟩
          have tl := P.tl (i : Int)
          refine inputs_s (V7.keep K12) P O rfl ((K07.trans K12).row RP) (by omega) (fun hn h13 K13 => ?_) (fun j hj h13 u1 u2 K13 T1 N1 T2 N2 _ _ => ?_)
          · refine ⟨0, ⟨none, 0, 0⟩, ⟨none, 0, 0⟩, _, false, fun hh => Bool.noConfusion hh, fun _ => ⟨false, fun hh => Bool.noConfusion hh, fun _ => ⟨rfl, ?_⟩⟩⟩
            refine tables_s (V7.keep (K12.trans K13)) P.sz fun h14 l9 K14 B14 _ => ⟨l9, rfl, fun c => absurd c ?_, fun _ => ⟨fun _ => step h14 (K13.trans K14), fun c => absurd rfl c⟩⟩
            have h0 : tabsI xs (i : Int) = [] := Classical.byContradiction fun hc => by
              obtain ⟨j, hj⟩ := (inputs_some (fan := m12) (ptrs := ptrs) (by omega) (by omega)).2 hc
              rw [hj] at hn; cases hn
            rw [tb_new B14, h0]; decide
          · obtain ⟨zu, zl⟩ := inputs_sz P hj
            have F := fairJ Gd O.fan.1 hj
            have hne : tabsI xs (i : Int) ≠ [] := (inputs_some (fan := m12) (ptrs := ptrs) (by omega) (by omega)).1 ⟨j, hj⟩
            have hpos : 0 < (tabsI xs (i : Int)).length := List.length_pos_iff.2 hne
            have fj : ∀ (h14 : Hp) (K14 : Keep h13 h14) (K : Value → Hp → Prop), (∀ h15, Keep h14 h15 → K (.bool true) h15) → F30.T n n1 n2 n3 n4 m5 n6 m7 (xs.length : Int) m9 m10 n11 m12 n13 n14 n15 n16 n17 n18 n19 n20 n21 n22 n23 n24 n25 n26 (some ⟨vb, 0, none⟩) j.lv u1 u2 j.cut j.mv h14 K := fun h14 K14 K hK => by
              rw [F.lv]
              exact fair_s (V7.keep (K12.trans (K13.trans K14))) P F rfl (Buf.keep K14 T1) (Buf.keep K14 T2) zu zl hK
            refine ⟨j.lv, u1, u2, j.cut, j.mv, ?_⟩
            have jmv : j.mv = true ∨ j.mv = false := by cases j.mv <;> simp
            rcases jmv with jmv | jmv
            all_goals
              rw [jmv] at fj ⊢
              first
                | refine ⟨fun hh => (Bool.noConfusion hh), fun _ => ⟨true, fun _ => ⟨rfl, ?_⟩, fun hh => (Bool.noConfusion hh)⟩⟩
                | refine ⟨fun _ => ⟨true, fun _ => ⟨rfl, ?_⟩, fun hh => (Bool.noConfusion hh)⟩, fun hh => (Bool.noConfusion hh)⟩
              refine tables_s (V7.keep (K12.trans K13)) P.sz fun h14 l9 K14 B14 _ => ⟨l9, rfl, fun _ => ⟨fun _ => fj h14 K14 _ fun h15 K15 => ⟨_, rfl, fun _ => step h15 (K13.trans (K14.trans K15)), fun hh => Bool.noConfusion hh⟩, fun c => absurd rfl c⟩, fun c => absurd (by rw [tb_new B14]; omega) c⟩
        · exact found_s (V7.keep K12) P Gd O rfl ((K07.trans K12).row RP) ((K07.trans K12).row RL) hlk (K12.row RO7) hO fun h22 K22 => ⟨_, rfl, fun _ => hQ h22 (K07.trans (K12.trans K22)), fun hh => Bool.noConfusion hh⟩
  · have hst1 : decide (m7 ≤ ((tabsI xs 0).length : Int)) = false := decide_eq_false (by omega)
    refine ⟨fun n h8 => h8 = h7 ∧ ∃ i : Nat, n = (i : Int) ∧ i ≤ xs.length - 1, fun n _ => xs.length - 1 - n.toNat, ⟨rfl, 0, rfl, Nat.zero_le _⟩, ?_⟩
    rintro n h8 ⟨e8, i, rfl, hi⟩
    subst e8
    refine ⟨fun hlt => ?_, fun hge => ?_⟩
    · have hi1 : i < xs.length - 1 := by omega
      have step : ((h8 = h8 ∧ ∃ i_1 : Nat, IntKind.wrap .i64 ((i : Int) + 1) = (i_1 : Int) ∧ i_1 ≤ xs.length - 1) ∧ xs.length - 1 - (IntKind.wrap .i64 ((i : Int) + 1)).toNat < xs.length - 1 - ((i : Nat) : Int).toNat) := by
        rw [next_i (n := 100) (by omega) (by omega)]
        exact ⟨⟨rfl, i + 1, rfl, hi1⟩, by omega⟩
      obtain ⟨b2, a1, a2, a3⟩ := srd i hi1
      refine ⟨b2, 0, a1, a2, _, a3, fun hw => ?_, fun hw => ?_⟩
      · exact lev i hi1 _ (fun w k => ⟨_, rfl, a3, fun _ => ⟨fun _ => step, fun c => absurd rfl c⟩, fun c => absurd (by omega) c⟩) (fun nw => absurd (.inl hw) nw)
      · exact lev i hi1 _ (fun w k => ⟨_, rfl, a3, fun _ => (by rcases w with w | ⟨_, w1⟩ <;> first | exact absurd w hw | (rw [hst1] at w1; cases w1)), fun c => absurd (by omega) c⟩) (fun nw => ⟨_, rfl, a3, fun c => absurd c (by decide), fun _ => ⟨fun h0 => ⟨fun _ => step, fun c => absurd rfl c⟩, fun h0 => ⟨fun _ => step, fun c => absurd rfl c⟩⟩⟩)
    · refine ⟨fun n h11 => h11 = h8 ∧ ∃ i : Nat, n = ((i + 1 : Nat) : Int), fun n _ => o.length - n.toNat, ⟨rfl, 0, rfl⟩, ?_⟩
      rintro n h11 ⟨e11, i, rfl⟩
      subst e11
      refine ⟨fun hlt => ?_, fun hge => ?_⟩
      · have hi1 : i + 1 < o.length := by omega
        have e1 : IntKind.wrap .i64 (((i + 1 : Nat) : Int) - 1) = (i : Int) := by rw [wrap_i64 (by omega) (by omega)]; omega
        rw [e1, next_i (n := 100) (by omega) (by omega)]
        have step : ((h11 = h11 ∧ ∃ i_1 : Nat, ((i + 1 + 1 : Nat) : Int) = ((i_1 + 1 : Nat) : Int)) ∧ o.length - ((i + 1 + 1 : Nat) : Int).toNat < o.length - ((i + 1 : Nat) : Int).toNat) := ⟨⟨rfl, i + 1, rfl⟩, by omega⟩
        obtain ⟨b3, o3, c1, c2, c3⟩ := ord i (by omega)
        obtain ⟨b4, o4, d1, d2, d3⟩ := ord (i + 1) hi1
        obtain ⟨b5, p1, p2, p3⟩ := srd o[i] (hol o[i] (List.getElem_mem _))
        obtain ⟨b6, q1, q2, q3⟩ := srd o[i + 1] (hol o[i + 1] (List.getElem_mem _))
        have hbef := (List.pairwise_iff_getElem.1 hO.pw) i (i + 1) (by omega) hi1 (by omega)
        unfold bef at hbef
        refine ⟨b3, o3, c1, c2, _, c3, b4, o4, d1, d2, _, d3, d3, ?_⟩
        rw [if_neg (fun c => by rw [hst1] at c; cases c.1)] at hbef
        exact ⟨b5, 0, p1, p2, _, p3, b6, 0, q1, q2, _, q3, fun c => absurd c (by omega), fun _ => ⟨b5, 0, p1, p2, _, p3, b6, 0, q1, q2, _, q3, fun e => ⟨fun c => absurd c (by omega), fun _ => step⟩, fun _ => step⟩⟩
      · refine ⟨fun n h12 => Keep h11 h12 ∧ ∃ i : Nat, n = (i : Int) ∧ i ≤ xs.length - 1, fun n _ => xs.length - 1 - n.toNat, ⟨Keep.refl _, 0, rfl, Nat.zero_le _⟩, ?_⟩
        rintro n h12 ⟨K12, i, rfl, hi⟩
        refine ⟨fun hlt => ?_, fun hge => ?_⟩
        · have hi1 : i < xs.length - 1 := by omega
          have step : ∀ h, Keep h12 h → ((Keep h11 h ∧ ∃ i_1 : Nat, IntKind.wrap .i64 ((i : Int) + 1) = (i_1 : Int) ∧ i_1 ≤ xs.length - 1) ∧ xs.length - 1 - (IntKind.wrap .i64 ((i : Int) + 1)).toNat < xs.length - 1 - ((i : Nat) : Int).toNat) := fun h K => by
            rw [next_i (n := 100) (by omega) (by omega)]
            exact ⟨⟨K12.trans K, i + 1, rfl, hi1⟩, by omega⟩
          have tl := P.tl (i : Int)
          refine inputs_s (V7.keep K12) P O rfl ((K07.trans K12).row RP) (by omega) (fun hn h13 K13 => ?_) (fun j hj h13 u1 u2 K13 T1 N1 T2 N2 _ _ => ?_)
          · refine ⟨0, ⟨none, 0, 0⟩, ⟨none, 0, 0⟩, _, false, fun hh => Bool.noConfusion hh, fun _ => ⟨false, fun hh => Bool.noConfusion hh, fun _ => ⟨rfl, ?_⟩⟩⟩
            refine tables_s (V7.keep (K12.trans K13)) P.sz fun h14 l9 K14 B14 _ => ⟨l9, rfl, fun c => absurd c ?_, fun _ => ⟨fun _ => step h14 (K13.trans K14), fun c => absurd rfl c⟩⟩
            have h0 : tabsI xs (i : Int) = [] := Classical.byContradiction fun hc => by
              obtain ⟨j, hj⟩ := (inputs_some (fan := m12) (ptrs := ptrs) (by omega) (by omega)).2 hc
              rw [hj] at hn; cases hn
            rw [tb_new B14, h0]; decide
          · obtain ⟨zu, zl⟩ := inputs_sz P hj
            have F := fairJ Gd O.fan.1 hj
            have hne : tabsI xs (i : Int) ≠ [] := (inputs_some (fan := m12) (ptrs := ptrs) (by omega) (by omega)).1 ⟨j, hj⟩
            have hpos : 0 < (tabsI xs (i : Int)).length := List.length_pos_iff.2 hne
            have fj : ∀ (h14 : Hp) (K14 : Keep h13 h14) (K : Value → Hp → Prop), (∀ h15, Keep h14 h15 → K (.bool true) h15) → F30.T n n1 n2 n3 n4 m5 n6 m7 (xs.length : Int) m9 m10 n11 m12 n13 n14 n15 n16 n17 n18 n19 n20 n21 n22 n23 n24 n25 n26 (some ⟨vb, 0, none⟩) j.lv u1 u2 j.cut j.mv h14 K := fun h14 K14 K hK => by
              rw [F.lv]
              exact fair_s (V7.keep (K12.trans (K13.trans K14))) P F rfl (Buf.keep K14 T1) (Buf.keep K14 T2) zu zl hK
            refine ⟨j.lv, u1, u2, j.cut, j.mv, ?_⟩
            have jmv : j.mv = true ∨ j.mv = false := by cases j.mv <;> simp
            rcases jmv with jmv | jmv
            all_goals
              rw [jmv] at fj ⊢
              first
                | refine ⟨fun hh => (Bool.noConfusion hh), fun _ => ⟨true, fun _ => ⟨rfl, ?_⟩, fun hh => (Bool.noConfusion hh)⟩⟩
                | refine ⟨fun _ => ⟨true, fun _ => ⟨rfl, ?_⟩, fun hh => (Bool.noConfusion hh)⟩, fun hh => (Bool.noConfusion hh)⟩
              refine tables_s (V7.keep (K12.trans K13)) P.sz fun h14 l9 K14 B14 _ => ⟨l9, rfl, fun _ => ⟨fun _ => fj h14 K14 _ fun h15 K15 => ⟨_, rfl, fun _ => step h15 (K13.trans (K14.trans K15)), fun hh => Bool.noConfusion hh⟩, fun c => absurd rfl c⟩, fun c => absurd (by rw [tb_new B14]; omega) c⟩
        · exact found_s (V7.keep K12) P Gd O rfl ((K07.trans K12).row RP) ((K07.trans K12).row RL) hlk (K12.row RO7) hO fun h22 K22 => ⟨_, rfl, fun _ => hQ h22 (K07.trans (K12.trans K22)), fun hh => Bool.noConfusion hh⟩
end
end Go.Eng.Ytbjnlacacapjiaa
end
section
namespace Go.Proofs.Ytbjnlacacapjiaa.pickFair
open Go.ChangeShapes Go.WideShapes Go.ChangeAt Go.RowKit Go.Eng Go.Eng.Ytbjnlacacapjiaa
theorem own : ownKnob Try.prog.godebug = none := by kernel_rfl
theorem laidOut : laidOutB Try.prog = true := by kernel_rfl
theorem walk {m0 m1 m2 m3 m4 m5 m6 m7 m8 m9 m10 m11 m12 m13 m14 m15 m16 m17 m18 m19 m20 m21 m22 m23 m24 m25 m26 : Int} {a1 : Option Addr} {len1 cap1 : Nat} {L1 : List Placed} {a2 : Option Addr} {len2 cap2 : Nat} {L2 : List ByteArray} {a3 : Option Addr} {len3 cap3 : Nat} {L3 : List Int} {W : World} (hC : ∀ x ∈ [m0, m1, m2, m3, m4, m5, m6, m7, m8, m9, m10, m11, m12, m13, m14, m15, m16, m17, m18, m19, m20, m21, m22, m23, m24, m25, m26], iI x) (R1 : (wh W).row a1 (len1 * 7) (inV L1)) (z1 : len1 ≤ 140737488355328) (e1 : L1.length = len1) (P1 : ∀ x ∈ L1, okP x) (R2 : (wh W).row a2 len2 (ptrV L2)) (z2 : len2 ≤ 140737488355328) (e2 : L2.length = len2) (P2 : ∀ x ∈ L2, x.size ≤ 9223372036854775807) (R3 : (wh W).row a3 len3 (uvs L3)) (z3 : len3 ≤ 140737488355328) (e3 : L3.length = len3) (P3 : ∀ x ∈ L3, okU x) :
    Calls Try.prog 7 #[.agg ⟨[.int .i64 m0, .int .i64 m1, .int .i64 m2, .int .i64 m3, .int .i64 m4, .int .i64 m5, .int .i64 m6, .int .i64 m7, .int .i64 m8, .int .i64 m9, .int .i64 m10, .int .i64 m11, .int .i64 m12, .int .i64 m13, .int .i64 m14, .int .i64 m15, .int .i64 m16, .int .i64 m17, .int .i64 m18, .int .i64 m19, .int .i64 m20, .int .i64 m21, .int .i64 m22, .int .i64 m23, .int .i64 m24, .int .i64 m25, .int .i64 m26]⟩, .slice a1 len1 cap1, .slice a2 len2 cap2, .slice a3 len3 cap3] W fun e W' => e = .returned (.bool true) ∧ Below W.heap.size W W' := by
  have hT : F7.T m0 m1 m2 m3 m4 m5 m6 m7 m8 m9 m10 m11 m12 m13 m14 m15 m16 m17 m18 m19 m20 m21 m22 m23 m24 m25 m26 ⟨a1, len1, cap1⟩ ⟨a2, len2, cap2⟩ ⟨a3, len3, cap3⟩ (wh W) (fun v h' => v = .bool true ∧ Keep (wh W) h') := pfair_s (inn := L1) (ptrs := L2) (lk := L3) R1 (fun p hp => ⟨(P1 p hp).1.1, (P1 p hp).2.2.1.1⟩) R2 (show len2 < 9223372036854775807 by omega) R3 (show len3 < 9223372036854775807 by omega) (hC m5 (by simp)).1 (hC m7 (by simp)).1 (hC m8 (by simp)).1 (hC m9 (by simp)).1 (hC m10 (by simp)).1 (hC m12 (by simp)).1 fun h' K => ⟨rfl, K⟩
  have hV : F7.V [.agg ⟨[.int .i64 m0, .int .i64 m1, .int .i64 m2, .int .i64 m3, .int .i64 m4, .int .i64 m5, .int .i64 m6, .int .i64 m7, .int .i64 m8, .int .i64 m9, .int .i64 m10, .int .i64 m11, .int .i64 m12, .int .i64 m13, .int .i64 m14, .int .i64 m15, .int .i64 m16, .int .i64 m17, .int .i64 m18, .int .i64 m19, .int .i64 m20, .int .i64 m21, .int .i64 m22, .int .i64 m23, .int .i64 m24, .int .i64 m25, .int .i64 m26]⟩, .slice a1 len1 cap1, .slice a2 len2 cap2, .slice a3 len3 cap3] (wh W) (fun v h' => v = .bool true ∧ Keep (wh W) h') := hT
  refine (F7.ok.2 _ (wh W) _ hV (fun _ => none) W (own_wh W)).mono fun e W' ⟨v, h', he, ho, hw, hv, K⟩ => ?_
  subst hv
  exact ⟨he, below_of hw ho K⟩
set_option maxRecDepth 100000 in
set_option maxHeartbeats 1000000 in
theorem lifted (os : Os) (started : os.Started) (H : Type) (enc : TypeId × Value → H) :
    ReturnsInHanded {} Try.checked os 7 .any (Rows.pickFairSpec.pre6 enc Try.prog Try.f7 Rows.pickFairRow.domain false) (Rows.pickFairSpec.post enc Try.prog Try.f7 false true false false) := by
  refine returnsInHanded_of_change_sized (C := Try.checked) own started (by kernel_rfl) Try.func7
    (ChangeSpec.witness6 (enc := enc) (C := Try.checked) false ⟨#[], #[.agg ⟨[.int .i64 0, .int .i64 0, .int .i64 0, .int .i64 0, .int .i64 0, .int .i64 0, .int .i64 0, .int .i64 0, .int .i64 0, .int .i64 0, .int .i64 0, .int .i64 0, .int .i64 0, .int .i64 0, .int .i64 0, .int .i64 0, .int .i64 0, .int .i64 0, .int .i64 0, .int .i64 0, .int .i64 0, .int .i64 0, .int .i64 0, .int .i64 0, .int .i64 0, .int .i64 0, .int .i64 0]⟩, .slice none 0 0, .slice none 0 0, .slice none 0 0], []⟩ 8 (by kernel_rfl) (by kernel_rfl) (by kernel_rfl) (by kernel_rfl)) ?_
  intro W base args ds gs before hval0 hW hcnd hsz0 _
  have hval : ∀ (j : Nat) t v, Try.f7.params[j]? = some t → args[j]? = some v → Value.okWide Try.prog W .any base t v := hval0
  have hsz : (DataW.weightsEach Try.prog (Try.f7.params.toList ++ Rows.pickFairSpec.plain.varTypes Try.prog) (ds ++ gs)).all (· ≤ reachBytes) = true := hsz0
  have hW' := hW
  obtain ⟨p, q, hA0, hV, rfl, hfz, hnd⟩ := hW
  have hA : DataW.TrodAll enc Try.prog W 0 (fun _ => true) true Try.f7.params.toList args.toList ds p := hA0
  rw [Try.params7] at hA hval
  obtain ⟨v0, vs0, d0, ds0, p0, q0, hargs, rfl, rfl, h0, r0⟩ := trodAll_cons hA
  obtain ⟨v1, vs1, d1, ds1, p1, q1, rfl, rfl, rfl, h1, r1⟩ := trodAll_cons r0
  obtain ⟨v2, vs2, d2, ds2, p2, q2, rfl, rfl, rfl, h2, r2⟩ := trodAll_cons r1
  obtain ⟨v3, vs3, d3, ds3, p3, q3, rfl, rfl, rfl, h3, r3⟩ := trodAll_cons r2
  obtain ⟨rfl, rfl, rfl⟩ := trodAll_nil r3
  obtain rfl : args = #[v0, v1, v2, v3] := by cases args; simp_all
  obtain ⟨rfl, rfl⟩ := trodVars_none hV
  obtain ⟨cs, rfl, hcs⟩ := okWide_struct Try.underlying58 (hval 0 58 v0 rfl rfl)
  have k0 := h0
  have lt0 : ∀ x ∈ p0, x.block < W.heap.size := by obtain ⟨m, hm⟩ := k0; exact DataW.trod_lt m _ _ _ hm
  obtain ⟨m0, m1, m2, m3, m4, m5, m6, m7, m8, m9, m10, m11, m12, m13, m14, m15, m16, m17, m18, m19, m20, m21, m22, m23, m24, m25, m26, hcs2, hC⟩ := (by obtain ⟨m, hm⟩ := h0; exact open_config (by show cs.toList.length = 27; rw [Array.length_toList, hcs, c58]) hm : ∃ m0 m1 m2 m3 m4 m5 m6 m7 m8 m9 m10 m11 m12 m13 m14 m15 m16 m17 m18 m19 m20 m21 m22 m23 m24 m25 m26 : Int, cs.toList = [.int .i64 m0, .int .i64 m1, .int .i64 m2, .int .i64 m3, .int .i64 m4, .int .i64 m5, .int .i64 m6, .int .i64 m7, .int .i64 m8, .int .i64 m9, .int .i64 m10, .int .i64 m11, .int .i64 m12, .int .i64 m13, .int .i64 m14, .int .i64 m15, .int .i64 m16, .int .i64 m17, .int .i64 m18, .int .i64 m19, .int .i64 m20, .int .i64 m21, .int .i64 m22, .int .i64 m23, .int .i64 m24, .int .i64 m25, .int .i64 m26] ∧ (∀ x ∈ [m0, m1, m2, m3, m4, m5, m6, m7, m8, m9, m10, m11, m12, m13, m14, m15, m16, m17, m18, m19, m20, m21, m22, m23, m24, m25, m26], iI x))
  obtain rfl : cs = ⟨[.int .i64 m0, .int .i64 m1, .int .i64 m2, .int .i64 m3, .int .i64 m4, .int .i64 m5, .int .i64 m6, .int .i64 m7, .int .i64 m8, .int .i64 m9, .int .i64 m10, .int .i64 m11, .int .i64 m12, .int .i64 m13, .int .i64 m14, .int .i64 m15, .int .i64 m16, .int .i64 m17, .int .i64 m18, .int .i64 m19, .int .i64 m20, .int .i64 m21, .int .i64 m22, .int .i64 m23, .int .i64 m24, .int .i64 m25, .int .i64 m26]⟩ := Array.ext' hcs2
  obtain ⟨a1, len1, cap1, rfl⟩ := okWide_slice Try.underlying35 (hval 1 35 v1 rfl rfl)
  have k1 := h1
  have lt1 : ∀ x ∈ p1, x.block < W.heap.size := by obtain ⟨m, hm⟩ := k1; exact DataW.trod_lt m _ _ _ hm
  have wb1 : WB Try.prog 35 d1 := wb_arg (j := 1) hsz rfl rfl
  obtain ⟨L1, R1, z1, e1, P1⟩ := (by obtain ⟨m, hm⟩ := k1; exact open_placed hm wb1 : ∃ L : List Placed, (wh W).row a1 (len1 * 7) (inV L) ∧ len1 ≤ 140737488355328 ∧ L.length = len1 ∧ ∀ p ∈ L, okP p)
  obtain ⟨a2, len2, cap2, rfl⟩ := okWide_slice Try.underlying36 (hval 2 36 v2 rfl rfl)
  have k2 := h2
  have lt2 : ∀ x ∈ p2, x.block < W.heap.size := by obtain ⟨m, hm⟩ := k2; exact DataW.trod_lt m _ _ _ hm
  have wb2 : WB Try.prog 36 d2 := wb_arg (j := 2) hsz rfl rfl
  obtain ⟨L2, R2, z2, e2, P2⟩ := (by obtain ⟨m, hm⟩ := k2; exact open_texts hm wb2 : ∃ L : List ByteArray, (wh W).row a2 len2 (ptrV L) ∧ len2 ≤ 140737488355328 ∧ L.length = len2 ∧ ∀ s ∈ L, s.size ≤ 9223372036854775807)
  obtain ⟨a3, len3, cap3, rfl⟩ := okWide_slice Try.underlying27 (hval 3 27 v3 rfl rfl)
  have k3 := h3
  have lt3 : ∀ x ∈ p3, x.block < W.heap.size := by obtain ⟨m, hm⟩ := k3; exact DataW.trod_lt m _ _ _ hm
  have wb3 : WB Try.prog 27 d3 := wb_arg (j := 3) hsz rfl rfl
  obtain ⟨L3, R3, z3, e3, P3⟩ := (by obtain ⟨m, hm⟩ := k3; exact open_nums hm wb3 : ∃ L : List Int, (wh W).row a3 len3 (uvs L) ∧ len3 ≤ 140737488355328 ∧ L.length = len3 ∧ ∀ n ∈ L, okU n)
  clear hA0 hval0 hsz0
  refine (walk hC R1 z1 e1 P1 R2 z2 e2 P2 R3 z3 e3 P3).mono fun e W' ⟨he, bel⟩ => ?_
  subst he
  exact ⟨_, rfl, _, _, _, [], _, [], hW', trodAll_mk1 (shut_bool Try.underlying4 _), (trodAll_cons_mk (Below.trod laidOut (by kernel_rfl) (of_decide_eq_true (by kernel_rfl)) k0 bel lt0) (trodAll_cons_mk (Below.trod laidOut (by kernel_rfl) (of_decide_eq_true (by kernel_rfl)) k1 bel lt1) (trodAll_cons_mk (Below.trod laidOut (by kernel_rfl) (of_decide_eq_true (by kernel_rfl)) k2 bel lt2) (trodAll_cons_mk (Below.trod laidOut (by kernel_rfl) (of_decide_eq_true (by kernel_rfl)) k3 bel lt3) ( trodAll_mk0))))), rfl, bel.frame _, fun h => by cases h⟩
theorem over : Rows.pickFairRow.holds Try.pinned (OpenSpec.ofChange Rows.pickFairSpec) :=
  OpenClaim.holds_of_wide 7 Try.f7 rfl rfl rfl rfl rfl rfl rfl ⟨rfl, rfl, rfl, rfl, rfl⟩ rfl rfl rfl rfl rfl (by kernel_rfl) Try.func7 (by kernel_rfl)
    (of_decide_eq_true (by kernel_rfl)) (by unfold Func.isWrapper; first | (rw [if_pos (by decide +kernel)]; kernel_rfl) | (rw [if_neg (by decide +kernel)]; exact ⟨rfl, rfl⟩))
    (fun os started H enc _ => lifted os started H enc)
theorem proved : Rows.PickFairSaid := over
#print axioms proved
end Go.Proofs.Ytbjnlacacapjiaa.pickFair
end
