/-
  THE ENGINE, 9: literals, make, append, copies of strings and bytes, least and greatest, '=='.
-/
import Derived.Test.YtblghgacokoklaaDoorE7
set_option linter.unusedSimpArgs false
set_option linter.unusedVariables false
namespace Go.Eng
section
variable {P : Program} {lo : List Nat} {fr : Hp} {g : Nat → Nat} {L : List LE} {h : Hp} {w : World} {K : KO}

theorem buildSlice_ok (H : HO fr g L h w) {d : Option Nat} {t n : Nat} {ps : List (Nat × AV)} {qs : Array (Nat × Value)} (hk : dBuildSlice P lo d t n ps L h K) (hp : partsIs g ps qs.toList) : OutN lo fr g L w d ((Instr.buildSlice t n qs).run P w) K := by
  unfold dBuildSlice at hk
  cases hd : under P t <;> rw [hd] at hk <;> try exact False.elim hk
  case slice e =>
  have hut := under_some hd (by simp)
  have hq := grd_spec hk
  clear hk
  obtain ⟨hie, hk⟩ := hq
  cases hz : zeroOf P e with
  | none => rw [hz] at hk; exact False.elim hk
  | some z =>
    rw [hz] at hk
    dsimp only at hk
    have hq := grd_spec hk
    clear hk
    obtain ⟨hb, hk⟩ := hq
    simp only [Bool.and_eq_true, Nat.ble_eq] at hb
    obtain ⟨hbig, hz0⟩ := hb
    have hz0 : 0 < z.length := by simp [Nat.blt] at hz0; omega
    obtain ⟨i0, v0, hi0, hzi, hvc, hzl, hcs⟩ := zeroOf_some hz
    rw [replA_map] at hk
    obtain ⟨cs, us, hfill, hst, hcl, hk⟩ := fillP_ok (us := replV n z) hk hp (inStep_map _)
    have hrun : ∃ m, (Instr.buildSlice t n qs).run P w = .ok (.slice (some ⟨w.heap.size, 0, none⟩) n n) { w with heap := w.heap.push (.cells us.toArray e (0, 0)), drawn := m } := by
      refine ⟨w.drawn, ?_⟩
      have hcell : P.cellsOf e = z.length := by rw [hcs, hzl]
      have hnb : ¬ (n * P.cellsOf e > 2 ^ 24) := by simp; exact hbig
      have hcells : (Array.range (n * P.cellsOf e)).map (fun x => z.toArray[x % z.toArray.size]!) = (replV n z).toArray := by rw [hcell]; exact range_zero n hz0
      unfold Instr.buildSlice
      simp only [Sem.run_bind, run_underlying hut, Result.andThen_ok, run_sizeOf' hie]
      rw [if_neg hnb]
      by_cases hn0 : n * P.cellsOf e = 0
      · have hn : n = 0 := by rcases Nat.mul_eq_zero.1 hn0 with h1 | h1 <;> omega
        subst hn
        have : replV 0 z = [] := rfl
        rw [this] at hfill
        have hnil : ∀ f : Nat → Value, (Array.range 0).map f = #[] := fun f => by simp
        simp only [hn0, if_true, Sem.run_bind, Sem.run_pure, Result.andThen_ok, hnil]
        rw [hfill]
        simp [newRow, newObj, Sem.run]
      · obtain ⟨v, hrv, hvc'⟩ := run_zero hz w
        simp only [hn0, if_false, Sem.run_bind, hrv, Result.andThen_ok, hvc', Sem.run_pure]
        rw [hcells, hfill]
        simp [newRow, newObj, Sem.run]
    obtain ⟨m, hrun⟩ := hrun
    have hn := New.push w (.cells us.toArray e (0, 0)) m
    cases d with
    | none => exact False.elim hk
    | some d =>
      dsimp only at hk
      cases hm : memN d lo with
      | true =>
        rw [hm] at hk
        dsimp only at hk
        have hq := grd_spec hk
        clear hk
        obtain ⟨hpl, hk⟩ := hq
        have hpl := allPlain_spec hpl
        obtain ⟨vs, hvl, hat⟩ := plain_vals hpl
        have : us = vs := lists_eq hpl hst.1 hvl hst.2 (hat g)
        subst this
        have HN := HO.new_loc (d := d) H hn (xs := cs) (by simpa using hst.1) (fun g i hi => by simpa using hat g i hi) hpl
        cases hf : findL L d with
        | none =>
          rw [hf] at hk
          refine ⟨.sl d n, ⟨d, true, e, cs⟩ :: L, h, _, _, updG g d w.heap.size, hrun, ?_, ?_, hn.wr, fun e he _ => List.mem_cons_of_mem _ he, hk, .inr ⟨d, _, rfl, hm, rfl⟩⟩
          · show _ = _; simp [updG]
          · rw [delL_none hf] at HN; exact HN
        | some x =>
          rw [hf] at hk
          dsimp only at hk
          have hq := grd_spec hk
          clear hk
          obtain ⟨hem, hk⟩ := hq
          refine ⟨.sl d n, ⟨d, true, e, cs⟩ :: delL L d, h, _, _, updG g d w.heap.size, hrun, ?_, HN, hn.wr, Kp_del H.uq hf hem _, hk, .inr ⟨d, _, rfl, hm, rfl⟩⟩
          show _ = _; simp [updG]
      | false =>
        rw [hm] at hk
        dsimp only at hk
        obtain ⟨vs, hvl, hat, hpl, hk⟩ := getAll_spec hk
        have : us = vs := lists_eq hpl hst.1 hvl hst.2 (hat g)
        subst this
        exact ⟨.v (.slice (some ⟨w.heap.size, 0, none⟩) n n), L, _, _, _, g, hrun, rfl, HO.new_heap H hn, hn.wr, Kp.refl L, hk _ (H.none_h (Nat.le_refl _)), .inl ⟨rfl, fun l hl => by cases hl; exact hm⟩⟩
theorem mapM_places (fs : List Field) (hfs : ∀ f ∈ fs, hasInfo P f.type = true) : (fs.mapM (m := Sem) fun f => do pure (f.offset, ← sizeOf f.type)).run P w = .ok (fs.map fun f => (f.offset, P.cellsOf f.type)) w := by
  induction fs with
  | nil => simp
  | cons f fs ih =>
    rw [List.mapM_cons]
    simp only [Sem.run_bind, run_sizeOf' (hfs f List.mem_cons_self), Result.andThen_ok, Sem.run_pure, ih (fun x hx => hfs x (List.mem_cons_of_mem _ hx)), List.map_cons]
theorem build_ok (H : HO fr g L h w) {t : Nat} {ps : List (Nat × AV)} {qs : Array (Nat × Value)} (hk : dBuild P t ps L h K) (hp : partsIs g ps qs.toList) : Out fr g L w ((Instr.build t qs).run P w) K := by
  unfold dBuild at hk
  cases hz : zeroOf P t with
  | none => rw [hz] at hk; exact False.elim hk
  | some z =>
    rw [hz] at hk
    dsimp only at hk
    obtain ⟨v, hrv, hvc⟩ := run_zero hz w
    cases hd : under P t <;> rw [hd] at hk <;> try exact False.elim hk
    case struct fs =>
      have hut := under_some hd (by simp)
      have hq := grd_spec hk
      clear hk
      obtain ⟨hfs, hk⟩ := hq
      have hfs : ∀ f ∈ fs.toList, hasInfo P f.type = true := List.all_eq_true.1 hfs
      obtain ⟨cs, us, hfill, hst, hcl, hk⟩ := fillS_ok (us := z) (places := (fs.toList.map fun f => (f.offset, P.cellsOf f.type)).toArray) (fun i f hf => by simp [hf]) hk hp (inStep_map _)
      obtain ⟨vs, hvl, hat, hpl, hk⟩ := getAll_spec hk
      have : us = vs := lists_eq hpl hst.1 hvl hst.2 (hat g)
      subst this
      refine Out.here H (x := .v _) ?_ rfl hk
      have hm : (fs.mapM (m := Sem) fun f => do pure (f.offset, ← sizeOf f.type)).run P w = .ok (fs.toList.map fun f => (f.offset, P.cellsOf f.type)).toArray w := by
        rw [← Array.toArray_toList (xs := fs), List.mapM_toArray]
        have := mapM_places (w := w) fs.toList hfs
        simp only [Array.toArray_toList]
        rw [show ∀ s : Sem (List (Nat × Nat)), (List.toArray <$> s).run P w = (s.run P w).andThen fun a w' => .ok a.toArray w' from fun s => by simp]
        rw [this]
        rfl
      unfold Instr.build
      simp only [Sem.run_bind, hrv, Result.andThen_ok, run_underlying hut, hm, hvc]
      rw [hfill]
      rfl
    case array len e =>
      have hut := under_some hd (by simp)
      have hq := grd_spec hk
      clear hk
      obtain ⟨hie, hk⟩ := hq
      obtain ⟨cs, us, hfill, hst, hcl, hk⟩ := fillP_ok (us := z) hk hp (inStep_map _)
      obtain ⟨vs, hvl, hat, hpl, hk⟩ := getAll_spec hk
      have : us = vs := lists_eq hpl hst.1 hvl hst.2 (hat g)
      subst this
      refine Out.here H (x := .v _) ?_ rfl hk
      unfold Instr.build
      simp only [Sem.run_bind, hrv, Result.andThen_ok, run_underlying hut, run_sizeOf' hie, hvc]
      rw [hfill]
      rfl
theorem make_ok (H : HO fr g L h w) {t : Nat} {l c : AV} {u v : Value} (hk : dMake P t l c L h K) (hl : l.is g u) (hc : c.is g v) : Out fr g L w ((Instr.makeSlice t u v).run P w) K := by
  unfold dMake at hk
  cases hd : under P t <;> rw [hd] at hk <;> try exact False.elim hk
  case slice e =>
  have hut := under_some hd (by simp)
  dsimp only at hk
  cases hi : P.info? e with
  | none => rw [hi] at hk; exact False.elim hk
  | some i =>
    rw [hi] at hk
    dsimp only at hk
    cases hz : zeroOf P e with
    | none => rw [hz] at hk; exact False.elim hk
    | some z =>
      rw [hz] at hk
      dsimp only at hk
      cases l with
      | v lv =>
        have hu : u = lv := hl
        subst hu
        cases u with
        | int k n =>
          dsimp only at hk
          cases c with
          | v cv =>
            have hv : v = cv := hc
            subst hv
            cases v with
            | int k' m =>
              have hq := grd_spec hk
              clear hk
              obtain ⟨hb, hk⟩ := hq
              simp only [Bool.and_eq_true] at hb
              have hby : 0 < i.bytes := by have := hb.1; simp [Nat.blt] at this; omega
              have hz0 : 0 < z.length := by have := hb.2; simp [Nat.blt] at this; omega
              obtain ⟨⟨h0, h1, h2⟩, hk⟩ := hk
              obtain ⟨i0, v0, hi0, hzi, hvc, hzl, hcs⟩ := zeroOf_some hz
              have hii : i = i0 := by rw [hi] at hi0; exact Option.some.inj hi0
              subst hii
              have hm : m ≤ 281474976710656 := by
                have : (1 : Int) * m ≤ i.bytes * m := Int.mul_le_mul_of_nonneg_right (by omega) (by omega)
                omega
              have wr : ∀ x : Int, 0 ≤ x → x ≤ 281474976710656 → IntKind.i64.wrap x = x := by
                intro x hx0 hx1
                have e1 : x % (2 ^ IntKind.i64.bits : Int) = x := Int.emod_eq_of_lt hx0 (by simp [IntKind.bits]; omega)
                unfold IntKind.wrap
                simp only [e1]
                rw [if_neg (by simp [IntKind.signed, IntKind.bits]; omega)]
              have wn := wr n h0 (by omega)
              have wm := wr m (by omega) hm
              obtain ⟨M, rfl⟩ := Int.eq_ofNat_of_zero_le (show 0 ≤ m by omega)
              obtain ⟨N, rfl⟩ := Int.eq_ofNat_of_zero_le h0
              have hrun : ∃ q, (Instr.makeSlice t (.int k (N : Int)) (.int k' (M : Int))).run P w = .ok (.slice (some ⟨w.heap.size, 0, none⟩) N M) { w with heap := w.heap.push (.cells (Builtin.zeroCells z.toArray M) e (0, 0)), drawn := q } := by
                refine ⟨w.drawn, ?_⟩
                have hask : ∀ b, (askRoom b).run P w = .ok () w := by intro b; unfold askRoom; split <;> simp [mark, Sem.run]
                have hinf : (typeInfo e).run P w = .ok i w := by simp [typeInfo, hi]
                have hsz : (sizeOf e).run P w = .ok i.size w := by simp [sizeOf, typeInfo, hi]
                obtain ⟨zv, hzr, hzc⟩ := run_zero hz w
                unfold Instr.makeSlice
                simp only [Sem.run_bind, run_underlying hut, Result.andThen_ok, asInt, asIntOf, Sem.run_pure, hinf, wn, wm]
                rw [if_neg (by simp; omega)]
                simp only [Sem.run_bind, hask, Result.andThen_ok, hsz, Int.toNat_natCast]
                by_cases hM : M * i.size = 0
                · have hM0 : M = 0 := by rcases Nat.mul_eq_zero.1 hM with h3 | h3 <;> omega
                  subst hM0
                  have hnil : ∀ f : Nat → Value, (Array.range 0).map f = #[] := fun f => by simp
                  simp only [Nat.zero_mul, if_true, Sem.run_pure, Result.andThen_ok, hnil]
                  have hnil2 : Builtin.zeroCells z.toArray 0 = #[] := by unfold Builtin.zeroCells; rw [Nat.zero_mul]; exact hnil _
                  rw [hnil2]
                  simp [newRow, newObj, Sem.run]
                · simp only [hM, if_false, Sem.run_bind, hzr, Result.andThen_ok, hzc, Sem.run_pure]
                  simp [newRow, newObj, Sem.run, Builtin.zeroCells, hzl]
              obtain ⟨q, hrun⟩ := hrun
              have hn := New.push w (.cells (Builtin.zeroCells z.toArray M) e (0, 0)) q
              exact ⟨.v (.slice (some ⟨w.heap.size, 0, none⟩) N M), L, _, _, _, hrun, rfl, HO.new_heap H hn, hn.wr, Kp.refl L, hk _ (H.none_h (Nat.le_refl _))⟩
            | _ => exact False.elim hk
          | _ => exact False.elim hk
        | _ => exact False.elim hk
      | _ => exact False.elim hk
end
end Go.Eng
