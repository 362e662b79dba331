/-
  THE ENGINE, 10: append; conversions; least and greatest; '==' of whatever is no number and no string.
-/
import Derived.Test.YtblghgacokoklaaDoorE8
set_option linter.unusedSimpArgs false
set_option linter.unusedVariables false
namespace Go.Eng
section
variable {P : Program} {lo : List Nat} {fr : Hp} {g : Nat → Nat} {L : List LE} {h : Hp} {w : World} {K : KO}

theorem bytesV_one (s : ByteArray) : ∀ v ∈ bytesV s, v.oneCell' = true := by
  intro v hv
  obtain ⟨b, _, rfl⟩ := List.mem_map.1 hv
  rfl
theorem bytesV_length (s : ByteArray) : (bytesV s).length = s.size := by
  unfold bytesV; rw [List.length_map, Array.length_toList]; rfl
theorem extract_all (s : ByteArray) : s.extract 0 s.size = s := by
  apply ByteArray.ext
  simp
theorem source_spec (H : HO fr g L h w) {size : Nat} {x : AV} {v : Value} {K' : Nat → List Value → Prop} (hk : source size x L h K') (hx : x.is g v) :
    ∃ m vs, vs.length = m * size ∧ (∀ u ∈ vs, u.oneCell' = true) ∧ (Builtin.lenOf v).run P w = .ok m w ∧ (∀ w1 : World, w1.heap = w.heap → (Builtin.firstCells size m v).run P w1 = .ok vs.toArray w1) ∧ K' m vs := by
  unfold source at hk
  cases x with
  | v xv =>
    have hv : v = xv := hx
    subst hv
    cases v with
    | slice a n c =>
      obtain ⟨vs, hr, h1, hK⟩ := hk
      exact ⟨n, vs, hr.1, h1, by simp [Builtin.lenOf], fun w1 hw => (row_run (P := P) (c := c) H hr rfl w1 hw).2 _ _, hK⟩
    | string s =>
      have hq := grd_spec hk
      clear hk
      obtain ⟨hs, hK⟩ := hq
      have hs : size = 1 := by simpa using hs
      subst hs
      refine ⟨s.size, bytesV s, by rw [bytesV_length]; omega, bytesV_one s, by simp [Builtin.lenOf], fun w1 _ => ?_, hK⟩
      simp only [Builtin.firstCells, extract_all, Sem.run_pure]
      congr 1
      apply Array.ext'
      simp [bytesV]
    | _ => exact False.elim hk
  | sl l n =>
    have hv : v = .slice (some ⟨g l, 0, none⟩) n n := hx
    subst hv
    replace hk : (match findL L l with
      | some e => grd (lenB e.cs (n * size)) (getAll e.cs fun vs => oneAll vs (K' n vs))
      | none => False) := hk
    cases hf : findL L l with
    | none => rw [hf] at hk; exact False.elim hk
    | some e =>
      rw [hf] at hk
      dsimp only at hk
      have hq := grd_spec hk
      clear hk
      obtain ⟨hl, hk⟩ := hq
      have hl : e.cs.length = n * size := by simpa [lenB] using hl
      obtain ⟨vs, hvl, hat, hpl, hk⟩ := getAll_spec hk
      obtain ⟨h1, hK⟩ := oneAll_spec hk
      obtain ⟨hm, rfl⟩ := findL_mem hf
      obtain ⟨cs, he⟩ := H.ll e hm
      refine ⟨n, vs, hvl.trans hl, h1, by simp [Builtin.lenOf], fun w1 hw => ?_, hK⟩
      simp only [Builtin.firstCells]
      rw [← hl, ← hvl]
      refine run_loadAgg (fun i v hv => ?_)
      have hil : i < vs.length := (List.getElem?_eq_some_iff.1 hv).1
      have h2 := hat g i (by omega)
      have h3 := he.is_ i (by omega)
      have hp : (getN e.cs i).plain = true := by
        rw [getN_eq, List.getElem?_eq_getElem (by omega)]; exact he.pl _ (List.getElem_mem _)
      have h4 := is_unique hp h2 h3
      have hcs : i < cs.size := by rw [he.sz]; omega
      simp only [Nat.zero_add, World.cell?, hw, he.at_, Option.isSome_none, Bool.false_eq_true, if_false]
      simp only [Array.getD_eq_getD_getElem?, List.getD_eq_getElem?_getD, hv, Option.getD_some, Array.getElem?_eq_getElem hcs] at h4
      rw [Array.getElem?_eq_getElem hcs, ← h4]
  | _ => exact False.elim hk
theorem wr_nil (h : Hp) (b o : Nat) : h.wr b o [] = h := by
  funext k
  unfold Hp.wr
  by_cases hk : k = b
  · subst hk
    rw [if_pos rfl]
    cases hb : h k with
    | none => rfl
    | some x => cases x <;> simp [setL]
  · rw [if_neg hk]
theorem wrA_nil (h : Hp) (A : Option Addr) : h.wrA A [] = h := by
  unfold Hp.wrA
  split
  · exact wr_nil h _ _
  · rfl
/-- Cells laid where an address says. -/
theorem layA_ok (H : HO fr g L h w) {A : Option Addr} {vs : List Value} (hc : h.canWA A vs.length) (h1 : ∀ v ∈ vs, v.oneCell' = true) :
    ∃ w', (match A with | some a => storeCells a vs | none => pure ()).run P w = .ok () w' ∧ HO fr g L (h.wrA A vs) w' ∧ Wr w w' := by
  rcases hc with h0 | ⟨b, o, rfl, c, t, f, hb, hsz, hf⟩
  · have hvs : vs = [] := List.eq_nil_of_length_eq_zero h0
    subst hvs
    refine ⟨w, ?_, by rw [wrA_nil]; exact H, Wr.refl w⟩
    cases A <;> simp [storeCells]
  · obtain ⟨w', hr, hl⟩ := run_storeCells' (P := P) (b := b) (o := o) vs 0 c w (H.hh b _ hb) (by simpa using hsz) (by simpa using hf) h1
    exact ⟨w', hr, HO.wr H hb (by simpa using hl), hl.wr⟩
theorem copy_ok (H : HO fr g L h w) {dt xt ty : Nat} {x y : AV} {u v : Value} (hk : dCopy P dt x y L h K) (hx : x.is g u) (hy : y.is g v) :
    Out fr g L w ((Builtin.copy_ #[dt, xt] ty #[u, v]).run P w) K := by
  unfold dCopy at hk
  cases hd : under P dt <;> rw [hd] at hk <;> try exact False.elim hk
  case slice e =>
  have hut := under_some hd (by simp)
  dsimp only at hk
  have hq := grd_spec hk
  clear hk
  obtain ⟨hi, hk⟩ := hq
  have fin : ∀ (a : Option Addr) (n c m : Nat) (vs : List Value), u = .slice a n c → (Builtin.lenOf v).run P w = .ok m w → (Builtin.firstCells (P.cellsOf e) (Nat.min m n) v).run P w = .ok vs.toArray w → (∀ z ∈ vs, z.oneCell' = true) → h.canWA a vs.length →
      K (.v (.int .i64 ((Nat.min m n : Nat) : Int))) L (h.wrA a vs) → Out fr g L w ((Builtin.copy_ #[dt, xt] ty #[u, v]).run P w) K := by
    intro a n c m vs hu hl hf h1 hc hK
    obtain ⟨w', hr, H', hw⟩ := layA_ok (P := P) H hc h1
    refine ⟨.v _, L, _, _, w', ?_, rfl, H', hw, Kp.refl L, hK⟩
    subst hu
    cases a with
    | none =>
      simp only [Sem.run_pure, Result.ok.injEq, true_and] at hr
      subst hr
      simp [Builtin.copy_, run_underlying hut, hl, run_sizeOf' hi, hf, goInt]
    | some ad =>
      simp [Builtin.copy_, run_underlying hut, hl, run_sizeOf' hi, hf, hr, goInt]
  cases x with
  | v xv =>
    have hu : u = xv := hx
    subst hu
    cases u with
    | slice a n c =>
      cases y with
      | v yv =>
        have hv : v = yv := hy
        subst hv
        cases v with
        | slice sa sn sc =>
          obtain ⟨vs, hrow, h1, hc, hK⟩ := hk
          exact fin a n c sn vs rfl (by simp [Builtin.lenOf]) ((row_run (P := P) (c := sc) H hrow rfl w rfl).2 _ _) h1 hc hK
        | string s =>
          dsimp only at hk
          have hq := grd_spec hk
          clear hk
          obtain ⟨hs, hc, hK⟩ := hq
          have hs : P.cellsOf e = 1 := by simpa using hs
          refine fin a n c s.size _ rfl (by simp [Builtin.lenOf]) ?_ (fun z hz => bytesV_one s z (List.mem_of_mem_take hz)) hc hK
          simp only [Builtin.firstCells, Sem.run_pure]
          congr 1
          apply Array.ext'
          simp [bytesV, List.map_take]
        | _ => exact False.elim hk
      | _ => exact False.elim hk
    | _ => exact False.elim hk
  | _ => exact False.elim hk
theorem append_ok (H : HO fr g L h w) {st xt ty : Nat} {s x : AV} {u v : Value} (hxt : ∀ k, under P xt ≠ .int k) (hxu : hasUnder P xt = true) (hk : dAppend P st s x L h K) (hs : s.is g u) (hx : x.is g v) :
    Out fr g L w ((Builtin.append_ #[st, xt] ty #[u, v]).run P w) K := by
  unfold dAppend at hk
  cases hd : under P st <;> rw [hd] at hk <;> try exact False.elim hk
  case slice e =>
  have hut := under_some hd (by simp)
  dsimp only at hk
  cases hi : P.info? e with
  | none => rw [hi] at hk; exact False.elim hk
  | some i =>
    rw [hi] at hk
    dsimp only at hk
    cases hz : zeroOf P e with
    | none => rw [hz] at hk; exact False.elim hk
    | some z =>
      rw [hz] at hk
      dsimp only at hk
      have hq := grd_spec hk
      clear hk
      obtain ⟨hb, hk⟩ := hq
      simp only [Bool.and_eq_true] at hb
      have hsz0 : 0 < i.size := by have := hb.1; simp [Nat.blt] at this; omega
      have hby : 0 < i.bytes := by have := hb.2; simp [Nat.blt] at this; omega
      cases s with
      | v sv =>
        have hu : u = sv := hs
        subst hu
        cases u with
        | slice a n c =>
          obtain ⟨m, vs, hvl, h1, hlen, hfc, hbytes, hroom, hgrow⟩ := source_spec (P := P) H hk hx
          dsimp only at hbytes hroom hgrow
          have hsz : (sizeOf e).run P w = .ok i.size w := by simp [sizeOf, typeInfo, hi]
          have hinf : ∀ w1 : World, (typeInfo e).run P w1 = .ok i w1 := fun w1 => by simp [typeInfo, hi]
          by_cases hr : n + m ≤ c
          · obtain ⟨hcan, hK⟩ := hroom hr
            obtain ⟨w', hst, HO', hwr⟩ := layA_ok (P := P) H hcan h1
            refine ⟨.v (.slice a (n + m) c), L, _, .slice a (n + m) c, w', ?_, rfl, HO', hwr, Kp.refl L, hK⟩
            unfold Builtin.append_
            simp only [List.getElem?_toArray, List.getElem?_cons_zero, List.getElem?_cons_succ, Sem.run_bind, run_underlying hut, Result.andThen_ok, hsz]
            have hxr := run_underlying (hasUnder_some hxu) w
            cases hux : under P xt <;> rw [hux] at hxr <;> first
              | exact absurd hux (hxt _)
              | (simp only [hxr, Result.andThen_ok, Sem.run_bind, Sem.run_pure, Bool.false_eq_true, if_false, hlen, hr, if_true, Bool.not_false, hfc w rfl]
                 cases a with
                 | none => simp only [Option.map_none] at hst; simpa [Sem.run_pure] using hst
                 | some ad => simp only [Option.map_some] at hst; simp [hst])
          · obtain ⟨old, hold, hK⟩ := hgrow (by omega)
            have hfit := growslice_fits (need := n + m) (old := c) (bytes := i.bytes) (by omega) hbytes
            obtain ⟨zv, hzr, hzc⟩ := run_zero hz { w with drawn := w.drawn + 1 }
            have hask : ∀ b (w1 : World), (askRoom b).run P w1 = .ok () w1 := by intro b w1; unfold askRoom; split <;> simp [mark, Sem.run]
            have hge := grownCap_ge' w (n + m) c e
            have hn := New.push w (.cells ⟨old ++ vs ++ zerosV z (grownCap w (n + m) c e - (n + m))⟩ e (0, 0)) (w.drawn + 1)
            refine ⟨.v (.slice (some ⟨w.heap.size, 0, none⟩) (n + m) (grownCap w (n + m) c e)), L, _, .slice (some ⟨w.heap.size, 0, none⟩) (n + m) (grownCap w (n + m) c e), _, ?_, rfl, HO.new_heap H hn, hn.wr, Kp.refl L, hK _ _ (H.none_h (Nat.le_refl _)) hge⟩
            have hfo := (row_run (P := P) (c := c) H hold rfl { w with drawn := w.drawn + 1 } rfl).2 n c
            have hfn := hfc { w with drawn := w.drawn + 1 } rfl
            have harr : old.toArray ++ vs.toArray ++ Builtin.zeroCells z.toArray (grownCap w (n + m) c e - (n + m)) = ⟨old ++ vs ++ zerosV z (grownCap w (n + m) c e - (n + m))⟩ := by apply Array.ext'; simp [zerosV]
            have hb0 : i.bytes ≠ 0 := by omega
            have hch : (choose (.appendCap (n + m) c e)).run P w = .ok (grownCap w (n + m) c e) { w with drawn := w.drawn + 1 } := by
              simp [choose, Sem.run, Question.forced, grownCap]
            unfold Builtin.append_
            simp only [List.getElem?_toArray, List.getElem?_cons_zero, List.getElem?_cons_succ, Sem.run_bind, run_underlying hut, Result.andThen_ok, hsz]
            have hxr := run_underlying (hasUnder_some hxu) w
            cases hux : under P xt <;> rw [hux] at hxr <;> first
              | exact absurd hux (hxt _)
              | (simp only [hxr, Result.andThen_ok, Sem.run_bind, Sem.run_pure, Bool.false_eq_true, if_false, hlen, hr, Bool.not_false, if_true, hinf, hb0, or_self, and_false]
                 rw [if_neg (by simp; omega)]
                 simp only [Sem.run_bind, hch, Result.andThen_ok, hinf, hask, hfo, hfn, hzr, hzc]
                 rw [harr]
                 rfl)
        | _ => exact False.elim hk
      | _ => exact False.elim hk
where grownCap_ge' (w : World) (need old : Nat) (e : Nat) : need ≤ grownCap w need old e := by simp [grownCap, Question.cut]
end
end Go.Eng
