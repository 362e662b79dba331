/-
  THE ENGINE, 4: operations that leave the heap as it is.
-/
import Derived.Test.YtblghgacokoklaaDoorE2
set_option linter.unusedSimpArgs false
set_option linter.unusedVariables false
namespace Go.Eng
section
variable {P : Program} {fr : Hp} {g : Nat → Nat} {L : List LE} {h : Hp} {w : World} {K : KO}

def Out (fr : Hp) (g : Nat → Nat) (L : List LE) (w : World) (r : Result Value) (K : KO) : Prop :=
  ∃ x L' h' v w', r = .ok v w' ∧ x.is g v ∧ HO fr g L' h' w' ∧ Wr w w' ∧ Kp L L' ∧ K x L' h'
theorem Out.here (H : HO fr g L h w) {r : Result Value} {x : AV} {v : Value} (hr : r = .ok v w) (hx : x.is g v) (hk : K x L h) : Out fr g L w r K :=
  ⟨x, L, h, v, w, hr, hx, H, Wr.refl w, Kp.refl L, hk⟩
theorem grd_spec {c : Bool} {p : Prop} (h : grd c p) : c = true ∧ p := by cases c <;> first | exact ⟨rfl, h⟩ | exact h.elim
theorem getAll_spec : ∀ {xs : List AV} {K : List Value → Prop}, getAll xs K → ∃ vs, vs.length = xs.length ∧ (∀ g i, i < xs.length → (getN xs i).is g (vs.getD i undef)) ∧ (∀ x ∈ xs, x.plain = true) ∧ K vs
  | [], _, hk => ⟨[], rfl, fun g i hi => by simp at hi, fun x hx => by simp at hx, hk⟩
  | x :: xs, K, hk => by
    obtain ⟨v, hv, hr, hp⟩ := AV.get_plain hk
    obtain ⟨vs, hl, hat, hpl, hK⟩ := getAll_spec hr
    refine ⟨v :: vs, by simp [hl], fun g i hi => ?_, fun y hy => ?_, hK⟩
    · cases i with
      | zero => exact hv g
      | succ i => exact hat g i (by simpa using hi)
    · rcases List.mem_cons.1 hy with rfl | hy
      · exact hp
      · exact hpl y hy
/-- Plain values are the only ones that slots say. -/
theorem is_unique {g : Nat → Nat} {x : AV} {u v : Value} (hp : x.plain = true) (hu : x.is g u) (hv : x.is g v) : u = v := by
  cases x with
  | v x => exact (show u = x from hu).trans (show v = x from hv).symm
  | p b o => exact (show u = _ from hu).trans (show v = _ from hv).symm
  | f x => exact (show u = x from hu).trans (show v = x from hv).symm
  | _ => cases hp
theorem mkv_agg {t : Nat} {vs : List Value} (h : isAggB P t = true) : mkv P t vs = .agg vs.toArray := by unfold mkv; rw [h]
theorem getN_takeN (l : List AV) (o n i : Nat) (hi : i < n) : getN (takeN l o n) i = getN l (o + i) := by
  rw [getN_eq, getN_eq]; unfold takeN; rw [List.getElem?_take]; simp [hi, List.getElem?_drop]

/-- An operation that leaves the world as it is. -/
def OutQ (g : Nat → Nat) (L : List LE) (h : Hp) (w : World) (r : Result Value) (K : KO) : Prop := ∃ x v, r = .ok v w ∧ x.is g v ∧ K x L h
theorem OutQ.here {r : Result Value} {x : AV} {v : Value} (hr : r = .ok v w) (hx : x.is g v) (hk : K x L h) : OutQ g L h w r K := ⟨x, v, hr, hx, hk⟩
theorem OutQ.out (H : HO fr g L h w) {r : Result Value} (q : OutQ g L h w r K) : Out fr g L w r K := let ⟨x, v, hr, hx, hk⟩ := q; Out.here H hr hx hk
theorem load_okQ (H : HO fr g L h w) {t : Nat} {x : AV} {y : Value} (hk : dLoad P t x L h K) (hx : x.is g y) : OutQ g L h w ((Instr.loadAt t y).run P w) K := by
  unfold dLoad at hk
  have hq := grd_spec hk
  clear hk
  obtain ⟨hg, hk⟩ := hq
  simp only [Bool.and_eq_true] at hg
  obtain ⟨hi, hu⟩ := hg
  cases x with
  | p b o =>
    have hy : y = .pointer (some ⟨b, o, none⟩) := hx
    subst hy
    dsimp only at hk
    have key : ∀ vs : List Value, vs.length = P.cellsOf t → (∀ i v, vs[i]? = some v → h.at b (o + i) = some v) → (isAggB P t = true ∨ ∃ v, vs = [v]) → (Instr.loadAt t (.pointer (some ⟨b, o, none⟩))).run P w = .ok (mkv P t vs) w := by
      intro vs hl hat h1
      unfold Instr.loadAt
      simp only [Instr.sureAddr, Sem.run_bind, Sem.run_pure, Result.andThen_ok]
      exact run_loadVar' hi hu hl (fun i v hv => cell_of H.hh (hat i v hv)) h1
    have agg_or : ∀ ks, ks = kinds P 8 t → ks.length = P.cellsOf t → ∀ vs : List Value, vs.length = ks.length → (isAggB P t = true ∨ ∃ v, vs = [v]) := by
      intro ks hks _ vs hl
      by_cases ha : isAggB P t = true
      · exact .inl ha
      · refine .inr ?_
        have : ks.length = 1 := by
          subst hks
          unfold isAggB at ha
          unfold kinds
          cases hd : under P t <;> rw [hd] at ha <;> first | rfl | exact absurd rfl ha
        match vs, hl with
        | [v], _ => exact ⟨v, rfl⟩
        | [], hl => rw [this] at hl; cases hl
        | _ :: _ :: _, hl => rw [this] at hl; simp at hl
    have gen : grd ((kinds P 8 t).length == P.cellsOf t) (exRd h b o 0 (kinds P 8 t) fun vs => K (.v (mkv P t vs)) L h) → OutQ g L h w ((Instr.loadAt t (.pointer (some ⟨b, o, none⟩))).run P w) K := by
      intro hk
      have hq := grd_spec hk
      clear hk
      obtain ⟨hl, hk⟩ := hq
      have hl : (kinds P 8 t).length = P.cellsOf t := by simpa using hl
      obtain ⟨vs, hvl, hat, hK⟩ := exRd_spec hk
      exact OutQ.here (x := .v (mkv P t vs)) (key vs (hvl.trans hl) (by simpa using hat) (agg_or _ rfl hl vs hvl)) rfl hK
    cases hd : under P t with
    | bool =>
      rw [hd] at hk
      obtain ⟨h1, z, hz, hk⟩ := grd_spec hk
      have h1 : P.cellsOf t = 1 := by simpa using h1
      have hna : isAggB P t = false := by unfold isAggB; rw [hd]
      have hr := key [.bool z] (by simp [h1]) (fun i v hv => by cases i <;> simp at hv; subst hv; exact hz) (.inr ⟨_, rfl⟩)
      have hm : mkv P t [.bool z] = .bool z := by unfold mkv; rw [hna]
      rw [hm] at hr
      cases z with
      | true => exact OutQ.here (x := .v (.bool true)) hr rfl (hk.1 rfl)
      | false => exact OutQ.here (x := .v (.bool false)) hr rfl (hk.2 rfl)
    | _ => rw [hd] at hk; exact gen hk
  | loc l off =>
    have hy : y = .pointer (some ⟨g l, off, none⟩) := hx
    subst hy
    replace hk : (match findL L l with
      | some e => match isAggB P t with
        | true => grd (lenB (takeN e.cs off (P.cellsOf t)) (P.cellsOf t)) (getAll (takeN e.cs off (P.cellsOf t)) fun vs => K (.v (.agg ⟨vs⟩)) L h)
        | false => grd (Nat.blt off e.cs.length) (K (getN e.cs off) L h)
      | none => False) := hk
    cases hf : findL L l with
    | none => rw [hf] at hk; exact False.elim hk
    | some e =>
      rw [hf] at hk
      dsimp only at hk
      obtain ⟨hm, rfl⟩ := findL_mem hf
      obtain ⟨cs, he⟩ := H.ll e hm
      have hcell : ∀ i, i < cs.size → w.cell? ⟨g e.l, i, none⟩ = some (cs.getD i undef) := by
        intro i hi'
        simp [World.cell?, he.at_, hi']
      cases ha : isAggB P t with
      | true =>
        rw [ha] at hk
        have hq := grd_spec hk
        clear hk
        obtain ⟨hl, hk⟩ := hq
        obtain ⟨vs, hvl, hat, hpl, hK⟩ := getAll_spec hk
        have hl : (takeN e.cs off (P.cellsOf t)).length = P.cellsOf t := by simpa [lenB] using hl
        have hlen : off + P.cellsOf t ≤ e.cs.length ∨ P.cellsOf t = 0 := by
          unfold takeN at hl; rw [List.length_take, List.length_drop] at hl; omega
        refine OutQ.here (x := .v (.agg vs.toArray)) (v := .agg vs.toArray) ?_ rfl hK
        have hr : (loadVar t ⟨g e.l, off, none⟩).run P w = .ok (mkv P t vs) w := by
          refine run_loadVar' hi hu (hvl.trans hl) (fun i v hv => ?_) (.inl ha)
          have hil : i < vs.length := (List.getElem?_eq_some_iff.1 hv).1
          have hi1 : i < P.cellsOf t := by omega
          have h2 := hat g i (by omega)
          rw [getN_takeN _ _ _ _ hi1] at h2
          have h3 := he.is_ (off + i) (by omega)
          have hp : (getN e.cs (off + i)).plain = true := by
            rw [getN_eq, List.getElem?_eq_getElem (by omega)]; exact he.pl _ (List.getElem_mem _)
          have h4 := is_unique hp h2 h3
          rw [hcell (off + i) (by rw [he.sz]; omega), ← h4]
          simp [List.getD_eq_getElem?_getD, hv]
        unfold Instr.loadAt
        simp only [Instr.sureAddr, Sem.run_bind, Sem.run_pure, Result.andThen_ok, hr, mkv_agg ha]
      | false =>
        rw [ha] at hk
        have hq := grd_spec hk
        clear hk
        obtain ⟨hl, hk⟩ := hq
        have hl : off < e.cs.length := by simp [Nat.blt] at hl; omega
        refine OutQ.here (v := cs.getD off undef) ?_ (he.is_ off hl) hk
        unfold Instr.loadAt loadVar
        simp only [Instr.sureAddr, Sem.run_bind, Sem.run_pure, Result.andThen_ok, run_isAgg hu, ha, Bool.false_eq_true, if_false]
        exact run_load1 (hcell off (by rw [he.sz]; exact hl))
  | _ => exact False.elim hk

theorem load_ok (H : HO fr g L h w) {t : Nat} {x : AV} {y : Value} (hk : dLoad P t x L h K) (hx : x.is g y) : Out fr g L w ((Instr.loadAt t y).run P w) K := (load_okQ H hk hx).out H
theorem field_ok (H : HO fr g L h w) {s f : Nat} {x : AV} {y : Value} (hk : dField P s f x L h K) (hx : x.is g y) : Out fr g L w ((Instr.fieldAt s y f).run P w) K := by
  unfold dField at hk
  cases hfo : fieldOff P s f with
  | none => rw [hfo] at hk; exact hk.elim
  | some q =>
    obtain ⟨off, ft⟩ := q
    rw [hfo] at hk
    dsimp only at hk
    unfold fieldOff at hfo
    cases hd : under P s with
    | struct fs =>
      rw [hd] at hfo
      simp only at hfo
      cases hf : fs[f]? with
      | none => rw [hf] at hfo; cases hfo
      | some fl =>
        rw [hf] at hfo
        simp only at hfo
        cases hc : P.cellsOf fl.type with
        | zero => rw [hc] at hfo; cases hfo
        | succ n =>
          rw [hc] at hfo
          simp only at hfo
          cases hi : hasInfo P fl.type with
          | false => rw [hi] at hfo; cases hfo
          | true =>
            rw [hi] at hfo
            simp only [Option.some.injEq, Prod.mk.injEq] at hfo
            obtain ⟨rfl, rfl⟩ := hfo
            have hu := under_some hd (by simp)
            have hplace : ∀ a : Addr, (fieldPlace a fl).run P w = .ok (a.add fl.offset) w := by
              intro a
              unfold fieldPlace
              simp only [Sem.run_bind, run_sizeOf' hi, Result.andThen_ok, hc]
              simp [Sem.run_pure]
            have hrun : ∀ a : Addr, (Instr.fieldAt s (.pointer (some a)) f).run P w = .ok (.pointer (some (a.add fl.offset))) w := by
              intro a
              unfold Instr.fieldAt
              simp [Sem.run_bind, run_underlying hu, hf, Instr.sureAddr, hplace]
            cases x with
            | p b o =>
              have hy : y = .pointer (some ⟨b, o, none⟩) := hx
              subst hy
              refine Out.here H (hrun _) ?_ hk
              show _ = _
              rw [addr_add, addo_eq]
            | loc l o =>
              have hy : y = .pointer (some ⟨g l, o, none⟩) := hx
              subst hy
              refine Out.here H (hrun _) ?_ hk
              show _ = _
              rw [addr_add, addo_eq]
            | _ => exact False.elim hk
    | _ => rw [hd] at hfo; cases hfo

theorem indexA_ok (H : HO fr g L h w) {t : Nat} {x i : AV} {y u : Value} (hk : dIndexA P t x i L h K) (hx : x.is g y) (hi : i.is g u) : Out fr g L w ((Instr.indexAt t y u).run P w) K := by
  unfold dIndexA at hk
  cases i with
  | v iv =>
    have hu : u = iv := hi
    subst hu
    cases u with
    | int ik n =>
      dsimp only at hk
      cases hd : under P t with
      | slice e =>
        rw [hd] at hk
        have hq := grd_spec hk
        clear hk
        obtain ⟨hie, hk⟩ := hq
        have hut := under_some hd (by simp)
        have hrun : ∀ (a : Addr) (len c : Nat), 0 ≤ n → n < (len : Int) → (Instr.indexAt t (.slice (some a) len c) (.int ik n)).run P w = .ok (.pointer (some (a.add (n.toNat * P.cellsOf e)))) w := by
          intro a len c h0 h1
          unfold Instr.indexAt
          simp [Sem.run_bind, run_underlying hut, asIntOf, run_sizeOf' hie, h0, h1]
        cases x with
        | v xv =>
          have hy : y = xv := hx
          subst hy
          cases y with
          | slice a len c =>
            obtain ⟨b, o, rfl, ⟨h0, h1⟩, hk⟩ := hk
            refine Out.here H (hrun _ len c h0 h1) ?_ hk
            show _ = _
            rw [addr_add, mulo_eq]
          | _ => exact False.elim hk
        | sl l len =>
          have hy : y = .slice (some ⟨g l, 0, none⟩) len len := hx
          subst hy
          cases n with
          | ofNat k =>
            have hq := grd_spec hk
            clear hk
            obtain ⟨hlt, hk⟩ := hq
            have hlt : k < len := by simpa using hlt
            refine Out.here H (hrun _ len len (Int.natCast_nonneg k) (by simpa using hlt)) ?_ hk
            show _ = _
            rw [addr_add]
            simp
          | negSucc k => exact False.elim hk
        | _ => exact False.elim hk
      | array len e =>
        rw [hd] at hk
        have hq := grd_spec hk
        clear hk
        obtain ⟨hie, hk⟩ := hq
        have hut := under_some hd (by simp)
        have hrun : ∀ (a : Addr), 0 ≤ n → n < (len : Int) → (Instr.indexAt t (.pointer (some a)) (.int ik n)).run P w = .ok (.pointer (some (a.add (n.toNat * P.cellsOf e)))) w := by
          intro a h0 h1
          unfold Instr.indexAt
          simp [Sem.run_bind, run_underlying hut, asIntOf, Instr.sureAddr, run_sizeOf' hie, h0, h1]
        cases x with
        | p b o =>
          have hy : y = .pointer (some ⟨b, o, none⟩) := hx
          subst hy
          obtain ⟨⟨h0, h1⟩, hk⟩ := hk
          refine Out.here H (hrun _ h0 h1) ?_ hk
          show _ = _
          rw [addr_add, mulo_eq]
        | loc l o =>
          have hy : y = .pointer (some ⟨g l, o, none⟩) := hx
          subst hy
          cases n with
          | ofNat k =>
            have hq := grd_spec hk
            clear hk
            obtain ⟨hlt, hk⟩ := hq
            have hlt : k < len := by simpa using hlt
            refine Out.here H (hrun _ (Int.natCast_nonneg k) (by simpa using hlt)) ?_ hk
            show _ = _
            rw [addr_add]
            simp
          | negSucc k => exact False.elim hk
        | _ => exact False.elim hk
      | _ => rw [hd] at hk; exact False.elim hk
    | _ => exact False.elim hk
  | _ => exact False.elim hk
theorem bt_some (s : ByteArray) (n : Int) (h0 : 0 ≤ n) (h1 : n < (s.size : Int)) : ∃ b : UInt8, s[n.toNat]? = some b ∧ bt s n = (b.toNat : Int) := by
  have hl : n.toNat < s.size := by omega
  refine ⟨s[n.toNat]'hl, by rw [getElem?_pos s n.toNat hl], ?_⟩
  unfold bt
  rw [dif_pos hl]
theorem index_ok (H : HO fr g L h w) {t : Nat} {x i : AV} {y u : Value} (hk : dIndex P t x i L h K) (hx : x.is g y) (hi : i.is g u) : Out fr g L w ((Instr.index t y u).run P w) K := by
  unfold dIndex at hk
  cases i with
  | v iv =>
    have hu : u = iv := hi
    subst hu
    cases u with
    | int ik n =>
      dsimp only at hk
      cases hd : under P t with
      | string =>
        rw [hd] at hk
        have hut := under_some hd (by simp)
        cases x with
        | v xv =>
          have hy : y = xv := hx
          subst hy
          cases y with
          | string s =>
            obtain ⟨⟨h0, h1⟩, hk⟩ := hk
            obtain ⟨b, hb, hbt⟩ := bt_some s n h0 h1
            rw [hbt] at hk
            refine Out.here H (x := .v _) ?_ rfl hk
            unfold Instr.index
            simp [Sem.run_bind, run_underlying hut, asIntOf, h0, hb]
          | _ => exact False.elim hk
        | _ => exact False.elim hk
      | _ => rw [hd] at hk; exact False.elim hk
    | _ => exact False.elim hk
  | _ => exact False.elim hk
end
end Go.Eng
