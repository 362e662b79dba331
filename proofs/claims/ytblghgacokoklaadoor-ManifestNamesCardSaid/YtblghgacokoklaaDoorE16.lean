/-
  THE ENGINE, 17: code; a whole call.
-/
import Derived.Test.YtblghgacokoklaaDoorF3
import Derived.Deep.LoopGhost
import Derived.ScopeJumps
set_option linter.unusedSimpArgs false
set_option linter.unusedVariables false
namespace Go.Eng
section
variable {P : Program} {lo : List Nat} {G : List (Nat × (List Value → PT))} {V : Value → List Value → PT} {fr : Hp}

/-- What code leaves behind. -/
def RelC (W : List Nat) (fr : Hp) (g : Nat → Nat) (L : List LE) (a : Act) (w : World) (K : KC) : Exit → Act → World → Prop := fun e a' w' => Rel W fr g L a w (K e) a' w'
theorem RelC.mono {W : List Nat} {g : Nat → Nat} {L : List LE} {a : Act} {w : World} {K K' : KC} (hk : ∀ e A L h, K e A L h → K' e A L h) {e : Exit} {a' : Act} {w' : World} (hr : RelC W fr g L a w K e a' w') : RelC W fr g L a w K' e a' w' :=
  Rel.mono (hk e) hr
/-- A step more. -/
theorem Rel.after {W W' : List Nat} {g g1 : Nat → Nat} {L L1 : List LE} {a a1 : Act} {w w1 : World} {K : KS} {a' : Act} {w' : World} (hW : ∀ i, memN i W = false → memN i W' = false) (T : Tr W g L a w g1 L1 a1 w1) (hr : Rel W' fr g1 L1 a1 w1 K a' w') : Rel W fr g L a w K a' w' := by
  obtain ⟨g2, A2, L2, h2, F2, H2, T2, k2⟩ := hr
  exact ⟨g2, A2, L2, h2, F2, H2, T.trans (T2.mono hW), k2⟩
theorem memN_left {i : Nat} {l k : List Nat} (h : memN i (l ++ k) = false) : memN i l = false := by rw [memN_append] at h; simp at h; exact h.1
theorem memN_right {i : Nat} {l k : List Nat} (h : memN i (l ++ k) = false) : memN i k = false := by rw [memN_append] at h; simp at h; exact h.2
/-- Out of a part whose boxes were held: they are as free as they were. -/
theorem Rel.thawed {W : List Nat} {ls : List (Nat × List Kd)} {g : Nat → Nat} {L : List LE} {h : Hp} {a : Act} {w : World} {K : KS} {a' : Act} {w' : World} (H : HO fr g L h w)
    (hr : Rel W fr g (freezeL ls L) a w (fun A' L' h' => K A' (thaw L L') h') a' w') : Rel W fr g L a w K a' w' := by
  obtain ⟨g2, A2, L2, h2, F2, H2, T2, k2⟩ := hr
  exact ⟨g2, A2, _, h2, F2, H2.thaw L, ⟨T2.wr, Kp.thaw H T2.kp, T2.gg, T2.un, T2.sz⟩, k2⟩

theorem findL_freeze (ls : List (Nat × List Kd)) (L : List LE) (l : Nat) : findL (freezeL ls L) l = match findL L l with | some e => some ⟨e.l, e.m && memN e.l (ls.map (·.1)), e.t, e.cs⟩ | none => none := by
  induction L with
  | nil => rfl
  | cons e L ih =>
    simp only [freezeL, findL]
    cases e.l == l with
    | true => rfl
    | false => exact ih
theorem okL_freeze {ls : List (Nat × List Kd)} {L : List LE} : ∀ {ls' : List (Nat × List Kd)}, (∀ l ∈ ls'.map (·.1), l ∈ ls.map (·.1)) → okL L ls' = true → okL (freezeL ls L) ls' = true
  | [], _, _ => rfl
  | (l, ks) :: ls', hs, hok => by
    simp only [okL, Bool.and_eq_true] at hok ⊢
    refine ⟨?_, okL_freeze (fun l h => hs l (by simp only [List.map_cons, List.mem_cons]; exact .inr h)) hok.2⟩
    rw [findL_freeze]
    cases hf : findL L l with
    | none => rw [hf] at hok; exact hok.1
    | some e =>
      rw [hf] at hok
      have hl := (findL_mem hf).2
      have hm : memN e.l (ls.map (·.1)) = true := memN_iff.2 (by rw [hl]; exact hs l (by simp))
      simp only [Bool.and_eq_true] at hok ⊢
      exact ⟨⟨hok.1.1, hm⟩, hok.1.2⟩
theorem sameT_freeze {ls : List (Nat × List Kd)} {L : List LE} : ∀ {ls' : List (Nat × List Kd)}, okL L ls' = true → sameT L (freezeL ls L) ls' = true
  | [], _ => rfl
  | (l, ks) :: ls', hok => by
    simp only [okL, Bool.and_eq_true] at hok
    simp only [sameT, Bool.and_eq_true]
    refine ⟨?_, sameT_freeze hok.2⟩
    rw [findL_freeze]
    cases hf : findL L l with
    | none => rw [hf] at hok; cases hok.1
    | some e => simp
theorem liveL_freeze {ls : List (Nat × List Kd)} {L : List LE} : ∀ {ls' : List (Nat × List Kd)}, liveL (freezeL ls L) ls' = liveL L ls'
  | [] => rfl
  | (l, ks) :: ls' => by
    simp only [liveL, liveL_freeze (ls' := ls')]
    rw [findL_freeze]
    cases findL L l <;> rfl
theorem keepL_look {g : Nat → Nat} {A : Env} {a : Act} (F : FO g A a) : ∀ (l : List Nat) (i : Nat), (look (keepL A l) i).is g (a.tmps.getD i undef)
  | [], _ => trivial
  | j :: l, i => by
    show AV.is g (match Nat.beq j i with | true => getE A j | false => look (keepL A l) i) _
    cases he : Nat.beq j i with
    | true => have := Nat.eq_of_beq_eq_true he; subst this; exact F.at_ j
    | false => exact keepL_look F l i
theorem keepA_ok {g : Nat → Nat} {A : Env} {a : Act} {ls : List Nat} (F : FO g A a) : FO g (keepA ls A) a := by
  refine ⟨F.len, fun i => ?_, F.df⟩
  show AV.is g (match Nat.blt i A.n with | true => look (keepL A ls) i | false => .unk) _
  cases Nat.blt i A.n with
  | true => exact keepL_look F ls i
  | false => trivial
theorem den_ok (hG : GOk P G) (hV : VOk P V) (an : List (Nat × Ann)) : ∀ (c : Code) (n : Nat) (g : Nat → Nat) (A : Env) (L : List LE) (h : Hp) (a : Act) (w : World) (K : KC), HO fr g L h w → FO g A a →
    den P lo G V an c n A L h K → c.wp P (RelC (writes c) fr g L a w K) a w := by
  intro c
  induction c with
  | skip => exact fun n g A L h a w K H F hk => wp_skip ⟨g, A, L, h, F, H, Tr.refl _ _ _ _ _, hk⟩
  | exit id => exact fun n g A L h a w K H F hk => wp_exit ⟨g, A, L, h, F, H, Tr.refl _ _ _ _ _, hk⟩
  | ret => exact fun n g A L h a w K H F hk => wp_ret ⟨g, A, L, h, F, H, Tr.refl _ _ _ _ _, hk⟩
  | label l => exact fun n g A L h a w K H F hk => wp_label ⟨g, A, L, h, F, H, Tr.refl _ _ _ _ _, hk⟩
  | goto l => exact fun n g A L h a w K H F hk => wp_goto ⟨g, A, L, h, F, H, Tr.refl _ _ _ _ _, hk⟩
  | region id ops draw =>
    intro n g A L h a w K H F hk
    cases draw with
    | true =>
      unfold den at hk
      dsimp only at hk
      split at hk
      · rename_i l hl
        have hq := grd_spec hk
        clear hk
        obtain ⟨hb, hk⟩ := hq
        rw [Bool.and_eq_true] at hb
        refine wp_mono (order_ok hG hV (id := id) hb.1 hb.2 H F hk) fun e a' w' hr => ?_
        cases e with
        | normal => exact hr
        | _ => exact hr.elim
      · exact False.elim hk
    | false =>
      exact wp_region_list (ops_ok (Q := RelC (opWrites ops.toList) fr g L a w K) (K0 := fun a' w' => RelC (opWrites ops.toList) fr g L a w K .normal a' w') hG hV (fun _ _ h => h) ops.toList (opWrites ops.toList) (fun _ h => h) g A L h a w H F hk (fun _ _ h => h))
  | cond c x y ihx ihy =>
    intro n g A L h a w K H F hk
    unfold den at hk
    have hc := ev_is F c
    cases hca : ev A c with
    | v cv =>
      rw [hca] at hk hc
      have hce : a.eval c = cv := hc
      cases cv with
      | bool b =>
        cases b with
        | true => exact wp_cond_true hce (wp_mono (ihx _ g A L h a w K H F hk) fun e a' w' hr => Rel.after (fun i => memN_left) (Tr.refl _ _ _ _ _) hr)
        | false => exact wp_cond_false hce (wp_mono (ihy _ g A L h a w K H F hk) fun e a' w' hr => Rel.after (fun i => memN_right) (Tr.refl _ _ _ _ _) hr)
      | _ => exact False.elim hk
    | _ => rw [hca] at hk; exact False.elim hk
  | block id x ih =>
    intro n g A L h a w K H F hk
    unfold den at hk
    refine wp_block (wp_mono (ih _ g A L h a w _ H F hk) fun e a' w' hr => ?_)
    cases e with
    | exit id' =>
      simp only [Exit.inBlock]
      by_cases hid : id' = id
      · rw [if_pos hid]
        refine Rel.mono (fun A L h hk => ?_) hr
        have hid' : (id' == id) = true := by simp [hid]
        dsimp only at hk; rw [hid'] at hk; exact hk
      · rw [if_neg hid]
        refine Rel.mono (fun A L h hk => ?_) hr
        have hid' : (id' == id) = false := by simp [hid]
        dsimp only at hk; rw [hid'] at hk; exact hk
    | normal => exact hr
    | goto l => exact hr
    | ret => exact hr
    | panic ch => exact hr
    | outgrown => exact hr
  | seq x y ihx ihy =>
    intro n g A L h a w K H F hk
    have plain : (den P lo G V an x (2 * n) A L h fun e A' L' h' => match e with
        | .normal => den P lo G V an y (2 * n + 1) A' L' h' K
        | e => K e A' L' h') → (Code.seq x y).wp P (RelC (writes (.seq x y)) fr g L a w K) a w := by
      intro hk
      refine wp_seq (wp_mono (ihx _ g A L h a w _ H F hk) fun e a' w' hr => ?_)
      cases e with
      | normal =>
        obtain ⟨g1, A1, L1, h1, F1, H1, T1, k1⟩ := hr
        exact wp_mono (ihy _ g1 A1 L1 h1 a' w' K H1 F1 k1) fun e2 a2 w2 hr2 => Rel.after (fun i => memN_right) (T1.mono fun i => memN_left) hr2
      | exit id => exact Rel.after (fun i => memN_left) (Tr.refl _ _ _ _ _) hr
      | goto l => exact Rel.after (fun i => memN_left) (Tr.refl _ _ _ _ _) hr
      | ret => exact Rel.after (fun i => memN_left) (Tr.refl _ _ _ _ _) hr
      | panic ch => exact Rel.after (fun i => memN_left) (Tr.refl _ _ _ _ _) hr
      | outgrown => exact Rel.after (fun i => memN_left) (Tr.refl _ _ _ _ _) hr
    unfold den at hk
    cases hl : lkA an n with
    | none => rw [hl] at hk; exact plain hk
    | some an0 =>
      rw [hl] at hk
      cases an0 with
      | loop vs ls => exact plain hk
      | order l => exact plain hk
      | jump l => exact plain hk
      | live m l =>
        refine wp_seq (wp_mono (ihx _ g A L h a w _ H F hk) fun e a' w' hr => ?_)
        cases e with
        | normal =>
          obtain ⟨g1, A1, L1, h1, F1, H1, T1, k1⟩ := hr
          exact wp_mono (ihy _ g1 _ L1 h1 a' w' K H1 (keepA_ok F1) k1) fun e2 a2 w2 hr2 => Rel.after (fun i => memN_right) (T1.mono fun i => memN_left) hr2
        | exit id => exact Rel.after (fun i => memN_left) (Tr.refl _ _ _ _ _) hr
        | goto l => exact Rel.after (fun i => memN_left) (Tr.refl _ _ _ _ _) hr
        | ret => exact Rel.after (fun i => memN_left) (Tr.refl _ _ _ _ _) hr
        | panic ch => exact Rel.after (fun i => memN_left) (Tr.refl _ _ _ _ _) hr
        | outgrown => exact Rel.after (fun i => memN_left) (Tr.refl _ _ _ _ _) hr
      | join vs ls =>
        obtain ⟨J, hk⟩ := hk
        obtain ⟨hb, hrest, hx⟩ := grd_spec hk
        simp only [Bool.and_eq_true] at hb
        obtain ⟨⟨hok, hdv⟩, hdl⟩ := hb
        refine wp_seq (wp_mono (ihx _ g A (freezeL ls L) h a w _ (H.freeze ls) F hx) fun e a' w' hr => ?_)
        cases e with
        | normal =>
          obtain ⟨g1, A1, L1, h1, F1, H1, T1, k1⟩ := hr
          obtain ⟨hb1, k1⟩ := grd_spec k1
          simp only [Bool.and_eq_true] at hb1
          obtain ⟨ys, j, hs, hj, hΦ⟩ := join_says k1 hrest
          obtain ⟨F2, H2, T2⟩ := rejoin F H F1 H1 T1 hok hb1.1 hb1.2 hdl (.inl rfl) hs
          exact wp_mono (ihy _ _ _ _ _ _ _ _ H2 F2 (hΦ _ hj)) fun e2 a2 w2 hr2 => Rel.after (fun i => memN_right) (T2.mono fun i => memN_left) hr2
        | exit id => exact Rel.after (fun i => memN_left) (Tr.refl _ _ _ _ _) (Rel.thawed H hr)
        | goto l => exact Rel.after (fun i => memN_left) (Tr.refl _ _ _ _ _) (Rel.thawed H hr)
        | ret => exact Rel.after (fun i => memN_left) (Tr.refl _ _ _ _ _) (Rel.thawed H hr)
        | panic ch => exact Rel.after (fun i => memN_left) (Tr.refl _ _ _ _ _) (Rel.thawed H hr)
        | outgrown => exact Rel.after (fun i => memN_left) (Tr.refl _ _ _ _ _) (Rel.thawed H hr)
  | loop x ih =>
    intro n g A L h a w K H F hk
    unfold den at hk
    cases hl : lkA an n with
    | none => rw [hl] at hk; exact False.elim hk
    | some an0 =>
      rw [hl] at hk
      cases an0 with
      | join vs ls => exact False.elim hk
      | order l => exact False.elim hk
      | jump l => exact False.elim hk
      | live m l => exact False.elim hk
      | loop vs ls =>
        obtain ⟨I, m, hk⟩ := hk
        obtain ⟨hb, hI, hbody⟩ := grd_spec hk
        simp only [Bool.and_eq_true] at hb
        obtain ⟨⟨hok, hdv⟩, hdl⟩ := hb
        let Φ : List AV → (Hp → Prop) → (Hp → Nat) → Prop := fun xs i u => ∀ h, i h →
            den P lo G V an x (2 * n) (backV (forgetE (writes x) A) vs xs) (backL (freezeL ls L) ls (xs.drop vs.length)) h fun e A' L' h' => match e with
              | .normal => grd (okL L' ls && sameT L L' ls) (appK (kindsOf vs ls) I (liveV A' vs ++ liveL L' ls) (fun j => j h') ∧ appK (kindsOf vs ls) m (liveV A' vs ++ liveL L' ls) fun q => q h' < u h)
              | e => K e A' (thaw L L') h'
        /- What holds at the head. -/
        let Hd : Nat → Act → World → Prop := fun k a1 w1 => ∃ (g1 : Nat → Nat) (A1 : Env) (L1 : List LE) (h1 : Hp) (i : Hp → Prop) (u : Hp → Nat), FO g1 A1 a1 ∧ HO fr g1 L1 h1 w1 ∧ Tr (writes x) g (freezeL ls L) a w g1 L1 a1 w1 ∧ i h1 ∧ u h1 = k ∧
          (∀ h, i h → den P lo G V an x (2 * n) A1 L1 h fun e A' L' h' => match e with
              | .normal => grd (okL L' ls && sameT L L' ls) (appK (kindsOf vs ls) I (liveV A' vs ++ liveL L' ls) (fun j => j h') ∧ appK (kindsOf vs ls) m (liveV A' vs ++ liveL L' ls) fun q => q h' < u h)
              | e => K e A' (thaw L L') h')
        have enter : ∀ (g0 : Nat → Nat) (A0 : Env) (L0 : List LE) (h0 : Hp) (a0 : Act) (w0 : World) (R : (Hp → Nat) → Prop), FO g0 A0 a0 → HO fr g0 L0 h0 w0 → Tr (writes x) g (freezeL ls L) a w g0 L0 a0 w0 → okL L0 ls = true → sameT L L0 ls = true →
            appK (kindsOf vs ls) I (liveV A0 vs ++ liveL L0 ls) (fun j => j h0) → appK (kindsOf vs ls) m (liveV A0 vs ++ liveL L0 ls) R → ∃ u : Hp → Nat, R u ∧ Hd (u h0) a0 w0 := by
          intro g0 A0 L0 h0 a0 w0 R F0 H0 T0 ho0 hs0 hi hm
          obtain ⟨ys, i, u, hs, hi', hu', hΦ⟩ := loop_says hi hm hbody
          obtain ⟨F2, H2, T2⟩ := rejoin F H F0 H0 T0 hok ho0 hs0 hdl (.inr rfl) hs
          exact ⟨u, hu', g0, _, _, h0, i, u, F2, H2, T2, hi', rfl, hΦ⟩
        obtain ⟨u0, _, hd0⟩ := enter g A (freezeL ls L) h a w (fun _ => True) F (H.freeze ls) (Tr.refl _ _ _ _ _) (okL_freeze (fun l h => h) hok) (sameT_freeze hok) (by rw [liveL_freeze]; exact hI) (by rw [liveL_freeze]; exact appK_any hI)
        refine wp_loop_ghost Hd _ hd0 (fun k a1 w1 hd => ?_)
        obtain ⟨g1, A1, L1, h1, i, u, F1, H1, T1, hi, hu, hden⟩ := hd
        refine wp_mono (ih _ g1 A1 L1 h1 a1 w1 _ H1 F1 (hden h1 hi)) fun e a' w' hr => ?_
        have out : ∀ {K2 : KS}, Rel (writes x) fr g1 L1 a1 w1 (fun A' L' h' => K2 A' (thaw L L') h') a' w' → Rel (writes x) fr g L a w K2 a' w' := fun hr => Rel.thawed H (Rel.after (fun i h => h) T1 hr)
        cases e with
        | normal =>
          obtain ⟨g2, A2, L2, h2, F2, H2, T2, k2⟩ := hr
          obtain ⟨hb2, hi2, hm2⟩ := grd_spec k2
          simp only [Bool.and_eq_true] at hb2
          obtain ⟨u2, hlt, hd2⟩ := enter g2 A2 L2 h2 a' w' (fun q => q h2 < u h1) F2 H2 (T1.trans T2) hb2.1 hb2.2 hi2 hm2
          exact ⟨u2 h2, by rw [← hu]; exact hlt, hd2⟩
        | exit id => exact out hr
        | goto l => exact out hr
        | ret => exact out hr
        | panic ch => exact out hr
        | outgrown => exact out hr
  | _ => exact fun n g A L h a w K H F hk => False.elim hk
/-- A scope. -/
theorem scope_ok (hG : GOk P G) (hV : VOk P V) (an : List (Nat × Ann)) {x r : Code} {l n m : Nat} (hf : findLabel x l = some r) {g : Nat → Nat} {A : Env} {L : List LE} {h : Hp} {a : Act} {w : World} {K : KC} {W : List Nat} (hW : ∀ i, memN i W = false → memN i (writes x ++ writes r) = false) (H : HO fr g L h w) (F : FO g A a)
    (hk : den P lo G V an x n A L h fun e A' L' h' => match e with
        | .goto l' => match l' == l with
          | true => den P lo G V an r m A' L' h' fun e A' L' h' => match e with
            | .goto _ => False
            | e => K e A' L' h'
          | false => False
        | e => K e A' L' h') : (Code.scope x).wp P (RelC W fr g L a w K) a w := by
  refine wp_scope_jumps l (fun a' w' => Rel (writes x) fr g L a w (fun A' L' h' => den P lo G V an r m A' L' h' fun e A' L' h' => match e with
            | .goto _ => False
            | e => K e A' L' h') a' w') (fun _ _ => 0) hf (wp_mono (den_ok hG hV an x n g A L h a w _ H F hk) fun e a' w' hr => ?_) (fun a' w' hj => ?_)
  · have hx : ∀ i, memN i W = false → memN i (writes x) = false := fun i hi => memN_left (hW i hi)
    cases e with
    | goto l' =>
      obtain ⟨g1, A1, L1, h1, F1, H1, T1, k1⟩ := hr
      dsimp only at k1
      cases hl : l' == l with
      | true => rw [hl] at k1; exact ⟨by simpa using hl, g1, A1, L1, h1, F1, H1, T1, k1⟩
      | false => rw [hl] at k1; exact k1.elim
    | normal => exact Rel.after hx (Tr.refl _ _ _ _ _) hr
    | exit id => exact Rel.after hx (Tr.refl _ _ _ _ _) hr
    | ret => exact Rel.after hx (Tr.refl _ _ _ _ _) hr
    | panic ch => exact Rel.after hx (Tr.refl _ _ _ _ _) hr
    | outgrown => exact Rel.after hx (Tr.refl _ _ _ _ _) hr
  · obtain ⟨g1, A1, L1, h1, F1, H1, T1, k1⟩ := hj
    have hx : ∀ i, memN i W = false → memN i (writes x) = false := fun i hi => memN_left (hW i hi)
    have hr' : ∀ i, memN i W = false → memN i (writes r) = false := fun i hi => memN_right (hW i hi)
    refine wp_mono (den_ok hG hV an r m g1 A1 L1 h1 a' w' _ H1 F1 k1) fun e a2 w2 hr2 => ?_
    cases e with
    | goto l' => obtain ⟨_, _, _, _, _, _, _, k⟩ := hr2; exact k.elim
    | normal => exact Rel.after hr' (T1.mono hx) hr2
    | exit id => exact Rel.after hr' (T1.mono hx) hr2
    | ret => exact Rel.after hr' (T1.mono hx) hr2
    | panic ch => exact Rel.after hr' (T1.mono hx) hr2
    | outgrown => exact Rel.after hr' (T1.mono hx) hr2
theorem denT_ok (hG : GOk P G) (hV : VOk P V) (an : List (Nat × Ann)) (c : Code) (n : Nat) (g : Nat → Nat) (A : Env) (L : List LE) (h : Hp) (a : Act) (w : World) (K : KC) (H : HO fr g L h w) (F : FO g A a)
    (hk : denT P lo G V an c n A L h K) : ∃ W, c.wp P (RelC W fr g L a w K) a w := by
  unfold denT at hk
  split at hk
  · rename_i x
    split at hk
    · split at hk
      · rename_i r hf
        exact ⟨_, scope_ok hG hV an hf (fun i hi => hi) H F hk⟩
      · exact hk.elim
    · exact hk.elim
  · rename_i x y
    cases hl : lkA an (2 * n + 1) with
    | none =>
      rw [hl] at hk
      refine ⟨writes x, wp_seq (wp_mono (den_ok hG hV an x _ g A L h a w _ H F hk) fun e a' w' hr => ?_)⟩
      cases e with
      | normal => obtain ⟨_, _, _, _, _, _, _, k⟩ := hr; exact k.elim
      | _ => exact hr
    | some q =>
      cases q with
      | jump l =>
        rw [hl] at hk
        dsimp only at hk
        cases hf : findLabel y l with
        | none =>
          rw [hf] at hk
          refine ⟨writes x, wp_seq (wp_mono (den_ok hG hV an x _ g A L h a w _ H F hk) fun e a' w' hr => ?_)⟩
          cases e with
          | normal => obtain ⟨_, _, _, _, _, _, _, k⟩ := hr; exact k.elim
          | _ => exact hr
        | some r =>
          rw [hf] at hk
          refine ⟨writes x ++ (writes y ++ writes r), wp_seq (wp_mono (den_ok hG hV an x _ g A L h a w _ H F hk) fun e a' w' hr => ?_)⟩
          cases e with
          | normal =>
            obtain ⟨g1, A1, L1, h1, F1, H1, T1, k1⟩ := hr
            exact wp_mono (scope_ok hG hV an hf (fun i hi => hi) H1 F1 k1) fun e2 a2 w2 hr2 => Rel.after (fun i => memN_right) (T1.mono fun i => memN_left) hr2
          | exit id => exact Rel.after (fun i => memN_left) (Tr.refl _ _ _ _ _) hr
          | goto l => exact Rel.after (fun i => memN_left) (Tr.refl _ _ _ _ _) hr
          | ret => exact Rel.after (fun i => memN_left) (Tr.refl _ _ _ _ _) hr
          | panic ch => exact Rel.after (fun i => memN_left) (Tr.refl _ _ _ _ _) hr
          | outgrown => exact Rel.after (fun i => memN_left) (Tr.refl _ _ _ _ _) hr
      | _ =>
        rw [hl] at hk
        refine ⟨writes x, wp_seq (wp_mono (den_ok hG hV an x _ g A L h a w _ H F hk) fun e a' w' hr => ?_)⟩
        cases e with
        | normal => obtain ⟨_, _, _, _, _, _, _, k⟩ := hr; exact k.elim
        | _ => exact hr
  · exact ⟨_, den_ok hG hV an _ n g A L h a w K H F hk⟩

/-! ### A call -/
def resSem (tmps : Array Value) : ResultVar → Sem Value
  | .tmp t => pure (tmps.getD t undef)
  | .cell q t => do loadVar t (← asAddr (tmps.getD q undef))
theorem results_eq (fn : Func) (tmps : Array Value) : results fn tmps = (do let vs ← fn.results.mapM (resSem tmps); pure (if h : vs.size = 1 then vs[0] else .tuple vs)) := by
  unfold results
  congr 1
theorem run_resOne {g : Nat → Nat} {A : Env} {L : List LE} {h : Hp} {a : Act} {w : World} (F : FO g A a) (H : HO fr g L h w) {r : ResultVar} {K : Value → Prop} (hk : resOne P A L r K) :
    ∃ v, (resSem a.tmps r).run P w = .ok v w ∧ K v := by
  cases r with
  | tmp t => exact ⟨_, by simp only [resSem, Sem.run_pure], AV.is_get (F.at_ t) hk⟩
  | cell q t =>
    unfold resOne at hk
    obtain ⟨hb, hk⟩ := grd_spec hk
    simp only [Bool.and_eq_true] at hb
    have hq := F.at_ q
    cases hx : getE A q with
    | loc l off =>
      rw [hx] at hk hq
      have hqe : a.tmps.getD q undef = .pointer (some ⟨g l, off, none⟩) := hq
      dsimp only at hk
      have hl : dLoad P t (.loc l off) L h (fun x L' h' => x.get K) := by
        unfold dLoad
        rw [hb.1, hb.2]
        show (match findL L l with
          | some e => match isAggB P t with
            | true => grd (lenB (takeN e.cs off (P.cellsOf t)) (P.cellsOf t)) (getAll (takeN e.cs off (P.cellsOf t)) fun vs => K (.agg ⟨vs⟩))
            | false => grd (Nat.blt off e.cs.length) ((getN e.cs off).get K)
          | none => False)
        cases hf : findL L l with
        | none => rw [hf] at hk; exact False.elim hk
        | some e =>
          rw [hf] at hk
          dsimp only at hk ⊢
          cases ha : isAggB P t with
          | true => rw [ha] at hk; exact hk
          | false =>
            rw [ha] at hk
            dsimp only at hk ⊢
            by_cases hlt : off < e.cs.length
            · have : Nat.blt off e.cs.length = true := by rw [Nat.blt_eq]; exact hlt
              rw [this]; exact hk
            · have : getN e.cs off = .unk := by rw [getN_eq, List.getElem?_eq_none (by omega)]; rfl
              rw [this] at hk; exact False.elim hk
      have hy : AV.is g (.loc l off) (.pointer (some ⟨g l, off, none⟩)) := rfl
      obtain ⟨x, v, hr, hx', hK⟩ := load_okQ H hl hy
      refine ⟨v, ?_, AV.is_get hx' hK⟩
      simp only [resSem, hqe, asAddr, Sem.run_bind, Sem.run_pure, Result.andThen_ok]
      simpa [Instr.loadAt, Instr.sureAddr] using hr
    | _ => rw [hx] at hk; exact False.elim hk
theorem run_resAll {g : Nat → Nat} {A : Env} {L : List LE} {h : Hp} {a : Act} {w : World} (F : FO g A a) (H : HO fr g L h w) : ∀ {rs : List ResultVar} {K : List Value → Prop}, resAll P A L rs K →
    ∃ vs, (rs.mapM (m := Sem) (resSem a.tmps)).run P w = .ok vs w ∧ K vs
  | [], K, hk => ⟨[], by simp, hk⟩
  | r :: rs, K, hk => by
    obtain ⟨v, hr, hk⟩ := run_resOne F H hk
    obtain ⟨vs, hrs, hK⟩ := run_resAll F H hk
    refine ⟨v :: vs, ?_, hK⟩
    rw [List.mapM_cons]
    simp only [Sem.run_bind]
    rw [hr]
    simp only [Result.andThen_ok, Sem.run_bind]
    rw [hrs]
    simp only [Result.andThen_ok, Sem.run_pure]
theorem run_results {g : Nat → Nat} {A : Env} {L : List LE} {h : Hp} {a : Act} {w : World} (F : FO g A a) (H : HO fr g L h w) {fn : Func} {K : Value → Prop} (hk : resD P A L fn.results.toList K) :
    ∃ v, (results fn a.tmps).run P w = .ok v w ∧ K v := by
  obtain ⟨vs, hr, hk⟩ := run_resAll F H hk
  have hm : (fn.results.mapM (m := Sem) (resSem a.tmps)).run P w = .ok vs.toArray w := by
    rw [Array.mapM_eq_mapM_toList]
    simp only [Sem.run_map, hr, Result.andThen_ok]
  have hres : ∀ us : List Value, us = vs → ∀ v, (if h : us.toArray.size = 1 then us.toArray[0] else .tuple us.toArray) = v → (results fn a.tmps).run P w = .ok v w := by
    intro us hu v hv
    subst hu
    rw [results_eq]
    simp only [Sem.run_bind]
    rw [hm]
    simp only [Result.andThen_ok, Sem.run_pure]
    rw [← hv]
  match vs, hk, hres with
  | [v], hk, hres => exact ⟨v, hres _ rfl v rfl, hk⟩
  | [], hk, hres => exact ⟨_, hres _ rfl _ rfl, hk⟩
  | x :: y :: zs, hk, hres => exact ⟨.tuple (x :: y :: zs).toArray, hres _ rfl _ (by rw [dif_neg (by simp)]), hk⟩
/-- WHAT A FUNCTION DENOTES COMES ABOUT. -/
theorem denF_ok (hG : GOk P G) (hV : VOk P V) {an : List (Nat × Ann)} {f : Nat} {fn : Func} {args : List AV} {vs : List Value} (hf : P.funcs[f]? = some fn) (ha : inStep (fun _ => 0) args vs) (hpl : ∀ x ∈ args, x.plain = true) {T : PT} (hT : ∀ h Q, T h Q → denF P lo G V an fn args h Q) : Impl P f vs T := by
  intro h Q hq fr w O
  have hd := hT h Q hq
  unfold denF at hd
  cases hb : fn.body with
  | none => rw [hb] at hd; exact False.elim hd
  | some c =>
    rw [hb] at hd
    dsimp only at hd
    have hW := denT_ok (fr := fr) hG hV an c 1 (fun _ => 0) _ [] h { tmps := vs.toArray ++ Array.replicate (fn.ntmps - vs.toArray.size) undef, defers := [] } w _ ⟨O.hh, O.ff, O.dj, fun e he => (by simp at he), List.Pairwise.nil⟩ ?_ hd
    obtain ⟨W, hW⟩ := hW
    refine calls_of_wp hf hb (wp_mono hW fun e a' w' hr => ?_)
    rotate_left
    · refine ⟨?_, fun i => ?_, rfl⟩
      · simp only [initA, Array.size_append, Array.size_replicate, List.size_toArray, ha.1]
      · have hnum : ∀ (xs : List AV) (k i : Nat), look (numL k xs) i = if k ≤ i then getN xs (i - k) else .unk := by
          intro xs
          induction xs with
          | nil => intro k i; simp [numL, look, getN]
          | cons x xs ih =>
            intro k i
            simp only [numL, look]
            cases he : Nat.beq k i with
            | true => have := Nat.eq_of_beq_eq_true he; subst this; simp [getN]
            | false =>
              have hne := Nat.ne_of_beq_eq_false he
              dsimp only
              rw [ih]
              by_cases hk : k ≤ i
              · rw [if_pos hk, if_pos (by omega), show i - k = (i - (k + 1)) + 1 by omega]
                rfl
              · rw [if_neg hk, if_neg (by omega)]
        have hga : getE (initA args fn.ntmps) i = if i < args.length then getN args i else .unk := by
          show (match Nat.blt i (args.length + (fn.ntmps - args.length)) with | true => look (numL 0 args) i | false => .unk) = _
          rw [hnum, if_pos (Nat.zero_le i), Nat.sub_zero]
          have hout : ¬ i < args.length → getN args i = .unk := fun hi => by rw [getN_eq, List.getElem?_eq_none (by omega)]; rfl
          by_cases hi : i < args.length
          · rw [if_pos hi, show Nat.blt i (args.length + (fn.ntmps - args.length)) = true by rw [Nat.blt_eq]; omega]
          · rw [if_neg hi, hout hi]
            cases Nat.blt i (args.length + (fn.ntmps - args.length)) <;> rfl
        rw [hga]
        by_cases hi : i < args.length
        · rw [if_pos hi]
          have h1 := ha.2 i hi
          have hlt : i < vs.length := by rw [ha.1]; exact hi
          have : (vs.toArray ++ Array.replicate (fn.ntmps - vs.toArray.size) undef).getD i undef = vs.getD i undef := by
            simp [Array.getElem?_append, hlt]
          rw [this]
          exact h1
        · rw [if_neg hi]; trivial
    · obtain ⟨g', A', L', h', F', H', T', k⟩ := hr
      cases e with
      | normal =>
        obtain ⟨v, hv, hK⟩ := run_results F' H' k
        exact ⟨F'.df, v, hv, v, h', rfl, ⟨H'.hh, H'.ff, H'.dj⟩, T'.wr, hK⟩
      | ret =>
        obtain ⟨v, hv, hK⟩ := run_results F' H' k
        exact ⟨F'.df, v, hv, v, h', rfl, ⟨H'.hh, H'.ff, H'.dj⟩, T'.wr, hK⟩
      | _ => exact False.elim k
end
end Go.Eng
