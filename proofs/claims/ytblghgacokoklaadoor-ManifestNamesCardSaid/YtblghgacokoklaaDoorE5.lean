/-
  THE ENGINE, 6: what makes memory: boxes, blocks, slices.
-/
import Derived.Test.YtblghgacokoklaaDoorE4
set_option linter.unusedSimpArgs false
set_option linter.unusedVariables false
namespace Go.Eng
/-- A new block. -/
structure New (w w1 : World) (o : Obj) : Prop where
  at_ : w1.heap[w.heap.size]? = some o
  old : ∀ k, k < w.heap.size → w1.heap[k]? = w.heap[k]?
  size : w1.heap.size = w.heap.size + 1
  os : w1.os = w.os
  tape : w1.tape = w.tape
  output : w1.output = w.output
theorem New.wr {w w1 : World} {o : Obj} (h : New w w1 o) : Wr w w1 := ⟨h.os, h.tape, h.output, by rw [h.size]; omega⟩
theorem New.push (w : World) (o : Obj) (n : Nat) : New w { w with heap := w.heap.push o, drawn := n } o :=
  ⟨by simp, fun k hk => by show (w.heap.push o)[k]? = _; rw [Array.getElem?_push, if_neg (by omega)], by simp, rfl, rfl, rfl⟩
def updG (g : Nat → Nat) (l b : Nat) : Nat → Nat := fun k => if k = l then b else g k
section
variable {P : Program} {lo : List Nat} {fr : Hp} {g : Nat → Nat} {L : List LE} {h : Hp} {w : World} {K : KO}
theorem HO.none_h (H : HO fr g L h w) {k : Nat} (hk : w.heap.size ≤ k) : h k = none := by
  cases hb : h k with
  | none => rfl
  | some o => have := H.hh k o hb; rw [Array.getElem?_eq_none hk] at this; cases this
theorem HO.none_f (H : HO fr g L h w) {k : Nat} (hk : w.heap.size ≤ k) : fr k = none := by
  cases hb : fr k with
  | none => rfl
  | some o => have := H.ff k o hb; rw [Array.getElem?_eq_none hk] at this; cases this
theorem HO.lt_h (H : HO fr g L h w) {k : Nat} {o : Obj} (hk : h k = some o) : k < w.heap.size := (Array.getElem?_eq_some_iff.1 (H.hh k o hk)).1
theorem HO.lt_f (H : HO fr g L h w) {k : Nat} {o : Obj} (hk : fr k = some o) : k < w.heap.size := (Array.getElem?_eq_some_iff.1 (H.ff k o hk)).1
theorem LEok.lt {e : LE} {cs : Array Value} (q : LEok fr g h w e cs) : g e.l < w.heap.size := (Array.getElem?_eq_some_iff.1 q.at_).1
theorem HO.new_heap {w1 : World} {o : Obj} (H : HO fr g L h w) (hn : New w w1 o) : HO fr g L (h.new w.heap.size o) w1 := by
  refine ⟨fun k x hk => ?_, fun k x hk => ?_, fun k => ?_, fun e he => ?_, H.uq⟩
  · unfold Hp.new at hk
    by_cases hkb : k = w.heap.size
    · subst hkb; rw [if_pos rfl] at hk; rw [← hk]; exact hn.at_
    · rw [if_neg hkb] at hk; rw [hn.old k (H.lt_h hk)]; exact H.hh k x hk
  · rw [hn.old k (H.lt_f hk)]; exact H.ff k x hk
  · unfold Hp.new
    by_cases hkb : k = w.heap.size
    · exact .inr (H.none_f (by omega))
    · rw [if_neg hkb]; exact H.dj k
  · obtain ⟨cs, q⟩ := H.ll e he
    have hlt := q.lt
    exact ⟨cs, ⟨by rw [hn.old _ hlt]; exact q.at_, q.sz, q.is_, q.pl, by unfold Hp.new; rw [if_neg (by omega)]; exact q.nh, q.nf⟩⟩
theorem delL_mem {L : List LE} {l : Nat} {e : LE} (hu : L.Pairwise (fun e e' => e.l ≠ e'.l ∧ g e.l ≠ g e'.l)) (h : e ∈ delL L l) : e ∈ L ∧ e.l ≠ l := by
  induction L with
  | nil => simp [delL] at h
  | cons x L ih =>
    obtain ⟨hx, hL⟩ := List.pairwise_cons.1 hu
    simp only [delL] at h
    cases hxl : x.l == l with
    | true =>
      rw [hxl] at h
      have hxl' : x.l = l := by simpa using hxl
      exact ⟨List.mem_cons_of_mem _ h, fun e1 => (hx e h).1 (hxl'.trans e1.symm)⟩
    | false =>
      rw [hxl] at h
      have hxl' : x.l ≠ l := by simpa using hxl
      rcases List.mem_cons.1 h with rfl | h
      · exact ⟨List.mem_cons_self, hxl'⟩
      · exact ⟨List.mem_cons_of_mem _ (ih hL h).1, (ih hL h).2⟩
theorem delL_keep {L : List LE} {l : Nat} {e : LE} (h : e ∈ L) (hl : e.l ≠ l) : e ∈ delL L l := by
  induction L with
  | nil => cases h
  | cons x L ih =>
    simp only [delL]
    cases hxl : x.l == l with
    | true =>
      have hxl' : x.l = l := by simpa using hxl
      rcases List.mem_cons.1 h with rfl | h
      · exact absurd hxl' hl
      · exact h
    | false =>
      rcases List.mem_cons.1 h with rfl | h
      · exact List.mem_cons_self
      · exact List.mem_cons_of_mem _ (ih h)
theorem delL_sub {L : List LE} {l : Nat} : (delL L l).Sublist L := by
  induction L with
  | nil => exact List.Sublist.refl _
  | cons x L ih =>
    simp only [delL]
    cases hxl : x.l == l with
    | true => exact List.sublist_cons_self _ _
    | false => exact ih.cons_cons _
theorem findL_none {L : List LE} {l : Nat} (h : findL L l = none) : ∀ e ∈ L, e.l ≠ l := by
  induction L with
  | nil => intro e he; cases he
  | cons x L ih =>
    simp only [findL] at h
    intro e he
    cases hxl : x.l == l with
    | true => rw [hxl] at h; cases h
    | false =>
      rw [hxl] at h
      rcases List.mem_cons.1 he with rfl | he
      · simpa using hxl
      · exact ih h e he
/-- A new box of the call's own. -/
theorem HO.new_loc {w1 : World} {d t : Nat} {cs : Array Value} {xs : List AV} (H : HO fr g L h w) (hn : New w w1 (.cells cs t (0, 0)))
    (hsz : cs.size = xs.length) (his : ∀ g i, i < xs.length → (getN xs i).is g (cs.getD i undef)) (hpl : ∀ x ∈ xs, x.plain = true) :
    HO fr (updG g d w.heap.size) (⟨d, true, t, xs⟩ :: delL L d) h w1 := by
  have hgd : updG g d w.heap.size d = w.heap.size := by simp [updG]
  have hgo : ∀ e ∈ delL L d, updG g d w.heap.size e.l = g e.l := fun e he => by simp [updG, (delL_mem H.uq he).2]
  refine ⟨fun k x hk => ?_, fun k x hk => ?_, H.dj, fun e he => ?_, ?_⟩
  · rw [hn.old k (H.lt_h hk)]; exact H.hh k x hk
  · rw [hn.old k (H.lt_f hk)]; exact H.ff k x hk
  · rcases List.mem_cons.1 he with rfl | he
    · exact ⟨cs, ⟨by rw [hgd]; exact hn.at_, hsz, his _, hpl, by rw [hgd]; exact H.none_h (Nat.le_refl _), by rw [hgd]; exact H.none_f (Nat.le_refl _)⟩⟩
    · obtain ⟨c, q⟩ := H.ll e (delL_mem H.uq he).1
      have hge := hgo e he
      refine ⟨c, ⟨by rw [hge, hn.old _ q.lt]; exact q.at_, q.sz, fun i hi => ?_, q.pl, by rw [hge]; exact q.nh, by rw [hge]; exact q.nf⟩⟩
      have hp : (getN e.cs i).plain = true := by rw [getN_eq, List.getElem?_eq_getElem hi]; exact q.pl _ (List.getElem_mem _)
      exact AV.is_plain hp (q.is_ i hi)
  · refine List.pairwise_cons.2 ⟨fun e he => ⟨(delL_mem H.uq he).2.symm, ?_⟩, ?_⟩
    · show updG g d w.heap.size d ≠ _
      rw [hgd, hgo e he]
      obtain ⟨c, q⟩ := H.ll e (delL_mem H.uq he).1
      have := q.lt
      omega
    · have h1 : (delL L d).Pairwise (fun e e' => e.l ≠ e'.l ∧ g e.l ≠ g e'.l) := H.uq.sublist delL_sub
      refine h1.imp_of_mem ?_
      intro a b ha hb hab
      exact ⟨hab.1, by rw [hgo a ha, hgo b hb]; exact hab.2⟩
theorem killA_is {d b : Nat} {x : AV} {v : Value} (h : x.is g v) : (x.kill [d]).is (updG g d b) v := by
  cases x with
  | loc l o =>
    show AV.is _ (match memN l [d] with | true => .unk | false => .loc l o) v
    cases hm : memN l [d] with
    | true => trivial
    | false =>
      have : l ≠ d := fun e => by subst e; simp [memN] at hm
      show v = _
      rw [show v = .pointer (some ⟨g l, o, none⟩) from h]
      simp [updG, this]
  | sl l n =>
    show AV.is _ (match memN l [d] with | true => .unk | false => .sl l n) v
    cases hm : memN l [d] with
    | true => trivial
    | false =>
      have : l ≠ d := fun e => by subst e; simp [memN] at hm
      show v = _
      rw [show v = .slice (some ⟨g l, 0, none⟩) n n from h]
      simp [updG, this]
  | _ => exact h
theorem kill_look (W : List Nat) : ∀ (l : List (Nat × AV)) (i : Nat), look (killL W l) i = (look l i).kill W
  | [], _ => rfl
  | (j, x) :: l, i => by
    simp only [killL, look]
    cases Nat.beq j i with
    | true => rfl
    | false => exact kill_look W l i
theorem kill_getE (W : List Nat) (A : Env) (i : Nat) : getE (killE W A) i = (getE A i).kill W := by
  show (match Nat.blt i A.n with | true => look (killL W A.l) i | false => .unk) = (match Nat.blt i A.n with | true => look A.l i | false => AV.unk).kill W
  cases Nat.blt i A.n with
  | true => exact kill_look W A.l i
  | false => rfl
theorem FO.killA {A : Env} {a : Act} (h : FO g A a) (d b : Nat) : FO (updG g d b) (killE [d] A) a := by
  refine ⟨h.len, fun i => ?_, h.df⟩
  rw [kill_getE]
  exact killA_is (h.at_ i)

/-- An outcome; a box of the call's own may be new. -/
def OutN (lo : List Nat) (fr : Hp) (g : Nat → Nat) (L : List LE) (w : World) (d : Option Nat) (r : Result Value) (K : KO) : Prop :=
  ∃ x L' h' v w' g', r = .ok v w' ∧ x.is g' v ∧ HO fr g' L' h' w' ∧ Wr w w' ∧ Kp L L' ∧ K x L' h' ∧
    ((g' = g ∧ ∀ l, d = some l → memN l lo = false) ∨ ∃ l b, d = some l ∧ memN l lo = true ∧ g' = updG g l b)
theorem Kp_del {L : List LE} {d : Nat} {e0 : LE} (hu : L.Pairwise (fun e e' => e.l ≠ e'.l ∧ g e.l ≠ g e'.l)) (hf : findL L d = some e0) (hm : e0.m = true) (x : LE) : Kp L (x :: delL L d) := by
  intro e he hem
  refine List.mem_cons_of_mem _ (delL_keep he fun q => ?_)
  obtain ⟨h1, h2⟩ := findL_mem hf
  have := uq_eq hu e he e0 h1 (q.trans h2.symm)
  subst this
  rw [hm] at hem; cases hem
theorem delL_none {L : List LE} {d : Nat} (h : findL L d = none) : delL L d = L := by
  induction L with
  | nil => rfl
  | cons x L ih =>
    simp only [findL] at h
    simp only [delL]
    cases hxl : x.l == d with
    | true => rw [hxl] at h; cases h
    | false => rw [hxl] at h; simp only; rw [ih h]
theorem allPlain_spec {cs : List AV} (h : allPlain cs = true) : ∀ x ∈ cs, x.plain = true := by
  unfold allPlain at h
  exact List.all_eq_true.1 h
/-- Plain cells say what lies there. -/
theorem plain_vals : ∀ {cs : List AV}, (∀ x ∈ cs, x.plain = true) → ∃ vs : List Value, vs.length = cs.length ∧ ∀ g i, i < cs.length → (getN cs i).is g (vs.getD i undef)
  | [], _ => ⟨[], rfl, fun g i hi => by simp at hi⟩
  | x :: cs, h => by
    obtain ⟨vs, hl, hat⟩ := plain_vals (cs := cs) (fun y hy => h y (List.mem_cons_of_mem _ hy))
    have hx : ∃ v, ∀ g, x.is g v := by
      have := h x List.mem_cons_self
      cases x with
      | v x => exact ⟨x, fun _ => rfl⟩
      | p b o => exact ⟨_, fun _ => rfl⟩
      | f x => exact ⟨x, fun _ => rfl⟩
      | _ => cases this
    obtain ⟨v, hv⟩ := hx
    refine ⟨v :: vs, by simp [hl], fun g i hi => ?_⟩
    cases i with
    | zero => exact hv g
    | succ i => exact hat g i (by simpa using hi)
/-- What 'dNew' says, of a row of cells that is made. -/
theorem new_ok (H : HO fr g L h w) {d : Option Nat} {t : Nat} {cs : List AV} {us : List Value} {s : Sem Value} (hk : dNew lo d t cs L h K)
    (hul : us.length = cs.length) (hu : ∀ i, i < cs.length → (getN cs i).is g (us.getD i undef))
    (hrun : ∃ n, s.run P w = .ok (.pointer (some ⟨w.heap.size, 0, none⟩)) { w with heap := w.heap.push (.cells us.toArray t (0, 0)), drawn := n }) : OutN lo fr g L w d (s.run P w) K := by
  obtain ⟨n, hrun⟩ := hrun
  have hn := New.push w (.cells us.toArray t (0, 0)) n
  unfold dNew at hk
  cases d with
  | none => exact False.elim hk
  | some d =>
    dsimp only at hk
    cases hm : memN d lo with
    | true =>
      rw [hm] at hk
      dsimp only at hk
      have hq := grd_spec hk
      clear hk
      obtain ⟨hp, hk⟩ := hq
      have hp := allPlain_spec hp
      obtain ⟨vs, hvl, hat⟩ := plain_vals hp
      have : us = vs := lists_eq hp hul hvl hu (hat g)
      subst this
      have HN := HO.new_loc (d := d) H hn (xs := cs) (by simpa using hul) (fun g i hi => by simpa using hat g i hi) hp
      cases hf : findL L d with
      | none =>
        rw [hf] at hk
        refine ⟨.loc d 0, ⟨d, true, t, cs⟩ :: L, h, _, _, updG g d w.heap.size, hrun, ?_, ?_, hn.wr, fun e he _ => List.mem_cons_of_mem _ he, hk, .inr ⟨d, _, rfl, hm, rfl⟩⟩
        · show _ = _; simp [updG]
        · rw [delL_none hf] at HN; exact HN
      | some e =>
        rw [hf] at hk
        dsimp only at hk
        have hq := grd_spec hk
        clear hk
        obtain ⟨hem, hk⟩ := hq
        refine ⟨.loc d 0, ⟨d, true, t, cs⟩ :: delL L d, h, _, _, updG g d w.heap.size, hrun, ?_, HN, hn.wr, Kp_del H.uq hf hem _, hk, .inr ⟨d, _, rfl, hm, rfl⟩⟩
        show _ = _; simp [updG]
    | false =>
      rw [hm] at hk
      dsimp only at hk
      obtain ⟨vs, hvl, hat, hpl, hk⟩ := getAll_spec hk
      have : us = vs := lists_eq hpl hul hvl hu (hat g)
      subst this
      exact ⟨.p w.heap.size 0, L, _, _, _, g, hrun, rfl, HO.new_heap H hn, hn.wr, Kp.refl L, hk _ (H.none_h (Nat.le_refl _)), .inl ⟨rfl, fun l hl => by cases hl; exact hm⟩⟩
theorem box_ok (H : HO fr g L h w) {d : Option Nat} {t : Nat} {x : AV} {y : Value} (hk : dBox P lo d t x L h K) (hx : x.is g y) : OutN lo fr g L w d ((Instr.box t y).run P w) K := by
  unfold dBox at hk
  obtain ⟨cs, hcl, hcs, hk⟩ := cellsV_spec hk hx
  refine new_ok H hk hcl hcs ⟨w.drawn, ?_⟩
  simp [Instr.box, newVar, newRow, newObj, Sem.run]
theorem alloc_ok (H : HO fr g L h w) {d : Option Nat} {t : Nat} (hk : dAlloc P lo d t L h K) : OutN lo fr g L w d ((Instr.alloc t true (.tuple #[])).run P w) K := by
  unfold dAlloc at hk
  cases hz : zeroOf P t with
  | none => rw [hz] at hk; exact False.elim hk
  | some z =>
    rw [hz] at hk
    obtain ⟨v, hr, hc⟩ := run_zero hz w
    refine new_ok (us := z) H hk (by simp) (fun i hi => ?_) ⟨w.drawn, ?_⟩
    · have hi' : i < z.length := by simpa using hi
      rw [getN_eq, List.getElem?_map, List.getElem?_eq_getElem hi']
      show _ = _
      simp [List.getD_eq_getElem?_getD, List.getElem?_eq_getElem hi']
    · unfold Instr.alloc
      simp [Sem.run_bind, hr, newVar, newRow, newObj, hc, Sem.run]
end
end Go.Eng
