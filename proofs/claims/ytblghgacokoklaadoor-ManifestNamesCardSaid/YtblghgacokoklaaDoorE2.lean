/-
  THE ENGINE, 3: what a frame, boxes and an owned part of the heap say of the machine's own; loads, stores.
-/
import Derived.Test.YtblghgacokoklaaDoorE1
import Derived.RowKit3
import Derived.Laws.Cells
import Derived.Laws.Slices
import Derived.Laws.BytesArg
set_option linter.unusedSimpArgs false
set_option linter.unusedVariables false
namespace Go.Eng

/-! ### 1. Slots -/
def AV.is (g : Nat → Nat) : AV → Value → Prop
  | .unk, _ => True
  | .v x, y => y = x
  | .p b o, y => y = .pointer (some ⟨b, o, none⟩)
  | .loc l o, y => y = .pointer (some ⟨g l, o, none⟩)
  | .sl l n, y => y = .slice (some ⟨g l, 0, none⟩) n n
  | .f x, y => y = x
theorem AV.is_plain {g g' : Nat → Nat} {x : AV} {y : Value} (hp : x.plain = true) (h : x.is g y) : x.is g' y := by
  cases x <;> first | exact h | cases hp
theorem AV.is_get {g : Nat → Nat} {x : AV} {y : Value} {K : Value → Prop} (h : x.is g y) (hk : x.get K) : K y := by
  cases x with
  | v x => have h' : y = x := h; rw [h']; exact hk
  | p b o => have h' : y = _ := h; rw [h']; exact hk
  | f x => have h' : y = x := h; rw [h']; exact hk
  | _ => exact False.elim hk
theorem AV.get_plain {x : AV} {K : Value → Prop} (hk : x.get K) : ∃ v, (∀ g, x.is g v) ∧ K v ∧ x.plain = true := by
  cases x with
  | v x => exact ⟨_, fun _ => rfl, hk, rfl⟩
  | p b o => exact ⟨_, fun _ => rfl, hk, rfl⟩
  | f x => exact ⟨_, fun _ => rfl, hk, rfl⟩
  | _ => exact False.elim hk

structure FO (g : Nat → Nat) (A : Env) (a : Act) : Prop where
  len : A.n = a.tmps.size
  at_ : ∀ i, (getE A i).is g (a.tmps.getD i undef)
  df : a.defers = []
structure LEok (fr : Hp) (g : Nat → Nat) (h : Hp) (w : World) (e : LE) (cs : Array Value) : Prop where
  at_ : w.heap[g e.l]? = some (.cells cs e.t (0, 0))
  sz : cs.size = e.cs.length
  is_ : ∀ i, i < e.cs.length → (getN e.cs i).is g (cs.getD i undef)
  pl : ∀ x ∈ e.cs, x.plain = true
  nh : h (g e.l) = none
  nf : fr (g e.l) = none
structure HO (fr : Hp) (g : Nat → Nat) (L : List LE) (h : Hp) (w : World) : Prop where
  hh : ∀ b o, h b = some o → w.heap[b]? = some o
  ff : ∀ b o, fr b = some o → w.heap[b]? = some o
  dj : ∀ b, h b = none ∨ fr b = none
  ll : ∀ e ∈ L, ∃ cs, LEok fr g h w e cs
  uq : L.Pairwise (fun e e' => e.l ≠ e'.l ∧ g e.l ≠ g e'.l)
structure Wr (w w' : World) : Prop where
  os : w'.os = w.os
  tape : w'.tape = w.tape
  output : w'.output = w.output
  size : w.heap.size ≤ w'.heap.size
theorem Wr.refl (w : World) : Wr w w := ⟨rfl, rfl, rfl, Nat.le_refl _⟩
theorem Wr.trans {a b c : World} (h : Wr a b) (k : Wr b c) : Wr a c := ⟨k.os.trans h.os, k.tape.trans h.tape, k.output.trans h.output, Nat.le_trans h.size k.size⟩
def Kp (L L' : List LE) : Prop := ∀ e ∈ L, e.m = false → e ∈ L'
theorem Kp.refl (L : List LE) : Kp L L := fun _ h _ => h
theorem Kp.trans {a b c : List LE} (h : Kp a b) (k : Kp b c) : Kp a c := fun e he hm => k e (h e he hm) hm

theorem getN_eq (A : List AV) (i : Nat) : getN A i = (A[i]?).getD .unk := by
  induction A generalizing i with
  | nil => rfl
  | cons x A ih => cases i with
    | zero => rfl
    | succ i => simp only [getN, ih, List.getElem?_cons_succ]
theorem getE_put (A : Env) (i j : Nat) (x : AV) : getE (putE A i x) j = if i = j ∧ i < A.n then x else getE A j := by
  unfold getE
  show (match Nat.blt j A.n with | true => look ((i, x) :: A.l) j | false => .unk) = _
  cases hb : Nat.blt j A.n with
  | true =>
    have hj : j < A.n := by rw [← Nat.blt_eq]; exact hb
    show (match Nat.beq i j with | true => x | false => look A.l j) = _
    cases he : Nat.beq i j with
    | true => have := Nat.eq_of_beq_eq_true he; subst this; rw [if_pos ⟨rfl, hj⟩]
    | false => rw [if_neg (fun q : i = j ∧ i < A.n => Nat.ne_of_beq_eq_false he q.1)]
  | false =>
    have hj : ¬ j < A.n := by rw [← Nat.blt_eq, hb]; exact Bool.false_ne_true
    rw [if_neg (fun q : i = j ∧ i < A.n => hj (q.1 ▸ q.2))]
theorem memN_iff {i : Nat} {l : List Nat} : memN i l = true ↔ i ∈ l := by
  induction l with
  | nil => simp [memN]
  | cons j l ih => simp [memN, ih]
theorem ev_is {g : Nat → Nat} {A : Env} {a : Act} (h : FO g A a) (x : Operand) : (ev A x).is g (a.eval x) := by
  cases x with
  | tmp t => exact h.at_ t
  | const v => rfl
  | global n => rfl
  | func f => rfl
theorem FO.put {g : Nat → Nat} {A : Env} {a : Act} (h : FO g A a) (d : Option Nat) {x : AV} {v : Value} (hx : x.is g v) : FO g (putD A d x) (a.put d v) := by
  cases d with
  | none => exact h
  | some d =>
    refine ⟨?_, fun i => ?_, h.df⟩
    · show A.n = (a.tmps.setIfInBounds d v).size
      rw [Array.size_setIfInBounds]; exact h.len
    · show (getE (putE A d x) i).is g ((a.tmps.setIfInBounds d v).getD i undef)
      rw [getE_put]
      by_cases hd : d = i ∧ d < A.n
      · rw [if_pos hd]
        obtain ⟨rfl, hl⟩ := hd
        have hl' : d < a.tmps.size := by rw [← h.len]; exact hl
        simpa [hl'] using hx
      · rw [if_neg hd]
        have : (a.tmps.setIfInBounds d v).getD i undef = a.tmps.getD i undef := by
          by_cases hdi : d = i
          · subst hdi
            have hl' : ¬ d < a.tmps.size := by rw [← h.len]; exact fun hl => hd ⟨rfl, hl⟩
            simp [hl']
          · simp [Array.getElem?_setIfInBounds_ne hdi]
        rw [this]
        exact h.at_ i
theorem findL_mem {L : List LE} {l : Nat} {e : LE} (h : findL L l = some e) : e ∈ L ∧ e.l = l := by
  induction L with
  | nil => cases h
  | cons x L ih =>
    simp only [findL] at h
    cases hx : x.l == l with
    | true => rw [hx] at h; simp only at h; cases h; exact ⟨List.mem_cons_self, by simpa using hx⟩
    | false => rw [hx] at h; exact ⟨List.mem_cons_of_mem _ (ih h).1, (ih h).2⟩

/-! ### 2. Runs of what reads types -/
section
variable {P : Program}
theorem under_some {t : Nat} {d : TypeDesc} (h : under P t = d) (hd : d ≠ .invalid) : P.underlying t = some d := by
  unfold under at h
  cases hu : P.underlying t with
  | none => rw [hu] at h; exact absurd h.symm hd
  | some x => rw [hu] at h; exact congrArg some h
theorem hasInfo_some {t : Nat} (h : hasInfo P t = true) : ∃ i, P.info? t = some i ∧ P.cellsOf t = i.size := by
  unfold hasInfo at h
  cases hi : P.info? t with
  | none => rw [hi] at h; cases h
  | some i => exact ⟨i, rfl, by simp [Program.cellsOf, hi]⟩
theorem run_sizeOf' {t : Nat} (h : hasInfo P t = true) (w : World) : (sizeOf t).run P w = .ok (P.cellsOf t) w := by
  obtain ⟨i, hi, hs⟩ := hasInfo_some h
  simp [sizeOf, typeInfo, hi, hs]
theorem hasUnder_some {t : Nat} (h : hasUnder P t = true) : P.underlying t = some (under P t) := by
  unfold hasUnder at h
  unfold under
  cases hu : P.underlying t with
  | none => rw [hu] at h; cases h
  | some x => rfl
theorem run_isAgg {t : Nat} (h : hasUnder P t = true) (w : World) : (isAgg t).run P w = .ok (isAggB P t) w := by
  have hu := hasUnder_some h
  unfold isAgg isAggB
  simp only [Sem.run_bind, run_underlying hu, Result.andThen_ok]
  cases under P t <;> rfl
theorem zeroOf_some {t : Nat} {z : List Value} (h : zeroOf P t = some z) : ∃ i v, P.info? t = some i ∧ i.zero = some v ∧ v.cells = z.toArray ∧ z.length = i.size ∧ P.cellsOf t = i.size := by
  unfold zeroOf at h
  cases hi : P.info? t with
  | none => rw [hi] at h; cases h
  | some i =>
    simp only [hi] at h
    cases hz : i.zero with
    | none => simp [hz] at h
    | some v =>
      simp only [hz] at h
      cases hs : v.cells.size == i.size with
      | false => simp [hs] at h
      | true =>
        simp only [hs, Option.some.injEq] at h
        subst h
        exact ⟨i, v, rfl, hz, by simp, by simpa using hs, by simp [Program.cellsOf, hi]⟩
theorem run_zero {t : Nat} {z : List Value} (h : zeroOf P t = some z) (w : World) : ∃ v, (zeroValue t).run P w = .ok v w ∧ v.cells = z.toArray := by
  obtain ⟨i, v, hi, hz, hc, _⟩ := zeroOf_some h
  exact ⟨v, by simp [zeroValue, typeInfo, hi, hz], hc⟩

/-! ### 3. Loads -/
theorem addr_add (b o j : Nat) : (⟨b, o, none⟩ : Addr).add j = ⟨b, o + j, none⟩ := by unfold Addr.add; split <;> simp_all
theorem addo_eq (o j : Nat) : addo o j = o + j := by cases j <;> rfl
theorem mulo_eq (i s : Nat) : mulo i s = i * s := by unfold mulo; split <;> simp_all
theorem cell_of {h : Hp} {w : World} (hh : ∀ b o, h b = some o → w.heap[b]? = some o) {b o : Nat} {v : Value} (ha : h.at b o = some v) : w.cell? ⟨b, o, none⟩ = some v := by
  unfold Hp.at at ha
  cases hb : h b with
  | none => rw [hb] at ha; cases ha
  | some x =>
    rw [hb] at ha
    cases x with
    | cells c t f => simp only at ha; simp [World.cell?, hh b _ hb, ha]
    | _ => cases ha
theorem ex1_spec {k : Kd} {K : Value → Prop} (h : ex1 k K) : ∃ v, v.oneCell' = true ∧ K v := by
  cases k with
  | bool =>
    obtain ⟨b, h⟩ := h
    cases b with
    | true => exact ⟨.bool true, rfl, h.1 rfl⟩
    | false => exact ⟨.bool false, rfl, h.2 rfl⟩
  | raw => obtain ⟨x, h⟩ := h; exact ⟨_, h.1, h.2⟩
  | _ => obtain ⟨x, h⟩ := h; exact ⟨_, rfl, h⟩
theorem exRd_spec {h : Hp} {b o : Nat} : ∀ {ks : List Kd} {j : Nat} {K : List Value → Prop}, exRd h b o j ks K →
    ∃ vs, vs.length = ks.length ∧ (∀ i v, vs[i]? = some v → h.at b (o + j + i) = some v) ∧ K vs
  | [], _, _, hk => ⟨[], rfl, fun i v h => by simp at h, hk⟩
  | k :: ks, j, K, hk => by
    obtain ⟨v, _, ha, hr⟩ := ex1_spec hk
    obtain ⟨vs, hl, hat, hK⟩ := exRd_spec hr
    refine ⟨v :: vs, by simp [hl], fun i u hu => ?_, hK⟩
    cases i with
    | zero => simp at hu; subst hu; rw [addo_eq] at ha; exact ha
    | succ i => have := hat i u (by simpa using hu); rwa [show o + (j + 1) + i = o + j + (i + 1) by omega] at this
theorem run_loadAgg {w : World} {b o : Nat} {vs : List Value} (h : ∀ i v, vs[i]? = some v → w.cell? ⟨b, o + i, none⟩ = some v) : (loadCells ⟨b, o, none⟩ vs.length).run P w = .ok vs.toArray w :=
  run_loadCells_list (P := P) w ⟨b, o, none⟩ vs (fun j v hv => by rw [addr_add]; exact h j v hv)
theorem run_load1 {w : World} {a : Addr} {v : Value} (h : w.cell? a = some v) : (load a).run P w = .ok v w := by
  simp [load, Sem.run, h]
/-- Cells read as one value. -/
theorem run_loadVar' {t : Nat} {w : World} {b o : Nat} {vs : List Value} (hi : hasInfo P t = true) (hu : hasUnder P t = true) (hl : vs.length = P.cellsOf t)
    (h : ∀ i v, vs[i]? = some v → w.cell? ⟨b, o + i, none⟩ = some v) (h1 : isAggB P t = true ∨ ∃ v, vs = [v]) : (loadVar t ⟨b, o, none⟩).run P w = .ok (mkv P t vs) w := by
  unfold loadVar mkv
  simp only [Sem.run_bind, run_isAgg hu, Result.andThen_ok]
  cases ha : isAggB P t with
  | true =>
    simp only [if_true, Sem.run_bind, run_sizeOf' hi, Result.andThen_ok]
    rw [← hl, run_loadAgg h]
    simp [Sem.run_pure]
  | false =>
    rcases h1 with h1 | ⟨v, rfl⟩
    · rw [ha] at h1; cases h1
    · simp only [Bool.false_eq_true, if_false]
      exact run_load1 (h 0 v rfl)
end
end Go.Eng
