
/-
  Proved: the law VersionGone answers true, whatever it is handed, and what it was handed reads behind the call as it read before. No condition.
-/
import Derived.Test.YtbjnlacacapjiaaK5
import Derived.Test.YtbjnlacacapjiaaRows
import Derived.WalkKit
import Derived.ProofKit
import Derived.OpenShut
import Derived.ChangeOld
import Derived.Below
import Derived.SizedLaws
set_option linter.unusedSimpArgs false
set_option linter.unusedVariables false
section
set_option maxRecDepth 100000
namespace Go.Eng.Ytbjnlacacapjiaa
theorem cnt_cut {n : Int} : ∀ {ts us : List Tab} (k : Int), cutN n ts = some us → cnt (us.map Tab.num) k ≤ cnt (ts.map Tab.num) k
  | [], us, k, h => by cases h
  | t :: ts, us, k, h => by
    simp only [cutN] at h
    by_cases ht : t.num = n
    · rw [if_pos ht] at h; cases h
      rw [List.map_cons, show t.num :: ts.map Tab.num = [t.num] ++ ts.map Tab.num from rfl, cnt_app]
      have := cnt_le [t.num] k
      omega
    · rw [if_neg ht] at h
      cases hc : cutN n ts with
      | none => rw [hc] at h; cases h
      | some vs =>
        rw [hc] at h; cases h
        have := cnt_cut k hc
        rw [List.map_cons, List.map_cons, show t.num :: ts.map Tab.num = [t.num] ++ ts.map Tab.num from rfl, show t.num :: vs.map Tab.num = [t.num] ++ vs.map Tab.num from rfl, cnt_app, cnt_app]
        omega
theorem cnt_setle : ∀ {lv : Lv} {i : Nat} {ts us : List Tab} (k : Int), lv[i]? = some ts → cnt (us.map Tab.num) k ≤ cnt (ts.map Tab.num) k → cnt (nums (lv.set i us)) k ≤ cnt (nums lv) k
  | [], i, ts, us, k, h, _ => by simp at h
  | l :: lv, 0, ts, us, k, h, hc => by
    simp only [List.getElem?_cons_zero, Option.some.injEq] at h
    subst h
    rw [List.set_cons_zero, show us :: lv = [us] ++ lv from rfl, show l :: lv = [l] ++ lv from rfl, nums_app, nums_app, nums_one, nums_one, cnt_app, cnt_app]; omega
  | l :: lv, i + 1, ts, us, k, h, hc => by
    simp only [List.getElem?_cons_succ] at h
    have := cnt_setle k h hc
    rw [List.set_cons_succ, show l :: lv.set i us = [l] ++ lv.set i us from rfl, show l :: lv = [l] ++ lv from rfl, nums_app, nums_app, cnt_app, cnt_app]; omega
theorem out_cnt : ∀ (ps : List Place) (lv : Lv) (k : Int), cnt (nums (outM ps lv).2) k ≤ cnt (nums lv) k
  | [], lv, k => Int.le_refl _
  | p :: ps, lv, k => by
    unfold outM
    split
    · exact Int.le_refl _
    · split
      · exact Int.le_refl _
      · next ts h =>
        split
        · exact Int.le_refl _
        · next us hc => exact Int.le_trans (out_cnt ps _ k) (cnt_setle k h (cnt_cut k hc))
theorem in_cnt : ∀ (ps : List Placed) (lv : Lv), (inM ps lv).1 = 0 → (∀ k, cnt (nums lv) k ≤ 1) → (∀ k, cnt (nums (inM ps lv).2) k ≤ 1) ∧ (∀ k, cnt (nums lv) k ≤ cnt (nums (inM ps lv).2) k) ∧ (∀ p ∈ ps, p.num ∈ nums (inM ps lv).2) ∧ ∀ k ∈ nums (inM ps lv).2, k ∈ nums lv ∨ ∃ p ∈ ps, p.num = k
  | [], lv, _, hn => ⟨hn, fun _ => Int.le_refl _, fun p hp => (by cases hp), fun k hk => .inl hk⟩
  | p :: ps, lv, h, hn => by
    unfold inM at h ⊢
    split at h
    · cases h
    · next h0 =>
      rw [if_neg h0]
      cases hl : lv[p.lv.toNat]? with
      | none => rw [hl] at h; cases h
      | some ts =>
        rw [hl] at h
        dsimp only at h ⊢
        by_cases hm : p.num ∈ nums lv
        · rw [if_pos hm] at h; cases h
        rw [if_neg hm] at h ⊢
        by_cases hb : blB p.greatest p.least
        · rw [if_pos hb] at h; cases h
        rw [if_neg hb] at h ⊢
        have st := cnt_set p.tab hl
        have ht : p.tab.num = p.num := rfl
        have c0 : cnt (nums lv) p.num = 0 := by
          have := cnt_le (nums lv) p.num
          have := mt (cnt_pos (nums lv) p.num).1 hm
          omega
        obtain ⟨i1, i2, i3, i4⟩ := in_cnt ps (lv.set p.lv.toNat (ts ++ [p.tab])) h fun k => by
          rw [st, ht]
          by_cases hk : k = p.num
          · rw [if_pos hk, hk, c0]; omega
          · rw [if_neg hk]; have := hn k; omega
        refine ⟨i1, fun k => ?_, fun q hq => ?_, fun k hk => ?_⟩
        · have := i2 k
          rw [st] at this
          split at this <;> omega
        · rcases List.mem_cons.1 hq with rfl | hq
          · rw [← cnt_pos]
            have := i2 q.num
            rw [st, ht, if_pos rfl, c0] at this
            omega
          · exact i3 q hq
        · rcases i4 k hk with hk' | ⟨q, hq, e⟩
          · rw [← cnt_pos, st, ht] at hk'
            by_cases hkp : k = p.num
            · exact .inr ⟨p, List.mem_cons_self, hkp.symm⟩
            · rw [if_neg hkp] at hk'
              exact .inl ((cnt_pos _ _).1 (by omega))
          · exact .inr ⟨q, List.mem_cons_of_mem _ hq, e⟩
theorem nums_perm : ∀ {A B : Lv}, A.length = B.length → (∀ (i : Nat) (ts us : List Tab), A[i]? = some ts → B[i]? = some us → us.Perm ts) → (nums B).Perm (nums A)
  | [], [], _, _ => List.Perm.refl _
  | [], _ :: _, h, _ => by simp at h
  | _ :: _, [], h, _ => by simp at h
  | a :: A, b :: B, h, k => by
    have h1 : b.Perm a := k 0 a b rfl rfl
    have h2 := nums_perm (A := A) (B := B) (by simpa using h) fun i ts us h1 h2 => k (i + 1) ts us (by simpa using h1) (by simpa using h2)
    rw [show b :: B = [b] ++ B from rfl, show a :: A = [a] ++ A from rfl, nums_app, nums_app, nums_one, nums_one]
    exact (h1.map _).append h2
theorem Sorted.cnt {l2 lw : Lv} (S : Sorted l2 lw) (k : Int) : cnt (nums lw) k = cnt (nums l2) k := by
  have : (nums lw).Perm (nums l2) := nums_perm S.1.symm fun i ts us h1 h2 => by
    rcases Nat.eq_zero_or_pos i with rfl | h0
    · have := S.2.1
      rw [h1, h2] at this
      rw [Option.some.inj this]
    · exact (S.2.2 i ts us h0 h1 h2).1
  unfold Go.Eng.Ytbjnlacacapjiaa.cnt
  rw [this.count_eq]
theorem Res.nums {lv lw : Lv} {e : Edit} (h : Res lv e 0 lw) (hn : ∀ k, cnt (nums lv) k ≤ 1) : (∀ k, cnt (nums lw) k ≤ 1) ∧ (∀ p ∈ e.inn, p.num ∈ nums lw) ∧ ∀ k ∈ nums lw, k ∈ nums lv ∨ ∃ p ∈ e.inn, p.num = k := by
  unfold Res at h
  split at h
  · split at h
    · split at h
      · next h3 =>
        rcases h with ⟨h, _⟩ | ⟨_, S⟩
        · exact absurd h (by decide)
        · have o := out_cnt e.out lv
          obtain ⟨i1, i2, i3, i4⟩ := in_cnt e.inn _ h3 fun k => Int.le_trans (o k) (hn k)
          refine ⟨fun k => by rw [S.cnt]; exact i1 k, fun p hp => ?_, fun k hk => ?_⟩
          · rw [← cnt_pos, S.cnt, cnt_pos]; exact i3 p hp
          · rw [← cnt_pos, S.cnt, cnt_pos] at hk
            rcases i4 k hk with h | h
            · rw [← cnt_pos] at h
              exact .inl ((cnt_pos _ _).1 (by have := o k; omega))
            · exact .inr h
      · next h3 => exact absurd h.symm h3
    · next h2 => exact absurd h.symm h2
  · exact absurd h (by decide)
theorem gone_mem {now : Lv} {P : List Lv} {v : Lv} {k : Int} : k ∈ goneM now P v ↔ k ∈ nums v ∧ ¬ held now P k := by
  unfold goneM
  rw [List.mem_mergeSort, List.mem_filter, decide_eq_true_iff]
theorem gone_rise {now : Lv} {P : List Lv} {v : Lv} (hv : ∀ k, cnt (nums v) k ≤ 1) : (goneM now P v).Pairwise (· < ·) := by
  have s : (goneM now P v).Pairwise fun x y => decide (x ≤ y) = true := by
    unfold goneM
    exact List.pairwise_mergeSort (fun a b c h1 h2 => by simp at h1 h2 ⊢; omega) (fun a b => by simp; omega) _
  have n : (goneM now P v).Nodup := by
    unfold goneM
    rw [(List.mergeSort_perm _ _).nodup_iff]
    refine List.Pairwise.filter _ (List.nodup_iff_count.2 fun k => ?_)
    have := hv k
    unfold cnt at this
    omega
  exact (s.and n).imp fun ⟨h1, h2⟩ => by simp at h1; omega
def ToldL (ins gon l : List Int) : Prop := (∀ x ∈ l, x ∉ gon ∧ x ∈ ins) ∧ l.Pairwise (· < ·)
structure BkP (now : Lv) (L : List Pn) (bl : List Nat) (ins gon : List Int) : Prop where
  cn : ∀ p ∈ L, p.n = (bl.count p.b : Int) ∧ 1 ≤ p.n
  cb : ∀ b ∈ bl, ∃ p ∈ L, p.b = b
  u : ∀ k, cnt (nums now) k ≤ 1
  v : ∀ p ∈ L, ∀ k, cnt (nums p.lv) k ≤ 1
  a : ∀ k ∈ ins, held now (L.map (·.lv)) k ↔ k ∉ gon
  b : ∀ k, held now (L.map (·.lv)) k → k ∈ ins
theorem BkP.new (k : Nat) : BkP (List.replicate k []) [] [] [] [] := by
  have e : nums (List.replicate k []) = [] := by unfold Go.Eng.Ytbjnlacacapjiaa.nums; simp
  refine ⟨fun p hp => (by cases hp), fun b hb => (by cases hb), fun k => ?_, fun p hp => (by cases hp), fun k hk => (by cases hk), fun k hk => ?_⟩
  · rw [e, cnt_nil]; decide
  · unfold held at hk
    rw [e] at hk
    simp at hk
theorem BkP.apply {now now' : Lv} {L : List Pn} {bl : List Nat} {ins ins' gon : List Int} {e : Edit} (B : BkP now L bl ins gon) (h : Res now e 0 now') (hg : ∀ p ∈ e.inn, p.num ∉ gon) (hi : ∀ k, k ∈ ins' ↔ k ∈ ins ∨ ∃ p ∈ e.inn, p.num = k) :
    ToldL ins' gon (goneM now' (L.map (·.lv)) now) ∧ BkP now' L bl ins' (gon ++ goneM now' (L.map (·.lv)) now) := by
  obtain ⟨n1, n2, n3⟩ := h.nums B.u
  have old : ∀ k ∈ nums now, k ∈ ins ∧ k ∉ gon := fun k hk => by
    have := B.b k (.inl hk)
    exact ⟨this, (B.a k this).1 (.inl hk)⟩
  refine ⟨⟨fun x hx => ?_, gone_rise B.u⟩, B.cn, B.cb, n1, B.v, fun k hk => ?_, fun k hk => ?_⟩
  · obtain ⟨h1, h2⟩ := gone_mem.1 hx
    exact ⟨(old x h1).2, (hi x).2 (.inl (old x h1).1)⟩
  · rw [List.mem_append, gone_mem]
    constructor
    · rintro hh (h1 | ⟨_, h2⟩)
      · rcases hh with hh | hh
        · rcases n3 k hh with h | ⟨p, hp, rfl⟩
          · exact (old k h).2 h1
          · exact hg p hp h1
        · have := B.b k (.inr hh)
          exact (B.a k this).1 (.inr hh) h1
      · exact h2 hh
    · intro hh
      rcases (hi k).1 hk with hk | ⟨p, hp, rfl⟩
      · rcases (B.a k hk).2 (fun h => hh (.inl h)) with h | h
        · exact Classical.not_not.1 fun hn => hh (.inr ⟨h, hn⟩)
        · exact .inr h
      · exact .inl (n2 p hp)
  · rcases hk with hk | hk
    · rcases n3 k hk with h | h
      · exact (hi k).2 (.inl (old k h).1)
      · exact (hi k).2 (.inr h)
    · exact (hi k).2 (.inl (B.b k (.inr hk)))
theorem BkP.pin {now : Lv} {L L' : List Pn} {bl : List Nat} {ins gon : List Int} {vb : Nat} (B : BkP now L bl ins gon) (nb : (L.map (·.b)).Nodup) (h : PinR L vb now L') : BkP now L' (bl ++ [vb]) ins gon := by
  rcases h with ⟨A, p, C, rfl, rfl, rfl⟩ | ⟨hno, i, rfl⟩
  · have hl : (A ++ ⟨p.b, p.n + 1, p.lv, p.i⟩ :: C).map (·.lv) = (A ++ p :: C).map (·.lv) := by simp
    have hd : ∀ q ∈ A ++ C, q.b ≠ p.b := fun q hq => by
      rw [List.map_append, List.map_cons] at nb
      have n1 := List.nodup_append.1 nb
      rcases List.mem_append.1 hq with hq | hq
      · exact n1.2.2 q.b (List.mem_map_of_mem hq) p.b List.mem_cons_self
      · exact fun e => (List.nodup_cons.1 n1.2.1).1 (e ▸ List.mem_map_of_mem (f := (·.b)) hq)
    refine ⟨fun q hq => ?_, fun b hb => ?_, B.u, fun q hq => ?_, by rw [hl]; exact B.a, by rw [hl]; exact B.b⟩
    · rw [List.mem_append, List.mem_cons] at hq
      have other : q ∈ A ++ C → q.n = ((bl ++ [p.b]).count q.b : Int) ∧ 1 ≤ q.n := fun hq' => by
        have := B.cn q (by rcases List.mem_append.1 hq' with h | h <;> simp [h])
        rw [List.count_append, List.count_eq_zero.2 (show q.b ∉ [p.b] by simpa using hd q hq')]
        simpa using this
      rcases hq with hq | rfl | hq
      · exact other (by simp [hq])
      · have := B.cn p (by simp)
        dsimp only
        rw [List.count_append, show List.count p.b [p.b] = 1 by simp]
        omega
      · exact other (by simp [hq])
    · rcases List.mem_append.1 hb with hb | hb
      · obtain ⟨q, hq, e⟩ := B.cb b hb
        rw [List.mem_append, List.mem_cons] at hq
        rcases hq with hq | rfl | hq
        · exact ⟨q, by simp [hq], e⟩
        · exact ⟨⟨q.b, q.n + 1, q.lv, q.i⟩, by simp, e⟩
        · exact ⟨q, by simp [hq], e⟩
      · rw [List.mem_singleton] at hb
        exact ⟨⟨p.b, p.n + 1, p.lv, p.i⟩, by simp, hb.symm⟩
    · rw [List.mem_append, List.mem_cons] at hq
      rcases hq with hq | rfl | hq
      · exact B.v q (by simp [hq])
      · exact B.v p (by simp)
      · exact B.v q (by simp [hq])
  · have hh : ∀ k, held now ((L ++ [(⟨vb, 1, now, i⟩ : Pn)]).map (·.lv)) k ↔ held now (L.map (·.lv)) k := fun k => by
      unfold held
      constructor
      · rintro (h | ⟨lv, hl, hk⟩)
        · exact .inl h
        · rw [List.map_append, List.mem_append] at hl
          rcases hl with hl | hl
          · exact .inr ⟨lv, hl, hk⟩
          · simp at hl; subst hl; exact .inl hk
      · rintro (h | ⟨lv, hl, hk⟩)
        · exact .inl h
        · exact .inr ⟨lv, by rw [List.map_append]; exact List.mem_append_left _ hl, hk⟩
    have hvb : vb ∉ bl := fun hm => by
      obtain ⟨p, hp, e⟩ := B.cb vb hm
      exact hno p hp e
    refine ⟨fun q hq => ?_, fun b hb => ?_, B.u, fun q hq => ?_, fun k hk => by rw [hh]; exact B.a k hk, fun k hk => B.b k ((hh k).1 hk)⟩
    · rcases List.mem_append.1 hq with hq | hq
      · have := B.cn q hq
        rw [List.count_append, List.count_eq_zero.2 (show q.b ∉ [vb] by simpa using hno q hq)]
        simpa using this
      · rw [List.mem_singleton] at hq
        subst hq
        dsimp only
        rw [List.count_append, List.count_eq_zero.2 hvb]
        simp
    · rcases List.mem_append.1 hb with hb | hb
      · obtain ⟨q, hq, e⟩ := B.cb b hb
        exact ⟨q, List.mem_append_left _ hq, e⟩
      · rw [List.mem_singleton] at hb
        exact ⟨⟨vb, 1, now, i⟩, by simp, hb.symm⟩
    · rcases List.mem_append.1 hq with hq | hq
      · exact B.v q hq
      · rw [List.mem_singleton] at hq
        subst hq
        exact B.u
theorem BkP.unpin {now : Lv} {A C L' : List Pn} {p : Pn} {bl bl' : List Nat} {ins gon : List Int} (B : BkP now (A ++ p :: C) bl ins gon) (nb : ((A ++ p :: C).map (·.b)).Nodup) (h : (p.n = 1 ∧ L' = A ++ C) ∨ (1 < p.n ∧ L' = A ++ ⟨p.b, p.n - 1, p.lv, p.i⟩ :: C)) (hp : bl.Perm (p.b :: bl')) :
    ToldL ins gon (goneM now (L'.map (·.lv)) p.lv) ∧ BkP now L' bl' ins (gon ++ goneM now (L'.map (·.lv)) p.lv) := by
  have hd : ∀ q ∈ A ++ C, q.b ≠ p.b := fun q hq => by
    rw [List.map_append, List.map_cons] at nb
    have n1 := List.nodup_append.1 nb
    rcases List.mem_append.1 hq with hq | hq
    · exact n1.2.2 q.b (List.mem_map_of_mem hq) p.b List.mem_cons_self
    · exact fun e => (List.nodup_cons.1 n1.2.1).1 (e ▸ List.mem_map_of_mem (f := (·.b)) hq)
  have pv := B.v p (by simp)
  have sub : ∀ k, held now (L'.map (·.lv)) k → held now ((A ++ p :: C).map (·.lv)) k := fun k => by
    rintro (hk | ⟨lv, hl, hk⟩)
    · exact .inl hk
    · refine .inr ⟨lv, ?_, hk⟩
      rcases h with ⟨_, rfl⟩ | ⟨_, rfl⟩
      · rw [List.map_append, List.mem_append] at hl
        rw [List.map_append, List.map_cons, List.mem_append, List.mem_cons]
        exact hl.imp id .inr
      · simpa using hl
  have sup : ∀ k, held now ((A ++ p :: C).map (·.lv)) k → held now (L'.map (·.lv)) k ∨ k ∈ nums p.lv := fun k => by
    rintro (hk | ⟨lv, hl, hk⟩)
    · exact .inl (.inl hk)
    · rw [List.map_append, List.map_cons, List.mem_append, List.mem_cons] at hl
      rcases hl with hl | rfl | hl
      · refine .inl (.inr ⟨lv, ?_, hk⟩)
        rcases h with ⟨_, rfl⟩ | ⟨_, rfl⟩ <;> simp only [List.map_append, List.map_cons, List.mem_append, List.mem_cons, hl, true_or]
      · exact .inr hk
      · refine .inl (.inr ⟨lv, ?_, hk⟩)
        rcases h with ⟨_, rfl⟩ | ⟨_, rfl⟩ <;> simp only [List.map_append, List.map_cons, List.mem_append, List.mem_cons, hl, or_true]
  have old : ∀ k ∈ nums p.lv, k ∈ ins ∧ k ∉ gon := fun k hk => by
    have hh : held now ((A ++ p :: C).map (·.lv)) k := .inr ⟨p.lv, by simp, hk⟩
    have := B.b k hh
    exact ⟨this, (B.a k this).1 hh⟩
  have cnt0 : (bl.count p.b : Int) = (bl'.count p.b : Int) + 1 := by rw [hp.count_eq]; simp
  have cn0 := B.cn p (by simp)
  have other : ∀ q ∈ A ++ C, q.n = (bl'.count q.b : Int) ∧ 1 ≤ q.n := fun q hq => by
    have := B.cn q (by rcases List.mem_append.1 hq with h | h <;> simp [h])
    rw [hp.count_eq, List.count_cons_of_ne (Ne.symm (hd q hq))] at this
    exact this
  refine ⟨⟨fun x hx => ?_, gone_rise pv⟩, fun q hq => ?_, fun b hb => ?_, B.u, fun q hq => ?_, fun k hk => ?_, fun k hk => B.b k (sub k hk)⟩
  · obtain ⟨h1, h2⟩ := gone_mem.1 hx
    exact ⟨(old x h1).2, (old x h1).1⟩
  · rcases h with ⟨_, rfl⟩ | ⟨h1, rfl⟩
    · exact other q hq
    · rw [List.mem_append, List.mem_cons] at hq
      rcases hq with hq | rfl | hq
      · exact other q (by simp [hq])
      · dsimp only; omega
      · exact other q (by simp [hq])
  · obtain ⟨q, hq, e⟩ := B.cb b (hp.mem_iff.2 (List.mem_cons_of_mem _ hb))
    rw [List.mem_append, List.mem_cons] at hq
    rcases h with ⟨h1, rfl⟩ | ⟨h1, rfl⟩
    · rcases hq with hq | rfl | hq
      · exact ⟨q, by simp [hq], e⟩
      · exfalso
        have : 0 < bl'.count b := List.count_pos_iff.2 hb
        rw [← e] at this
        omega
      · exact ⟨q, by simp [hq], e⟩
    · rcases hq with hq | rfl | hq
      · exact ⟨q, by simp [hq], e⟩
      · exact ⟨⟨q.b, q.n - 1, q.lv, q.i⟩, by simp, e⟩
      · exact ⟨q, by simp [hq], e⟩
  · rcases h with ⟨_, rfl⟩ | ⟨h1, rfl⟩
    · exact B.v q (by rcases List.mem_append.1 hq with h | h <;> simp [h])
    · rw [List.mem_append, List.mem_cons] at hq
      rcases hq with hq | rfl | hq
      · exact B.v q (by simp [hq])
      · exact pv
      · exact B.v q (by simp [hq])
  · rw [List.mem_append, gone_mem]
    constructor
    · rintro hh (h1 | ⟨_, h2⟩)
      · exact (B.a k hk).1 (sub k hh) h1
      · exact h2 hh
    · intro hh
      rcases sup k ((B.a k hk).2 (fun h => hh (.inl h))) with h | h
      · exact h
      · exact Classical.not_not.1 fun hn => hh (.inr ⟨h, hn⟩)
end Go.Eng.Ytbjnlacacapjiaa
end
section
set_option maxRecDepth 100000
set_option maxHeartbeats 1000000
namespace Go.Eng.Ytbjnlacacapjiaa
theorem buf_off {h h' : Hp} {s s' y : Sl} {sz t : Nat} {vs : List Value} (U : Upd h h' s s') (o : Off y s) (B : Buf h y sz t vs) : Buf h' y sz t vs := by
  refine ⟨B.len, B.cap, B.own.imp id ?_⟩
  rintro ⟨b, c, f, h1, h2, h3, h4, h5⟩
  exact ⟨b, c, f, h1, U.keep b _ (fun o' hs => o b 0 o' h1 hs) h2, h3, h4, h5⟩
def pks (l : List Nat) : List Value := l.map pk
theorem pks_len (l : List Nat) : (pks l).length = l.length := List.length_map _
structure Bk (g h : Hp) (b : Nat) (lI lG lP lQ : Sl) (ins gon : List Int) (pl bl : List Nat) : Prop where
  nb : g b = none
  b : h b = some (.cells ⟨[.slice lI.a lI.n lI.c, .slice lG.a lG.n lG.c, .slice lQ.a lQ.n lQ.c]⟩ 30 (0, 0))
  nI : NewN g lI
  nG : NewN g lG
  nP : NewN g lP
  I : Buf h lI 1 33 (uvs ins)
  G : Buf h lG 1 33 (uvs gon)
  P : Buf h lP 1 31 (pks pl)
  o : Off lI lG ∧ Off lG lI
  q : ∀ h', Buf h' lP 1 31 (pks pl) → h'.row lQ.a (lQ.n * 1) (pks bl)
  c : lQ.n ≤ lQ.c
section
variable {g h h' : Hp} {b sb vb pm cm : Nat} {ps ls l lI lG lP lQ : Sl} {xs : List (Sl × List Tab)} {ptrs : List ByteArray} {L : List Pn} {ins gon A : List Int} {pl bl : List Nat} {Q : Value → Hp → Prop}
theorem Bk.ck {κ : List Nat} (B : Bk g h b lI lG lP lQ ins gon pl bl) (C : Ck κ h h') (x : 35 ∉ κ) (y : 33 ∉ κ) (z : 32 ∉ κ) : Bk g h' b lI lG lP lQ ins gon pl bl :=
  ⟨B.nb, C.keep _ _ B.b z, B.nI, B.nG, B.nP, C.buf x B.I, C.buf x B.G, C.buf y B.P, B.o, B.q, B.c⟩
theorem Bk.keep (B : Bk g h b lI lG lP lQ ins gon pl bl) (K : Keep h h') : Bk g h' b lI lG lP lQ ins gon pl bl := B.ck (κ := []) (Ck.of_keep K) (by simp) (by simp) (by simp)
theorem Bk.chg {D : Nat → Prop} (B : Bk g h b lI lG lP lQ ins gon pl bl) (C : Chg D h h') (hD : ∀ k x, D k → h k = some x → kd x ∈ [91, 0, 11]) : Bk g h' b lI lG lP lQ ins gon pl bl := B.ck (C.ck hD) (by decide) (by decide) (by decide)
theorem SetP.ck {κ : List Nat} (S : SetP g h sb vb pm cm ps ls xs ptrs L) (C : Ck κ h h') (K : Keep g h') (a : 68 ∉ κ) (b : 49 ∉ κ) (c : 87 ∉ κ) (d : 91 ∉ κ) (e : 11 ∉ κ) (f : 0 ∉ κ) : SetP g h' sb vb pm cm ps ls xs ptrs L := by
  obtain ⟨c1, hc, hi⟩ := S.m
  obtain ⟨es, c2, h2, h3⟩ := S.c
  exact ⟨S.V.ck C K a b c, S.ns, C.keep _ _ S.s d, S.np, C.buf e S.p, S.nm, ⟨c1, C.keep _ _ hc f, hi⟩, S.ni, S.nb, fun p hp => (S.pv p hp).ck C K a b c, S.nc, ⟨es, c2, C.keep _ _ h2 f, h3⟩, S.ne⟩
theorem inside_s {n : Int} (R : h.row l.a (l.n * 1) (uvs A)) (hA : A.length ≤ 140737488355328) (hT : n ∈ A → Q (.bool true) h) (hF : n ∉ A → Q (.bool false) h) : F15.T l n h Q := by
  have n1 : l.n = A.length := by have := R.1; rw [uvs_len] at this; omega
  unfold F15.T
  refine ⟨fun k h1 => h1 = h ∧ ∃ P S, A = P ++ S ∧ k = (P.length : Int) ∧ n ∉ P, fun k _ => A.length - k.toNat, ⟨rfl, [], A, rfl, rfl, by simp⟩, ?_⟩
  rintro k h1 ⟨rfl, P, S, e, rfl, hP⟩
  have e2 := congrArg List.length e
  rw [List.length_append] at e2
  refine ⟨fun hlt => ?_, fun hge => ?_⟩
  · rcases S with _ | ⟨t, S⟩
    · exact absurd hlt (by simp at e2; omega)
    rw [List.length_cons] at e2
    obtain ⟨b, o, ha, hat⟩ := row_get R (i := P.length) (by omega)
    refine ⟨b, o, ha, ⟨by omega, hlt⟩, t, ?_, fun heq => hT (by rw [← heq, e]; simp), fun hne => ?_⟩
    · rw [Int.toNat_natCast, hat _ (by omega), e]; unfold uvs; rw [List.getElem?_map, List.getElem?_append_right (Nat.le_refl _), Nat.sub_self]; rfl
    · rw [next_i (n := 140737488355328) (by omega) (by omega)]
      exact ⟨⟨rfl, P ++ [t], S, by rw [e]; simp, by simp, by rw [List.mem_append]; exact fun h => h.elim hP fun h => hne (List.mem_singleton.1 h).symm⟩, by dsimp only; omega⟩
  · have hS : S = [] := List.eq_nil_of_length_eq_zero (by omega)
    subst hS
    rw [List.append_nil] at e
    exact hF (by rw [e]; exact hP)
theorem has_n (V : Ver g h vb ls xs) (hs : ∀ x ∈ xs, x.2.length ≤ 5000000) (h5 : xs.length ≤ 5) {n : Int} (hT : ∀ h', Keep h h' → n ∈ nums (xs.map (·.2)) → Q (.bool true) h') (hF : ∀ h', Keep h h' → n ∉ nums (xs.map (·.2)) → Q (.bool false) h') : F44.T (some ⟨vb, 0, none⟩) n h Q := by
  unfold F44.T F44.G
  refine ⟨fun i h1 => Keep h h1 ∧ ∃ P R, xs = P ++ R ∧ i = (P.length : Int) ∧ n ∉ nums (P.map (·.2)), fun i _ => xs.length - i.toNat, ⟨Keep.refl h, [], xs, rfl, rfl, by simp [nums]⟩, ?_⟩
  rintro i h1 ⟨K1, P, R, e, rfl, hP⟩
  have e2 := congrArg List.length e
  rw [List.length_append] at e2
  refine levels_spec (V.keep K1) ⟨_, rfl, fun hlt => ?_, fun hge => ?_⟩
  · rcases R with _ | ⟨x, R⟩
    · exact absurd hlt (by simp at e2; omega)
    rw [List.length_cons] at e2
    have hx : xs[P.length]? = some x := by rw [e, List.getElem?_append_right (Nat.le_refl _), Nat.sub_self]; rfl
    have hm : x ∈ xs := List.mem_of_getElem? hx
    have hx5 := hs x hm
    refine tables_s (V.keep K1) hs fun h2 l K2 B2 _ => ⟨l, rfl, ?_⟩
    rw [tabsI_nat xs hx] at B2
    have hn := tb_new B2
    refine ⟨fun j h3 => h3 = h2 ∧ ∃ A B, x.2 = A ++ B ∧ j = (A.length : Int) ∧ n ∉ A.map Tab.num, fun j _ => x.2.length - j.toNat, ⟨rfl, [], x.2, rfl, rfl, by simp⟩, ?_⟩
    rintro j h3 ⟨rfl, A, B, eA, rfl, hA⟩
    have e3 := congrArg List.length eA
    rw [List.length_append] at e3
    refine ⟨fun hlt1 => ?_, fun hge1 => ?_⟩
    · rcases B with _ | ⟨t, B⟩
      · exact absurd hlt1 (by simp at e3; omega)
      rw [List.length_cons] at e3
      have hr := B2.row
      rw [eA] at hr
      obtain ⟨b, o, a1, a2, n2, a3, _, _, _, _, _, _, _, _, _, _, rfl⟩ := tab_rd hr (i := (A.length : Int)) rfl (K := fun b o a c d e s s1 => a = t.num) (fun _ _ => rfl)
      refine ⟨b, o, a1, a2, t.num, a3, fun heq => hT h3 (K1.trans K2) ?_, fun hne => ?_⟩
      · rw [← heq, e]
        simp only [List.map_append, List.map_cons]
        rw [show ∀ T : Lv, P.map (·.2) ++ x.2 :: T = P.map (·.2) ++ ([x.2] ++ T) from fun T => rfl, nums_app, nums_app, nums_one, eA]
        simp
      · rw [next_i (n := 5100000) (by omega) (by omega)]
        refine ⟨⟨rfl, A ++ [t], B, by rw [eA]; simp, by simp, ?_⟩, by dsimp only; omega⟩
        rw [List.map_append, List.mem_append]
        exact fun hh => hh.elim hA fun hh => hne (by simp at hh; exact hh.symm)
    · have hB : B = [] := List.eq_nil_of_length_eq_zero (by omega)
      subst hB
      rw [List.append_nil] at eA
      rw [next_i (n := 100) (by omega) (by omega)]
      refine ⟨⟨K1.trans K2, P ++ [x], R, by rw [e]; simp, by simp, ?_⟩, by dsimp only; omega⟩
      rw [List.map_append, nums_app, List.map_cons, List.map_nil, nums_one, eA, List.mem_append]
      exact fun hh => hh.elim hP hA
  · have hR : R = [] := List.eq_nil_of_length_eq_zero (by omega)
    subst hR
    rw [List.append_nil] at e
    exact hF h1 K1 (by rw [e]; exact hP)
theorem told_s (B : Bk g h b lI lG lP lQ ins gon pl bl) (R : h.row l.a (l.n * 1) (uvs A)) (T : ToldL ins gon A) (hI : ins.length ≤ 1000000000000) (hG : gon.length ≤ 1000000000000) (hA : A.length ≤ 1000000000000) (K : Keep g h)
    (hQ : ∀ h' lG', Bk g h' b lI lG' lP lQ ins (gon ++ A) pl bl → Ck [35, 32] h h' → Keep g h' → Q (.bool true) h') : F18.T (some ⟨b, 0, none⟩) l h Q := by
  have n1 : l.n = A.length := by have := R.1; rw [uvs_len] at this; omega
  have nG : lG.n = gon.length := by have := B.G.len; rw [uvs_len] at this; omega
  unfold F18.T F18.G
  refine ⟨fun k h1 => h1 = h ∧ ∃ P S, A = P ++ S ∧ k = (P.length : Int), fun k _ => A.length - k.toNat, ⟨rfl, [], A, rfl, rfl⟩, ?_⟩
  rintro k h1 ⟨rfl, P, S, e, rfl⟩
  have e2 := congrArg List.length e
  rw [List.length_append] at e2
  refine ⟨fun hlt => ?_, fun hge => ?_⟩
  · rcases S with _ | ⟨t, S⟩
    · exact absurd hlt (by simp at e2; omega)
    rw [List.length_cons] at e2
    obtain ⟨c, o, ha, hat⟩ := row_get R (i := P.length) (by omega)
    have ht : h1.at c (o + (P.length : Int).toNat) = some (.int .u64 t) := by
      rw [Int.toNat_natCast, hat _ (by omega), e]; unfold uvs; rw [List.getElem?_map, List.getElem?_append_right (Nat.le_refl _), Nat.sub_self]; rfl
    have htA : t ∈ A := by rw [e]; simp
    refine ⟨b, 0, rfl, lG, at_of B.b 1, c, o, ha, ⟨by omega, hlt⟩, t, ht, ?_⟩
    refine inside_s B.G.row (by omega) (fun hin => absurd hin (T.1 t htA).1) fun _ => ⟨_, rfl, fun hh => Bool.noConfusion hh, fun _ => ?_⟩
    refine ⟨b, 0, rfl, lI, at_of B.b 0, c, o, ha, ⟨by omega, hlt⟩, t, ht, ?_⟩
    refine inside_s B.I.row (by omega) (fun _ => ⟨_, rfl, fun _ => ?_, fun hh => Bool.noConfusion hh⟩) fun hno => absurd (T.1 t htA).2 hno
    have nx : (h1 = h1 ∧ ∃ P' S', A = P' ++ S' ∧ IntKind.wrap .i64 ((P.length : Int) + 1) = (P'.length : Int)) ∧ A.length - (IntKind.wrap .i64 ((P.length : Int) + 1)).toNat < A.length - (P.length : Int).toNat := by
      rw [next_i (n := 1000000000000) (by omega) (by omega)]
      exact ⟨⟨rfl, P ++ [t], S, by rw [e]; simp, by simp⟩, by omega⟩
    refine ⟨fun hp0 => ?_, fun _ => nx⟩
    refine ⟨c, o, ha, ⟨by omega, hlt⟩, t, ht, ?_⟩
    obtain ⟨P', u, rfl⟩ : ∃ P' u, P = P' ++ [u] := by
      rcases List.eq_nil_or_concat P with h | ⟨P', u, h⟩
      · subst h; exact absurd hp0 (by simp)
      · exact ⟨P', u, by rw [h, List.concat_eq_append]⟩
    have hlt' := hlt
    rw [List.length_append, List.length_singleton] at hlt' e2
    obtain ⟨c2, o2, ha2, hat2⟩ := row_get R (i := P'.length) (by omega)
    rw [show IntKind.wrap .i64 (((P' ++ [u]).length : Int) - 1) = (P'.length : Int) by rw [wrap_i64 (by simp <;> omega) (by simp <;> omega)]; simp]
    refine ⟨c2, o2, ha2, ⟨by omega, by omega⟩, u, ?_, fun hbad => ?_, fun _ => nx⟩
    · rw [Int.toNat_natCast, hat2 _ (by omega), e]; unfold uvs; simp [List.getElem?_append]
    · exfalso
      have pw := T.2
      rw [e, List.pairwise_append] at pw
      have := pw.2.2 u (by simp) t List.mem_cons_self
      omega
  · refine ⟨b, 0, rfl, lG, at_of B.b 1, uvs A, R, fun v hv => ?_, ?_⟩
    · unfold uvs at hv
      obtain ⟨x, _, rfl⟩ := List.mem_map.1 hv
      rfl
    refine append_buf B.G rfl (by rw [uvs_len]; omega) (by omega) fun l4 h4 B4 _ U4 => ?_
    have C4 : Ck [35] h1 h4 := Ck.of_upd B.G U4
    have b4 := C4.keep _ _ B.b (show 32 ∉ [35] by decide)
    have O := off_upd U4 B.I (And.intro B.o.2 B.o.1)
    have I4 := buf_off U4 B.o.1 B.I
    have P4 := C4.buf (by decide) B.P
    have w := wr_at (o := 1) (vs := [.slice l4.a l4.n l4.c]) b4
    have C5 : Ck [32] h4 (h4.wr b 1 [.slice l4.a l4.n l4.c]) := Ck.wr b4
    refine ⟨b, 0, rfl, canW_new b4 (by simp), ?_⟩
    refine hQ _ l4 ⟨B.nb, w, B.nI, ?_, B.nP, C5.buf (by decide) I4, C5.buf (by decide) ?_, C5.buf (by decide) P4, ⟨O.2, O.1⟩, B.q, B.c⟩ ((C4.mono (by simp)).trans (C5.mono (by simp))) ?_
    · exact (B.nG.upd K U4).2
    · unfold uvs at B4 ⊢; rw [List.map_append]; exact B4
    · exact ((B.nG.upd K U4).1).wr B.nb _ _
end
end Go.Eng.Ytbjnlacacapjiaa
end
section
set_option maxRecDepth 100000
set_option maxHeartbeats 1000000
namespace Go.Eng.Ytbjnlacacapjiaa
theorem pn_uniq : ∀ {L : List Pn} {p q : Pn}, (L.map (·.b)).Nodup → p ∈ L → q ∈ L → p.b = q.b → p = q
  | x :: L, p, q, n, hp, hq, e => by
    rw [List.map_cons, List.nodup_cons] at n
    rcases List.mem_cons.1 hp with h1 | h1 <;> rcases List.mem_cons.1 hq with h2 | h2
    · rw [h1, h2]
    · exact absurd (by rw [← h1, e]; exact List.mem_map_of_mem (f := (·.b)) h2) n.1
    · exact absurd (by rw [← h2, ← e]; exact List.mem_map_of_mem (f := (·.b)) h1) n.1
    · exact pn_uniq n.2 h1 h2 e
section
variable {g h h' : Hp} {b sb vb pm cm : Nat} {ps ls l lI lG lP lQ : Sl} {xs : List (Sl × List Tab)} {ptrs : List ByteArray} {L : List Pn} {ins gon A : List Int} {pl bl : List Nat} {Q : Value → Hp → Prop}
theorem right_s (S : SetP g h sb vb pm cm ps ls xs ptrs L) (B : Bk g h b lI lG lP lQ ins gon pl bl) (P : BkP (xs.map (·.2)) L bl ins gon) (hx : ∀ x ∈ xs, x.2.length ≤ 5000000) (h5 : xs.length ≤ 5) (hp : ∀ p ∈ L, totL p.lv ≤ 5000000 ∧ p.lv.length ≤ 5) (hI : ins.length ≤ 1000000000000) (hG : gon.length ≤ 1000000000000) (hb : bl.length ≤ 1000000)
    (hQ : ∀ h', Keep h h' → Q (.bool true) h') : F19.T (some ⟨b, 0, none⟩) (some ⟨sb, 0, none⟩) h Q := by
  have nI : lI.n = ins.length := by have := B.I.len; rw [uvs_len] at this; omega
  have nQ : lQ.n = bl.length := by have := (B.q _ B.P).1; rw [pks_len] at this; omega
  unfold F19.T F19.G
  refine ⟨fun k h1 => Keep h h1 ∧ ∃ P S, ins = P ++ S ∧ k = (P.length : Int), fun k _ => ins.length - k.toNat, ⟨Keep.refl h, [], ins, rfl, rfl⟩, ?_⟩
  rintro k h1 ⟨K1, P1, S1, e, rfl⟩
  have e2 := congrArg List.length e
  rw [List.length_append] at e2
  refine ⟨b, 0, rfl, lI, at_of (B.keep K1).b 0, fun hlt => ?_, fun _ => hQ h1 K1⟩
  rcases S1 with _ | ⟨x, S1⟩
  · exact absurd hlt (by simp at e2; omega)
  rw [List.length_cons] at e2
  have hxi : x ∈ ins := by rw [e]; simp
  have rx : ∀ {h' : Hp}, Keep h h' → ∃ c o, (lI.a : Option Addr) = some ⟨c, o, none⟩ ∧ ((0 : Int) ≤ (P1.length : Int) ∧ (P1.length : Int) < (lI.n : Int)) ∧ h'.at c (o + (P1.length : Int).toNat) = some (.int .u64 x) := fun {h'} K => by
    obtain ⟨c, o, ha, hat⟩ := row_get (B.keep K).I.row (i := P1.length) (by omega)
    refine ⟨c, o, ha, ⟨by omega, by omega⟩, ?_⟩
    rw [Int.toNat_natCast, hat _ (by omega), e]; unfold uvs; rw [List.getElem?_map, List.getElem?_append_right (Nat.le_refl _), Nat.sub_self]; rfl
  have nx : ∀ {h' : Hp}, Keep h h' → (Keep h h' ∧ ∃ P' S', ins = P' ++ S' ∧ IntKind.wrap .i64 ((P1.length : Int) + 1) = (P'.length : Int)) ∧ ins.length - (IntKind.wrap .i64 ((P1.length : Int) + 1)).toNat < ins.length - (P1.length : Int).toNat := fun {h'} K => by
    rw [next_i (n := 1000000000000) (by omega) (by omega)]
    exact ⟨⟨K, P1 ++ [x], S1, by rw [e]; simp, by simp⟩, by omega⟩
  obtain ⟨c, o, ha, hi, hc⟩ := rx K1
  have S1' := S.keep K1
  refine ⟨b, 0, rfl, lI, at_of (B.keep K1).b 0, c, o, ha, hi, x, hc, sb, 0, rfl, _, at_of S1'.s 0, _, rfl, at_of (B.keep K1).b 0, hc, ?_⟩
  refine has_n S1'.V hx h5 (fun h3 K3 hin => ⟨_, rfl, fun _ => ?_, fun hh => Bool.noConfusion hh⟩) (fun h3 K3 hno => ⟨_, rfl, fun hh => Bool.noConfusion hh, fun _ => ?_⟩)
  all_goals
    refine ⟨fun t hh => Keep h hh ∧ (t = true ↔ held (xs.map (·.2)) (L.map (·.lv)) x), ⟨fun h4 J4 => ?_, fun h4 J4 => ?_⟩, fun t k hh => Keep h hh ∧ ∃ Pb Rb, bl = Pb ++ Rb ∧ k = (Pb.length : Int) ∧ (t = true → held (xs.map (·.2)) (L.map (·.lv)) x) ∧ (t = false → x ∉ nums (xs.map (·.2)) ∧ ∀ b ∈ Pb, ∀ p ∈ L, p.b = b → x ∉ nums p.lv), fun _ k _ => bl.length - k.toNat, ?_, fun k h7 I7 => ?_, fun k h7 I7 => ?_⟩
    · obtain ⟨c, o, ha, hi, hc⟩ := rx J4.1
      have hh := J4.2.1 rfl
      refine ⟨b, 0, rfl, lG, at_of (B.keep J4.1).b 1, b, 0, rfl, lI, at_of (B.keep J4.1).b 0, c, o, ha, hi, x, hc, ?_⟩
      refine inside_s (B.keep J4.1).G.row (by omega) (fun hin => absurd hin ((P.a x hxi).1 hh)) fun _ => ⟨_, rfl, fun hh => Bool.noConfusion hh, fun _ => ⟨fun hh => Bool.noConfusion hh, fun _ => nx J4.1⟩⟩
    · obtain ⟨c, o, ha, hi, hc⟩ := rx J4.1
      have hh : ¬ held (xs.map (·.2)) (L.map (·.lv)) x := fun h => Bool.noConfusion (J4.2.2 h)
      refine ⟨b, 0, rfl, lG, at_of (B.keep J4.1).b 1, b, 0, rfl, lI, at_of (B.keep J4.1).b 0, c, o, ha, hi, x, hc, ?_⟩
      refine inside_s (B.keep J4.1).G.row (by omega) (fun _ => ⟨_, rfl, fun _ => ⟨fun hh => Bool.noConfusion hh, fun _ => nx J4.1⟩, fun hh => Bool.noConfusion hh⟩) fun hno => absurd ((P.a x hxi).2 hno) hh
    · first
      | exact ⟨K1.trans K3, [], bl, rfl, rfl, fun _ => .inl hin, fun hh => Bool.noConfusion hh⟩
      | exact ⟨K1.trans K3, [], bl, rfl, rfl, fun hh => Bool.noConfusion hh, fun _ => ⟨hno, fun b hb => by cases hb⟩⟩
    · obtain ⟨K7, Pb, Rb, _, _, ht, _⟩ := I7
      have j : Keep h h7 ∧ (true = true ↔ held (xs.map (·.2)) (L.map (·.lv)) x) := ⟨K7, fun _ => ht rfl, fun _ => rfl⟩
      exact ⟨b, 0, rfl, lQ, at_of (B.keep K7).b 2, fun _ => j, fun _ => j⟩
    · obtain ⟨K7, Pb, Rb, eb, rfl, _, hf⟩ := I7
      have eL := congrArg List.length eb
      rw [List.length_append] at eL
      obtain ⟨f1, f2⟩ := hf rfl
      refine ⟨b, 0, rfl, lQ, at_of (B.keep K7).b 2, fun hlt1 => ?_, fun hge1 => ?_⟩
      · rcases Rb with _ | ⟨y, Rb⟩
        · exact absurd hlt1 (by simp at eL; omega)
        rw [List.length_cons] at eL
        obtain ⟨c1, o1, ha1, hat1⟩ := row_get ((B.keep K7).q _ (B.keep K7).P) (i := Pb.length) (by omega)
        obtain ⟨p, hpL, epb⟩ := P.cb y (by rw [eb]; simp)
        have hpt : h7.at c1 (o1 + (Pb.length : Int).toNat) = some (.pointer (some ⟨p.b, 0, none⟩)) := by
          rw [Int.toNat_natCast, hat1 _ (by omega), eb, epb]; unfold pks; rw [List.getElem?_map, List.getElem?_append_right (Nat.le_refl _), Nat.sub_self]; rfl
        obtain ⟨c, o, ha, hi, hc⟩ := rx K7
        obtain ⟨ls', xs', V', ev⟩ := (S.pv p hpL).keep K7
        have zp := hp p hpL
        have len' : xs'.length ≤ 5 := by have := congrArg List.length ev; rw [List.length_map] at this; omega
        have sz' : ∀ x ∈ xs', x.2.length ≤ 5000000 := fun x hx => Nat.le_trans (totL_mem (List.mem_map_of_mem (f := (·.2)) hx)) (by rw [ev]; exact zp.1)
        refine ⟨b, 0, rfl, lQ, at_of (B.keep K7).b 2, c1, o1, ha1, ⟨by omega, hlt1⟩, _, hpt, b, 0, rfl, lI, at_of (B.keep K7).b 0, c, o, ha, hi, x, hc, ?_⟩
        refine has_n V' sz' len' (fun h8 K8 hin => ⟨_, rfl, fun _ => ?_, fun hh => Bool.noConfusion hh⟩) (fun h8 K8 hno => ⟨_, rfl, fun hh => Bool.noConfusion hh, fun _ => ?_⟩)
        · rw [next_i (n := 10000000) (by omega) (by omega)]
          exact ⟨⟨K7.trans K8, Pb ++ [y], Rb, by rw [eb]; simp, by simp, fun _ => .inr ⟨p.lv, List.mem_map_of_mem hpL, by rw [← ev]; exact hin⟩, fun hh => Bool.noConfusion hh⟩, by (try dsimp only); omega⟩
        · rw [next_i (n := 10000000) (by omega) (by omega)]
          refine ⟨⟨K7.trans K8, Pb ++ [y], Rb, by rw [eb]; simp, by simp, fun hh => Bool.noConfusion hh, fun _ => ⟨f1, fun b' hb' q hq eq => ?_⟩⟩, by (try dsimp only); omega⟩
          rcases List.mem_append.1 hb' with hb' | hb'
          · exact f2 b' hb' q hq eq
          · rw [List.mem_singleton] at hb'
            obtain rfl : p = q := pn_uniq S.nb hpL hq (by rw [eq, epb, hb'])
            rw [← ev]; exact hno
      · have hR : Rb = [] := List.eq_nil_of_length_eq_zero (by omega)
        subst hR
        rw [List.append_nil] at eb
        subst eb
        refine ⟨K7, fun hh => Bool.noConfusion hh, fun hh => ?_⟩
        rcases hh with hh | ⟨lv, hl, hk⟩
        · exact absurd hh f1
        · obtain ⟨p, hpL, rfl⟩ := List.mem_map.1 hl
          have cp := P.cn p hpL
          have : p.b ∈ bl := List.count_pos_iff.1 (by omega)
          exact absurd hk (f2 p.b this p hpL rfl)
end
end Go.Eng.Ytbjnlacacapjiaa
end
section
set_option maxRecDepth 100000
set_option maxHeartbeats 2000000
namespace Go.Eng.Ytbjnlacacapjiaa
theorem tmod_rng {a n : Int} (ha : 0 ≤ a) (hn : 0 < n) : 0 ≤ Int.tmod a n ∧ Int.tmod a n < n := ⟨Int.tmod_nonneg _ ha, Int.tmod_lt_of_pos _ hn⟩
theorem u64_rng (n : Int) : 0 ≤ IntKind.wrap .u64 n := by
  have e : IntKind.wrap .u64 n = n % 18446744073709551616 := rfl
  rw [e]; omega
theorem pks_one (l : List Nat) : ∀ v ∈ pks l, Value.oneCell' v = true := fun v hv => by
  unfold pks at hv
  obtain ⟨x, _, rfl⟩ := List.mem_map.1 hv
  rfl
structure Sz (k j m : Nat) (xs : List (Sl × List Tab)) (ptrs : List ByteArray) (L : List Pn) (ins gon : List Int) (bl : List Nat) : Prop where
  x : xs.length = k
  p : ptrs.length = k
  t : totL (xs.map (·.2)) ≤ 8192 * j
  i : ins.length ≤ 8192 * j
  g : gon.length ≤ 2500000 * m
  b : bl.length ≤ j
  l : L.length ≤ j
  q : ∀ p ∈ L, totL p.lv ≤ 2500000 ∧ p.lv.length = k
def StA (g : Hp) (b sb pm cm : Nat) (ps : Sl) (k j m : Nat) (A : List Int) (h : Hp) : Prop := ∃ vb ls xs ptrs L lI lG lP ins gon bl, SetP g h sb vb pm cm ps ls xs ptrs L ∧ Bk g h b lI lG lP lP ins gon bl bl ∧ BkP (xs.map (·.2)) L bl ins (gon ++ A) ∧ ToldL ins gon A ∧ Sz k j m xs ptrs L ins gon bl
section
variable {g h h' : Hp} {b sb vb pm cm k j m : Nat} {ps ls l lI lG lP lQ : Sl} {xs : List (Sl × List Tab)} {ptrs : List ByteArray} {L : List Pn} {ins gon A : List Int} {pl bl : List Nat} {Q : Value → Hp → Prop}
theorem told_nil : ToldL ins gon [] := ⟨fun x hx => (by cases hx), List.Pairwise.nil⟩
theorem Sz.smp (Z : Sz k j m xs ptrs L ins gon bl) (hk : k ≤ 5) (hj : j ≤ 305) : SmP xs L := ⟨by have := Z.t; omega, by have := Z.x; omega, by have := Z.l; omega, fun p hp => by have := Z.q p hp; omega⟩
theorem pn_bd {now : Lv} (P : BkP now L bl ins gon) (hb : bl.length ≤ 1000) : ∀ p ∈ L, 1 ≤ p.n ∧ p.n ≤ 1000000 := fun p hp => by
  have := P.cn p hp
  have := List.count_le_length (a := p.b) (l := bl)
  omega
theorem lv_sz (Z : totL (xs.map (·.2)) ≤ 5000000) : ∀ x ∈ xs, x.2.length ≤ 5000000 := fun x hx => Nat.le_trans (totL_mem (List.mem_map_of_mem (f := (·.2)) hx)) Z
theorem tell_s (hk : k ≤ 5) (hj : j ≤ 305) (hm : m ≤ 10000) (J : StA g b sb pm cm ps k j m A h) (R : h.row l.a (l.n * 1) (uvs A)) (hA : A.length ≤ 2500000) {F : Hp → Prop}
    (hQ : ∀ h', StA g b sb pm cm ps k j (m + 1) [] h' → Q (.bool true) h') : F18.T (some ⟨b, 0, none⟩) l h fun r h' => retB r (F19.T (some ⟨b, 0, none⟩) (some ⟨sb, 0, none⟩) h' fun r h' => retB r (Q (.bool true) h') (F h')) (F h') := by
  obtain ⟨vb, ls, xs, ptrs, L, lI, lG, lP, ins, gon, bl, S, B, P, T, Z⟩ := J
  have z := Z.i
  have z2 := Z.g
  refine told_s B R T (by omega) (by omega) (by omega) S.V.L.k fun h1 lG1 B1 C1 K1 => ⟨_, rfl, fun _ => ?_, fun hh => Bool.noConfusion hh⟩
  have S1 := S.ck C1 K1 (by decide) (by decide) (by decide) (by decide) (by decide) (by decide)
  have Y := Z.smp hk hj
  refine right_s S1 B1 P (lv_sz Y.t) Y.x5 Y.p (by omega) (by rw [List.length_append]; omega) (by have := Z.b; omega) fun h2 K2 => ⟨_, rfl, fun _ => ?_, fun hh => Bool.noConfusion hh⟩
  exact hQ h2 ⟨vb, ls, xs, ptrs, L, lI, lG1, lP, ins, gon ++ A, bl, S1.keep K2, B1.keep K2, by rw [List.append_nil]; exact P, told_nil, Z.x, Z.p, Z.t, Z.i, by rw [List.length_append]; omega, Z.b, Z.l, Z.q⟩
theorem cut_pin {P R : List Nat} {y : Nat} {i : Int} {K : Sl → Hp → Prop} (B : Buf h lP 1 31 (pks (P ++ y :: R))) (hl : (P ++ y :: R).length ≤ 1000000) (hi : i = (P.length : Int))
    (hK : ∀ l' h', Buf h' l' 1 31 (pks (P ++ R)) → Upd h h' lP l' → K l' h') :
    Sl.okCut lP 0 i (lP.c : Int) ∧ (Sl.okCut lP (IntKind.wrap .i64 (i + 1)) (lP.n : Int) (lP.c : Int) ∧ ∃ vs, h.row ((Sl.cut lP 1 (IntKind.wrap .i64 (i + 1)) (lP.n : Int) (lP.c : Int)).a) (((Sl.cut lP 1 (IntKind.wrap .i64 (i + 1)) (lP.n : Int) (lP.c : Int)).n) * 1) vs ∧ (∀ v ∈ vs, Value.oneCell' v = true) ∧ appendD (Sl.cut lP 1 0 i (lP.c : Int)) 31 1 8 [.pointer none] ((Sl.cut lP 1 (IntKind.wrap .i64 (i + 1)) (lP.n : Int) (lP.c : Int)).n) vs h K) := by
  subst hi
  have hn : lP.n = P.length + (R.length + 1) := by have := B.len; rw [pks_len, List.length_append, List.length_cons] at this; omega
  have hc := B.cap
  rw [List.length_append, List.length_cons] at hl
  rw [next_i (n := 10000000) (by omega) (by omega)]
  have hb := cut_back (k := P.length + 1) B.row (by omega) hc
  have e : (pks (P ++ y :: R)).drop ((P.length + 1) * 1) = pks R := by
    unfold pks
    rw [List.map_append, List.map_cons, show P.map pk ++ pk y :: R.map pk = (P.map pk ++ [pk y]) ++ R.map pk by simp]
    exact List.drop_left' (by simp)
  rw [e] at hb
  have B0 : Buf h ⟨lP.a, P.length, lP.c⟩ 1 31 (pks P) := buf_shrink (A := pks P) (B := pks (y :: R)) (k := P.length) (by unfold pks at B ⊢; rw [← List.map_append]; exact B) (by rw [pks_len]; omega) (by omega)
  have ec : Sl.cut lP 1 0 (P.length : Int) (lP.c : Int) = ⟨lP.a, P.length, lP.c⟩ := by
    have h1 := cut_a lP (P.length : Int) (lP.c : Int) (sz := 1)
    unfold Sl.cut at h1 ⊢
    dsimp only at h1 ⊢
    rw [h1]; simp
  have en : (Sl.cut lP 1 ((P.length + 1 : Nat) : Int) (lP.n : Int) (lP.c : Int)).n = R.length := by unfold Sl.cut; dsimp only; omega
  refine ⟨⟨by omega, by omega, by omega, by omega⟩, ⟨by omega, by omega, by omega, by omega⟩, pks R, hb, pks_one R, ?_⟩
  rw [ec, en]
  refine append_buf B0 rfl (by rw [pks_len]; omega) (by dsimp only; omega) fun l' h' B' _ U' => hK l' h' (by unfold pks at B' ⊢; rw [List.map_append]; exact B') ⟨U'.keep, U'.at_, U'.dom⟩
end
end Go.Eng.Ytbjnlacacapjiaa
end
section
set_option maxRecDepth 100000
set_option maxHeartbeats 4000000
namespace Go.Eng.Ytbjnlacacapjiaa
section
variable {g h h' : Hp} {b sb vb pm cm k j m : Nat} {ps ls l lI lG lP lQ : Sl} {xs : List (Sl × List Tab)} {ptrs : List ByteArray} {L : List Pn} {ins gon A : List Int} {pl bl : List Nat} {Q : Value → Hp → Prop}
def Jt (g : Hp) (b sb pm cm : Nat) (ps : Sl) (k j m : Nat) (l : Sl) (h : Hp) : Prop := ∃ A, StA g b sb pm cm ps k j m A h ∧ h.row l.a (l.n * 1) (uvs A) ∧ A.length ≤ 2500000
theorem gone_len {now v : Lv} {P : List Lv} : (goneM now P v).length ≤ totL v := by
  unfold goneM
  rw [List.length_mergeSort]
  exact Nat.le_trans (List.length_filter_le _ _) (by rw [nums_len]; exact Nat.le_refl _)
theorem St.nilJ (S : SetP g h sb vb pm cm ps ls xs ptrs L) (B : Bk g h b lI lG lP lP ins gon bl bl) (P : BkP (xs.map (·.2)) L bl ins gon) (Z : Sz k j m xs ptrs L ins gon bl) : Jt g b sb pm cm ps k j m ⟨none, 0, 0⟩ h :=
  ⟨[], ⟨vb, ls, xs, ptrs, L, lI, lG, lP, ins, gon, bl, S, B, by rw [List.append_nil]; exact P, told_nil, Z⟩, nil_row h, Nat.zero_le _⟩
theorem step_pin (hk : k ≤ 5) (hj : j ≤ 301) (S : SetP g h sb vb pm cm ps ls xs ptrs L) (B : Bk g h b lI lG lP lP ins gon bl bl) (P : BkP (xs.map (·.2)) L bl ins gon) (Z : Sz k j m xs ptrs L ins gon bl) {J : Sl → Hp → Prop} (hJ : ∀ l h', Jt g b sb pm cm ps k (j + 1) m l h' → J l h') :
    ldS h b 2 fun l10 => F16.T (some ⟨sb, 0, none⟩) h fun r10 h17 => retP r10 fun p2 => h17.at b 2 = some (.slice l10.a l10.n l10.c) ∧ h17.at b 2 = some (.slice l10.a l10.n l10.c) ∧ appendD l10 31 1 8 [.pointer none] 1 [.pointer p2] h17 fun l11 h18 => st h18 b 2 1 [.slice l11.a l11.n l11.c] fun h19 => J ⟨none, 0, 0⟩ h19 := by
  have zb := Z.b
  have zl := Z.l
  have zi := Z.i
  have zt := Z.t
  refine ⟨lP, at_of B.b 2, ?_⟩
  refine pin_p S (pn_bd P (by omega)) fun h1 L' O1 S1 R1 => ⟨_, rfl, ?_⟩
  obtain ⟨c1, m1, _⟩ := S.m
  have B1 := B.ck (O1.ck m1) (by simp [kd]) (by simp [kd]) (by simp [kd])
  have P1 := P.pin S.nb R1
  have nP : lP.n = bl.length := by have := B.P.len; rw [pks_len] at this; omega
  refine ⟨at_of B1.b 2, at_of B1.b 2, ?_⟩
  refine append_buf B1.P rfl rfl (by omega) fun l2 h2 B2 hl2 U2 => ?_
  have C2 : Ck [33] h1 h2 := Ck.of_upd B1.P U2
  obtain ⟨K2, N2⟩ := B1.nP.upd S1.V.L.k U2
  have b2 := C2.keep _ _ B1.b (show 32 ∉ [33] by decide)
  have w := wr_at (o := 2) (vs := [.slice l2.a l2.n l2.c]) b2
  have C3 : Ck [32] h2 (h2.wr b 2 [.slice l2.a l2.n l2.c]) := Ck.wr b2
  refine ⟨canW_new b2 (by simp), hJ _ _ ?_⟩
  have S3 := (S1.ck C2 K2 (by decide) (by decide) (by decide) (by decide) (by decide) (by decide)).ck C3 (K2.wr B.nb _ _) (by decide) (by decide) (by decide) (by decide) (by decide) (by decide)
  have B2' : Buf h2 l2 1 31 (pks (bl ++ [vb])) := by unfold pks at B2 ⊢; rw [List.map_append]; exact B2
  have P3 : Buf (h2.wr b 2 [.slice l2.a l2.n l2.c]) l2 1 31 (pks (bl ++ [vb])) := C3.buf (by decide) B2'
  have Z' : Sz k (j + 1) m xs ptrs L' ins gon (bl ++ [vb]) := by
    refine ⟨Z.x, Z.p, by omega, by omega, Z.g, by simp; omega, ?_, ?_⟩
    · rcases R1 with ⟨A, p, C, rfl, _, rfl⟩ | ⟨_, i, rfl⟩
      · simp at zl ⊢; omega
      · simp; omega
    · rcases R1 with ⟨A, p, C, rfl, _, rfl⟩ | ⟨_, i, rfl⟩
      · intro q hq
        rw [List.mem_append, List.mem_cons] at hq
        rcases hq with hq | rfl | hq
        · exact Z.q q (by simp [hq])
        · exact Z.q p (by simp)
        · exact Z.q q (by simp [hq])
      · intro q hq
        rcases List.mem_append.1 hq with hq | hq
        · exact Z.q q hq
        · rw [List.mem_singleton] at hq
          subst hq
          exact ⟨by dsimp only; omega, by dsimp only; rw [List.length_map]; exact Z.x⟩
  exact St.nilJ S3 ⟨B.nb, w, B.nI, B.nG, N2, C3.buf (by decide) (C2.buf (by decide) B1.I), C3.buf (by decide) (C2.buf (by decide) B1.G), P3, B.o, fun h' X => X.row, P3.cap⟩ P1 Z'
theorem unpin_b {y : Nat} {bl' : List Nat} {F : Sl → Hp → Prop} (hk : k ≤ 5) (hj : j ≤ 305) (S : SetP g h sb vb pm cm ps ls xs ptrs L) (B : Bk g h b lI lG lP lQ ins gon pl bl) (P : BkP (xs.map (·.2)) L bl ins gon) (Z : Sz k j m xs ptrs L ins gon bl) (hy : bl.Perm (y :: bl'))
    (hF : ∀ h1 L' A l1, SetP g h1 sb vb pm cm ps ls xs ptrs L' → Bk g h1 b lI lG lP lQ ins gon pl bl → BkP (xs.map (·.2)) L' bl' ins (gon ++ A) → ToldL ins gon A → Sz k j m xs ptrs L' ins gon bl' → Buf h1 l1 1 33 (uvs A) → A.length ≤ 2500000 → F l1 h1) :
    F17.T (some ⟨sb, 0, none⟩) (some ⟨y, 0, none⟩) h fun r h' => retS r fun l1 => F l1 h' := by
  have zb := Z.b
  have zl := Z.l
  obtain ⟨p, hpL, rfl⟩ := P.cb y (hy.mem_iff.2 List.mem_cons_self)
  have zq := Z.q p hpL
  refine unpin_p S (S.pv p hpL) (Z.smp hk hj) (pn_bd P (by omega)) (by omega) (by omega) (fun hno => absurd rfl (hno p hpL)) fun h1 L' l1 C1 S1 U1 B1 N1 _ => ⟨l1, rfl, ?_⟩
  obtain ⟨A, p', C, rfl, ep, hor⟩ := U1
  obtain rfl : p' = p := pn_uniq S.nb (by simp) hpL ep
  obtain ⟨T, P1⟩ := P.unpin S.nb hor hy
  have D : ∀ k x, (k = pm ∨ k = cm) → h k = some x → kd x ∈ [0] := by
    intro k x hd hk
    rcases hd with rfl | rfl
    · obtain ⟨c, hc, hi⟩ := S.m
      rw [hc] at hk; cases hk; simp [kd]
    · obtain ⟨es, c2, h2, h3⟩ := S.c
      rw [h2] at hk; cases hk; simp [kd]
  have lb := hy.length_eq
  rw [List.length_cons] at lb
  refine hF h1 L' _ l1 S1 (B.ck (C1.ck D) (by decide) (by decide) (by decide)) P1 T ⟨Z.x, Z.p, Z.t, Z.i, Z.g, by omega, ?_, ?_⟩ B1 (Nat.le_trans gone_len zq.1)
  · rcases hor with ⟨_, rfl⟩ | ⟨_, rfl⟩
    · simp at zl ⊢; omega
    · simp at zl ⊢; omega
  · intro q hq
    rcases hor with ⟨_, rfl⟩ | ⟨_, rfl⟩
    · exact Z.q q (by rcases List.mem_append.1 hq with h | h <;> simp [h])
    · rw [List.mem_append, List.mem_cons] at hq
      rcases hq with hq | rfl | hq
      · exact Z.q q (by simp [hq])
      · exact zq
      · exact Z.q q (by simp [hq])
theorem step_unpin {n3 : Int} (hk : k ≤ 5) (hj : j ≤ 301) (S : SetP g h sb vb pm cm ps ls xs ptrs L) (B : Bk g h b lI lG lP lP ins gon bl bl) (P : BkP (xs.map (·.2)) L bl ins gon) (Z : Sz k j m xs ptrs L ins gon bl) {J : Sl → Hp → Prop} (hJ : ∀ l h', Jt g b sb pm cm ps k (j + 1) m l h' → J l h') :
    ldS h b 2 fun l12 => par ((0 : Int) < (l12.n : Int)) (ldS h b 2 fun l13 => (IntKind.wrap .u64 (l13.n : Int)) ≠ 0 ∧ ldS h b 2 fun l14 => ix l14.a (IntKind.wrap .i64 (Int.tmod (IntKind.wrap .u64 n3) (IntKind.wrap .u64 (l13.n : Int)))) l14.n fun b4 o2 => ldP h b4 (o2 + ((IntKind.wrap .i64 (Int.tmod (IntKind.wrap .u64 n3) (IntKind.wrap .u64 (l13.n : Int))))).toNat) fun p3 => F17.T (some ⟨sb, 0, none⟩) p3 h fun r11 h20 => retS r11 fun l15 => ldS h20 b 2 fun l16 => Sl.okCut l16 0 (IntKind.wrap .i64 (Int.tmod (IntKind.wrap .u64 n3) (IntKind.wrap .u64 (l13.n : Int)))) (l16.c : Int) ∧ ldS h20 b 2 fun l17 => Sl.okCut l17 (IntKind.wrap .i64 ((IntKind.wrap .i64 (Int.tmod (IntKind.wrap .u64 n3) (IntKind.wrap .u64 (l13.n : Int)))) + 1)) (l17.n : Int) (l17.c : Int) ∧ ∃ vs, h20.row ((Sl.cut l17 1 (IntKind.wrap .i64 ((IntKind.wrap .i64 (Int.tmod (IntKind.wrap .u64 n3) (IntKind.wrap .u64 (l13.n : Int)))) + 1)) (l17.n : Int) (l17.c : Int)).a) (((Sl.cut l17 1 (IntKind.wrap .i64 ((IntKind.wrap .i64 (Int.tmod (IntKind.wrap .u64 n3) (IntKind.wrap .u64 (l13.n : Int)))) + 1)) (l17.n : Int) (l17.c : Int)).n) * 1) vs ∧ (∀ v ∈ vs, Value.oneCell' v = true) ∧ appendD (Sl.cut l16 1 0 (IntKind.wrap .i64 (Int.tmod (IntKind.wrap .u64 n3) (IntKind.wrap .u64 (l13.n : Int)))) (l16.c : Int)) 31 1 8 [.pointer none] ((Sl.cut l17 1 (IntKind.wrap .i64 ((IntKind.wrap .i64 (Int.tmod (IntKind.wrap .u64 n3) (IntKind.wrap .u64 (l13.n : Int)))) + 1)) (l17.n : Int) (l17.c : Int)).n) vs h20 fun l18 h21 => st h21 b 2 1 [.slice l18.a l18.n l18.c] fun h22 => J l15 h22) (J ⟨none, 0, 0⟩ h) := by
  have zb := Z.b
  have nP : lP.n = bl.length := by have := B.P.len; rw [pks_len] at this; omega
  have Z' : Sz k (j + 1) m xs ptrs L ins gon bl := ⟨Z.x, Z.p, by have := Z.t; omega, by have := Z.i; omega, Z.g, by omega, by have := Z.l; omega, Z.q⟩
  refine ⟨lP, at_of B.b 2, fun h0 => ?_, fun _ => hJ _ _ (St.nilJ S B P Z')⟩
  have e : IntKind.wrap .u64 (lP.n : Int) = (bl.length : Int) := by rw [wrap_u64 (by omega) (by omega), nP]
  refine ⟨lP, at_of B.b 2, by rw [e]; omega, lP, at_of B.b 2, ?_⟩
  rw [e]
  have hb0 : 0 < bl.length := by omega
  obtain ⟨i0, hi0⟩ : ∃ i : Nat, IntKind.wrap .i64 (Int.tmod (IntKind.wrap .u64 n3) (bl.length : Int)) = (i : Int) ∧ i < bl.length := by
    have r := tmod_rng (u64_rng n3) (show (0 : Int) < bl.length by omega)
    refine ⟨(Int.tmod (IntKind.wrap .u64 n3) (bl.length : Int)).toNat, ?_, by omega⟩
    rw [wrap_i64 (by omega) (by omega)]; omega
  rw [hi0.1]
  obtain ⟨Pb, y, Rb, eb, hP⟩ : ∃ P x R, bl = P ++ x :: R ∧ P.length = i0 := ⟨bl.take i0, bl[i0]'hi0.2, bl.drop (i0 + 1), by rw [List.getElem_cons_drop, List.take_append_drop], by rw [List.length_take]; omega⟩
  obtain ⟨c1, o1, ha1, hat1⟩ := row_get B.P.row (i := i0) (by omega)
  refine ⟨c1, o1, ha1, ⟨by omega, by omega⟩, some ⟨y, 0, none⟩, ?_, ?_⟩
  · rw [Int.toNat_natCast, hat1 _ (by omega), eb, ← hP]; unfold pks; rw [List.getElem?_map, List.getElem?_append_right (Nat.le_refl _), Nat.sub_self]; rfl
  refine unpin_b (bl' := Pb ++ Rb) hk (by omega) S B P Z (by rw [eb]; exact List.perm_middle) fun h1 L' A l1 S1 B1 P1 T1 Z1 Bl hA => ?_
  refine ⟨lP, at_of B1.b 2, ?_⟩
  have BP : Buf h1 lP 1 31 (pks (Pb ++ y :: Rb)) := by rw [← eb]; exact B1.P
  obtain ⟨o1, o2, vs, v1, v2, v3⟩ := cut_pin (K := fun l18 h21 => st h21 b 2 1 [.slice l18.a l18.n l18.c] fun h22 => J l1 h22) (i := (i0 : Int)) BP (by rw [← eb]; omega) (by omega) fun l2 h2 B2 U2 => by
    have C2 : Ck [33] h1 h2 := Ck.of_upd BP U2
    obtain ⟨K2, N2⟩ := B1.nP.upd S1.V.L.k U2
    have b2 := C2.keep _ _ B1.b (show 32 ∉ [33] by decide)
    have w := wr_at (o := 2) (vs := [.slice l2.a l2.n l2.c]) b2
    have C3 : Ck [32] h2 (h2.wr b 2 [.slice l2.a l2.n l2.c]) := Ck.wr b2
    refine ⟨canW_new b2 (by simp), hJ _ _ ⟨A, ⟨vb, ls, xs, ptrs, L', lI, lG, l2, ins, gon, Pb ++ Rb, ?_, ⟨B.nb, w, B.nI, B.nG, N2, C3.buf (by decide) (C2.buf (by decide) B1.I), C3.buf (by decide) (C2.buf (by decide) B1.G), C3.buf (by decide) B2, B.o, fun h' X => X.row, B2.cap⟩, P1, T1, Z1.x, Z1.p, by have := Z1.t; omega, by have := Z1.i; omega, Z1.g, by have := Z1.b; omega, by have := Z1.l; omega, Z1.q⟩, (C3.buf (by decide) (C2.buf (by decide) Bl)).row, hA⟩⟩
    exact (S1.ck C2 K2 (by decide) (by decide) (by decide) (by decide) (by decide) (by decide)).ck C3 (K2.wr B.nb _ _) (by decide) (by decide) (by decide) (by decide) (by decide) (by decide)
  exact ⟨o1, lP, at_of B1.b 2, o2, vs, v1, v2, v3⟩
end
end Go.Eng.Ytbjnlacacapjiaa
end
section
set_option maxRecDepth 100000
set_option maxHeartbeats 4000000
namespace Go.Eng.Ytbjnlacacapjiaa
section
variable {g h h' : Hp} {b sb vb pm cm k j m : Nat} {ps ls l lo li lp lI lG lP lQ : Sl} {xs : List (Sl × List Tab)} {ptrs : List ByteArray} {L : List Pn} {ins gon A : List Int} {pl bl : List Nat} {Q : Value → Hp → Prop}
theorem step_apply {n5 n6 n7 : Int} {e : Edit} (hk1 : 1 ≤ k) (hk : k ≤ 5) (hj : j ≤ 300) (hm : m ≤ 10000) (E : EdAt g e lo li lp) (so : e.out.length ≤ 8192) (si : e.inn.length ≤ 8192) (S : SetP g h sb vb pm cm ps ls xs ptrs L) (B : Bk g h b lI lG lP lP ins gon bl bl) (P : BkP (xs.map (·.2)) L bl ins gon) (Z : Sz k j m xs ptrs L ins gon bl) (hQ : ∀ h', Keep g h' → Q (.bool true) h') {J : Sl → Hp → Prop} (hJ : ∀ l h', Jt g b sb pm cm ps k (j + 1) m l h' → J l h') :
    F13.T (some ⟨sb, 0, none⟩) n5 n6 n7 lo li lp h fun r6 h10 => ∃ l5 : Sl, ∃ n8 : Int, r6 = .tuple ⟨[.slice l5.a l5.n l5.c, .int .i64 n8]⟩ ∧ ∃ (I1 : Int → Hp → Prop) (m1 : Int → Hp → Nat), I1 0 h10 ∧ (∀ n9 : Int, ∀ h11 : Hp, I1 n9 h11 → par (n9 < (li.n : Int)) (F14.T n8 h11 fun r7 h12 => retI .i64 r7 fun n10 => par (n10 = 0) (ix li.a n9 li.n fun b3 o1 => ldI .u64 h12 b3 ((o1 + n9.toNat * 7) + 1) fun n11 => ldS h12 b 1 fun l6 => F15.T l6 n11 h12 fun r8 h13 => retB r8 (Q (.bool true) h13) (ldS h13 b 0 fun l7 => F15.T l7 n11 h13 fun r9 h14 => retB r9 (I1 (IntKind.wrap .i64 (n9 + 1)) h14 ∧ m1 (IntKind.wrap .i64 (n9 + 1)) h14 < m1 n9 h11) (ldS h14 b 0 fun l8 => appendD l8 33 1 8 [.int .u64 0] 1 [.int .u64 n11] h14 fun l9 h15 => st h15 b 0 1 [.slice l9.a l9.n l9.c] fun h16 => I1 (IntKind.wrap .i64 (n9 + 1)) h16 ∧ m1 (IntKind.wrap .i64 (n9 + 1)) h16 < m1 n9 h11))) (J l5 h12)) (J l5 h11)) := by
  have zx := Z.x
  have zp := Z.p
  have zt := Z.t
  have zi := Z.i
  have zl := Z.l
  have zb := Z.b
  have zg := Z.g
  have nli : li.n = e.inn.length := by have := E.inn.1; rw [inV_len] at this; omega
  refine apply_p S (E.keep S.V.L.k) (fun h9 K9 => ?_) (by omega) (by omega) (by omega) (by omega) (by omega) (by omega) (fun p hp => by have := Z.q p hp; omega) fun h1 c r vb' ls' xs' ptrs' C1 S1 R1 g1 n1 => ⟨r, c, rfl, ?_⟩
  · have K : Keep g h9 := fun k x e => K9 k x (ne_of e S.ns) (S.V.L.k k x e)
    exact K.row E.ptr
  have B1 := B.chg C1 S.dp
  by_cases hc : c = 0
  · subst hc
    obtain ⟨ep, _, Br, Nr⟩ := g1 rfl
    clear g1 n1
    obtain ⟨hpl, l2', hS, hT2, hl2, _⟩ := R1.ok
    have x1 : xs'.length = k := by have := hS.1; rw [List.length_map, hl2, List.length_map] at this; omega
    have t1 : totL (xs'.map (·.2)) ≤ 8192 * (j + 1) := by rw [hS.totL]; omega
    have oRI : Off lI r ∧ Off r lI := NewN.off Nr B.I
    refine ⟨fun n9 hh => ∃ P R lI' insc, e.inn = P ++ R ∧ n9 = (P.length : Int) ∧ SetP g hh sb vb' pm cm ps ls' xs' ptrs' L ∧ Bk g hh b lI' lG lP lP insc gon bl bl ∧ (∀ k, k ∈ insc ↔ k ∈ ins ∨ ∃ p ∈ P, p.num = k) ∧ insc.length ≤ ins.length + P.length ∧ (∀ p ∈ P, p.num ∉ gon) ∧ Buf hh r 1 33 (uvs (goneM (xs'.map (·.2)) (L.map (·.lv)) (xs.map (·.2)))) ∧ (Off lI' r ∧ Off r lI'), fun n9 _ => e.inn.length - n9.toNat, ⟨[], e.inn, lI, ins, rfl, rfl, S1, B1, fun k => ⟨.inl, fun h => h.elim id fun ⟨p, hp, _⟩ => by cases hp⟩, Nat.le_refl _, fun p hp => (by cases hp), Br, oRI⟩, ?_⟩
    rintro n9 h2 ⟨P1, R2, lI2, insc, eP, rfl, S2, B2, hi2, hl2i, hg2, Br2, o2⟩
    have eL := congrArg List.length eP
    rw [List.length_append] at eL
    refine ⟨fun hlt => ⟨_, rfl, fun _ => ?_, fun hh => absurd rfl hh⟩, fun hge => ?_⟩
    · rcases R2 with _ | ⟨p, R2⟩
      · exact absurd hlt (by simp at eL; omega)
      rw [List.length_cons] at eL
      have hr := (E.keep S2.V.L.k).inn
      rw [eP] at hr
      obtain ⟨b3, o3, a1, a2, _, _, nn, a3, _, _, _, _, _, _, _, _, _, _, rfl⟩ := in_rd hr rfl (K := fun _ _ _ n _ _ _ _ _ => n = p.num) (fun _ _ => rfl)
      have nx : ∀ {h3 : Hp} {lI3 : Sl} {ins3 : List Int}, SetP g h3 sb vb' pm cm ps ls' xs' ptrs' L → Bk g h3 b lI3 lG lP lP ins3 gon bl bl → (∀ k, k ∈ ins3 ↔ k ∈ insc ∨ k = p.num) → ins3.length ≤ insc.length + 1 → p.num ∉ gon → Buf h3 r 1 33 (uvs (goneM (xs'.map (·.2)) (L.map (·.lv)) (xs.map (·.2)))) → (Off lI3 r ∧ Off r lI3) → (∃ P R lI' insc, e.inn = P ++ R ∧ IntKind.wrap .i64 ((P1.length : Int) + 1) = (P.length : Int) ∧ SetP g h3 sb vb' pm cm ps ls' xs' ptrs' L ∧ Bk g h3 b lI' lG lP lP insc gon bl bl ∧ (∀ k, k ∈ insc ↔ k ∈ ins ∨ ∃ p ∈ P, p.num = k) ∧ insc.length ≤ ins.length + P.length ∧ (∀ p ∈ P, p.num ∉ gon) ∧ Buf h3 r 1 33 (uvs (goneM (xs'.map (·.2)) (L.map (·.lv)) (xs.map (·.2)))) ∧ (Off lI' r ∧ Off r lI')) ∧ e.inn.length - (IntKind.wrap .i64 ((P1.length : Int) + 1)).toNat < e.inn.length - (P1.length : Int).toNat := fun {h3 lI3 ins3} S3 B3 hi3 hl3 hg3 Br3 o3 => by
        rw [next_i (n := 100000) (by omega) (by omega)]
        refine ⟨⟨P1 ++ [p], R2, lI3, ins3, by rw [eP]; simp, by simp, S3, B3, fun k => ?_, by rw [List.length_append, List.length_singleton]; omega, fun q hq => ?_, Br3, o3⟩, by omega⟩
        · rw [hi3, hi2]
          constructor
          · rintro ((h | ⟨q, hq, e⟩) | rfl)
            · exact .inl h
            · exact .inr ⟨q, by simp [hq], e⟩
            · exact .inr ⟨p, by simp, rfl⟩
          · rintro (h | ⟨q, hq, e⟩)
            · exact .inl (.inl h)
            · rcases List.mem_append.1 hq with hq | hq
              · exact .inl (.inr ⟨q, hq, e⟩)
              · rw [List.mem_singleton] at hq
                subst hq
                exact .inr e.symm
        · rcases List.mem_append.1 hq with hq | hq
          · exact hg2 q hq
          · rw [List.mem_singleton] at hq
            subst hq
            exact hg3
      refine ⟨b3, o3, a1, a2, p.num, a3, lG, at_of B2.b 1, ?_⟩
      refine inside_s B2.G.row (by omega) (fun _ => ⟨_, rfl, fun _ => hQ h2 S2.V.L.k, fun hh => Bool.noConfusion hh⟩) fun hng => ⟨_, rfl, fun hh => Bool.noConfusion hh, fun _ => ?_⟩
      refine ⟨lI2, at_of B2.b 0, ?_⟩
      refine inside_s B2.I.row (by omega) (fun hin => ⟨_, rfl, fun _ => nx S2 B2 (fun k => ⟨.inl, fun h => h.elim id fun e => e ▸ hin⟩) (by omega) hng Br2 o2, fun hh => Bool.noConfusion hh⟩) fun hni => ⟨_, rfl, fun hh => Bool.noConfusion hh, fun _ => ?_⟩
      have nI : lI2.n = insc.length := by have := B2.I.len; rw [uvs_len] at this; omega
      refine ⟨lI2, at_of B2.b 0, ?_⟩
      refine append_buf B2.I rfl rfl (by omega) fun l3 h3 B3 _ U3 => ?_
      have C3 : Ck [35] h2 h3 := Ck.of_upd B2.I U3
      obtain ⟨K3, N3⟩ := B2.nI.upd S2.V.L.k U3
      have b3 := C3.keep _ _ B2.b (show 32 ∉ [35] by decide)
      have w := wr_at (o := 0) (vs := [.slice l3.a l3.n l3.c]) b3
      have C4 : Ck [32] h3 (h3.wr b 0 [.slice l3.a l3.n l3.c]) := Ck.wr b3
      have oG := off_upd U3 B2.G B2.o
      have oR := off_upd U3 Br2 o2
      refine ⟨canW_new b3 (by simp), ?_⟩
      refine nx (lI3 := l3) (ins3 := insc ++ [p.num]) ((S2.ck C3 K3 (by decide) (by decide) (by decide) (by decide) (by decide) (by decide)).ck C4 (K3.wr B.nb _ _) (by decide) (by decide) (by decide) (by decide) (by decide) (by decide)) ⟨B.nb, w, N3, B.nG, B.nP, C4.buf (by decide) ?_, C4.buf (by decide) (buf_off U3 B2.o.2 B2.G), C4.buf (by decide) (C3.buf (by decide) B2.P), oG, B2.q, B2.c⟩ (fun k => by simp) (by simp) hng (C4.buf (by decide) (buf_off U3 o2.2 Br2)) oR
      unfold uvs at B3 ⊢; rw [List.map_append]; exact B3
    · have hR : R2 = [] := List.eq_nil_of_length_eq_zero (by omega)
      subst hR
      rw [List.append_nil] at eP
      subst eP
      obtain ⟨T3, P3⟩ := P.apply R1 hg2 hi2
      refine hJ _ _ ⟨_, ⟨vb', ls', xs', ptrs', L, lI2, lG, lP, insc, gon, bl, S2, B2, P3, T3, x1, by rw [ep, hpl, List.length_map]; omega, t1, by omega, zg, by omega, by omega, Z.q⟩, Br2.row, Nat.le_trans gone_len (by omega)⟩
  · obtain ⟨_, ex, ep, K1, er⟩ := n1 hc
    subst ex ep er
    have j1 : Jt g b sb pm cm ps k (j + 1) m ⟨none, 0, 0⟩ h1 := St.nilJ S1 B1 P ⟨zx, zp, by omega, by omega, zg, by omega, by omega, Z.q⟩
    refine ⟨fun n9 hh => hh = h1 ∧ n9 = 0, fun _ _ => 0, ⟨rfl, rfl⟩, ?_⟩
    rintro n9 hh ⟨rfl, rfl⟩
    exact ⟨fun _ => ⟨_, rfl, fun h0 => absurd h0 hc, fun _ => hJ _ _ j1⟩, fun _ => hJ _ _ j1⟩
end
end Go.Eng.Ytbjnlacacapjiaa
end
section
set_option maxRecDepth 100000
set_option maxHeartbeats 4000000
namespace Go.Eng.Ytbjnlacacapjiaa
section
variable {h : Hp} {l : Sl} {ops : List Opr} {n : Int} {Q : Value → Hp → Prop}
theorem gone_law (hr : h.row l.a (l.n * 12) (opV ops)) (ho : ∀ o ∈ ops, OpOk h o) (hQ : ∀ h', Keep h h' → Q (.bool true) h') : F5.T n l h Q := by
  have hl : l.n = ops.length := by have := hr.1; rw [opV_len] at this; omega
  unfold F5.T F5.G
  refine ⟨fun _ => hQ h (Keep.refl h), fun h300 => ?_⟩
  refine known_p fun h1 K1 => ⟨_, rfl, fun _ => ?_, fun hh => Bool.noConfusion hh⟩
  obtain ⟨k, hk⟩ : ∃ k : Nat, (k : Int) = iMin (iMax n 1) 5 := ⟨(iMin (iMax n 1) 5).toNat, by
    unfold iMin iMax
    split <;> split <;> omega⟩
  have hk5 : 1 ≤ k ∧ k ≤ 5 := by
    unfold iMin iMax at hk
    split at hk <;> split at hk <;> omega
  refine new_p (k := k) hk fun h2 sb vb pm cm ps ls xs S e => ⟨_, rfl, ?_⟩
  intro b hb
  have Kb := Keep.new hb (.cells ⟨[.slice none 0 0, .slice none 0 0, .slice none 0 0]⟩ 30 (0, 0))
  have cb := new_at h2 b (.cells ⟨[.slice none 0 0, .slice none 0 0, .slice none 0 0]⟩ 30 (0, 0))
  have nb : h1 b = none := S.V.L.k.dom _ hb
  replace S := S.keep Kb
  generalize h2.new b (.cells ⟨[.slice none 0 0, .slice none 0 0, .slice none 0 0]⟩ 30 (0, 0)) = h3 at cb S ⊢
  clear Kb hb
  refine ⟨fun _ _ _ e => (by cases e), fun e => (by cases e), fun _ => ?_⟩
  refine ⟨sb, 0, rfl, some ⟨vb, 0, none⟩, at_of S.s 0, _, rfl, fun _ _ _ e => (by cases e), fun e => (by cases e), fun _ => ?_⟩
  have st0 : StA h1 b sb pm cm ps k 0 0 [] h3 := ⟨vb, ls, xs, _, [], ⟨none, 0, 0⟩, ⟨none, 0, 0⟩, ⟨none, 0, 0⟩, [], [], [], S, ⟨nb, cb, NewN.nil _, NewN.nil _, NewN.nil _, Buf.nil _ _ _, Buf.nil _ _ _, Buf.nil _ _ _, ⟨off_nil (.inl rfl), off_nil (.inl rfl)⟩, fun h' _ => nil_row h', Nat.le_refl _⟩, by rw [e]; exact BkP.new k, told_nil, by have := congrArg List.length e; simpa using this, by simp, by rw [e]; simp [totL], by simp, by simp, by simp, by simp, fun p hp => by cases hp⟩
  clear e S cb
  refine ⟨fun i hh => ∃ j : Nat, i = (j : Int) ∧ j ≤ ops.length ∧ StA h1 b sb pm cm ps k j j [] hh, fun i _ => ops.length - i.toNat, ⟨0, rfl, Nat.zero_le _, st0⟩, ?_⟩
  clear st0
  rintro i h5 ⟨j, rfl, hj, ST⟩
  refine ⟨fun hlt => ?_, fun hge => ?_⟩
  · have hj' : j < ops.length := by omega
    obtain ⟨P, x, R, eo, hP⟩ : ∃ P x R, ops = P ++ x :: R ∧ P.length = j := ⟨ops.take j, ops[j], ops.drop (j + 1), by rw [List.getElem_cons_drop, List.take_append_drop], by rw [List.length_take]; omega⟩
    subst hP
    have hrx := hr
    rw [eo] at hrx
    have O := ho x (by rw [eo]; simp)
    obtain ⟨vb, ls, xs, ptrs, L, lI, lG, lP, ins, gon, bl, S, B, BP, _, Z⟩ := ST
    rw [List.append_nil] at BP
    obtain ⟨c, o, ha, hi, hc⟩ := op_rd ((K1.trans S.V.L.k).row hrx)
    refine ⟨c, o, ha, hi, x.kind, hc 0 (by decide), x.n, hc 1 (by decide), _, hc 2 (by decide), _, hc 3 (by decide), _, hc 4 (by decide), _, hc 5 (by decide), _, hc 6 (by decide), _, hc 7 (by decide), x.lo, hc 8 (by decide), x.li, hc 9 (by decide), x.lp, hc 10 (by decide), x.second, fun hb => ⟨?_, ?_⟩, fun hb => ⟨?_, ?_⟩⟩
    · have := hc 11 (by decide)
      rw [show (Opr.cells x)[11]? = some (.bool x.second) from rfl, hb] at this
      exact this
    rotate_left
    · have := hc 11 (by decide)
      rw [show (Opr.cells x)[11]? = some (.bool x.second) from rfl, hb] at this
      exact this
    all_goals
      refine small_s (O.e.keep (K1.trans S.V.L.k)) O.z O.o O.i O.p fun h6 r K6 hr6 => ⟨r, rfl, fun htrue => ?_, fun _ => hQ h6 ((K1.trans S.V.L.k).trans K6)⟩
      obtain ⟨so, si, sp⟩ := hr6 htrue
      have S6 := S.keep K6
      have B6 := B.keep K6
      have j300 : P.length < 300 := by omega
      refine ⟨fun l hh => Jt h1 b sb pm cm ps k (P.length + 1) P.length l hh, fun l4 h7 J7 => ?_, fun h1k => ?_, fun h1k => ⟨fun h2k => ?_, fun h2k => ⟨fun h3k => ?_, fun h3k => ?_⟩⟩⟩
      · obtain ⟨A, ST, RA, hA⟩ := J7
        refine tell_s (Q := fun _ h9 => (∃ j : Nat, IntKind.wrap .i64 ((P.length : Int) + 1) = (j : Int) ∧ j ≤ ops.length ∧ StA h1 b sb pm cm ps k j j [] h9) ∧ ops.length - (IntKind.wrap .i64 ((P.length : Int) + 1)).toNat < ops.length - (P.length : Int).toNat) (F := fun h9 => Q (.bool false) h9) hk5.2 (by omega) (by omega) ST RA hA fun h9 ST9 => ?_
        rw [next_i (n := 1000) (by omega) (by omega)]
        exact ⟨⟨P.length + 1, rfl, hj', ST9⟩, by omega⟩
      · exact step_apply hk5.1 hk5.2 (by omega) (by omega) (O.e.keep K1) so si S6 B6 BP Z (fun h' K => hQ h' (K1.trans K)) fun _ _ J => J
      · exact step_pin hk5.2 (by omega) S6 B6 BP Z fun _ _ J => J
      · exact step_unpin hk5.2 (by omega) S6 B6 BP Z fun _ _ J => J
      · exact St.nilJ S6 B6 BP ⟨Z.x, Z.p, by have := Z.t; omega, by have := Z.i; omega, Z.g, by have := Z.b; omega, by have := Z.l; omega, Z.q⟩
  · obtain ⟨vb, ls, xs, ptrs, L, lI, lG, lP, ins, gon, bl, S, B, BP, _, Z⟩ := ST
    rw [List.append_nil] at BP
    refine ⟨fun hh => ∃ (vb : Nat) (ls : Sl) (xs : List (Sl × List Tab)) (ptrs : List ByteArray) (L : List Pn) (lI lG lP lQ : Sl) (ins gon : List Int) (pl bl : List Nat) (m : Nat), SetP h1 hh sb vb pm cm ps ls xs ptrs L ∧ Bk h1 hh b lI lG lP lQ ins gon pl bl ∧ BkP (xs.map (·.2)) L bl ins gon ∧ Sz k 305 m xs ptrs L ins gon bl ∧ m + bl.length ≤ 700, fun hh => match hh.at b 2 with | some (.slice _ n _) => n | _ => 0, ⟨vb, ls, xs, ptrs, L, lI, lG, lP, lP, ins, gon, bl, bl, j, S, B, BP, ⟨Z.x, Z.p, by have := Z.t; omega, by have := Z.i; omega, Z.g, by have := Z.b; omega, by have := Z.l; omega, Z.q⟩, by have := Z.b; omega⟩, ?_⟩
    clear Z BP B S
    rintro h6 ⟨vb, ls, xs, ptrs, L, lI, lG, lP, lQ, ins, gon, pl, bl, m, S, B, BP, Z, hm⟩
    have nQ : lQ.n = bl.length := by have := (B.q _ B.P).1; rw [pks_len] at this; omega
    have zi := Z.i
    have zg := Z.g
    have zt := Z.t
    refine ⟨lQ, at_of B.b 2, fun h0 => ?_, fun h0 => ?_⟩
    · rcases bl with _ | ⟨y, bl⟩
      · exact absurd h0 (by rw [nQ]; simp)
      rw [List.length_cons] at nQ hm
      have rq := B.q _ B.P
      obtain ⟨c1, o1, ha1, hat1⟩ := row_get rq (i := 0) (by omega)
      refine ⟨lQ, at_of B.b 2, c1, o1, ha1, ⟨by omega, by omega⟩, some ⟨y, 0, none⟩, by rw [show (0 : Int).toNat = 0 from rfl, hat1 _ (by omega)]; rfl, ?_⟩
      refine unpin_b (bl' := bl) hk5.2 (by omega) S B BP Z (List.Perm.refl _) fun h7 L' A l1 S7 B7 BP7 T7 Z7 Bl hA => ?_
      refine told_s B7 Bl.row T7 (by omega) (by omega) (by omega) S7.V.L.k fun h8 lG' B8 C8 K8 => ⟨_, rfl, fun _ => ?_, fun hh => Bool.noConfusion hh⟩
      have S8 := S7.ck C8 K8 (by decide) (by decide) (by decide) (by decide) (by decide) (by decide)
      have cQ := B8.c
      have b8 := B8.b
      have w := wr_at (o := 2) (vs := [.slice (Sl.cut lQ 1 1 (lQ.n : Int) (lQ.c : Int)).a (Sl.cut lQ 1 1 (lQ.n : Int) (lQ.c : Int)).n (Sl.cut lQ 1 1 (lQ.n : Int) (lQ.c : Int)).c]) b8
      have C9 : Ck [32] h8 (h8.wr b 2 [.slice (Sl.cut lQ 1 1 (lQ.n : Int) (lQ.c : Int)).a (Sl.cut lQ 1 1 (lQ.n : Int) (lQ.c : Int)).n (Sl.cut lQ 1 1 (lQ.n : Int) (lQ.c : Int)).c]) := Ck.wr b8
      have S9 := S8.ck C9 (K8.wr B.nb _ _) (by decide) (by decide) (by decide) (by decide) (by decide) (by decide)
      have cn : (Sl.cut lQ 1 1 (lQ.n : Int) (lQ.c : Int)).n = bl.length := by unfold Sl.cut; dsimp only; omega
      refine ⟨lQ, at_of b8 2, ⟨by omega, by omega, by omega, by omega⟩, canW_new b8 (by simp), ⟨vb, ls, xs, ptrs, L', lI, lG', lP, Sl.cut lQ 1 1 (lQ.n : Int) (lQ.c : Int), ins, gon ++ A, pl, bl, m + 1, S9, ⟨B.nb, w, B8.nI, B8.nG, B8.nP, C9.buf (by decide) B8.I, C9.buf (by decide) B8.G, C9.buf (by decide) B8.P, B8.o, fun h' X => ?_, by unfold Sl.cut; dsimp only; omega⟩, BP7, ⟨Z7.x, Z7.p, Z7.t, Z7.i, by rw [List.length_append]; have := Z7.g; omega, Z7.b, Z7.l, Z7.q⟩, by omega⟩, ?_⟩
      · have := cut_back (k := 1) (B8.q h' X) (by omega) cQ
        exact this
      · dsimp only
        rw [at_of w 2, at_of B.b 2]
        show (Sl.cut lQ 1 1 (lQ.n : Int) (lQ.c : Int)).n < lQ.n
        omega
    · have Y := Z.smp hk5.2 (Nat.le_refl _)
      exact right_s S B BP (lv_sz Y.t) Y.x5 Y.p (by omega) (by omega) (by omega) fun h7 K7 => ⟨_, rfl, fun _ => hQ h7 ((K1.trans S.V.L.k).trans K7), fun hh => Bool.noConfusion hh⟩
end
end Go.Eng.Ytbjnlacacapjiaa
end
section
namespace Go.Proofs.Ytbjnlacacapjiaa.versionGone
open Go.ChangeShapes Go.WideShapes Go.ChangeAt Go.RowKit Go.Eng Go.Eng.Ytbjnlacacapjiaa
theorem own : ownKnob Try.prog.godebug = none := by kernel_rfl
theorem laidOut : laidOutB Try.prog = true := by kernel_rfl
theorem walk {a0 : Int} {a1 : Option Addr} {len1 cap1 : Nat} {L : List Opr} {W : World} (R : (wh W).row a1 (len1 * 12) (opV L)) (O : ∀ x ∈ L, OpOk (wh W) x) :
    Calls Try.prog 5 #[.int .i64 a0, .slice a1 len1 cap1] W fun e W' => e = .returned (.bool true) ∧ Below W.heap.size W W' := by
  have hT : F5.T a0 ⟨a1, len1, cap1⟩ (wh W) (fun v h' => v = .bool true ∧ Keep (wh W) h') := gone_law R O fun h' K => ⟨rfl, K⟩
  have hV : F5.V [.int .i64 a0, .slice a1 len1 cap1] (wh W) (fun v h' => v = .bool true ∧ Keep (wh W) h') := hT
  refine (F5.ok.2 _ (wh W) _ hV (fun _ => none) W (own_wh W)).mono fun e W' ⟨v, h', he, ho, hw, hv, K⟩ => ?_
  subst hv
  exact ⟨he, below_of hw ho K⟩
set_option maxRecDepth 100000 in
set_option maxHeartbeats 1000000 in
theorem lifted (os : Os) (started : os.Started) (H : Type) (enc : TypeId × Value → H) :
    ReturnsInHanded {} Try.checked os 5 .any (Rows.versionGoneSpec.pre6 enc Try.prog Try.f5 Rows.versionGoneRow.domain false) (Rows.versionGoneSpec.post enc Try.prog Try.f5 false true false false) := by
  refine returnsInHanded_of_change_sized (C := Try.checked) own started (by kernel_rfl) Try.func5
    (ChangeSpec.witness6 (enc := enc) (C := Try.checked) false ⟨#[], #[.int .i64 0, .slice none 0 0], []⟩ 8 (by kernel_rfl) (by kernel_rfl) (by kernel_rfl) (by kernel_rfl)) ?_
  intro W base args ds gs before hval0 hW hcnd hsz0 _
  have hval : ∀ (j : Nat) t v, Try.f5.params[j]? = some t → args[j]? = some v → Value.okWide Try.prog W .any base t v := hval0
  have hsz : (DataW.weightsEach Try.prog (Try.f5.params.toList ++ Rows.versionGoneSpec.plain.varTypes Try.prog) (ds ++ gs)).all (· ≤ reachBytes) = true := hsz0
  have hW' := hW
  obtain ⟨p, q, hA0, hV, rfl, hfz, hnd⟩ := hW
  have hA : DataW.TrodAll enc Try.prog W 0 (fun _ => true) true Try.f5.params.toList args.toList ds p := hA0
  rw [Try.params5] at hA hval
  obtain ⟨v0, vs0, d0, ds0, p0, q0, hargs, rfl, rfl, h0, r0⟩ := trodAll_cons hA
  obtain ⟨v1, vs1, d1, ds1, p1, q1, rfl, rfl, rfl, h1, r1⟩ := trodAll_cons r0
  obtain ⟨rfl, rfl, rfl⟩ := trodAll_nil r1
  obtain rfl : args = #[v0, v1] := by cases args; simp_all
  obtain ⟨rfl, rfl⟩ := trodVars_none hV
  obtain ⟨a0, rfl, rfl, rfl, w0⟩ := open_int Try.underlying3 (hval 0 3 v0 rfl rfl) h0
  obtain ⟨a1, len1, cap1, rfl⟩ := okWide_slice Try.underlying23 (hval 1 23 v1 rfl rfl)
  have k1 := h1
  have lt1 : ∀ x ∈ p1, x.block < W.heap.size := by obtain ⟨m, hm⟩ := k1; exact DataW.trod_lt m _ _ _ hm
  have wb1 : WB Try.prog 23 d1 := wb_arg (j := 1) hsz rfl rfl
  obtain ⟨L, R, O⟩ := (by obtain ⟨m, hm⟩ := k1; exact open_ops hm wb1 : ∃ L : List Opr, (wh W).row a1 (len1 * 12) (opV L) ∧ ∀ x ∈ L, OpOk (wh W) x)
  clear hA0 hval0 hsz0
  refine (walk R O).mono fun e W' ⟨he, bel⟩ => ?_
  subst he
  exact ⟨_, rfl, _, _, _, [], _, [], hW', trodAll_mk1 (shut_bool Try.underlying4 _), (trodAll_cons_mk (shut_int Try.underlying3 w0) (trodAll_cons_mk (Below.trod laidOut (by kernel_rfl) (of_decide_eq_true (by kernel_rfl)) k1 bel lt1) (trodAll_mk0))), rfl, bel.frame _, fun h => by cases h⟩
theorem over : Rows.versionGoneRow.holds Try.pinned (OpenSpec.ofChange Rows.versionGoneSpec) :=
  OpenClaim.holds_of_wide 5 Try.f5 rfl rfl rfl rfl rfl rfl rfl ⟨rfl, rfl, rfl, rfl, rfl⟩ rfl rfl rfl rfl rfl (by kernel_rfl) Try.func5 (by kernel_rfl)
    (of_decide_eq_true (by kernel_rfl)) (by unfold Func.isWrapper; first | (rw [if_pos (by decide +kernel)]; kernel_rfl) | (rw [if_neg (by decide +kernel)]; exact ⟨rfl, rfl⟩))
    (fun os started H enc _ => lifted os started H enc)
theorem proved : Rows.VersionGoneSaid := over
#print axioms proved
end Go.Proofs.Ytbjnlacacapjiaa.versionGone
end
