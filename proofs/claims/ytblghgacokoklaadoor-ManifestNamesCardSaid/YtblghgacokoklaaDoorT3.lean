/-
  SPECS, 3: a record's bytes.
-/
import Derived.Test.YtblghgacokoklaaDoorT2
set_option linter.unusedSimpArgs false
set_option linter.unusedVariables false
namespace Go.Eng.YtblghgacokoklaaDoor
theorem ptr_loop {h : Hp} {l lp : Sl} {xs : List Value} {ptr : List ByteArray} {R : Sl → Hp → Prop} (B : Buf h l 1 5 xs) (hr : h.row lp.a lp.n (ptrV ptr)) (ho : lp.n = 0 ∨ Off lp l) (hok : ∀ p ∈ ptr, p.size ≤ 64) (hn : ptr.length ≤ 1000) (hl : l.n ≤ 3000000)
    (hR : ∀ l' h', Buf h' l' 1 5 (xs ++ bv (ptr.flatMap encT)) → Upd h h' l l' → R l' h') :
    ∃ (I2 : Sl → Int → Hp → Prop) (m2 : Sl → Int → Hp → Nat), I2 l 0 h ∧ (∀ l12 : Sl, ∀ n12 : Int, ∀ h10 : Hp, I2 l12 n12 h10 → par (n12 < (lp.n : Int)) (∃ b9 o3, (lp.a : Option Addr) = some ⟨b9, o3, none⟩ ∧ ((0 : Int) ≤ n12 ∧ n12 < (lp.n : Int)) ∧ ∃ s2 : ByteArray, h10.at b9 (o3 + n12.toNat) = some (.string s2) ∧ F96.T l12 s2 h10 fun r7 h11 => ∃ l13 : Sl, r7 = .slice l13.a l13.n l13.c ∧ I2 l13 (IntKind.wrap .i64 (n12 + 1)) h11 ∧ m2 l13 (IntKind.wrap .i64 (n12 + 1)) h11 < m2 l12 n12 h10) (R l12 h10)) := by
  have hlp : lp.n = ptr.length := by have h1 := hr.1; simpa [ptrV] using h1.symm
  refine ⟨fun l4 i h2 => ∃ k : Nat, i = (k : Int) ∧ k ≤ ptr.length ∧ Buf h2 l4 1 5 (xs ++ bv ((ptr.take k).flatMap encT)) ∧ Upd h h2 l l4, fun _ i _ => ptr.length - i.toNat, ⟨0, rfl, Nat.zero_le _, by simpa [bv] using B, Upd.refl _ _⟩, ?_⟩
  rintro l4 i h2 ⟨k, rfl, hk, B1, U1⟩
  refine ⟨fun hlt => ?_, fun hge => ?_⟩
  · have hk1 : k < ptr.length := by omega
    obtain ⟨b, o, ha, hat⟩ := row_get (row_upd U1 ho hr) (i := k) (by omega)
    have hp := hok _ (List.getElem_mem hk1)
    have hlen : l4.n ≤ 3000000 + 74 * 1000 := by
      have e1 := B1.n1
      have e2 := B.n1
      have e3 := flatMap_le encT 74 (ptr.take k) (fun p hp => encT_length (hok p (List.mem_of_mem_take hp)))
      rw [List.length_take, Nat.min_eq_left hk] at e3
      simp only [List.length_append, bv_length] at e1
      omega
    have hw : IntKind.wrap .i64 ((k : Int) + 1) = ((k + 1 : Nat) : Int) := by rw [wrap_i64 (by omega) (by omega)]; omega
    refine ⟨b, o, ha, ⟨by omega, hlt⟩, ptr[k], ?_, ?_⟩
    · rw [Int.toNat_natCast, hat _ (by omega)]; simp [ptrV, hk1]
    · refine text_spec B1 (by omega) (by omega) fun l5 h3 B5 U5 => ⟨l5, rfl, ?_, ?_⟩
      · rw [hw]
        refine ⟨k + 1, rfl, hk1, ?_, U1.trans U5⟩
        rw [List.take_succ_eq_append_getElem hk1, List.flatMap_append, bv_append, ← List.append_assoc]
        simpa using B5
      · rw [hw]
        show ptr.length - ((k + 1 : Nat) : Int).toNat < ptr.length - (k : Int).toNat
        omega
  · have hkn : k = ptr.length := by omega
    subst hkn
    rw [List.take_length] at B1
    exact hR l4 h2 B1 U1
/-- An edit's lists, in memory. -/
structure EdAt (h : Hp) (e : Edit) (l l1 l2 : Sl) : Prop where
  out : h.row l.a (l.n * 2) (outV e.out)
  inn : h.row l1.a (l1.n * 7) (inV e.inn)
  ptr : h.row l2.a l2.n (ptrV e.ptr)
/-- An edit whose record is no longer than a record may be. -/
structure Edit.small (e : Edit) : Prop where
  log : okU e.log
  next : okU e.next
  seq : okU e.seq
  out : ∀ p ∈ e.out, p.ok
  inn : ∀ p ∈ e.inn, p.ok
  ptr : ∀ p ∈ e.ptr, p.size ≤ 64
  nout : e.out.length ≤ 1000
  ninn : e.inn.length ≤ 1000
  nptr : e.ptr.length ≤ 1000
theorem EdAt.nout {h : Hp} {e : Edit} {l l1 l2 : Sl} (E : EdAt h e l l1 l2) : l.n = e.out.length := by
  have h1 := E.out.1
  unfold outV at h1
  rw [flat_length Place.cells 2 (fun _ => rfl)] at h1
  omega
theorem EdAt.ninn {h : Hp} {e : Edit} {l l1 l2 : Sl} (E : EdAt h e l l1 l2) : l1.n = e.inn.length := by
  have h1 := E.inn.1
  unfold inV at h1
  rw [flat_length Placed.cells 7 (fun _ => rfl)] at h1
  omega
theorem EdAt.nptr {h : Hp} {e : Edit} {l l1 l2 : Sl} (E : EdAt h e l l1 l2) : l2.n = e.ptr.length := by
  have h1 := E.ptr.1; simpa [ptrV] using h1.symm
/-- A slice in a block that was not there. -/
def New (h : Hp) (s : Sl) : Prop := ∃ b, s.a = some ⟨b, 0, none⟩ ∧ h b = none
theorem New.upd {h h' : Hp} {s s' : Sl} (N : New h s) (U : Upd h h' s s') : New h s' := by
  obtain ⟨b, hb, hn⟩ := N
  rcases U.at_ with h0 | h1
  · exact ⟨b, by rw [h0]; exact hb, hn⟩
  · exact h1
theorem New.keep {h h' : Hp} {s s' : Sl} (N : New h s) (U : Upd h h' s s') : Keep h h' := by
  obtain ⟨b, hb, hn⟩ := N
  exact fun k x e => U.keep k x (fun o hs => by rw [hb] at hs; simp only [Option.some.injEq, Addr.mk.injEq] at hs; rw [← hs.1, hn] at e; cases e) e
theorem New.off {h : Hp} {s r : Sl} (N : New h s) {n : Nat} {vs : List Value} (hr : h.row r.a n vs) : n = 0 ∨ Off r s := by
  obtain ⟨b, hb, hn⟩ := N
  exact off_fresh hr hb hn
theorem encs_len (ns : List Int) (k : Nat) (h : ns.length = k) : (encUs ns).length ≤ 10 * k := by have := encUs_length ns; omega
theorem record_f {h : Hp} {e : Edit} {l l1 l2 : Sl} {Q : Value → Hp → Prop} (E : EdAt h e l l1 l2) (S : e.small)
    (hQ : ∀ r h', Buf h' r 1 5 (bv (recB e false)) → Keep h h' → New h r → Q (.slice r.a r.n r.c) h') : F63.Tf e.log e.next e.seq l l1 l2 h Q := by
  have c1 : IntKind.wrap .u64 (l.n : Int) = (e.out.length : Int) := by rw [E.nout]; exact wrap_u64 (by omega) (by have := S.nout; omega)
  have c2 : IntKind.wrap .u64 (l1.n : Int) = (e.inn.length : Int) := by rw [E.ninn]; exact wrap_u64 (by omega) (by have := S.ninn; omega)
  have c3 : IntKind.wrap .u64 (l2.n : Int) = (e.ptr.length : Int) := by rw [E.nptr]; exact wrap_u64 (by omega) (by have := S.nptr; omega)
  unfold F63.Tf
  rw [c1, c2, c3]
  intro b hb
  let s0 : Sl := ⟨some ⟨b, 0, none⟩, 1, 1⟩
  have N0 : New h s0 := ⟨b, rfl, hb⟩
  have B0 : Buf (h.new b (.cells ⟨[.int .u8 0]⟩ 5 (0, 0))) s0 1 5 (bv [0]) := ⟨rfl, Nat.le_refl _, .inr ⟨b, _, (0, 0), rfl, by unfold Hp.new; rw [if_pos rfl], Nat.le_refl _, fun j _ => by simp, rfl⟩⟩
  have U0 : Upd h (h.new b (.cells ⟨[.int .u8 0]⟩ 5 (0, 0))) s0 s0 := Upd.of_new hb _ s0
  refine uints_lit (l := s0) (ns := [e.log, e.next, e.seq, (e.out.length : Int)]) B0 (fun n hn => ?_) (by simp [s0]) (fun l3 h1 B1 U1 => ⟨l3, rfl, ?_⟩)
  · simp only [List.mem_cons, List.not_mem_nil, or_false] at hn
    have := S.nout
    rcases hn with rfl | rfl | rfl | rfl
    · exact S.log
    · exact S.next
    · exact S.seq
    · omega
  · have U01 := U0.trans U1
    have m1 : l3.n ≤ 41 := by
      have e1 := B1.n1
      have e3 := encs_len [e.log, e.next, e.seq, (e.out.length : Int)] 4 rfl
      simp only [List.length_append, bv_length, List.length_singleton] at e1
      omega
    refine out_loop (lo := l) (out := e.out) B1 (row_upd U01 (N0.off E.out) E.out) ((N0.upd U01).off E.out) S.out S.nout (by omega) (fun l4 h2 B2 U2 => ?_)
    have U02 := U01.trans U2
    have m2 : l4.n ≤ 41 + 20 * 1000 := by
      have e1 := B2.n1
      have e2 := B1.n1
      have e3 := flatMap_le Place.enc 20 e.out (fun p _ => p.enc_length)
      have := S.nout
      rw [List.length_append, bv_length] at e1
      omega
    refine uints_lit (ns := [(e.inn.length : Int)]) B2 (fun n hn => ?_) (by simp; omega) (fun l5 h3 B3 U3 => ⟨l5, rfl, ?_⟩)
    · simp only [List.mem_cons, List.not_mem_nil, or_false] at hn
      have := S.ninn
      subst hn
      omega
    have U03 := U02.trans U3
    have m3 : l5.n ≤ 41 + 20 * 1000 + 10 := by
      have e1 := B3.n1
      have e2 := B2.n1
      have e3 := encs_len [(e.inn.length : Int)] 1 rfl
      rw [List.length_append, bv_length] at e1
      omega
    refine in_loop (li := l1) (inn := e.inn) B3 (row_upd U03 (N0.off E.inn) E.inn) ((N0.upd U03).off E.inn) S.inn S.ninn (by omega) (fun l6 h4 B4 U4 => ?_)
    have U04 := U03.trans U4
    have m4 : l6.n ≤ 41 + 20 * 1000 + 10 + 198 * 1000 := by
      have e1 := B4.n1
      have e2 := B3.n1
      have e3 := flatMap_le Placed.enc 198 e.inn (fun p hp => (S.inn p hp).enc_length')
      have := S.ninn
      rw [List.length_append, bv_length] at e1
      omega
    refine uints_lit (ns := [(e.ptr.length : Int)]) B4 (fun n hn => ?_) (by simp; omega) (fun l7 h5 B5 U5 => ⟨l7, rfl, ?_⟩)
    · simp only [List.mem_cons, List.not_mem_nil, or_false] at hn
      have := S.nptr
      subst hn
      omega
    have U05 := U04.trans U5
    have m5 : l7.n ≤ 41 + 20 * 1000 + 10 + 198 * 1000 + 10 := by
      have e1 := B5.n1
      have e2 := B4.n1
      have e3 := encs_len [(e.ptr.length : Int)] 1 rfl
      rw [List.length_append, bv_length] at e1
      omega
    refine ptr_loop (lp := l2) (ptr := e.ptr) (R := fun l' h' => Q (.slice l'.a l'.n l'.c) h') B5 (row_upd U05 (N0.off E.ptr) E.ptr) ((N0.upd U05).off E.ptr) S.ptr S.nptr (by omega) (fun l8 h6 B6 U6 => ?_)
    have U06 := U05.trans U6
    refine hQ l8 h6 ?_ (N0.keep U06) (N0.upd U06)
    simpa [recB, bv_append, bv, List.append_assoc] using B6
theorem record_t {h : Hp} {e : Edit} {l l1 l2 : Sl} {Q : Value → Hp → Prop} (E : EdAt h e l l1 l2) (S : e.small)
    (hQ : ∀ r h', Buf h' r 1 5 (bv (recB e true)) → Keep h h' → New h r → Q (.slice r.a r.n r.c) h') : F63.Tt e.log e.next e.seq l l1 l2 h Q := by
  have c1 : IntKind.wrap .u64 (l.n : Int) = (e.out.length : Int) := by rw [E.nout]; exact wrap_u64 (by omega) (by have := S.nout; omega)
  have c2 : IntKind.wrap .u64 (l1.n : Int) = (e.inn.length : Int) := by rw [E.ninn]; exact wrap_u64 (by omega) (by have := S.ninn; omega)
  have c3 : IntKind.wrap .u64 (l2.n : Int) = (e.ptr.length : Int) := by rw [E.nptr]; exact wrap_u64 (by omega) (by have := S.nptr; omega)
  unfold F63.Tt
  rw [c1, c2, c3]
  intro b hb
  let s0 : Sl := ⟨some ⟨b, 0, none⟩, 1, 1⟩
  have N0 : New h s0 := ⟨b, rfl, hb⟩
  have hcell : (h.new b (.cells ⟨[.int .u8 0]⟩ 5 (0, 0))) b = some (.cells ⟨[.int .u8 0]⟩ 5 (0, 0)) := by unfold Hp.new; rw [if_pos rfl]
  refine ⟨b, 0, rfl, ⟨by decide, by decide⟩, ⟨_, 5, (0, 0), hcell, by decide, fun j _ _ => by simp⟩, ?_⟩
  have B0 : Buf ((h.new b (.cells ⟨[.int .u8 0]⟩ 5 (0, 0))).wr b (0 + (0 : Int).toNat) [.int .u8 1]) s0 1 5 (bv [1]) := ⟨rfl, Nat.le_refl _, .inr ⟨b, ⟨[.int .u8 1]⟩, (0, 0), rfl, by unfold Hp.wr; rw [if_pos rfl, hcell]; rfl, Nat.le_refl _, fun j _ => by simp, rfl⟩⟩
  have U0 : Upd h ((h.new b (.cells ⟨[.int .u8 0]⟩ 5 (0, 0))).wr b (0 + (0 : Int).toNat) [.int .u8 1]) s0 s0 := by
    refine ⟨fun k x hk e => ?_, .inl rfl, fun k e => ?_⟩
    · have hkb : k ≠ b := fun q => hk 0 (by rw [q])
      unfold Hp.wr Hp.new
      rw [if_neg hkb, if_neg hkb]
      exact e
    · unfold Hp.wr at e
      by_cases hkb : k = b
      · rw [hkb]; exact hb
      · rw [if_neg hkb] at e
        unfold Hp.new at e
        rw [if_neg hkb] at e
        exact e
  refine uints_lit (l := s0) (ns := [e.log, e.next, e.seq, (e.out.length : Int)]) B0 (fun n hn => ?_) (by simp [s0]) (fun l3 h1 B1 U1 => ⟨l3, rfl, ?_⟩)
  · simp only [List.mem_cons, List.not_mem_nil, or_false] at hn
    have := S.nout
    rcases hn with rfl | rfl | rfl | rfl
    · exact S.log
    · exact S.next
    · exact S.seq
    · omega
  · have U01 := U0.trans U1
    have m1 : l3.n ≤ 41 := by
      have e1 := B1.n1
      have e3 := encs_len [e.log, e.next, e.seq, (e.out.length : Int)] 4 rfl
      simp only [List.length_append, bv_length, List.length_singleton] at e1
      omega
    refine out_loop (lo := l) (out := e.out) B1 (row_upd U01 (N0.off E.out) E.out) ((N0.upd U01).off E.out) S.out S.nout (by omega) (fun l4 h2 B2 U2 => ?_)
    have U02 := U01.trans U2
    have m2 : l4.n ≤ 41 + 20 * 1000 := by
      have e1 := B2.n1
      have e2 := B1.n1
      have e3 := flatMap_le Place.enc 20 e.out (fun p _ => p.enc_length)
      have := S.nout
      rw [List.length_append, bv_length] at e1
      omega
    refine uints_lit (ns := [(e.inn.length : Int)]) B2 (fun n hn => ?_) (by simp; omega) (fun l5 h3 B3 U3 => ⟨l5, rfl, ?_⟩)
    · simp only [List.mem_cons, List.not_mem_nil, or_false] at hn
      have := S.ninn
      subst hn
      omega
    have U03 := U02.trans U3
    have m3 : l5.n ≤ 41 + 20 * 1000 + 10 := by
      have e1 := B3.n1
      have e2 := B2.n1
      have e3 := encs_len [(e.inn.length : Int)] 1 rfl
      rw [List.length_append, bv_length] at e1
      omega
    refine in_loop (li := l1) (inn := e.inn) B3 (row_upd U03 (N0.off E.inn) E.inn) ((N0.upd U03).off E.inn) S.inn S.ninn (by omega) (fun l6 h4 B4 U4 => ?_)
    have U04 := U03.trans U4
    have m4 : l6.n ≤ 41 + 20 * 1000 + 10 + 198 * 1000 := by
      have e1 := B4.n1
      have e2 := B3.n1
      have e3 := flatMap_le Placed.enc 198 e.inn (fun p hp => (S.inn p hp).enc_length')
      have := S.ninn
      rw [List.length_append, bv_length] at e1
      omega
    refine uints_lit (ns := [(e.ptr.length : Int)]) B4 (fun n hn => ?_) (by simp; omega) (fun l7 h5 B5 U5 => ⟨l7, rfl, ?_⟩)
    · simp only [List.mem_cons, List.not_mem_nil, or_false] at hn
      have := S.nptr
      subst hn
      omega
    have U05 := U04.trans U5
    have m5 : l7.n ≤ 41 + 20 * 1000 + 10 + 198 * 1000 + 10 := by
      have e1 := B5.n1
      have e2 := B4.n1
      have e3 := encs_len [(e.ptr.length : Int)] 1 rfl
      rw [List.length_append, bv_length] at e1
      omega
    refine ptr_loop (lp := l2) (ptr := e.ptr) (R := fun l' h' => Q (.slice l'.a l'.n l'.c) h') B5 (row_upd U05 (N0.off E.ptr) E.ptr) ((N0.upd U05).off E.ptr) S.ptr S.nptr (by omega) (fun l8 h6 B6 U6 => ?_)
    have U06 := U05.trans U6
    refine hQ l8 h6 ?_ (N0.keep U06) (N0.upd U06)
    simpa [recB, bv_append, bv, List.append_assoc] using B6
end Go.Eng.YtblghgacokoklaaDoor
