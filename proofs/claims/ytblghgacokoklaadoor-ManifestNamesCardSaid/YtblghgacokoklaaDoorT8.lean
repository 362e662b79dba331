/-
  SPECS, 8: reading a record.
-/
import Derived.Test.YtblghgacokoklaaDoorT7
set_option linter.unusedSimpArgs false
set_option linter.unusedVariables false
namespace Go.Eng.YtblghgacokoklaaDoor
def maxI : Int := 9223372036854775807
def outR : Nat → List Place → RS → Option (List Place × RS)
  | 0, acc, s => some (acc, s)
  | f + 1, acc, s => if (rU (rW 4 s).2).2.bad = true then none else outR f (acc ++ [⟨(rW 4 s).1, (rU (rW 4 s).2).1⟩]) (rU (rW 4 s).2).2
def plS (s : RS) : Placed × RS :=
  let a := rW 4 s
  let b := rU a.2
  let c := rW 9223372036854775807 b.2
  let d := rW 9223372036854775807 c.2
  let e := rW 9223372036854775807 d.2
  let x := rT e.2
  let y := rT x.2
  (⟨a.1, b.1, c.1, d.1, e.1, x.1, y.1⟩, y.2)
def inR : Nat → List Placed → RS → Option (List Placed × RS)
  | 0, acc, s => some (acc, s)
  | f + 1, acc, s => if (plS s).2.bad = true then none else inR f (acc ++ [(plS s).1]) (plS s).2
def ptR : Nat → List ByteArray → RS → Option (List ByteArray × RS)
  | 0, acc, s => some (acc, s)
  | f + 1, acc, s => if (rT s).2.bad = true then none else ptR f (acc ++ [(rT s).1]) (rT s).2
def rdP (c a b d : Int) (o : List Place) (i : List Placed) (s : RS) : Option (Edit × Bool) :=
  match ptR (rU s).1.toNat [] (rU s).2 with
  | none => none
  | some x => if x.2.bad = true then none else if x.2.b.length = 0 then some (⟨a, b, d, o, i, x.1⟩, decide (c = 1)) else none
def rdI (c a b d : Int) (o : List Place) (s : RS) : Option (Edit × Bool) :=
  match inR (rU s).1.toNat [] (rU s).2 with
  | none => none
  | some x => rdP c a b d o x.1 x.2
def rdO (c a b d : Int) (s : RS) : Option (Edit × Bool) :=
  match outR (rU s).1.toNat [] (rU s).2 with
  | none => none
  | some x => rdI c a b d x.1 x.2
/-- What a record tells. -/
def rd : List Int → Option (Edit × Bool)
  | [] => none
  | c :: l => if 1 < c then none else rdO c (rU ⟨l, false⟩).1 (rU (rU ⟨l, false⟩).2).1 (rU (rU (rU ⟨l, false⟩).2).2).1 (rU (rU (rU ⟨l, false⟩).2).2).2
theorem rd_cons (c : Int) (l : List Int) : rd (c :: l) = if 1 < c then none else rdO c (rU ⟨l, false⟩).1 (rU (rU ⟨l, false⟩).2).1 (rU (rU (rU ⟨l, false⟩).2).2).1 (rU (rU (rU ⟨l, false⟩).2).2).2 := rfl
def Place.val (p : Place) : Prop := p.lv < 9223372036854775808 ∧ okU p.num
def Placed.val (p : Placed) : Prop := p.lv < 9223372036854775808 ∧ okU p.num ∧ p.weight < 9223372036854775808 ∧ p.bytes < 9223372036854775808 ∧ p.entries < 9223372036854775808
/-- A reader and the lists that it has told so far. -/
structure St (h0 h : Hp) (b : Nat) (s : RS) (l1 l2 l3 : Sl) (o : List Place) (i : List Placed) (p : List ByteArray) (N : Nat) : Prop where
  rd : RdAt h0 h b s
  out : Buf h l1 2 104 (outV o)
  inn : Buf h l2 7 108 (inV i)
  ptr : Buf h l3 1 9 (ptrV p)
  n1 : l1.a = none ∨ New h0 l1
  n2 : l2.a = none ∨ New h0 l2
  n3 : l3.a = none ∨ New h0 l3
  room : o.length + i.length + p.length + s.b.length ≤ N
  vo : ∀ x ∈ o, x.val
  vi : ∀ x ∈ i, x.val
theorem out_n {h : Hp} {l : Sl} {o : List Place} (B : Buf h l 2 104 (outV o)) : l.n = o.length := by
  have h1 := B.len
  unfold outV at h1
  rw [flat_length Place.cells 2 (fun _ => rfl)] at h1
  omega
theorem in_n {h : Hp} {l : Sl} {o : List Placed} (B : Buf h l 7 108 (inV o)) : l.n = o.length := by
  have h1 := B.len
  unfold inV at h1
  rw [flat_length Placed.cells 7 (fun _ => rfl)] at h1
  omega
theorem pt_n {h : Hp} {l : Sl} {o : List ByteArray} (B : Buf h l 1 9 (ptrV o)) : l.n = o.length := by
  have h1 := B.len
  unfold ptrV at h1
  rw [List.length_map] at h1
  omega
theorem St.step {h0 h h' : Hp} {b : Nat} {s s' : RS} {l1 l2 l3 : Sl} {o : List Place} {i : List Placed} {p : List ByteArray} {N : Nat} (S : St h0 h b s l1 l2 l3 o i p N) (U : Upd h h' (rb b) (rb b)) (R : RdAt h0 h' b s') (hle : s'.b.length ≤ s.b.length) : St h0 h' b s' l1 l2 l3 o i p N :=
  ⟨R, S.out.upd U (S.rd.off S.out (by decide)), S.inn.upd U (S.rd.off S.inn (by decide)), S.ptr.upd U (S.rd.off S.ptr (by decide)), S.n1, S.n2, S.n3, by have := S.room; omega, S.vo, S.vi⟩
theorem RdAt.bad_at {h0 h : Hp} {b : Nat} {s : RS} (R : RdAt h0 h b s) : h.at b 1 = some (.bool s.bad) := by
  obtain ⟨l, hb, _, _⟩ := R.cell
  unfold Hp.at; rw [hb]; rfl
theorem RdAt.b_at {h0 h : Hp} {b : Nat} {s : RS} (R : RdAt h0 h b s) : ∃ l : Sl, h.at b 0 = some (.slice l.a l.n l.c) ∧ l.n = s.b.length := by
  obtain ⟨l, hb, hr, _⟩ := R.cell
  refine ⟨l, by unfold Hp.at; rw [hb]; rfl, ?_⟩
  have := hr.1
  rw [bv_length] at this
  exact this.symm
theorem St.addO {h0 h h' : Hp} {b : Nat} {s : RS} {l1 l1' l2 l3 : Sl} {o : List Place} {i : List Placed} {p : List ByteArray} {N : Nat} (S : St h0 h b s l1 l2 l3 o i p N) (U : Upd h h' l1 l1') {x : Place} (B : Buf h' l1' 2 104 (outV o ++ x.cells)) (hx : x.val) (hr : o.length + i.length + p.length + s.b.length + 1 ≤ N) : St h0 h' b s l1' l2 l3 (o ++ [x]) i p N :=
  ⟨S.rd.grow S.out (by decide) S.n1 U, by simpa [outV] using B, S.inn.upd U (buf_off S.inn S.out (by decide)), S.ptr.upd U (buf_off S.ptr S.out (by decide)), (keep_grow S.rd.keep S.n1 U).2, S.n2, S.n3,
    by rw [List.length_append, List.length_singleton]; omega, fun y hy => by rcases List.mem_append.1 hy with h | h; exact S.vo y h; rw [List.mem_singleton] at h; rw [h]; exact hx, S.vi⟩
theorem St.addI {h0 h h' : Hp} {b : Nat} {s : RS} {l1 l2 l2' l3 : Sl} {o : List Place} {i : List Placed} {p : List ByteArray} {N : Nat} (S : St h0 h b s l1 l2 l3 o i p N) (U : Upd h h' l2 l2') {x : Placed} (B : Buf h' l2' 7 108 (inV i ++ x.cells)) (hx : x.val) (hr : o.length + i.length + p.length + s.b.length + 1 ≤ N) : St h0 h' b s l1 l2' l3 o (i ++ [x]) p N :=
  ⟨S.rd.grow S.inn (by decide) S.n2 U, S.out.upd U (buf_off S.out S.inn (by decide)), by simpa [inV] using B, S.ptr.upd U (buf_off S.ptr S.inn (by decide)), S.n1, (keep_grow S.rd.keep S.n2 U).2, S.n3,
    by rw [List.length_append, List.length_singleton]; omega, S.vo, fun y hy => by rcases List.mem_append.1 hy with h | h; exact S.vi y h; rw [List.mem_singleton] at h; rw [h]; exact hx⟩
theorem St.addP {h0 h h' : Hp} {b : Nat} {s : RS} {l1 l2 l3 l3' : Sl} {o : List Place} {i : List Placed} {p : List ByteArray} {N : Nat} (S : St h0 h b s l1 l2 l3 o i p N) (U : Upd h h' l3 l3') {x : ByteArray} (B : Buf h' l3' 1 9 (ptrV p ++ [.string x])) (hr : o.length + i.length + p.length + s.b.length + 1 ≤ N) : St h0 h' b s l1 l2 l3' o i (p ++ [x]) N :=
  ⟨S.rd.grow S.ptr (by decide) S.n3 U, S.out.upd U (buf_off S.out S.ptr (by decide)), S.inn.upd U (buf_off S.inn S.ptr (by decide)), by simpa [ptrV] using B, S.n1, S.n2, (keep_grow S.rd.keep S.n3 U).2,
    by rw [List.length_append, List.length_singleton]; omega, S.vo, S.vi⟩
@[reducible] def noneV : Value := .tuple ⟨[.agg ⟨[.int .u64 0, .int .u64 0, .int .u64 0, .slice none 0 0, .slice none 0 0, .slice none 0 0]⟩, .bool false, .bool false]⟩
theorem rd_out {h0 h : Hp} {b1 : Nat} {s : RS} {l1 l2 l3 : Sl} {N : Nat} {n a c d : Int} {Q : Value → Hp → Prop} {R : Int → Int → Int → Int → Sl → Sl → Sl → Hp → Prop} (S : St h0 h b1 s l1 l2 l3 [] [] [] N) (hN : N ≤ 1000000000000) (hn : okU n)
    (hB : ∀ h', Keep h0 h' → outR n.toNat [] s = none → Q noneV h')
    (hR : ∀ n5 l1' o s' h', outR n.toNat [] s = some (o, s') → St h0 h' b1 s' l1' l2 l3 o [] [] N → R n5 a c d l1' l2 l3 h') :
    ∃ (I : Int → Int → Int → Int → Sl → Sl → Sl → Hp → Prop) (m : Int → Int → Int → Int → Sl → Sl → Sl → Hp → Nat), I n a c d l1 l2 l3 h ∧ (∀ n5 : Int, ∀ n6 : Int, ∀ n7 : Int, ∀ n8 : Int, ∀ l1 : Sl, ∀ l2 : Sl, ∀ l3 : Sl, ∀ h5 : Hp, I n5 n6 n7 n8 l1 l2 l3 h5 → par ((0 : Int) < n5) (F124.T (some ⟨b1, 0, none⟩) 4 h5 fun r4 h6 => ∃ n9 : Int, r4 = .int .i64 n9 ∧ F123.T (some ⟨b1, 0, none⟩) h6 fun r5 h7 => ∃ n10 : Int, r5 = .int .u64 n10 ∧ appendD l1 104 2 16 [.int .i64 0, .int .u64 0] 1 [.int .i64 n9, .int .u64 n10] h7 fun l4 h8 => ∃ b2 : Bool, h8.at b1 1 = some (.bool b2) ∧ parB b2 (Q noneV h8) (I (IntKind.wrap .u64 (n5 - 1)) n6 n7 n8 l4 l2 l3 h8 ∧ m (IntKind.wrap .u64 (n5 - 1)) n6 n7 n8 l4 l2 l3 h8 < m n5 n6 n7 n8 l1 l2 l3 h5)) (R n5 n6 n7 n8 l1 l2 l3 h5)) := by
  refine ⟨fun n5 x y z k1 k2 k3 h5 => x = a ∧ y = c ∧ z = d ∧ k2 = l2 ∧ k3 = l3 ∧ okU n5 ∧ ∃ o s', outR n5.toNat o s' = outR n.toNat [] s ∧ St h0 h5 b1 s' k1 l2 l3 o [] [] N, fun n5 _ _ _ _ _ _ _ => n5.toNat, ⟨rfl, rfl, rfl, rfl, rfl, hn, [], s, rfl, S⟩, ?_⟩
  rintro n5 x y z k1 k2 k3 h5 ⟨rfl, rfl, rfl, rfl, rfl, hn5, o, s', hE, S'⟩
  refine ⟨fun hpos => ?_, fun hz => ?_⟩
  · obtain ⟨f, hf⟩ : ∃ f, n5.toNat = f + 1 := ⟨n5.toNat - 1, by omega⟩
    have hf' : (n5 - 1).toNat = f := by omega
    have hn52 := hn5.2
    rw [hf, outR] at hE
    have hw : IntKind.wrap .u64 (n5 - 1) = n5 - 1 := wrap_u64 (by omega) (by omega)
    refine within_r S'.rd (by decide) fun h6 U6 R6 => ⟨_, rfl, ?_⟩
    have S6 := S'.step U6 R6 (rW_le _ _)
    refine uint_r S6.rd fun h7 U7 R7 => ⟨_, rfl, ?_⟩
    have S7 := S6.step U7 R7 (rU_le _)
    have r7 := S7.room
    have m7 := out_n S7.out
    refine append_buf S7.out rfl rfl (by omega) fun l4 h8 B8 hn8 U8 => ⟨_, (S7.rd.grow S7.out (by decide) S7.n1 U8).bad_at, fun hb => ?_, fun hb => ?_⟩
    · rw [if_pos hb] at hE
      exact hB h8 (S7.rd.grow S7.out (by decide) S7.n1 U8).keep hE.symm
    · rw [if_neg (by rw [hb]; decide)] at hE
      rw [hw]
      have q1 := rU_len hb
      have q2 := rW_len q1.1
      have r0 := S'.room
      have v1 := rW_ok 4 s' (by decide)
      refine ⟨⟨rfl, rfl, rfl, rfl, rfl, ⟨by omega, by omega⟩, o ++ [⟨(rW 4 s').1, (rU (rW 4 s').2).1⟩], (rU (rW 4 s').2).2, by rw [hf']; exact hE, ?_⟩, by dsimp only; omega⟩
      refine S7.addO U8 (x := ⟨(rW 4 s').1, (rU (rW 4 s').2).1⟩) B8 ⟨by show (rW 4 s').1 < _; omega, rU_ok _⟩ (by omega)
  · have h0' : n5.toNat = 0 := by omega
    rw [h0', outR] at hE
    exact hR _ _ _ _ _ hE.symm S'
theorem rd_in {h0 h : Hp} {b1 : Nat} {s : RS} {l1 l2 l3 : Sl} {N : Nat} {n a c d : Int} {o : List Place} {Q : Value → Hp → Prop} {R : Int → Int → Int → Int → Sl → Sl → Sl → Hp → Prop} (S : St h0 h b1 s l1 l2 l3 o [] [] N) (hN : N ≤ 1000000000000) (hn : okU n)
    (hB : ∀ h', Keep h0 h' → inR n.toNat [] s = none → Q noneV h')
    (hR : ∀ n5 l2' i s' h', inR n.toNat [] s = some (i, s') → St h0 h' b1 s' l1 l2' l3 o i [] N → R n5 a c d l1 l2' l3 h') :
    ∃ (I1 : Int → Int → Int → Int → Sl → Sl → Sl → Hp → Prop) (m1 : Int → Int → Int → Int → Sl → Sl → Sl → Hp → Nat), I1 n a c d l1 l2 l3 h ∧ (∀ n12 : Int, ∀ n13 : Int, ∀ n14 : Int, ∀ n15 : Int, ∀ l5 : Sl, ∀ l6 : Sl, ∀ l7 : Sl, ∀ h10 : Hp, I1 n12 n13 n14 n15 l5 l6 l7 h10 → par ((0 : Int) < n12) (F124.T (some ⟨b1, 0, none⟩) 4 h10 fun r7 h11 => ∃ n16 : Int, r7 = .int .i64 n16 ∧ F123.T (some ⟨b1, 0, none⟩) h11 fun r8 h12 => ∃ n17 : Int, r8 = .int .u64 n17 ∧ F124.T (some ⟨b1, 0, none⟩) 9223372036854775807 h12 fun r9 h13 => ∃ n18 : Int, r9 = .int .i64 n18 ∧ F124.T (some ⟨b1, 0, none⟩) 9223372036854775807 h13 fun r10 h14 => ∃ n19 : Int, r10 = .int .i64 n19 ∧ F124.T (some ⟨b1, 0, none⟩) 9223372036854775807 h14 fun r11 h15 => ∃ n20 : Int, r11 = .int .i64 n20 ∧ F125.T (some ⟨b1, 0, none⟩) h15 fun r12 h16 => ∃ s : ByteArray, r12 = .string s ∧ F125.T (some ⟨b1, 0, none⟩) h16 fun r13 h17 => ∃ s1 : ByteArray, r13 = .string s1 ∧ appendD l6 108 7 72 [.int .i64 0, .int .u64 0, .int .i64 0, .int .i64 0, .int .i64 0, .string (ByteArray.mk #[]), .string (ByteArray.mk #[])] 1 [.int .i64 n16, .int .u64 n17, .int .i64 n18, .int .i64 n19, .int .i64 n20, .string s, .string s1] h17 fun l8 h18 => ∃ b3 : Bool, h18.at b1 1 = some (.bool b3) ∧ parB b3 (Q noneV h18) (I1 (IntKind.wrap .u64 (n12 - 1)) n13 n14 n15 l5 l8 l7 h18 ∧ m1 (IntKind.wrap .u64 (n12 - 1)) n13 n14 n15 l5 l8 l7 h18 < m1 n12 n13 n14 n15 l5 l6 l7 h10)) (R n12 n13 n14 n15 l5 l6 l7 h10)) := by
  refine ⟨fun n5 x y z k1 k2 k3 h5 => x = a ∧ y = c ∧ z = d ∧ k1 = l1 ∧ k3 = l3 ∧ okU n5 ∧ ∃ i s', inR n5.toNat i s' = inR n.toNat [] s ∧ St h0 h5 b1 s' l1 k2 l3 o i [] N, fun n5 _ _ _ _ _ _ _ => n5.toNat, ⟨rfl, rfl, rfl, rfl, rfl, hn, [], s, rfl, S⟩, ?_⟩
  rintro n5 x y z k1 k2 k3 h5 ⟨rfl, rfl, rfl, rfl, rfl, hn5, i, s', hE, S'⟩
  refine ⟨fun hpos => ?_, fun hz => ?_⟩
  · obtain ⟨f, hf⟩ : ∃ f, n5.toNat = f + 1 := ⟨n5.toNat - 1, by omega⟩
    have hf' : (n5 - 1).toNat = f := by omega
    have hn52 := hn5.2
    rw [hf, inR] at hE
    have hx : plS s' = (⟨(rW 4 s').1, (rU (rW 4 s').2).1, (rW 9223372036854775807 (rU (rW 4 s').2).2).1, (rW 9223372036854775807 (rW 9223372036854775807 (rU (rW 4 s').2).2).2).1, (rW 9223372036854775807 (rW 9223372036854775807 (rW 9223372036854775807 (rU (rW 4 s').2).2).2).2).1, (rT (rW 9223372036854775807 (rW 9223372036854775807 (rW 9223372036854775807 (rU (rW 4 s').2).2).2).2).2).1, (rT (rT (rW 9223372036854775807 (rW 9223372036854775807 (rW 9223372036854775807 (rU (rW 4 s').2).2).2).2).2).2).1⟩, (rT (rT (rW 9223372036854775807 (rW 9223372036854775807 (rW 9223372036854775807 (rU (rW 4 s').2).2).2).2).2).2).2) := rfl
    have hw : IntKind.wrap .u64 (n5 - 1) = n5 - 1 := wrap_u64 (by omega) (by omega)
    refine within_r S'.rd (by decide) fun h6 U6 R6 => ⟨_, rfl, ?_⟩
    have S6 := S'.step U6 R6 (rW_le _ _)
    refine uint_r S6.rd fun h7 U7 R7 => ⟨_, rfl, ?_⟩
    have S7 := S6.step U7 R7 (rU_le _)
    refine within_r S7.rd (by decide) fun h8 U8 R8 => ⟨_, rfl, ?_⟩
    have S8 := S7.step U8 R8 (rW_le _ _)
    refine within_r S8.rd (by decide) fun h9 U9 R9 => ⟨_, rfl, ?_⟩
    have S9 := S8.step U9 R9 (rW_le _ _)
    refine within_r S9.rd (by decide) fun h10 U10 R10 => ⟨_, rfl, ?_⟩
    have S10 := S9.step U10 R10 (rW_le _ _)
    refine text_r S10.rd fun h11 U11 R11 => ⟨_, rfl, ?_⟩
    have S11 := S10.step U11 R11 (rT_le _)
    refine text_r S11.rd fun h12 U12 R12 => ⟨_, rfl, ?_⟩
    have S12 := S11.step U12 R12 (rT_le _)
    have r7 := S12.room
    have m7 := in_n S12.inn
    refine append_buf S12.inn rfl rfl (by omega) fun l4 h13 B8 hn8 U8 => ⟨_, (S12.rd.grow S12.inn (by decide) S12.n2 U8).bad_at, fun hb => ?_, fun hb => ?_⟩
    · rw [hx] at hE
      simp only at hE
      rw [if_pos hb] at hE
      exact hB h13 (S12.rd.grow S12.inn (by decide) S12.n2 U8).keep hE.symm
    · rw [hx] at hE
      simp only at hE
      rw [if_neg (by rw [hb]; decide)] at hE
      rw [hw]
      have q1 := rT_len hb
      have q2 := rT_len q1.1
      have q3 := rW_len q2.1
      have q4 := rW_len q3.1
      have q5 := rW_len q4.1
      have q6 := rU_len q5.1
      have q7 := rW_len q6.1
      have r0 := S'.room
      have v1 := rW_ok 4 s' (by decide)
      have v2 := rW_ok 9223372036854775807 (rU (rW 4 s').2).2 (by decide)
      have v3 := rW_ok 9223372036854775807 (rW 9223372036854775807 (rU (rW 4 s').2).2).2 (by decide)
      have v4 := rW_ok 9223372036854775807 (rW 9223372036854775807 (rW 9223372036854775807 (rU (rW 4 s').2).2).2).2 (by decide)
      refine ⟨⟨rfl, rfl, rfl, rfl, rfl, ⟨by omega, by omega⟩, i ++ [⟨(rW 4 s').1, (rU (rW 4 s').2).1, (rW 9223372036854775807 (rU (rW 4 s').2).2).1, (rW 9223372036854775807 (rW 9223372036854775807 (rU (rW 4 s').2).2).2).1, (rW 9223372036854775807 (rW 9223372036854775807 (rW 9223372036854775807 (rU (rW 4 s').2).2).2).2).1, (rT (rW 9223372036854775807 (rW 9223372036854775807 (rW 9223372036854775807 (rU (rW 4 s').2).2).2).2).2).1, (rT (rT (rW 9223372036854775807 (rW 9223372036854775807 (rW 9223372036854775807 (rU (rW 4 s').2).2).2).2).2).2).1⟩], (rT (rT (rW 9223372036854775807 (rW 9223372036854775807 (rW 9223372036854775807 (rU (rW 4 s').2).2).2).2).2).2).2, by rw [hf']; exact hE, ?_⟩, by dsimp only; omega⟩
      refine S12.addI U8 (x := ⟨(rW 4 s').1, (rU (rW 4 s').2).1, (rW 9223372036854775807 (rU (rW 4 s').2).2).1, (rW 9223372036854775807 (rW 9223372036854775807 (rU (rW 4 s').2).2).2).1, (rW 9223372036854775807 (rW 9223372036854775807 (rW 9223372036854775807 (rU (rW 4 s').2).2).2).2).1, (rT (rW 9223372036854775807 (rW 9223372036854775807 (rW 9223372036854775807 (rU (rW 4 s').2).2).2).2).2).1, (rT (rT (rW 9223372036854775807 (rW 9223372036854775807 (rW 9223372036854775807 (rU (rW 4 s').2).2).2).2).2).2).1⟩) (by simp only [Placed.cells]; exact B8) ?_ (by omega)
      simp only [Placed.val]
      exact ⟨by omega, rU_ok _, by omega, by omega, by omega⟩
  · have h0' : n5.toNat = 0 := by omega
    rw [h0', inR] at hE
    exact hR _ _ _ _ _ hE.symm S'
theorem rd_ptr {h0 h : Hp} {b1 : Nat} {s : RS} {l1 l2 l3 : Sl} {N : Nat} {n a c d : Int} {o : List Place} {i : List Placed} {Q : Value → Hp → Prop} {R : Int → Int → Int → Int → Sl → Sl → Sl → Hp → Prop} (S : St h0 h b1 s l1 l2 l3 o i [] N) (hN : N ≤ 1000000000000) (hn : okU n)
    (hB : ∀ h', Keep h0 h' → ptR n.toNat [] s = none → Q noneV h')
    (hR : ∀ n5 l3' p s' h', ptR n.toNat [] s = some (p, s') → St h0 h' b1 s' l1 l2 l3' o i p N → R n5 a c d l1 l2 l3' h') :
    ∃ (I2 : Int → Int → Int → Int → Sl → Sl → Sl → Hp → Prop) (m2 : Int → Int → Int → Int → Sl → Sl → Sl → Hp → Nat), I2 n a c d l1 l2 l3 h ∧ (∀ n22 : Int, ∀ n23 : Int, ∀ n24 : Int, ∀ n25 : Int, ∀ l9 : Sl, ∀ l10 : Sl, ∀ l11 : Sl, ∀ h20 : Hp, I2 n22 n23 n24 n25 l9 l10 l11 h20 → par ((0 : Int) < n22) (F125.T (some ⟨b1, 0, none⟩) h20 fun r15 h21 => ∃ s2 : ByteArray, r15 = .string s2 ∧ appendD l11 9 1 16 [.string (ByteArray.mk #[])] 1 [.string s2] h21 fun l12 h22 => ∃ b4 : Bool, h22.at b1 1 = some (.bool b4) ∧ parB b4 (Q noneV h22) (I2 (IntKind.wrap .u64 (n22 - 1)) n23 n24 n25 l9 l10 l12 h22 ∧ m2 (IntKind.wrap .u64 (n22 - 1)) n23 n24 n25 l9 l10 l12 h22 < m2 n22 n23 n24 n25 l9 l10 l11 h20)) (R n22 n23 n24 n25 l9 l10 l11 h20)) := by
  refine ⟨fun n5 x y z k1 k2 k3 h5 => x = a ∧ y = c ∧ z = d ∧ k1 = l1 ∧ k2 = l2 ∧ okU n5 ∧ ∃ p s', ptR n5.toNat p s' = ptR n.toNat [] s ∧ St h0 h5 b1 s' l1 l2 k3 o i p N, fun n5 _ _ _ _ _ _ _ => n5.toNat, ⟨rfl, rfl, rfl, rfl, rfl, hn, [], s, rfl, S⟩, ?_⟩
  rintro n5 x y z k1 k2 k3 h5 ⟨rfl, rfl, rfl, rfl, rfl, hn5, p, s', hE, S'⟩
  refine ⟨fun hpos => ?_, fun hz => ?_⟩
  · obtain ⟨f, hf⟩ : ∃ f, n5.toNat = f + 1 := ⟨n5.toNat - 1, by omega⟩
    have hf' : (n5 - 1).toNat = f := by omega
    have hn52 := hn5.2
    rw [hf, ptR] at hE
    have hw : IntKind.wrap .u64 (n5 - 1) = n5 - 1 := wrap_u64 (by omega) (by omega)
    refine text_r S'.rd fun h6 U6 R6 => ⟨_, rfl, ?_⟩
    have S6 := S'.step U6 R6 (rT_le _)
    have r7 := S6.room
    have m7 := pt_n S6.ptr
    refine append_buf S6.ptr rfl rfl (by omega) fun l4 h8 B8 hn8 U8 => ⟨_, (S6.rd.grow S6.ptr (by decide) S6.n3 U8).bad_at, fun hb => ?_, fun hb => ?_⟩
    · rw [if_pos hb] at hE
      exact hB h8 (S6.rd.grow S6.ptr (by decide) S6.n3 U8).keep hE.symm
    · rw [if_neg (by rw [hb]; decide)] at hE
      rw [hw]
      have q1 := rT_len hb
      have r0 := S'.room
      refine ⟨⟨rfl, rfl, rfl, rfl, rfl, ⟨by omega, by omega⟩, p ++ [(rT s').1], (rT s').2, by rw [hf']; exact hE, ?_⟩, by dsimp only; omega⟩
      exact S6.addP U8 B8 (by omega)
  · have h0' : n5.toNat = 0 := by omega
    rw [h0', ptR] at hE
    exact hR _ _ _ _ _ hE.symm S'
/-- The lists of an edit, each in a block of its own that was not in h0. -/
structure EdB (h0 h : Hp) (e : Edit) (l1 l2 l3 : Sl) : Prop where
  out : Buf h l1 2 104 (outV e.out)
  inn : Buf h l2 7 108 (inV e.inn)
  ptr : Buf h l3 1 9 (ptrV e.ptr)
  n1 : l1.a = none ∨ New h0 l1
  n2 : l2.a = none ∨ New h0 l2
  n3 : l3.a = none ∨ New h0 l3
theorem read_spec {h : Hp} {l : Sl} {bs : List Int} {Q : Value → Hp → Prop} (hr : h.row l.a l.n (bv bs)) (hc : l.n ≤ l.c) (hok : ∀ c ∈ bs, 0 ≤ c ∧ c < 256) (hs : bs.length ≤ 1000000000)
    (hN : ∀ h', Keep h h' → rd bs = none → Q noneV h')
    (hS : ∀ h' e last l1 l2 l3, rd bs = some (e, last) → Keep h h' → EdB h h' e l1 l2 l3 → e.valid → e.out.length + e.inn.length + e.ptr.length ≤ bs.length →
      Q (.tuple ⟨[.agg ⟨[.int .u64 e.log, .int .u64 e.next, .int .u64 e.seq, .slice l1.a l1.n l1.c, .slice l2.a l2.n l2.c, .slice l3.a l3.n l3.c]⟩, .bool last, .bool true]⟩) h') : F102.T l h Q := by
  have hln : l.n = bs.length := by have := hr.1; rw [bv_length] at this; exact this.symm
  unfold F102.T
  rcases bs with _ | ⟨c, rest⟩
  · simp only [List.length_nil] at hln
    exact ⟨fun _ => hN h (Keep.refl h) rfl, fun h0 => absurd (by omega) h0⟩
  simp only [List.length_cons] at hln hs
  obtain ⟨b, o, ha, hat⟩ := row_get hr (i := 0) (by omega)
  have a0 : h.at b (o + (0 : Int).toNat) = some (.int .u8 c) := hat 0 (by omega)
  refine ⟨fun h0 => absurd h0 (by omega), fun _ => ⟨b, o, ha, ⟨by decide, by omega⟩, c, a0, fun hc1 => hN h (Keep.refl h) (by rw [rd_cons, if_pos hc1]), fun hc1 => ⟨⟨by decide, by omega, by omega, by omega⟩, fun b1 hb1 => ?_⟩⟩⟩
  have hb2 : (h.new b1 (.cells ⟨[.slice (Sl.cut l 1 1 (l.n : Int) (l.c : Int)).a (Sl.cut l 1 1 (l.n : Int) (l.c : Int)).n (Sl.cut l 1 1 (l.n : Int) (l.c : Int)).c, .bool false]⟩ 188 (0, 0))) b1 = some (.cells ⟨[.slice (Sl.cut l 1 1 (l.n : Int) (l.c : Int)).a (Sl.cut l 1 1 (l.n : Int) (l.c : Int)).n (Sl.cut l 1 1 (l.n : Int) (l.c : Int)).c, .bool false]⟩ 188 (0, 0)) := by unfold Hp.new; rw [if_pos rfl]
  have hrow := cut_mid hr (i := 1) (j := l.n) (m := l.c) (by omega) (Nat.le_refl _) hc
  have hrow' : h.row (Sl.cut l 1 1 (l.n : Int) (l.c : Int)).a (Sl.cut l 1 1 (l.n : Int) (l.c : Int)).n (bv rest) := by
    rw [List.take_of_length_le (by rw [List.length_drop, bv_length, List.length_cons]; omega)] at hrow
    exact hrow
  have S0 : St h (h.new b1 (.cells ⟨[.slice (Sl.cut l 1 1 (l.n : Int) (l.c : Int)).a (Sl.cut l 1 1 (l.n : Int) (l.c : Int)).n (Sl.cut l 1 1 (l.n : Int) (l.c : Int)).c, .bool false]⟩ 188 (0, 0))) b1 ⟨rest, false⟩ ⟨none, 0, 0⟩ ⟨none, 0, 0⟩ ⟨none, 0, 0⟩ [] [] [] rest.length :=
    ⟨⟨⟨_, hb2, hrow', by simp [Sl.cut]; omega⟩, hb1, Keep.new hb1 _, fun x hx => hok x (List.mem_cons_of_mem _ hx), by show rest.length ≤ _; omega⟩, Buf.nil _ 2 104, Buf.nil _ 7 108, Buf.nil _ 1 9, .inl rfl, .inl rfl, .inl rfl, by simp, fun x hx => (by cases hx), fun x hx => (by cases hx)⟩
  refine uint_r S0.rd fun h1 U1 R1 => ⟨_, rfl, ?_⟩
  have S1 := S0.step U1 R1 (rU_le _)
  refine uint_r S1.rd fun h2 U2 R2 => ⟨_, rfl, ?_⟩
  have S2 := S1.step U2 R2 (rU_le _)
  refine uint_r S2.rd fun h3 U3 R3 => ⟨_, rfl, ?_⟩
  have S3 := S2.step U3 R3 (rU_le _)
  refine uint_r S3.rd fun h4 U4 R4 => ⟨_, rfl, ?_⟩
  have S4 := S3.step U4 R4 (rU_le _)
  refine rd_out S4 (by omega) (rU_ok _) (fun h' K hno => hN h' K ?_) (fun n5 l1 o1 s5 h5 hso S5 => ?_)
  · rw [rd_cons, if_neg hc1]; unfold rdO; rw [hno]
  refine uint_r S5.rd fun h6 U6 R6 => ⟨_, rfl, ?_⟩
  have S6 := S5.step U6 R6 (rU_le _)
  refine rd_in S6 (by omega) (rU_ok _) (fun h' K hno => hN h' K ?_) (fun n7 l2 i1 s7 h7 hsi S7 => ?_)
  · rw [rd_cons, if_neg hc1]; unfold rdO; rw [hso]; show rdI _ _ _ _ _ _ = none; unfold rdI; rw [hno]
  refine uint_r S7.rd fun h8 U8 R8 => ⟨_, rfl, ?_⟩
  have S8 := S7.step U8 R8 (rU_le _)
  have hrd : rd (c :: rest) = rdP c (rU ⟨rest, false⟩).1 (rU (rU ⟨rest, false⟩).2).1 (rU (rU (rU ⟨rest, false⟩).2).2).1 o1 i1 s7 := by
    rw [rd_cons, if_neg hc1]; unfold rdO; rw [hso]; show rdI _ _ _ _ _ _ = _; unfold rdI; rw [hsi]
  refine rd_ptr S8 (by omega) (rU_ok _) (fun h' K hno => hN h' K ?_) (fun n9 l3 p1 s9 h9 hsp S9 => ?_)
  · rw [hrd]; unfold rdP; rw [hno]
  have hrd2 : rd (c :: rest) = if s9.bad = true then none else if s9.b.length = 0 then some (⟨(rU ⟨rest, false⟩).1, (rU (rU ⟨rest, false⟩).2).1, (rU (rU (rU ⟨rest, false⟩).2).2).1, o1, i1, p1⟩, decide (c = 1)) else none := by
    rw [hrd]; unfold rdP; rw [hsp]
  have K9 := S9.rd.keep
  refine ⟨_, S9.rd.bad_at, fun hb => hN h9 K9 (by rw [hrd2, if_pos hb]), fun hb => ?_⟩
  rw [if_neg (by rw [hb]; decide)] at hrd2
  obtain ⟨q, hq, hqn⟩ := S9.rd.b_at
  refine ⟨q, hq, fun h0 => ?_, fun h0 => hN h9 K9 (by rw [hrd2, if_neg (by omega)])⟩
  rw [if_pos (by omega)] at hrd2
  have room := S9.room
  have hE : EdB h h9 ⟨(rU ⟨rest, false⟩).1, (rU (rU ⟨rest, false⟩).2).1, (rU (rU (rU ⟨rest, false⟩).2).2).1, o1, i1, p1⟩ l1 l2 l3 := ⟨S9.out, S9.inn, S9.ptr, S9.n1, S9.n2, S9.n3⟩
  refine ⟨b, o, ha, ⟨by decide, by omega⟩, c, K9.at a0, fun h1 => ⟨K9.at a0, ?_⟩, fun h1 => ⟨K9.at a0, ?_⟩⟩
  · refine hS h9 _ true l1 l2 l3 ?_ K9 hE ⟨rU_ok _, rU_ok _, rU_ok _, S9.vo, S9.vi⟩ ?_
    · rw [hrd2, decide_eq_true h1]
    · show o1.length + i1.length + p1.length ≤ rest.length + 1; omega
  · refine hS h9 _ false l1 l2 l3 ?_ K9 hE ⟨rU_ok _, rU_ok _, rU_ok _, S9.vo, S9.vi⟩ ?_
    · rw [hrd2, decide_eq_false h1]
    · show o1.length + i1.length + p1.length ≤ rest.length + 1; omega
end Go.Eng.YtblghgacokoklaaDoor
