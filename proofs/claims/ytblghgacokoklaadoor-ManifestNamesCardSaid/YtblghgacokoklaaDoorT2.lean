/-
  SPECS, 2: edits; a record's bytes.
-/
import Derived.Test.YtblghgacokoklaaDoorT1
set_option linter.unusedSimpArgs false
set_option linter.unusedVariables false
namespace Go.Eng.YtblghgacokoklaaDoor
structure Place where
  lv : Int
  num : Int
structure Placed where
  lv : Int
  num : Int
  weight : Int
  bytes : Int
  entries : Int
  least : ByteArray
  greatest : ByteArray
structure Edit where
  log : Int
  next : Int
  seq : Int
  out : List Place
  inn : List Placed
  ptr : List ByteArray
def Place.cells (p : Place) : List Value := [.int .i64 p.lv, .int .u64 p.num]
def Placed.cells (p : Placed) : List Value := [.int .i64 p.lv, .int .u64 p.num, .int .i64 p.weight, .int .i64 p.bytes, .int .i64 p.entries, .string p.least, .string p.greatest]
def outV (l : List Place) : List Value := l.flatMap Place.cells
def inV (l : List Placed) : List Value := l.flatMap Placed.cells
def ptrV (l : List ByteArray) : List Value := l.map Value.string
/-- Every element has as many cells: where the cells of one stand. -/
theorem flat_get {α : Type} (f : α → List Value) (n : Nat) (hf : ∀ x, (f x).length = n) : ∀ (l : List α) (i j : Nat) (hi : i < l.length), j < n → (l.flatMap f)[i * n + j]? = (f l[i])[j]?
  | [], i, j, hi, _ => by simp at hi
  | x :: l, 0, j, hi, hj => by
    simp only [List.flatMap_cons, Nat.zero_mul, Nat.zero_add, List.getElem_cons_zero]
    rw [List.getElem?_append_left (by rw [hf]; exact hj)]
  | x :: l, i + 1, j, hi, hj => by
    simp only [List.flatMap_cons, List.getElem_cons_succ]
    rw [List.getElem?_append_right (by rw [hf, Nat.add_mul]; omega), hf, show (i + 1) * n + j - n = i * n + j by rw [Nat.add_mul]; omega]
    exact flat_get f n hf l i j (by simpa using hi) hj
theorem flat_length {α : Type} (f : α → List Value) (n : Nat) (hf : ∀ x, (f x).length = n) (l : List α) : (l.flatMap f).length = l.length * n := by
  induction l with
  | nil => simp
  | cons x l ih => simp only [List.flatMap_cons, List.length_append, hf, ih, List.length_cons, Nat.add_mul]; omega
def okU (n : Int) : Prop := 0 ≤ n ∧ n < 18446744073709551616
def okI (n : Int) : Prop := 0 ≤ n ∧ n < 9223372036854775808
structure Place.ok (p : Place) : Prop where
  lv : okI p.lv
  num : okU p.num
structure Placed.ok (p : Placed) : Prop where
  lv : okI p.lv
  num : okU p.num
  weight : okI p.weight
  bytes : okI p.bytes
  entries : okI p.entries
  least : p.least.size ≤ 64
  greatest : p.greatest.size ≤ 64
def Place.enc (p : Place) : List Int := encUs [p.lv, p.num]
def Placed.enc (p : Placed) : List Int := encUs [p.lv, p.num, p.weight, p.bytes, p.entries] ++ encT p.least ++ encT p.greatest
/-- A record's bytes. -/
def recB (e : Edit) (last : Bool) : List Int :=
  (if last then 1 else 0) :: (encUs [e.log, e.next, e.seq, (e.out.length : Int)] ++ e.out.flatMap Place.enc ++ encUs [(e.inn.length : Int)] ++ e.inn.flatMap Placed.enc ++ encUs [(e.ptr.length : Int)] ++ e.ptr.flatMap encT)
theorem encT_length {s : ByteArray} (h : s.size ≤ 64) : (encT s).length ≤ 74 := by
  have := encU_length s.size
  unfold encT
  rw [List.length_append, bI_length]
  omega
theorem Place.enc_length (p : Place) : p.enc.length ≤ 20 := by
  have := encUs_length [p.lv, p.num]
  simpa [Place.enc] using this
theorem Placed.enc_length {p : Placed} (h : p.ok) : p.enc.length ≤ 198 := by
  have h1 := encUs_length [p.lv, p.num, p.weight, p.bytes, p.entries]
  have h2 := encT_length h.least
  have h3 := encT_length h.greatest
  simp only [Placed.enc, List.length_append]
  simp only [List.length_cons, List.length_nil] at h1
  omega
theorem Placed.ok.enc_length' {p : Placed} (h : p.ok) : p.enc.length ≤ 198 := Placed.enc_length h
theorem flatMap_le {α : Type} (f : α → List Int) (n : Nat) (l : List α) (h : ∀ x ∈ l, (f x).length ≤ n) : (l.flatMap f).length ≤ n * l.length := by
  induction l with
  | nil => simp
  | cons x l ih =>
    have h1 := h x List.mem_cons_self
    have h2 := ih fun y hy => h y (List.mem_cons_of_mem _ hy)
    simp only [List.flatMap_cons, List.length_append, List.length_cons, Nat.mul_add, Nat.mul_one]
    omega
theorem _root_.Go.Eng.Buf.n1 {h : Hp} {l : Sl} {xs : List Value} (B : Buf h l 1 5 xs) : l.n = xs.length := by have := B.len; omega
/-- A new block is off whatever was there. -/
theorem off_new {h : Hp} {l : Sl} {xs : List Value} {sz t : Nat} (B : Buf h l sz t xs) {b : Nat} (hb : h b = none) (n c : Nat) : Off ⟨some ⟨b, 0, none⟩, n, c⟩ l := by
  intro b' o o' e1 e2
  simp only [Option.some.injEq, Addr.mk.injEq] at e1
  rcases B.own with ⟨ha, _⟩ | ⟨k, cs, f, ha, hk, _⟩
  · rw [ha] at e2; cases e2
  · rw [ha] at e2
    simp only [Option.some.injEq, Addr.mk.injEq] at e2
    rw [e2.1, ← e1.1, hb] at hk; cases hk
theorem row_new (h : Hp) (b t : Nat) (vs : List Value) (n : Nat) (hn : vs.length = n) : (h.new b (.cells ⟨vs⟩ t (0, 0))).row (some ⟨b, 0, none⟩) n vs := by
  refine ⟨hn, .inr ⟨b, 0, rfl, fun j _ => ?_⟩⟩
  rw [Nat.zero_add, at_new]
  simp
/-- Numbers laid behind a buffer, out of a list that is made for it. -/
theorem uints_lit {h : Hp} {l : Sl} {xs : List Value} {ns : List Int} {Q : Value → Hp → Prop} (B : Buf h l 1 5 xs) (hu : ∀ n ∈ ns, 0 ≤ n ∧ n < 18446744073709551616) (hl : l.n + 10 * ns.length ≤ 70368744177664)
    (hQ : ∀ l' h', Buf h' l' 1 5 (xs ++ bv (encUs ns)) → Upd h h' l l' → Q (.slice l'.a l'.n l'.c) h') :
    ∀ b, h b = none → F95.T l ⟨some ⟨b, 0, none⟩, ns.length, ns.length⟩ (h.new b (.cells ⟨uv ns⟩ 22 (0, 0))) Q := by
  intro b hb
  refine uints_spec (B.keep (Keep.new hb _)) (row_new h b 22 (uv ns) _ (by simp [uv])) (off_new B hb _ _) hu hl fun l' h' B' U' => hQ l' h' B' ((Upd.of_new hb _ l).trans U')
theorem out_loop {h : Hp} {l lo : Sl} {xs : List Value} {out : List Place} {R : Sl → Hp → Prop} (B : Buf h l 1 5 xs) (hr : h.row lo.a (lo.n * 2) (outV out)) (ho : lo.n * 2 = 0 ∨ Off lo l) (hok : ∀ p ∈ out, p.ok) (hn : out.length ≤ 1000) (hl : l.n ≤ 1000000)
    (hR : ∀ l' h', Buf h' l' 1 5 (xs ++ bv (out.flatMap Place.enc)) → Upd h h' l l' → R l' h') :
    ∃ (I : Sl → Int → Hp → Prop) (m : Sl → Int → Hp → Nat), I l 0 h ∧ (∀ l4 : Sl, ∀ n3 : Int, ∀ h2 : Hp, I l4 n3 h2 → par (n3 < (lo.n : Int)) (∃ b2 o, (lo.a : Option Addr) = some ⟨b2, o, none⟩ ∧ ((0 : Int) ≤ n3 ∧ n3 < (lo.n : Int)) ∧ ∃ n4 : Int, h2.at b2 (o + n3.toNat * 2) = some (.int .i64 n4) ∧ ∃ n5 : Int, h2.at b2 ((o + n3.toNat * 2) + 1) = some (.int .u64 n5) ∧ ∀ b3, h2 b3 = none → F95.T l4 ⟨(some ⟨b3, 0, none⟩), 2, 2⟩ (h2.new b3 (.cells ⟨[.int .u64 (IntKind.wrap .u64 n4), .int .u64 n5]⟩ 22 (0, 0))) fun r1 h3 => ∃ l5 : Sl, r1 = .slice l5.a l5.n l5.c ∧ I l5 (IntKind.wrap .i64 (n3 + 1)) h3 ∧ m l5 (IntKind.wrap .i64 (n3 + 1)) h3 < m l4 n3 h2) (R l4 h2)) := by
  have hlo : lo.n = out.length := by
    have h1 := hr.1
    unfold outV at h1
    rw [flat_length Place.cells 2 (fun _ => rfl)] at h1
    omega
  refine ⟨fun l4 i h2 => ∃ k : Nat, i = (k : Int) ∧ k ≤ out.length ∧ Buf h2 l4 1 5 (xs ++ bv ((out.take k).flatMap Place.enc)) ∧ Upd h h2 l l4, fun _ i _ => out.length - i.toNat, ⟨0, rfl, Nat.zero_le _, by simpa [bv] using B, Upd.refl _ _⟩, ?_⟩
  rintro l4 i h2 ⟨k, rfl, hk, B1, U1⟩
  refine ⟨fun hlt => ?_, fun hge => ?_⟩
  · have hk1 : k < out.length := by omega
    obtain ⟨b, o, ha, hat⟩ := row_get (row_upd U1 ho hr) (i := k * 2) (by omega)
    have hp := hok _ (List.getElem_mem hk1)
    have c0 := flat_get Place.cells 2 (fun _ => rfl) out k 0 hk1 (by decide)
    have c1 := flat_get Place.cells 2 (fun _ => rfl) out k 1 hk1 (by decide)
    have hlen : l4.n ≤ 1000000 + 20 * 1000 := by
      have e1 := B1.n1
      have e2 := B.n1
      have e3 := flatMap_le Place.enc 20 (out.take k) (fun p _ => p.enc_length)
      rw [List.length_take, Nat.min_eq_left hk] at e3
      simp only [List.length_append, bv_length] at e1
      omega
    refine ⟨b, o, ha, ⟨by omega, hlt⟩, out[k].lv, ?_, out[k].num, ?_, fun b3 hb3 => ?_⟩
    · rw [Int.toNat_natCast, hat _ (by omega)]; exact c0
    · rw [Int.toNat_natCast, Nat.add_assoc, hat _ (by omega)]; exact c1
    · have hw1 : IntKind.wrap .u64 out[k].lv = out[k].lv := wrap_u64 hp.lv.1 (by have := hp.lv.2; omega)
      rw [hw1]
      refine uints_lit (ns := [out[k].lv, out[k].num]) B1 (fun n hn => ?_) (by simp; omega) (fun l5 h3 B5 U5 => ⟨l5, rfl, ?_, ?_⟩) b3 hb3
      · simp only [List.mem_cons, List.not_mem_nil, or_false] at hn
        rcases hn with rfl | rfl
        · exact ⟨hp.lv.1, by have := hp.lv.2; omega⟩
        · exact hp.num
      · have hw : IntKind.wrap .i64 ((k : Int) + 1) = ((k + 1 : Nat) : Int) := by rw [wrap_i64 (by omega) (by omega)]; omega
        rw [hw]
        refine ⟨k + 1, rfl, hk1, ?_, U1.trans U5⟩
        rw [List.take_succ_eq_append_getElem hk1, List.flatMap_append, bv_append, ← List.append_assoc]
        simpa [Place.enc] using B5
      · have hw : IntKind.wrap .i64 ((k : Int) + 1) = ((k + 1 : Nat) : Int) := by rw [wrap_i64 (by omega) (by omega)]; omega
        rw [hw]
        show out.length - ((k + 1 : Nat) : Int).toNat < out.length - (k : Int).toNat
        omega
  · have hkn : k = out.length := by omega
    subst hkn
    rw [List.take_length] at B1
    exact hR l4 h2 B1 U1
theorem in_loop {h : Hp} {l li : Sl} {xs : List Value} {inn : List Placed} {R : Sl → Hp → Prop} (B : Buf h l 1 5 xs) (hr : h.row li.a (li.n * 7) (inV inn)) (ho : li.n * 7 = 0 ∨ Off li l) (hok : ∀ p ∈ inn, p.ok) (hn : inn.length ≤ 1000) (hl : l.n ≤ 2000000)
    (hR : ∀ l' h', Buf h' l' 1 5 (xs ++ bv (inn.flatMap Placed.enc)) → Upd h h' l l' → R l' h') :
    ∃ (I1 : Sl → Int → Hp → Prop) (m1 : Sl → Int → Hp → Nat), I1 l 0 h ∧ (∀ l7 : Sl, ∀ n6 : Int, ∀ h5 : Hp, I1 l7 n6 h5 → par (n6 < (li.n : Int)) (∃ b6 o2, (li.a : Option Addr) = some ⟨b6, o2, none⟩ ∧ ((0 : Int) ≤ n6 ∧ n6 < (li.n : Int)) ∧ ∃ n7 : Int, h5.at b6 (o2 + n6.toNat * 7) = some (.int .i64 n7) ∧ ∃ n8 : Int, h5.at b6 ((o2 + n6.toNat * 7) + 1) = some (.int .u64 n8) ∧ ∃ n9 : Int, h5.at b6 ((o2 + n6.toNat * 7) + 2) = some (.int .i64 n9) ∧ ∃ n10 : Int, h5.at b6 ((o2 + n6.toNat * 7) + 3) = some (.int .i64 n10) ∧ ∃ n11 : Int, h5.at b6 ((o2 + n6.toNat * 7) + 4) = some (.int .i64 n11) ∧ ∃ s : ByteArray, h5.at b6 ((o2 + n6.toNat * 7) + 5) = some (.string s) ∧ ∃ s1 : ByteArray, h5.at b6 ((o2 + n6.toNat * 7) + 6) = some (.string s1) ∧ ∀ b7, h5 b7 = none → F95.T l7 ⟨(some ⟨b7, 0, none⟩), 5, 5⟩ (h5.new b7 (.cells ⟨[.int .u64 (IntKind.wrap .u64 n7), .int .u64 n8, .int .u64 (IntKind.wrap .u64 n9), .int .u64 (IntKind.wrap .u64 n10), .int .u64 (IntKind.wrap .u64 n11)]⟩ 22 (0, 0))) fun r3 h6 => ∃ l8 : Sl, r3 = .slice l8.a l8.n l8.c ∧ F96.T l8 s h6 fun r4 h7 => ∃ l9 : Sl, r4 = .slice l9.a l9.n l9.c ∧ F96.T l9 s1 h7 fun r5 h8 => ∃ l10 : Sl, r5 = .slice l10.a l10.n l10.c ∧ I1 l10 (IntKind.wrap .i64 (n6 + 1)) h8 ∧ m1 l10 (IntKind.wrap .i64 (n6 + 1)) h8 < m1 l7 n6 h5) (R l7 h5)) := by
  have hli : li.n = inn.length := by
    have h1 := hr.1
    unfold inV at h1
    rw [flat_length Placed.cells 7 (fun _ => rfl)] at h1
    omega
  refine ⟨fun l4 i h2 => ∃ k : Nat, i = (k : Int) ∧ k ≤ inn.length ∧ Buf h2 l4 1 5 (xs ++ bv ((inn.take k).flatMap Placed.enc)) ∧ Upd h h2 l l4, fun _ i _ => inn.length - i.toNat, ⟨0, rfl, Nat.zero_le _, by simpa [bv] using B, Upd.refl _ _⟩, ?_⟩
  rintro l4 i h2 ⟨k, rfl, hk, B1, U1⟩
  refine ⟨fun hlt => ?_, fun hge => ?_⟩
  · have hk1 : k < inn.length := by omega
    obtain ⟨b, o, ha, hat⟩ := row_get (row_upd U1 ho hr) (i := k * 7) (by omega)
    have hp := hok _ (List.getElem_mem hk1)
    have cc : ∀ j, j < 7 → h2.at b ((o + k * 7) + j) = (Placed.cells inn[k])[j]? := fun j hj => by
      rw [Nat.add_assoc, hat _ (by omega)]
      exact flat_get Placed.cells 7 (fun _ => rfl) inn k j hk1 hj
    have hlen : l4.n ≤ 2000000 + 198 * 1000 := by
      have e1 := B1.n1
      have e2 := B.n1
      have e3 := flatMap_le Placed.enc 198 (inn.take k) (fun p hp => (hok p (List.mem_of_mem_take hp)).enc_length')
      rw [List.length_take, Nat.min_eq_left hk] at e3
      simp only [List.length_append, bv_length] at e1
      omega
    refine ⟨b, o, ha, ⟨by omega, hlt⟩, inn[k].lv, ?_, inn[k].num, ?_, inn[k].weight, ?_, inn[k].bytes, ?_, inn[k].entries, ?_, inn[k].least, ?_, inn[k].greatest, ?_, fun b3 hb3 => ?_⟩
    · rw [Int.toNat_natCast]; exact cc 0 (by decide)
    · rw [Int.toNat_natCast]; exact cc 1 (by decide)
    · rw [Int.toNat_natCast]; exact cc 2 (by decide)
    · rw [Int.toNat_natCast]; exact cc 3 (by decide)
    · rw [Int.toNat_natCast]; exact cc 4 (by decide)
    · rw [Int.toNat_natCast]; exact cc 5 (by decide)
    · rw [Int.toNat_natCast]; exact cc 6 (by decide)
    · have uw : ∀ n, okI n → IntKind.wrap .u64 n = n := fun n h => wrap_u64 h.1 (by have := h.2; omega)
      rw [uw _ hp.lv, uw _ hp.weight, uw _ hp.bytes, uw _ hp.entries]
      have iu : ∀ n, okI n → 0 ≤ n ∧ n < 18446744073709551616 := fun n h => ⟨h.1, by have := h.2; omega⟩
      have hle := hp.least
      have hgr := hp.greatest
      have hw : IntKind.wrap .i64 ((k : Int) + 1) = ((k + 1 : Nat) : Int) := by rw [wrap_i64 (by omega) (by omega)]; omega
      refine uints_lit (ns := [inn[k].lv, inn[k].num, inn[k].weight, inn[k].bytes, inn[k].entries]) B1 (fun n hn => ?_) (by simp; omega) (fun l5 h3 B5 U5 => ⟨l5, rfl, ?_⟩) b3 hb3
      · simp only [List.mem_cons, List.not_mem_nil, or_false] at hn
        rcases hn with rfl | rfl | rfl | rfl | rfl
        · exact iu _ hp.lv
        · exact hp.num
        · exact iu _ hp.weight
        · exact iu _ hp.bytes
        · exact iu _ hp.entries
      · have e5 : l5.n ≤ l4.n + 50 := by
          have e1 := B5.n1
          have e2 := B1.n1
          have e3 := encUs_length [inn[k].lv, inn[k].num, inn[k].weight, inn[k].bytes, inn[k].entries]
          simp only [List.length_append, bv_length, List.length_cons, List.length_nil] at e1 e2 e3
          omega
        refine text_spec B5 (by omega) (by omega) fun l6 h4 B6 U6 => ⟨l6, rfl, ?_⟩
        have e6 : l6.n ≤ l5.n + 74 := by
          have e1 := B6.n1
          have e2 := B5.n1
          have e3 := encT_length hle
          rw [List.length_append, bv_length] at e1
          omega
        refine text_spec B6 (by omega) (by omega) fun l7 h5 B7 U7 => ⟨l7, rfl, ?_, ?_⟩
        · rw [hw]
          refine ⟨k + 1, rfl, hk1, ?_, ((U1.trans U5).trans U6).trans U7⟩
          rw [List.take_succ_eq_append_getElem hk1, List.flatMap_append, bv_append, ← List.append_assoc]
          simp only [List.flatMap_cons, List.flatMap_nil, List.append_nil, Placed.enc, bv_append, ← List.append_assoc]
          exact B7
        · rw [hw]
          show inn.length - ((k + 1 : Nat) : Int).toNat < inn.length - (k : Int).toNat
          omega
  · have hkn : k = inn.length := by omega
    subst hkn
    rw [List.take_length] at B1
    exact hR l4 h2 B1 U1
end Go.Eng.YtblghgacokoklaaDoor
