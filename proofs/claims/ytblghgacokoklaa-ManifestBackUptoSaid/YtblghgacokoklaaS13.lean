/-
  SPECS, 13: what is written is read again.
-/
import Derived.Test.YtblghgacokoklaaS12
set_option linter.unusedSimpArgs false
set_option linter.unusedVariables false
namespace Go.Eng.Ytblghgacokoklaa
theorem and127 (c : Nat) (h : c < 256) : bitsI .and .u8 (c : Int) 127 = ((c % 128 : Nat) : Int) := by
  have key : ∀ x : Fin 256, bitsI .and .u8 ((x.val : Nat) : Int) 127 = ((x.val % 128 : Nat) : Int) := by decide +kernel
  exact key ⟨c, h⟩
theorem or_disj (a y i : Nat) (ha : a < 2 ^ i) (hb : a + 2 ^ i * y < 2 ^ 64) : bitsI .or .u64 (a : Int) ((2 ^ i * y : Nat) : Int) = ((a + 2 ^ i * y : Nat) : Int) := by
  have h1 : (BitVec.ofInt 64 (a : Int)).toNat = a := by rw [BitVec.ofInt_natCast, BitVec.toNat_ofNat]; exact Nat.mod_eq_of_lt (by omega)
  have h2 : (BitVec.ofInt 64 ((2 ^ i * y : Nat) : Int)).toNat = 2 ^ i * y := by rw [BitVec.ofInt_natCast, BitVec.toNat_ofNat]; exact Nat.mod_eq_of_lt (by omega)
  show IntKind.wrap .u64 ((BitVec.ofInt 64 (a : Int) ||| BitVec.ofInt 64 ((2 ^ i * y : Nat) : Int)).toNat : Int) = _
  rw [BitVec.toNat_or, h1, h2, Nat.or_comm, ← Nat.two_pow_add_eq_or_of_lt ha y, Nat.add_comm]
  exact wrap_u64 (by omega) (by omega)
theorem nx_enc (i acc c : Nat) (hi : i ≤ 9) (hc : c < 256) (ha : acc < 128 ^ i) (hb : acc + 128 ^ i * (c % 128) < 2 ^ 64) : nx i (acc : Int) (c : Int) = ((acc + 128 ^ i * (c % 128) : Nat) : Int) := by
  have hp : 128 ^ i = 2 ^ (7 * i) := by rw [Nat.pow_mul]
  rw [hp] at ha hb ⊢
  unfold nx
  have h64 : (2 : Nat) ^ 64 = 18446744073709551616 := by decide
  rw [and127 c hc, wrap_u64 (by omega) (by omega)]
  unfold shlI
  have e1 : (7 * (i : Int)).toNat = 7 * i := by omega
  have e2 : min (7 * (i : Int)).toNat (IntKind.bits .u64) = 7 * i := by rw [e1]; show min (7 * i) 64 = 7 * i; omega
  rw [e2]
  have e3 : ((c % 128 : Nat) : Int) * 2 ^ (7 * i) = ((2 ^ (7 * i) * (c % 128) : Nat) : Int) := by
    rw [Int.natCast_mul, Int.natCast_pow]; exact Int.mul_comm _ _
  rw [e3, wrap_u64 (by omega) (by omega)]
  exact or_disj acc (c % 128) (7 * i) ha hb
theorem uR_enc : ∀ (f i n acc : Nat) (rest : List Int), 0 < f → f + i = 10 → n < 128 ^ f → (0 < i → 0 < n) → acc < 128 ^ i → acc + 128 ^ i * n < 2 ^ 64 → uR i (acc : Int) (encF f n ++ rest) = (((acc + 128 ^ i * n : Nat) : Int), i + (encF f n).length, 0)
  | 0, _, _, _, _, h, _, _, _, _, _ => absurd h (Nat.lt_irrefl 0)
  | f + 1, i, n, acc, rest, _, hfi, hn, hpos, hacc, hb => by
    have h64 : (2 : Nat) ^ 64 = 18446744073709551616 := by decide
    unfold encF
    by_cases h1 : n < 128
    · rw [if_pos h1]
      show uR i (acc : Int) ((n : Int) :: rest) = _
      have h9 : i = 9 → n = 1 := by
        intro h
        subst h
        have : (128 : Nat) ^ 9 = 9223372036854775808 := by decide
        rw [this] at hb
        have := hpos (by decide)
        omega
      unfold uR
      rw [if_neg (by omega), if_pos (by omega)]
      have := nx_enc i acc n (by omega) (by omega) hacc (by rw [Nat.mod_eq_of_lt h1]; exact hb)
      rw [Nat.mod_eq_of_lt h1] at this
      rw [this]
      rfl
    · rw [if_neg h1]
      have hf : 0 < f := by
        rcases Nat.eq_zero_or_pos f with rfl | h
        · simp at hn; omega
        · exact h
      show uR i (acc : Int) (((n % 128 + 128 : Nat) : Int) :: (encF f (n / 128) ++ rest)) = _
      unfold uR
      rw [if_neg (by omega), if_neg (by omega)]
      have hd : n = 128 * (n / 128) + n % 128 := (Nat.div_add_mod n 128).symm
      have hmul : 128 ^ i * n = 128 ^ i * (128 * (n / 128)) + 128 ^ i * (n % 128) := by
        conv => lhs; rw [hd]
        rw [Nat.mul_add]
      have hmul2 : 128 ^ (i + 1) * (n / 128) = 128 ^ i * (128 * (n / 128)) := by rw [Nat.pow_succ, Nat.mul_assoc]
      have hm : (n % 128 + 128) % 128 = n % 128 := by omega
      have hle : 128 ^ i * (n % 128) ≤ 128 ^ i * 127 := Nat.mul_le_mul_left _ (by omega)
      have hx := nx_enc i acc (n % 128 + 128) (by omega) (by omega) hacc (by rw [hm]; omega)
      rw [hm] at hx
      rw [hx]
      have ih := uR_enc f (i + 1) (n / 128) (acc + 128 ^ i * (n % 128)) rest hf (by omega) (by rw [Nat.pow_succ] at hn; omega) (fun _ => by omega) (by rw [Nat.pow_succ]; omega) (by rw [hmul2]; omega)
      rw [ih, hmul2]
      have e1 : acc + 128 ^ i * (n % 128) + 128 ^ i * (128 * (n / 128)) = acc + 128 ^ i * n := by omega
      have e2 : i + 1 + (encF f (n / 128)).length = i + (((n % 128 + 128 : Nat) : Int) :: encF f (n / 128)).length := by simp only [List.length_cons]; omega
      rw [e1, e2]
theorem uR_U {n : Nat} (h : n < 18446744073709551616) (rest : List Int) : uR 0 0 (encU n ++ rest) = ((n : Int), (encU n).length, 0) := by
  have := uR_enc 10 0 n 0 rest (by decide) rfl (Nat.lt_of_lt_of_le h (by decide)) (fun h => absurd h (Nat.lt_irrefl 0)) (by decide) (by omega)
  simpa [encU] using this
theorem rU_enc {n : Int} (h : okU n) (rest : List Int) : rU ⟨encU n.toNat ++ rest, false⟩ = (n, ⟨rest, false⟩) := by
  have h1 := uR_U (n := n.toNat) (by have := h.1; have := h.2; omega) rest
  unfold rU
  simp only [h1, RS.skip, if_pos]
  rw [List.drop_left' rfl]
  have : ((n.toNat : Nat) : Int) = n := by have := h.1; omega
  rw [this]
theorem rU_nat {n : Nat} (h : n < 18446744073709551616) (rest : List Int) : rU ⟨encU n ++ rest, false⟩ = ((n : Int), ⟨rest, false⟩) := by
  have := rU_enc (n := (n : Int)) ⟨by omega, by omega⟩ rest
  rwa [Int.toNat_natCast] at this
theorem rW_enc {m n : Int} (h : okU n) (hm : n ≤ m) (rest : List Int) : rW m ⟨encU n.toNat ++ rest, false⟩ = (n, ⟨rest, false⟩) := by
  unfold rW
  rw [rU_enc h rest, if_neg (by simp only; omega)]
theorem toB_bI (s : ByteArray) : toB (bI s) = s := by
  obtain ⟨d⟩ := s
  unfold toB bI
  have : ((fun n : Int => UInt8.ofNat n.toNat) ∘ fun b : UInt8 => ((b.toNat : Nat) : Int)) = id := by
    funext b
    simp
  rw [List.map_map, this, List.map_id]
theorem tR_enc {s : ByteArray} (h : s.size ≤ 64) (rest : List Int) : tR (encT s ++ rest) = (s, (encT s).length, 0) := by
  have e : encT s ++ rest = encU s.size ++ (bI s ++ rest) := by unfold encT; rw [List.append_assoc]
  have h1 := uR_U (n := s.size) (by omega) (bI s ++ rest)
  rw [e]
  unfold tR
  simp only [h1, if_pos]
  have hl := bI_length s
  rw [if_neg (by omega), if_neg (by simp only [List.length_append]; omega), List.drop_left' rfl, Int.toNat_natCast, List.take_left' hl, toB_bI]
  unfold encT
  rw [List.length_append, hl]
theorem rT_enc {s : ByteArray} (h : s.size ≤ 64) (rest : List Int) : rT ⟨encT s ++ rest, false⟩ = (s, ⟨rest, false⟩) := by
  unfold rT
  simp only [tR_enc h rest, RS.skip, if_pos]
  rw [List.drop_left' rfl]
/-- An edit that may be written. -/
structure PGood (p : Place) : Prop where
  l0 : 0 ≤ p.lv
  l4 : p.lv ≤ 4
  num : okU p.num
structure DGood (p : Placed) : Prop where
  l0 : 0 ≤ p.lv
  l4 : p.lv ≤ 4
  num : okU p.num
  w0 : 0 ≤ p.weight
  w1 : p.weight ≤ 9223372036854775807
  b0 : 0 ≤ p.bytes
  b1 : p.bytes ≤ 9223372036854775807
  e0 : 0 ≤ p.entries
  e1 : p.entries ≤ 9223372036854775807
  least : p.least.size ≤ 64
  greatest : p.greatest.size ≤ 64
structure Good (e : Edit) : Prop where
  log : okU e.log
  next : okU e.next
  seq : okU e.seq
  out : ∀ p ∈ e.out, PGood p
  inn : ∀ p ∈ e.inn, DGood p
  ptr : ∀ p ∈ e.ptr, p.size ≤ 64
  nptr : e.ptr.length ≤ 5
theorem okU_of {n : Int} (h0 : 0 ≤ n) (h1 : n ≤ 9223372036854775807) : okU n := ⟨h0, by omega⟩
theorem outR_enc : ∀ (o acc : List Place) (rest : List Int), (∀ p ∈ o, PGood p) → outR o.length acc ⟨o.flatMap Place.enc ++ rest, false⟩ = some (acc ++ o, ⟨rest, false⟩)
  | [], acc, rest, _ => by simp [outR]
  | p :: o, acc, rest, h => by
    have hp := h p List.mem_cons_self
    have e : (p :: o).flatMap Place.enc ++ rest = encU p.lv.toNat ++ (encU p.num.toNat ++ (o.flatMap Place.enc ++ rest)) := by simp [Place.enc, encUs]
    rw [e, List.length_cons, outR, rW_enc ⟨hp.l0, by have := hp.l4; omega⟩ hp.l4]
    simp only
    rw [rU_enc hp.num, if_neg Bool.false_ne_true, outR_enc o _ rest fun q hq => h q (List.mem_cons_of_mem _ hq)]
    simp
theorem inR_enc : ∀ (o acc : List Placed) (rest : List Int), (∀ p ∈ o, DGood p) → inR o.length acc ⟨o.flatMap Placed.enc ++ rest, false⟩ = some (acc ++ o, ⟨rest, false⟩)
  | [], acc, rest, _ => by simp [inR]
  | p :: o, acc, rest, h => by
    have hp := h p List.mem_cons_self
    have e : (p :: o).flatMap Placed.enc ++ rest = encU p.lv.toNat ++ (encU p.num.toNat ++ (encU p.weight.toNat ++ (encU p.bytes.toNat ++ (encU p.entries.toNat ++ (encT p.least ++ (encT p.greatest ++ (o.flatMap Placed.enc ++ rest))))))) := by simp [Placed.enc, encUs]
    have hx : plS ⟨(p :: o).flatMap Placed.enc ++ rest, false⟩ = (p, ⟨o.flatMap Placed.enc ++ rest, false⟩) := by
      rw [e]
      unfold plS
      simp only [rW_enc (m := 4) ⟨hp.l0, by have := hp.l4; omega⟩ hp.l4, rU_enc hp.num, rW_enc (okU_of hp.w0 hp.w1) hp.w1, rW_enc (okU_of hp.b0 hp.b1) hp.b1, rW_enc (okU_of hp.e0 hp.e1) hp.e1, rT_enc hp.least, rT_enc hp.greatest]
    rw [List.length_cons, inR, hx]
    simp only
    rw [if_neg Bool.false_ne_true, inR_enc o _ rest fun q hq => h q (List.mem_cons_of_mem _ hq)]
    simp
theorem ptR_enc : ∀ (o acc : List ByteArray) (rest : List Int), (∀ p ∈ o, p.size ≤ 64) → ptR o.length acc ⟨o.flatMap encT ++ rest, false⟩ = some (acc ++ o, ⟨rest, false⟩)
  | [], acc, rest, _ => by simp [ptR]
  | p :: o, acc, rest, h => by
    have hp := h p List.mem_cons_self
    have e : (p :: o).flatMap encT ++ rest = encT p ++ (o.flatMap encT ++ rest) := by simp
    rw [e, List.length_cons, ptR, rT_enc hp]
    simp only
    rw [if_neg Bool.false_ne_true, ptR_enc o _ rest fun q hq => h q (List.mem_cons_of_mem _ hq)]
    simp
/-- A RECORD IS READ AGAIN. -/
theorem rd_enc {e : Edit} (G : Good e) (h1 : e.out.length < 1000000000) (h2 : e.inn.length < 1000000000) (last : Bool) : rd (recB e last) = some (e, last) := by
  have e1 : recB e last = (if last then 1 else 0) :: (encU e.log.toNat ++ (encU e.next.toNat ++ (encU e.seq.toNat ++ (encU e.out.length ++ (e.out.flatMap Place.enc ++ (encU e.inn.length ++ (e.inn.flatMap Placed.enc ++ (encU e.ptr.length ++ (e.ptr.flatMap encT ++ []))))))))) := by
    simp [recB, encUs]
  have hp := G.nptr
  have o1 : e.out.length < 18446744073709551616 := by omega
  have o2 : e.inn.length < 18446744073709551616 := by omega
  have o3 : e.ptr.length < 18446744073709551616 := by omega
  rw [e1, rd_cons, if_neg (by cases last <;> decide)]
  simp only [rU_enc G.log, rU_enc G.next, rU_enc G.seq]
  unfold rdO
  simp only [rU_nat o1, Int.toNat_natCast, outR_enc _ _ _ G.out, List.nil_append]
  unfold rdI
  simp only [rU_nat o2, Int.toNat_natCast, inR_enc _ _ _ G.inn, List.nil_append]
  unfold rdP
  simp only [rU_nat o3, Int.toNat_natCast, ptR_enc _ _ _ G.ptr, List.nil_append]
  cases last <;> simp
end Go.Eng.Ytblghgacokoklaa
