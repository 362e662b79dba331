/-
  SPECS, 1: numbers and texts as bytes.
-/
import Derived.Test.YtblghgacokoklaaDoorS0
import Derived.Test.YtblghgacokoklaaDoorN1
set_option linter.unusedSimpArgs false
set_option linter.unusedVariables false
namespace Go.Eng
def encF : Nat → Nat → List Int
  | 0, _ => []
  | f + 1, n => if n < 128 then [(n : Int)] else ((n % 128 + 128 : Nat) : Int) :: encF f (n / 128)
/-- A number's bytes. -/
def encU (n : Nat) : List Int := encF 10 n
/-- Bytes as cells. -/
def bv (l : List Int) : List Value := l.map (Value.int .u8)
theorem bv_append (a b : List Int) : bv (a ++ b) = bv a ++ bv b := List.map_append
theorem bv_length (a : List Int) : (bv a).length = a.length := List.length_map _
theorem or128 (n : Int) (h : 0 ≤ n) : bitsI .or .u8 (IntKind.wrap .u8 n) 128 = ((n.toNat % 128 + 128 : Nat) : Int) := by
  have key : ∀ x : Fin 256, bitsI .or .u8 ((x.val : Nat) : Int) 128 = ((x.val % 128 + 128 : Nat) : Int) := by decide +kernel
  have h1 : IntKind.wrap .u8 n = ((n.toNat % 256 : Nat) : Int) := by rw [IntKind.wrap_u8]; omega
  rw [h1]
  have := key ⟨n.toNat % 256, Nat.mod_lt _ (by decide)⟩
  simp only at this
  rw [this]
  congr 1
  omega
theorem shr7 (n : Int) (h : 0 ≤ n) : shrI .u64 n 7 = ((n.toNat / 128 : Nat) : Int) := by
  unfold shrI
  have : (2 : Int) ^ (min (7 : Int).toNat (IntKind.bits .u64)) = 128 := by decide
  rw [this, Int.fdiv_eq_ediv_of_nonneg _ (by decide)]
  omega
end Go.Eng
namespace Go.Eng.YtblghgacokoklaaDoor
theorem number_spec {h : Hp} {l : Sl} {xs : List Value} {n : Int} {Q : Value → Hp → Prop} (B : Buf h l 1 5 xs) (h0 : 0 ≤ n) (h1 : n < 18446744073709551616) (hl : l.n ≤ 70368744177664)
    (hQ : ∀ l' h', Buf h' l' 1 5 (xs ++ bv (encU n.toNat)) → Upd h h' l l' → Q (.slice l'.a l'.n l'.c) h') : F81.T l n h Q := by
  refine ⟨fun l1 n1 h1 => ∃ f ys, f ≤ 10 ∧ ys.length + f = 10 ∧ Buf h1 l1 1 5 (xs ++ bv ys) ∧ Upd h h1 l l1 ∧ 0 ≤ n1 ∧ n1.toNat < 128 ^ f ∧ 0 < f ∧ encU n.toNat = ys ++ encF f n1.toNat, fun _ n1 _ => n1.toNat,
    ⟨10, [], Nat.le_refl _, rfl, by simpa [bv] using B, Upd.refl _ _, h0, by omega, by decide, rfl⟩, ?_⟩
  rintro l1 n1 h1 ⟨f, ys, hf, hys, B1, U1, hn1, hlt, hf0, he⟩
  have hln : l1.n = l.n + ys.length := by
    have e1 := B1.len; have e2 := B.len
    simp only [List.length_append, bv_length] at e1
    omega
  obtain ⟨f, rfl⟩ : ∃ g, f = g + 1 := ⟨f - 1, by omega⟩
  refine ⟨fun hge => ?_, fun hlt2 => ?_⟩
  · have hnn : ¬ n1.toNat < 128 := by omega
    have hf1 : 0 < f := by
      rcases Nat.eq_zero_or_pos f with rfl | h
      · simp at hlt; omega
      · exact h
    refine append_buf B1 rfl rfl (by omega) fun l2 h2 B2 hn2 U2 => ⟨by decide, ⟨f, ys ++ [((n1.toNat % 128 + 128 : Nat) : Int)], by omega, by simp; omega, ?_, U1.trans U2, ?_, ?_, hf1, ?_⟩, ?_⟩
    · rw [or128 n1 hn1] at B2
      rw [bv_append, ← List.append_assoc]
      exact B2
    · rw [shr7 n1 hn1]; omega
    · rw [shr7 n1 hn1, Int.toNat_natCast]
      rw [Nat.pow_succ] at hlt
      omega
    · rw [shr7 n1 hn1, Int.toNat_natCast, he]
      simp only [encF, if_neg hnn, List.append_assoc, List.singleton_append]
    · show (shrI .u64 n1 7).toNat < n1.toNat
      rw [shr7 n1 hn1, Int.toNat_natCast]; omega
  · have hnn : n1.toNat < 128 := by omega
    refine append_buf B1 rfl rfl (by omega) fun l2 h2 B2 hn2 U2 => hQ l2 h2 ?_ (U1.trans U2)
    have hw : IntKind.wrap .u8 n1 = (n1.toNat : Int) := by rw [IntKind.wrap_u8]; omega
    rw [hw] at B2
    rw [he, bv_append, ← List.append_assoc]
    simp only [encF, if_pos hnn]
    exact B2
theorem encF_length (f n : Nat) : (encF f n).length ≤ f := by
  induction f generalizing n with
  | zero => simp [encF]
  | succ f ih =>
    simp only [encF]
    split
    · simp
    · have := ih (n / 128); simp; omega
theorem encU_length (n : Nat) : (encU n).length ≤ 10 := encF_length 10 n
theorem twin_nil {h : Hp} {m : Int} {Q : Value → Hp → Prop} (h0 : 0 ≤ m) (h1 : m ≤ 70368744177664)
    (hQ : ∀ l' h', Buf h' l' 1 5 [] → Keep h h' → (∃ b, l'.a = some ⟨b, 0, none⟩ ∧ h b = none) → l'.n = 0 → Q (.slice l'.a l'.n l'.c) h') : F88.T ⟨none, 0, 0⟩ m h Q := by
  have hw : IntKind.wrap .i64 (((0 : Nat) : Int) + m) = m := by
    rw [show ((0 : Nat) : Int) + m = m by omega]
    exact wrap_i64 (by omega) (by omega)
  unfold F88.T
  simp only [hw]
  refine ⟨⟨by simp, by simpa using h0, by omega⟩, fun b hb => ⟨[], ⟨by simp [Nat.min], .inl (by simp [Nat.min])⟩, fun v hv => (by cases hv), .inl rfl, ?_⟩⟩
  rw [wrA_nil]
  refine hQ ⟨some ⟨b, 0, none⟩, 0, m.toNat⟩ _ ⟨by simp, Nat.zero_le _, .inr ⟨b, _, (0, 0), rfl, by unfold Hp.new; rw [if_pos rfl], ?_, fun j _ => by simp, rfl⟩⟩ (Keep.new hb _) ⟨b, rfl, hb⟩ rfl
  show m.toNat * 1 ≤ _
  have := zerosV_length (z := [Value.int .u8 0]) m.toNat
  unfold zerosV at this
  simp only [Array.length_toList, List.length_singleton] at this
  exact Nat.le_of_eq this.symm
theorem putUint_nil {h : Hp} {n : Int} {Q : Value → Hp → Prop} (h0 : 0 ≤ n) (h1 : n < 18446744073709551616)
    (hQ : ∀ l' h', Buf h' l' 1 5 (bv (encU n.toNat)) → Keep h h' → (∃ b, l'.a = some ⟨b, 0, none⟩ ∧ h b = none) → Q (.slice l'.a l'.n l'.c) h') : F120.T ⟨none, 0, 0⟩ n h Q := by
  refine twin_nil (m := 10) (by decide) (by decide) fun l1 h2 B1 K1 hf hn => ⟨l1, rfl, ?_⟩
  refine number_spec B1 h0 h1 (by omega) fun l2 h3 B2 U2 => ⟨l2, rfl, hQ l2 h3 B2 ?_ ?_⟩
  · obtain ⟨b, hb, hbn⟩ := hf
    intro k x e
    exact U2.keep k x (fun o hs => by rw [hb] at hs; simp only [Option.some.injEq, Addr.mk.injEq] at hs; rw [← hs.1, hbn] at e; cases e) (K1 k x e)
  · obtain ⟨b, hb, hbn⟩ := hf
    rcases U2.at_ with h0 | ⟨b2, hb2, hn2⟩
    · exact ⟨b, by rw [h0]; exact hb, hbn⟩
    · exact ⟨b2, hb2, K1.dom _ hn2⟩
/-- Numbers' bytes, one behind the other. -/
def encUs (ns : List Int) : List Int := ns.flatMap fun n => encU n.toNat
theorem encUs_length (ns : List Int) : (encUs ns).length ≤ 10 * ns.length := by
  induction ns with
  | nil => simp [encUs]
  | cons n ns ih =>
    have := encU_length n.toNat
    simp only [encUs, List.flatMap_cons, List.length_append, List.length_cons] at ih ⊢
    omega
def uv (ns : List Int) : List Value := ns.map (Value.int .u64)
theorem bv_one (l : List Int) : ∀ v ∈ bv l, Value.oneCell' v = true := by
  intro v hv
  obtain ⟨n, _, rfl⟩ := List.mem_map.1 hv
  rfl
theorem uints_spec {h : Hp} {l r : Sl} {xs : List Value} {ns : List Int} {Q : Value → Hp → Prop} (B : Buf h l 1 5 xs) (hr : h.row r.a r.n (uv ns)) (ho : Off r l) (hu : ∀ n ∈ ns, 0 ≤ n ∧ n < 18446744073709551616) (hl : l.n + 10 * ns.length ≤ 70368744177664)
    (hQ : ∀ l' h', Buf h' l' 1 5 (xs ++ bv (encUs ns)) → Upd h h' l l' → Q (.slice l'.a l'.n l'.c) h') : F95.T l r h Q := by
  have hrn : r.n = ns.length := by rw [← hr.1]; simp [uv]
  refine ⟨fun l2 i h1 => ∃ k : Nat, i = (k : Int) ∧ k ≤ ns.length ∧ Buf h1 l2 1 5 (xs ++ bv (encUs (ns.take k))) ∧ Upd h h1 l l2, fun _ i _ => ns.length - i.toNat,
    ⟨0, rfl, Nat.zero_le _, by simpa [encUs, bv] using B, Upd.refl _ _⟩, ?_⟩
  rintro l2 i h1 ⟨k, rfl, hk, B1, U1⟩
  refine ⟨fun hlt => ?_, fun hge => ?_⟩
  · have hk1 : k < ns.length := by omega
    have hr1 := row_upd U1 (.inr ho) hr
    obtain ⟨b, o, ha, hat⟩ := row_get hr1 (i := k) (by omega)
    have hv : (uv ns)[k]? = some (Value.int .u64 ns[k]) := by simp [uv, hk1]
    have hu' := hu _ (List.getElem_mem hk1)
    refine ⟨b, o, ha, ⟨by omega, hlt⟩, ns[k], ?_, ?_⟩
    · rw [Int.toNat_natCast, hat k (by omega), hv]
    · refine putUint_nil hu'.1 hu'.2 fun l3 h2 B3 K2 hf => ⟨l3, rfl, bv (encU (ns[k]).toNat), B3.row, bv_one _, ?_⟩
      have hl3 : l3.n = (encU (ns[k]).toNat).length := by have := B3.len; rw [bv_length] at this; omega
      have hl2 : l2.n = xs.length + (encUs (ns.take k)).length := by have := B1.len; simp only [List.length_append, bv_length] at this; omega
      have hxs : l.n = xs.length := by have := B.len; omega
      have h10 := encUs_length (ns.take k)
      have h11 := encU_length (ns[k]).toNat
      rw [List.length_take, Nat.min_eq_left hk] at h10
      refine append_buf (B1.keep K2) rfl (by rw [bv_length, hl3]; omega) (by omega) fun l4 h3 B4 hn4 U4 => ?_
      have hw : IntKind.wrap .i64 ((k : Int) + 1) = ((k + 1 : Nat) : Int) := by rw [wrap_i64 (by omega) (by omega)]; omega
      rw [hw]
      refine ⟨⟨k + 1, rfl, hk1, ?_, (U1.trans (Upd.of_keep K2 l2)).trans U4⟩, ?_⟩
      · have : encUs (ns.take (k + 1)) = encUs (ns.take k) ++ encU (ns[k]).toNat := by
          unfold encUs
          rw [List.take_succ_eq_append_getElem hk1, List.flatMap_append]
          simp only [List.flatMap_cons, List.flatMap_nil, List.append_nil]
        rw [this, bv_append, ← List.append_assoc]
        exact B4
      · show ns.length - ((k + 1 : Nat) : Int).toNat < ns.length - (k : Int).toNat
        omega
  · have hkn : k = ns.length := by omega
    subst hkn
    rw [List.take_length] at B1
    exact hQ l2 h1 B1 U1
/-- A text's bytes behind their number. -/
def bI (s : ByteArray) : List Int := s.data.toList.map fun b => (b.toNat : Int)
theorem bytesV_bI (s : ByteArray) : bytesV s = bv (bI s) := by simp [bytesV, bv, bI, Function.comp_def]
theorem bI_length (s : ByteArray) : (bI s).length = s.size := by rw [← bv_length, ← bytesV_bI, bytesV_length]
def encT (s : ByteArray) : List Int := encU s.size ++ bI s
theorem putText_nil {h : Hp} {s : ByteArray} {Q : Value → Hp → Prop} (hs : s.size ≤ 35184372088832)
    (hQ : ∀ l' h', Buf h' l' 1 5 (bv (encT s)) → Keep h h' → (∃ b, l'.a = some ⟨b, 0, none⟩ ∧ h b = none) → Q (.slice l'.a l'.n l'.c) h') : F121.T ⟨none, 0, 0⟩ s h Q := by
  have hw : IntKind.wrap .i64 (10 + (s.size : Int)) = 10 + (s.size : Int) := wrap_i64 (by omega) (by omega)
  have hw2 : IntKind.wrap .u64 (s.size : Int) = (s.size : Int) := wrap_u64 (by omega) (by omega)
  unfold F121.T
  rw [hw, hw2]
  refine twin_nil (by omega) (by omega) fun l1 h2 B1 K1 hf hn => ⟨l1, rfl, ?_⟩
  refine number_spec B1 (by omega) (by omega) (by omega) fun l2 h3 B2 U2 => ⟨l2, rfl, ?_⟩
  rw [List.nil_append, Int.toNat_natCast] at B2
  have h10 := encU_length s.size
  have hl2 : l2.n = (encU s.size).length := by have := B2.len; rw [bv_length] at this; omega
  refine append_buf B2 rfl (by rw [bytesV_length]; omega) (by omega) fun l3 h4 B3 hn3 U3 => hQ l3 h4 ?_ ?_ ?_
  · unfold encT; rw [bv_append, ← bytesV_bI]; exact B3
  · obtain ⟨b, hb, hbn⟩ := hf
    intro k x e
    have U := U2.trans U3
    exact U.keep k x (fun o hs => by rw [hb] at hs; simp only [Option.some.injEq, Addr.mk.injEq] at hs; rw [← hs.1, hbn] at e; cases e) (K1 k x e)
  · obtain ⟨b, hb, hbn⟩ := hf
    rcases (U2.trans U3).at_ with h0 | ⟨b2, hb2, hn2⟩
    · exact ⟨b, by rw [h0]; exact hb, hbn⟩
    · exact ⟨b2, hb2, K1.dom _ hn2⟩
theorem text_spec {h : Hp} {l : Sl} {xs : List Value} {s : ByteArray} {Q : Value → Hp → Prop} (B : Buf h l 1 5 xs) (hs : s.size ≤ 35184372088832) (hl : l.n + s.size + 10 ≤ 140737488355328)
    (hQ : ∀ l' h', Buf h' l' 1 5 (xs ++ bv (encT s)) → Upd h h' l l' → Q (.slice l'.a l'.n l'.c) h') : F96.T l s h Q := by
  refine putText_nil hs fun l1 h1 B1 K1 hf => ⟨l1, rfl, bv (encT s), B1.row, bv_one _, ?_⟩
  have h10 := encU_length s.size
  have hl1 : l1.n = (encU s.size).length + s.size := by have := B1.len; rw [bv_length] at this; unfold encT at this; rw [List.length_append, bI_length] at this; omega
  refine append_buf (B.keep K1) rfl (by rw [bv_length, hl1]; unfold encT; rw [List.length_append, bI_length]; omega) (by omega) fun l2 h2 B2 hn2 U2 => hQ l2 h2 B2 ((Upd.of_keep K1 l).trans U2)
end Go.Eng.YtblghgacokoklaaDoor
