/-
  SPECS OF THE NAMES, 2: names and numbers.
-/
import Derived.Test.YtblghgacokoklaaDoorD1
set_option linter.unusedSimpArgs false
set_option linter.unusedVariables false
namespace Go.Eng.YtblghgacokoklaaDoor
theorem bI_get (s : ByteArray) (i : Nat) (hi : i < s.size) : bt s (i : Int) = (bI s)[i]'(by rw [bI_length]; exact hi) := by
  unfold bt bI
  simp only [Int.toNat_natCast, hi, dif_pos, List.getElem_map, Array.getElem_toList]
  rfl
theorem bI_ok (s : ByteArray) : okB8 (bI s) := by
  intro c hc
  obtain ⟨b, _, rfl⟩ := List.mem_map.1 hc
  have := b.toNat_lt
  omega
theorem bI_extract (s : ByteArray) (i j : Nat) (hj : j ≤ s.size) : bI (s.extract i j) = ((bI s).drop i).take (j - i) := by
  unfold bI
  rw [ByteArray.data_extract, Array.toList_extract]
  simp [List.extract, List.map_take, List.map_drop]
def kdB (n : Int) : Bool := n == 108 || n == 109 || n == 116
theorem kinded_spec {h : Hp} {n : Int} {Q : Value → Hp → Prop} (hQ : Q (.bool (kdB n)) h) : F38.T n h Q := by
  refine ⟨fun e => ?_, fun e1 => ⟨fun e => ?_, fun e2 => ⟨fun e => ?_, fun e3 => ?_⟩⟩⟩
  · have : kdB n = true := by simp [kdB, e]
    rw [this] at hQ; exact hQ
  · have : kdB n = true := by simp [kdB, e]
    rw [this] at hQ; exact hQ
  · have : kdB n = true := by simp [kdB, e]
    rw [this] at hQ; exact hQ
  · have : kdB n = false := by simp [kdB, e1, e2, e3]
    rw [this] at hQ; exact hQ
/-- One more digit. -/
def dig (n c : Int) : Int := IntKind.wrap .u64 ((IntKind.wrap .u64 (10 * n)) + (IntKind.wrap .u64 (IntKind.wrap .u8 (c - 48))))
def digs : Int → List Int → Option Int
  | n, [] => some n
  | n, c :: l => if c < 48 ∨ 57 < c then none else digs (dig n c) l
/-- What a name's bytes tell: the kind, the number, whether it is one. -/
def numL (l : List Int) : Int × Int × Bool :=
  if l.length = 14 ∧ kdB (l.getD 0 0) = true ∧ l.getD 1 0 = 45 then (match digs 0 (l.drop 2) with | some n => (l.getD 0 0, n, true) | none => (0, 0, false)) else (0, 0, false)
def numV (l : List Int) : Value := .tuple ⟨[.int .u8 (numL l).1, .int .u64 (numL l).2.1, .bool (numL l).2.2]⟩
theorem numV_bad {l : List Int} (h : ¬ (l.length = 14 ∧ kdB (l.getD 0 0) = true ∧ l.getD 1 0 = 45)) : numV l = .tuple ⟨[.int .u8 0, .int .u64 0, .bool false]⟩ := by
  unfold numV numL; rw [if_neg h]
theorem numV_none {l : List Int} (h : digs 0 (l.drop 2) = none) : numV l = .tuple ⟨[.int .u8 0, .int .u64 0, .bool false]⟩ := by
  unfold numV numL
  split
  · rw [h]
  · rfl
theorem numV_some {l : List Int} {n : Int} (h : l.length = 14 ∧ kdB (l.getD 0 0) = true ∧ l.getD 1 0 = 45) (hd : digs 0 (l.drop 2) = some n) : numV l = .tuple ⟨[.int .u8 (l.getD 0 0), .int .u64 n, .bool true]⟩ := by
  unfold numV numL; rw [if_pos h, hd]
theorem bt_getD (s : ByteArray) (i : Nat) (hi : i < s.size) : bt s (i : Int) = (bI s).getD i 0 := by
  rw [bI_get s i hi]
  unfold List.getD
  rw [List.getElem?_eq_getElem (by rw [bI_length]; exact hi)]
  rfl
theorem number_of {h : Hp} {s : ByteArray} {Q : Value → Hp → Prop} (hQ : ∀ h', Keep h h' → Q (numV (bI s)) h') : F6.T s h Q := by
  have hl := bI_length s
  have bad : ¬ ((bI s).length = 14 ∧ kdB ((bI s).getD 0 0) = true ∧ (bI s).getD 1 0 = 45) → ∀ h', Keep h h' → Q (.tuple ⟨[.int .u8 0, .int .u64 0, .bool false]⟩) h' := fun hb h' k => by
    have := hQ h' k; rw [numV_bad hb] at this; exact this
  refine ⟨fun h14 => ⟨⟨by decide, by omega⟩, kinded_spec ⟨_, rfl, fun hk => ⟨⟨by decide, by omega⟩, fun h45 => ⟨⟨by decide, by omega, by omega⟩, fun b c hb hc => ?_⟩, fun h45 => bad (fun q => h45 ?_) _ (Keep.refl h)⟩, fun hk => bad (fun q => ?_) _ (Keep.refl h)⟩⟩, fun h14 => bad (fun q => h14 (by omega)) _ (Keep.refl h)⟩
  · have e0 := bt_getD s 0 (by omega)
    have e1 := bt_getD s 1 (by omega)
    have good : (bI s).length = 14 ∧ kdB ((bI s).getD 0 0) = true ∧ (bI s).getD 1 0 = 45 := ⟨by omega, by rw [← e0]; exact hk, by rw [← e1]; exact h45⟩
    have hx : bI (s.extract (2 : Int).toNat ((s.size : Int) : Int).toNat) = (bI s).drop 2 := by
      rw [bI_extract _ _ _ (by omega), show (2 : Int).toNat = 2 from rfl, Int.toNat_natCast]
      exact List.take_of_length_le (by rw [List.length_drop]; omega)
    have hxs : (s.extract (2 : Int).toNat ((s.size : Int) : Int).toNat).size = 12 := by
      rw [← bI_length, hx, List.length_drop]; omega
    have hdl : ((bI s).drop 2).length = 12 := by rw [List.length_drop]; omega
    have k0 := Keep.new hb (.cells ⟨bytesV (s.extract (2 : Int).toNat ((s.size : Int) : Int).toNat) ++ List.replicate (c - (s.extract (2 : Int).toNat ((s.size : Int) : Int).toNat).size) (.int .u8 0)⟩ 5 (c, c + 1))
    generalize hO : (Obj.cells ⟨bytesV (s.extract (2 : Int).toNat ((s.size : Int) : Int).toNat) ++ List.replicate (c - (s.extract (2 : Int).toNat ((s.size : Int) : Int).toNat).size) (.int .u8 0)⟩ 5 (c, c + 1)) = O at k0
    have hat : ∀ i, (hi : i < 12) → (h.new b O).at b (0 + i) = some (.int .u8 (((bI s).drop 2)[i]'(by omega))) := by
      intro i hi
      rw [← hO, at_new, Nat.zero_add, bytesV_bI, hx]
      rw [List.getElem?_toArray]
      rw [List.getElem?_append_left (by rw [bv_length]; omega)]
      unfold bv
      rw [List.getElem?_map, List.getElem?_eq_getElem (by omega)]
      rfl
    rw [hxs]
    refine ⟨fun n n1 h2 => h2 = h.new b O ∧ ∃ i : Nat, n1 = (i : Int) ∧ i ≤ 12 ∧ digs n (((bI s).drop 2).drop i) = digs 0 ((bI s).drop 2), fun _ n1 _ => 12 - n1.toNat, ⟨rfl, 0, rfl, Nat.zero_le _, rfl⟩, ?_⟩
    rintro n n1 h2 ⟨rfl, i, rfl, hi, hu⟩
    refine ⟨fun hlt => ?_, fun hge => ?_⟩
    · have hi1 : i < 12 := by omega
      rw [List.drop_eq_getElem_cons (by omega), digs] at hu
      have none_ : (((bI s).drop 2)[i] < 48 ∨ 57 < ((bI s).drop 2)[i]) → Q (.tuple ⟨[.int .u8 0, .int .u64 0, .bool false]⟩) (h.new b O) := fun hb => by
        rw [if_pos hb] at hu
        have := hQ _ k0
        rw [numV_none hu.symm] at this
        exact this
      refine ⟨b, 0, rfl, ⟨by omega, by omega⟩, _, hat i hi1, fun hc => none_ (.inl hc), fun hc => ⟨fun hd => none_ (.inr hd), fun hd => ?_⟩⟩
      rw [if_neg (fun q => q.elim hc hd)] at hu
      rw [next_b (n := 12) hi1 (by decide)]
      exact ⟨⟨rfl, i + 1, rfl, hi1, hu⟩, by dsimp only; omega⟩
    · have hi2 : i = 12 := by omega
      subst hi2
      rw [List.drop_of_length_le (by omega), digs] at hu
      have := hQ _ k0
      rw [numV_some good hu.symm, ← e0] at this
      exact ⟨⟨by decide, by omega⟩, this⟩
  · have e1 := bt_getD s 1 (by omega)
    have e1' : bt s 1 = (bI s).getD 1 0 := e1
    rw [e1']; exact q.2.2
  · have e0 : bt s 0 = (bI s).getD 0 0 := bt_getD s 0 (by omega)
    rw [e0, q.2.1] at hk; cases hk
theorem number_of' {h : Hp} {s : ByteArray} {Q : Value → Hp → Prop} (hQ : Q (numV (bI s)) h) : F7.T s h Q := by
  have hl := bI_length s
  have bad : ¬ ((bI s).length = 14 ∧ kdB ((bI s).getD 0 0) = true ∧ (bI s).getD 1 0 = 45) → Q (.tuple ⟨[.int .u8 0, .int .u64 0, .bool false]⟩) h := fun hb => by
    rw [numV_bad hb] at hQ; exact hQ
  refine ⟨fun h1 => h1 = h ∧ ((bI s).length = 14 ∧ kdB ((bI s).getD 0 0) = true ∧ (bI s).getD 1 0 = 45), ?_, ?_⟩
  · rintro h1 ⟨rfl, good⟩
    have hsz : s.size = 14 := by omega
    refine ⟨fun n n1 h2 => h2 = h1 ∧ ∃ i : Nat, n1 = ((2 + i : Nat) : Int) ∧ i ≤ 12 ∧ digs n (((bI s).drop 2).drop i) = digs 0 ((bI s).drop 2), fun _ n1 _ => 14 - n1.toNat, ⟨rfl, 0, rfl, Nat.zero_le _, rfl⟩, ?_⟩
    rintro n n1 h2 ⟨rfl, i, rfl, hi, hu⟩
    refine ⟨fun hlt => ?_, fun hge => ?_⟩
    · have hi1 : i < 12 := by omega
      have hdl : ((bI s).drop 2).length = 12 := by rw [List.length_drop]; omega
      have eb : bt s ((2 + i : Nat) : Int) = ((bI s).drop 2)[i] := by rw [bI_get s (2 + i) (by omega), List.getElem_drop]
      rw [List.drop_eq_getElem_cons (by omega), digs] at hu
      have none_ : (((bI s).drop 2)[i] < 48 ∨ 57 < ((bI s).drop 2)[i]) → Q (.tuple ⟨[.int .u8 0, .int .u64 0, .bool false]⟩) h2 := fun hb => by
        rw [if_pos hb] at hu
        rw [numV_none hu.symm] at hQ
        exact hQ
      rw [eb]
      refine ⟨⟨by omega, by omega⟩, fun hc => none_ (.inl hc), fun hc => ⟨⟨by omega, by omega⟩, fun hd => none_ (.inr hd), fun hd => ⟨⟨by omega, by omega⟩, ?_⟩⟩⟩
      rw [if_neg (fun q => q.elim hc hd)] at hu
      rw [next_b (i := 2 + i) (n := 14) (by omega) (by decide)]
      exact ⟨⟨rfl, i + 1, by omega, hi1, hu⟩, by dsimp only; omega⟩
    · have hi2 : i = 12 := by omega
      subst hi2
      rw [List.drop_of_length_le (by rw [List.length_drop]; omega), digs] at hu
      have e0 : bt s 0 = (bI s).getD 0 0 := bt_getD s 0 (by omega)
      rw [numV_some good hu.symm, ← e0] at hQ
      exact ⟨⟨by decide, by omega⟩, hQ⟩
  · refine ⟨fun h14 => ⟨⟨by decide, by omega⟩, ?_, ?_⟩, fun h14 => bad fun q => h14 (by omega)⟩
    · intro h45
      have e1 : bt s 1 = (bI s).getD 1 0 := bt_getD s 1 (by omega)
      have e0 : bt s 0 = (bI s).getD 0 0 := bt_getD s 0 (by omega)
      have ok : kdB (bt s 0) = true → h = h ∧ ((bI s).length = 14 ∧ kdB ((bI s).getD 0 0) = true ∧ (bI s).getD 1 0 = 45) := fun hk => ⟨rfl, by omega, by rw [← e0]; exact hk, by rw [← e1]; exact h45⟩
      refine ⟨⟨by decide, by omega⟩, fun e => ok (by simp [kdB, e]), fun n1 => ⟨⟨by decide, by omega⟩, fun e => ok (by simp [kdB, e]), fun n2 => ⟨⟨by decide, by omega⟩, fun e => ok (by simp [kdB, e]), fun n3 => bad fun q => ?_⟩⟩⟩
      have := q.2.1
      rw [← e0] at this
      simp [kdB, n1, n2, n3] at this
    · intro h45
      have e1 : bt s 1 = (bI s).getD 1 0 := bt_getD s 1 (by omega)
      exact bad fun q => h45 (by rw [e1]; exact q.2.2)
end Go.Eng.YtblghgacokoklaaDoor
