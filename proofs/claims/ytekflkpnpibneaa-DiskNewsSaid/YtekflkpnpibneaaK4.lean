/-
  TEXTS OF MINE, JOINED: Q2 Q3 Q4 Q5 Q6 Q7 Q8 QA QB QC QD QE QF QG QH QI.
-/
import Derived.Test.YtekflkpnpibneaaK3
section

/-
  SPECS OF THE DISK, 1: names; copies of bytes.
-/
set_option linter.unusedSimpArgs false
set_option linter.unusedVariables false
set_option maxRecDepth 100000
namespace Go.Eng.Ytekflkpnpibneaa
theorem inc_i {k n : Nat} (hk : k < n) (hn : n ≤ 9223372036854775807) : IntKind.wrap .i64 ((k : Int) + 1) = ((k + 1 : Nat) : Int) := by rw [wrap_i64 (by omega) (by omega)]; omega
theorem byteOk_t {b : UInt8} : byteOk b = true ↔ (97 ≤ b.toNat ∧ b.toNat ≤ 122) ∨ (48 ≤ b.toNat ∧ b.toNat ≤ 57) ∨ b.toNat = 45 := by
  unfold byteOk
  simp only [Bool.or_eq_true, Bool.and_eq_true, decide_eq_true_eq, beq_iff_eq, or_assoc]
theorem byteOk_f {b : UInt8} (h : ¬ ((97 ≤ b.toNat ∧ b.toNat ≤ 122) ∨ (48 ≤ b.toNat ∧ b.toNat ≤ 57) ∨ b.toNat = 45)) : byteOk b = false := by
  rw [← Bool.not_eq_true, byteOk_t]; exact h
theorem all_snoc {A : List UInt8} {b : UInt8} (h : A.all byteOk = true) (hb : byteOk b = true) : (A ++ [b]).all byteOk = true := by simp [h, hb]
theorem not_all {A B : List UInt8} {b : UInt8} (hb : byteOk b = false) : (A ++ b :: B).all byteOk = false := by simp [hb]
def bl (l : List UInt8) : List Value := l.map fun b => .int .u8 (b.toNat : Int)
theorem bl_len (l : List UInt8) : (bl l).length = l.length := List.length_map _
theorem bytesV_bl (s : ByteArray) : bytesV s = bl s.data.toList := rfl
theorem bl_app (a b : List UInt8) : bl (a ++ b) = bl a ++ bl b := List.map_append
theorem bl_one (l : List UInt8) : ∀ v ∈ bl l, Value.oneCell' v = true := fun v hv => by
  unfold bl at hv
  obtain ⟨s, _, rfl⟩ := List.mem_map.1 hv
  rfl
theorem name_spec {h : Hp} {s : ByteArray} {Q : Value → Hp → Prop} (hs : s.size ≤ 9223372036854775807) (hQ : ∀ h', Keep h h' → Q (.bool (nameOk s)) h') : F47.T s h Q := by
  intro b c hb hc
  have K := Keep.new hb (.cells ⟨bytesV s ++ List.replicate (c - s.size) (.int .u8 0)⟩ 5 (c, c + 1))
  have hx := new_at h b (.cells ⟨bytesV s ++ List.replicate (c - s.size) (.int .u8 0)⟩ 5 (c, c + 1))
  generalize h.new b (.cells ⟨bytesV s ++ List.replicate (c - s.size) (.int .u8 0)⟩ 5 (c, c + 1)) = h0 at K hx ⊢
  refine ⟨fun n h1 => h1 = h0 ∧ ∃ A B : List UInt8, s.data.toList = A ++ B ∧ n = (A.length : Int) ∧ A.all byteOk = true, fun n _ => s.size - n.toNat, ⟨rfl, [], s.data.toList, rfl, rfl, rfl⟩, ?_⟩
  rintro n h1 ⟨rfl, A, B, eAB, rfl, hA⟩
  have hl := congrArg List.length eAB
  rw [List.length_append, Array.length_toList] at hl
  have hsz : s.size = A.length + B.length := hl
  refine ⟨fun hlt => ?_, fun hge => ?_⟩
  · rcases B with _ | ⟨x, B⟩
    · exact absurd hlt (by simp at hsz; omega)
    rw [List.length_cons] at hsz
    have hat : h1.at b (0 + (A.length : Int).toNat) = some (.int .u8 (x.toNat : Int)) := by
      rw [at_of hx, Nat.zero_add, Int.toNat_natCast, ← Array.getElem?_toList]
      show (bytesV s ++ List.replicate (c - s.size) (Value.int .u8 0))[A.length]? = _
      rw [List.getElem?_append_left (by rw [bytesV_bl, bl_len, Array.length_toList]; exact (show A.length < s.size by omega)), bytesV_bl, eAB]
      unfold bl
      simp
    have hT : byteOk x = true → ((h1 = h1 ∧ ∃ A' B' : List UInt8, s.data.toList = A' ++ B' ∧ IntKind.wrap .i64 ((A.length : Int) + 1) = (A'.length : Int) ∧ A'.all byteOk = true) ∧ s.size - (IntKind.wrap .i64 ((A.length : Int) + 1)).toNat < s.size - ((A.length : Int)).toNat) := fun hx => by
      rw [inc_i (n := 9223372036854775807) (by omega) (by omega)]
      exact ⟨⟨rfl, A ++ [x], B, by rw [eAB]; simp, by simp, all_snoc hA hx⟩, by omega⟩
    have hF : byteOk x = false → Q (.bool false) h1 := fun hx => by
      have : nameOk s = false := by unfold nameOk; rw [eAB, not_all hx, Bool.and_false]
      have h2 := hQ h1 K
      rw [this] at h2
      exact h2
    refine ⟨b, 0, rfl, ⟨by omega, hlt⟩, _, hat, fun c1 => ⟨fun c2 => ⟨fun c3 => hT (byteOk_t.2 (by omega)), fun c3 => hF (byteOk_f (by omega))⟩, fun c2 => ⟨fun c3 => ⟨fun c4 => hT (byteOk_t.2 (by omega)), fun c4 => hF (byteOk_f (by omega))⟩, fun c3 => hT (byteOk_t.2 (by omega))⟩⟩, fun c1 => ⟨fun c2 => ⟨fun c3 => ⟨fun c4 => hT (byteOk_t.2 (by omega)), fun c4 => hF (byteOk_f (by omega))⟩, fun c3 => ⟨fun c4 => ⟨fun c5 => hT (byteOk_t.2 (by omega)), fun c5 => hF (byteOk_f (by omega))⟩, fun c4 => hT (byteOk_t.2 (by omega))⟩⟩, fun c2 => hT (byteOk_t.2 (by omega))⟩⟩
  · have hB : B = [] := List.eq_nil_of_length_eq_zero (by omega)
    subst hB
    rw [List.append_nil] at eAB
    have h2 := hQ h1 K
    have e0 : s = ByteArray.mk #[] ↔ s.size = 0 := by
      constructor
      · rintro rfl; rfl
      · intro h0
        have : s.data.toList = [] := List.eq_nil_of_length_eq_zero (by rw [Array.length_toList]; exact h0)
        exact ByteArray.ext (Array.ext' this)
    have hn : nameOk s = (decide (1 ≤ s.size) && decide (s.size ≤ 24)) := by unfold nameOk; rw [eAB, hA, Bool.and_true]
    refine ⟨fun hs0 => ?_, fun hs0 => ⟨fun h24 => ?_, fun h24 => ?_⟩⟩
    · have h0 := e0.1 hs0
      rw [hn, h0] at h2; exact h2
    · have h0 : s.size ≠ 0 := fun h => hs0 (e0.2 h)
      rw [hn, decide_eq_true (by omega : 1 ≤ s.size), decide_eq_true (by omega : s.size ≤ 24)] at h2; exact h2
    · have h0 : s.size ≠ 0 := fun h => hs0 (e0.2 h)
      rw [hn, decide_eq_true (by omega : 1 ≤ s.size), decide_eq_false (by omega : ¬ s.size ≤ 24)] at h2; exact h2
theorem bt_at {s : ByteArray} {i : Nat} {x : UInt8} (h : s.data.toList[i]? = some x) : bt s (i : Int) = (x.toNat : Int) := by
  have hi := (List.getElem?_eq_some_iff.1 h).1
  rw [Array.length_toList] at hi
  have hi : i < s.size := hi
  unfold bt
  rw [dif_pos (show (i : Int).toNat < s.size from hi)]
  rw [List.getElem?_eq_getElem (by rw [Array.length_toList]; exact hi)] at h
  rw [← Option.some.inj h]
  rfl
/-- The document's names. -/
theorem name_doc {h : Hp} {s : ByteArray} {Q : Value → Hp → Prop} (hQ : Q (.bool (nameOk s)) h) : F62.T s h Q := by
  refine ⟨fun h1 => ?_, fun h1 => ⟨fun h2 => ?_, fun h2 => ?_⟩⟩
  · have : nameOk s = false := by unfold nameOk; rw [decide_eq_false (by omega : ¬ 1 ≤ s.size)]; rfl
    rw [this] at hQ; exact hQ
  · have : nameOk s = false := by unfold nameOk; rw [decide_eq_false (by omega : ¬ s.size ≤ 24), Bool.and_false]; rfl
    rw [this] at hQ; exact hQ
  · refine ⟨fun n g => g = h ∧ ∃ A B : List UInt8, s.data.toList = A ++ B ∧ n = (A.length : Int) ∧ A.all byteOk = true, fun n _ => s.size - n.toNat, ⟨rfl, [], s.data.toList, rfl, rfl, rfl⟩, ?_⟩
    rintro n g ⟨rfl, A, B, eAB, rfl, hA⟩
    have hl := congrArg List.length eAB
    rw [List.length_append, Array.length_toList] at hl
    have hsz : s.size = A.length + B.length := hl
    refine ⟨fun hlt => ?_, fun hge => ?_⟩
    · rcases B with _ | ⟨x, B⟩
      · exact absurd hlt (by simp at hsz; omega)
      rw [List.length_cons] at hsz
      have hb : bt s (A.length : Int) = (x.toNat : Int) := bt_at (by rw [eAB]; simp)
      have hT : byteOk x = true → ((g = g ∧ ∃ A' B' : List UInt8, s.data.toList = A' ++ B' ∧ IntKind.wrap .i64 ((A.length : Int) + 1) = (A'.length : Int) ∧ A'.all byteOk = true) ∧ s.size - (IntKind.wrap .i64 ((A.length : Int) + 1)).toNat < s.size - ((A.length : Int)).toNat) := fun hx => by
        rw [inc_i (n := 100) (by omega) (by omega)]
        exact ⟨⟨rfl, A ++ [x], B, by rw [eAB]; simp, by simp, all_snoc hA hx⟩, by omega⟩
      have hF : byteOk x = false → Q (.bool false) g := fun hx => by
        have : nameOk s = false := by unfold nameOk; rw [eAB, not_all hx, Bool.and_false]
        rw [this] at hQ
        exact hQ
      rw [hb]
      have n1 : ∀ {b1 b2 : Prop}, b1 → b2 → b1 ∧ b2 := fun a b => ⟨a, b⟩
      refine ⟨⟨by omega, hlt⟩, fun c1 => ⟨fun c2 => hT (byteOk_t.2 (by omega)), fun c2 => ⟨fun c3 => ⟨fun c4 => hT (byteOk_t.2 (by omega)), fun c4 => ⟨fun c5 => hT (byteOk_t.2 (by omega)), fun c5 => hF (byteOk_f (by omega))⟩⟩, fun c3 => ⟨fun c5 => hT (byteOk_t.2 (by omega)), fun c5 => hF (byteOk_f (by omega))⟩⟩⟩, fun c1 => ⟨fun c3 => ⟨fun c4 => hT (byteOk_t.2 (by omega)), fun c4 => ⟨fun c5 => hT (byteOk_t.2 (by omega)), fun c5 => hF (byteOk_f (by omega))⟩⟩, fun c3 => ⟨fun c5 => hT (byteOk_t.2 (by omega)), fun c5 => hF (byteOk_f (by omega))⟩⟩⟩
    · have hB : B = [] := List.eq_nil_of_length_eq_zero (by omega)
      subst hB
      rw [List.append_nil] at eAB
      have hn : nameOk s = true := by unfold nameOk; rw [eAB, hA, Bool.and_true, decide_eq_true (by omega : 1 ≤ s.size), decide_eq_true (by omega : s.size ≤ 24)]; rfl
      rw [hn] at hQ
      exact hQ
/-- A copy of bytes. -/
theorem clone_bytes {h : Hp} {l : Sl} {v : List UInt8} {Q : Value → Hp → Prop} (hr : h.row l.a (l.n * 1) (bl v)) (hcap : l.n ≤ l.c) (hn0 : l.a = none → l.n = 0) (hs : v.length ≤ 4294967296) (hQ : ∀ h' r, Keep h h' → Buf h' r 1 5 (bl v) → NewN h r → Q (.slice r.a r.n r.c) h') : F48.T l h Q := by
  have hn : l.n = v.length := by have := hr.1; rw [bl_len] at this; omega
  refine ⟨fun h0 => ?_, fun h0 b hb => ?_⟩
  · have : v = [] := List.eq_nil_of_length_eq_zero (by have := hn0 h0; omega)
    subst this
    exact hQ h ⟨none, 0, 0⟩ (Keep.refl h) (Buf.nil _ _ _) (.inl rfl)
  · have K := Keep.new hb (.cells ⟨[]⟩ 5 (0, 0))
    have B1 : Buf (h.new b (.cells ⟨[]⟩ 5 (0, 0))) ⟨some ⟨b, 0, none⟩, 0, 0⟩ 1 5 [] := ⟨rfl, Nat.le_refl _, .inr ⟨b, ⟨[]⟩, (0, 0), rfl, new_at _ _ _, by simp, fun j _ => by simp, rfl⟩⟩
    refine ⟨bl v, K.row hr, bl_one _, append_buf B1 rfl (by rw [bl_len]; omega) (by dsimp only; omega) fun r h2 B2 _ U2 => ?_⟩
    obtain ⟨K2, N2⟩ := NewN.upd K (s := ⟨some ⟨b, 0, none⟩, 0, 0⟩) (.inr ⟨b, rfl, hb⟩) U2
    exact hQ h2 r K2 (by simpa using B2) N2
end Go.Eng.Ytekflkpnpibneaa
end
section

/-
  SPECS OF THE DISK, 2: the program's disk in memory; what begins a call; falls; rigs.
-/
set_option linter.unusedSimpArgs false
set_option linter.unusedVariables false
set_option maxRecDepth 100000
namespace Go.Eng.Ytekflkpnpibneaa
/-- A file's block, where its bytes lie, what it holds. -/
structure FX where
  b : Nat
  d : Sl
  f : Fil
def pid (bk : List Nat) (i : Nat) : Value := .pointer ((bk[i]?).map fun b => ⟨b, 0, none⟩)
def Cg.cells (bk : List Nat) (c : Cg) : List Value := [.int .i64 c.kind, .string c.nm, .string c.to, if c.kind = 0 then pid bk c.id else .pointer none]
def chV (bk : List Nat) (l : List Cg) : List Value := l.flatMap (Cg.cells bk)
theorem chV_len (bk : List Nat) (l : List Cg) : (chV bk l).length = l.length * 4 := by
  unfold chV
  induction l with
  | nil => rfl
  | cons c l ih => rw [List.flatMap_cons, List.length_append, ih, List.length_cons]; show 4 + _ = _; omega
structure PA where
  db : Nat
  nb : Nat
  sb : Nat
  ch : Sl
  X : List FX
def PA.bk (A : PA) : List Nat := A.X.map (·.b)
/-- Files in memory, each apart. -/
structure Fls (t : Nat) (h : Hp) (X : List FX) : Prop where
  fb : ∀ x ∈ X, h x.b = some (.cells ⟨[.slice x.d.a x.d.n x.d.c, .int .i64 (x.f.sure : Int)]⟩ t (0, 0))
  fd : ∀ x ∈ X, Buf h x.d 1 5 (bl x.f.data)
  dj : ∀ (i j : Nat) x y, X[i]? = some x → X[j]? = some y → i ≠ j → x.b ≠ y.b ∧ Off x.d y.d
def ownX (X : List FX) (k : Nat) : Prop := ∃ x ∈ X, k = x.b ∨ inS x.d k
theorem Fls.mono {t : Nat} {h h' : Hp} {X : List FX} (F : Fls t h X) (m : ∀ k x, ownX X k → h k = some x → h' k = some x) : Fls t h' X :=
  ⟨fun x hx => m _ _ ⟨x, hx, .inl rfl⟩ (F.fb x hx), fun x hx => buf_mono (F.fd x hx) fun k y hk e => m k y ⟨x, hx, .inr hk⟩ e, F.dj⟩
theorem Fls.alive {t : Nat} {h : Hp} {X : List FX} (F : Fls t h X) {k : Nat} (hk : ownX X k) : ∃ (c : Array Value) (u : Nat × (Nat × Nat)), h k = some (.cells c u.1 u.2) ∧ (u.1 = 5 ∨ u.1 = t) := by
  obtain ⟨x, hx, rfl | hk⟩ := hk
  · exact ⟨_, (t, (0, 0)), F.fb x hx, .inr rfl⟩
  · obtain ⟨c, f, e⟩ := buf_alive (F.fd x hx) hk; exact ⟨c, (5, f), e, .inl rfl⟩
theorem offS {s t : Sl} (o : Off s t) : Off t s := fun b o1 o2 e1 e2 => o b o2 o1 e2 e1
theorem off_upd {h h1 : Hp} {s s' r : Sl} {sz t : Nat} {vs : List Value} (U : Upd h h1 s s') (o : Off r s) (B : Buf h r sz t vs) : Off r s' := by
  rcases U.at_ with e | ⟨b, e, hn⟩
  · intro k o1 o2 e1 e2
    rw [e] at e2
    exact o k o1 o2 e1 e2
  · intro k o1 o2 e1 e2
    rw [e] at e2
    simp only [Option.some.injEq, Addr.mk.injEq, and_true] at e2
    obtain ⟨c, f, e3⟩ := buf_alive B ⟨o1, e1⟩
    rw [← e2.1, hn] at e3; cases e3
/-- One file has changed: its bytes, then its block. -/
theorem Fls.set {t : Nat} (ht5 : t ≠ 5) {h h1 h2 : Hp} {X : List FX} (F : Fls t h X) {i : Nat} {x : FX} (hx : X[i]? = some x) {d' : Sl} {f' : Fil} (U : Upd h h1 x.d d') (B : Buf h1 d' 1 5 (bl f'.data)) (O : One x.b h1 h2)
    (hb : h2 x.b = some (.cells ⟨[.slice d'.a d'.n d'.c, .int .i64 (f'.sure : Int)]⟩ t (0, 0))) : Fls t h2 (X.set i ⟨x.b, d', f'⟩) ∧ Ck [7, t + 2] h h2 ∧ Tr2 (ownX X) (ownX (X.set i ⟨x.b, d', f'⟩)) h h2 := by
  have hi := (List.getElem?_eq_some_iff.1 hx).1
  have hxm := List.mem_of_getElem? hx
  have C1 := Ck.of_upd (F.fd x hxm) U
  have hb1 : h1 x.b = some _ := C1.keep _ _ (F.fb x hxm) (by simp [kd]; omega)
  have C2 := O.ck hb1
  have get : ∀ {j : Nat} {y : FX}, (X.set i ⟨x.b, d', f'⟩)[j]? = some y → (j = i ∧ y = ⟨x.b, d', f'⟩) ∨ (j ≠ i ∧ X[j]? = some y) := fun {j y} h => by
    rw [List.getElem?_set] at h
    by_cases hj : i = j
    · subst hj
      rw [if_pos rfl, if_pos hi] at h
      exact .inl ⟨rfl, (Option.some.inj h).symm⟩
    · rw [if_neg hj] at h
      exact .inr ⟨fun e => hj e.symm, h⟩
  refine ⟨⟨fun y hy => ?_, fun y hy => ?_, fun j k y z hy hz hjk => ?_⟩, (C1.mono (by simp)).trans (C2.mono (by simp [kd])), ⟨fun k y hk e => ?_, fun k e => U.dom k (O.dom k e), fun k hk => ?_⟩⟩
  · obtain ⟨j, hj⟩ := List.mem_iff_getElem?.1 hy
    rcases get hj with ⟨_, rfl⟩ | ⟨hne, hj⟩
    · exact hb
    · exact O.keep _ _ (F.dj j i y x hj hx hne).1 (C1.keep _ _ (F.fb y (List.mem_of_getElem? hj)) (by simp [kd]; omega))
  · obtain ⟨j, hj⟩ := List.mem_iff_getElem?.1 hy
    rcases get hj with ⟨_, rfl⟩ | ⟨hne, hj⟩
    · exact C2.buf (by simp [kd]; omega) B
    · exact C2.buf (by simp [kd]; omega) ((F.fd y (List.mem_of_getElem? hj)).upd U (F.dj j i y x hj hx hne).2)
  · rcases get hy with ⟨e1, e2⟩ | ⟨hj, hy'⟩
    · rcases get hz with ⟨e3, e4⟩ | ⟨hk, hz'⟩
      · exact absurd (e1.trans e3.symm) hjk
      · have := F.dj i k x z hx hz' (fun e => hk e.symm)
        rw [e2]
        exact ⟨this.1, offS (off_upd U (offS this.2) (F.fd z (List.mem_of_getElem? hz')))⟩
    · rcases get hz with ⟨e3, e4⟩ | ⟨hk, hz'⟩
      · have := F.dj j i y x hy' hx hj
        rw [e4]
        exact ⟨this.1, off_upd U this.2 (F.fd y (List.mem_of_getElem? hy'))⟩
      · exact F.dj j k y z hy' hz' hjk
  · exact O.keep k y (by rintro rfl; exact hk ⟨x, hxm, .inl rfl⟩) (U.keep k y (fun o ho => hk ⟨x, hxm, .inr ⟨o, ho⟩⟩) e)
  · obtain ⟨y, hy, hk⟩ := hk
    obtain ⟨j, hj⟩ := List.mem_iff_getElem?.1 hy
    rcases get hj with ⟨_, rfl⟩ | ⟨hne, hj⟩
    · rcases hk with rfl | hk
      · exact .inl ⟨x, hxm, .inl rfl⟩
      · rcases upd_in U hk with h0 | h0
        · exact .inl ⟨x, hxm, .inr h0⟩
        · exact .inr h0
    · exact .inl ⟨y, List.mem_of_getElem? hj, hk⟩
/-- One file more. -/
theorem Fls.snoc {t : Nat} {h : Hp} {X : List FX} (F : Fls t h X) {x : FX} (hb : h x.b = some (.cells ⟨[.slice x.d.a x.d.n x.d.c, .int .i64 (x.f.sure : Int)]⟩ t (0, 0))) (B : Buf h x.d 1 5 (bl x.f.data)) (n1 : ¬ ownX X x.b) (n2 : ∀ k, inS x.d k → ¬ ownX X k) : Fls t h (X ++ [x]) := by
  refine ⟨fun y hy => ?_, fun y hy => ?_, fun i j y z hy hz hij => ?_⟩
  · rcases List.mem_append.1 hy with hy | hy
    · exact F.fb y hy
    · rw [List.mem_singleton.1 hy]; exact hb
  · rcases List.mem_append.1 hy with hy | hy
    · exact F.fd y hy
    · rw [List.mem_singleton.1 hy]; exact B
  · have get : ∀ {j : Nat} {y : FX}, (X ++ [x])[j]? = some y → X[j]? = some y ∨ (j = X.length ∧ y = x) := fun {j y} h => by
      rcases Nat.lt_trichotomy j X.length with hj | hj | hj
      · rw [List.getElem?_append_left hj] at h; exact .inl h
      · subst hj; simp at h; exact .inr ⟨rfl, h.symm⟩
      · rw [List.getElem?_eq_none (by simp; omega)] at h; cases h
    rcases get hy with hy' | ⟨e1, e2⟩
    · rcases get hz with hz' | ⟨e3, e4⟩
      · exact F.dj i j y z hy' hz' hij
      · rw [e4]
        exact ⟨fun e => n1 ⟨y, List.mem_of_getElem? hy', .inl e.symm⟩, fun b o o' e1 e2 => n2 b ⟨o', e2⟩ ⟨y, List.mem_of_getElem? hy', .inr ⟨o, e1⟩⟩⟩
    · rcases get hz with hz' | ⟨e3, e4⟩
      · rw [e2]
        exact ⟨fun e => n1 ⟨z, List.mem_of_getElem? hz', .inl e⟩, fun b o o' e1 e2 => n2 b ⟨o, e1⟩ ⟨z, List.mem_of_getElem? hz', .inr ⟨o', e2⟩⟩⟩
      · exact absurd (e1.trans e3.symm) hij
theorem ownX_snoc {X : List FX} {x : FX} {k : Nat} (h : ownX (X ++ [x]) k) : ownX X k ∨ k = x.b ∨ inS x.d k := by
  obtain ⟨y, hy, hk⟩ := h
  rcases List.mem_append.1 hy with hy | hy
  · exact .inl ⟨y, hy, hk⟩
  · rw [List.mem_singleton.1 hy] at hk; exact .inr hk
/-- The program's disk. -/
structure PD (h : Hp) (A : PA) (S : Dk) : Prop where
  dsk : ∃ u w f p : Int, (S.down = false → u = S.left ∧ w = S.well ∧ f = S.fails ∧ p = S.part) ∧ h A.db = some (.cells ⟨[.int .i64 S.room, .map (some A.nb), .map (some A.sb), .slice A.ch.a A.ch.n A.ch.c, .int .i64 u, .int .i64 w, .int .i64 f, .int .i64 p, .bool S.down]⟩ 80 (0, 0))
  now : ∃ es c, h A.nb = some (.map es c) ∧ SM es c S.now (pid A.bk)
  sure : ∃ es c, h A.sb = some (.map es c) ∧ SM es c S.sure (pid A.bk)
  ne : A.nb ≠ A.sb
  ch : Buf h A.ch 4 94 (chV A.bk S.chg)
  fl : A.X.map (·.f) = S.fl
  fx : Fls 100 h A.X
def PA.own (A : PA) (k : Nat) : Prop := k = A.db ∨ k = A.nb ∨ k = A.sb ∨ inS A.ch k ∨ ownX A.X k
section
variable {h h' : Hp} {A : PA} {S S' : Dk} {Q : Value → Hp → Prop}
theorem PD.alive (P : PD h A S) {k : Nat} (hk : A.own k) : ∃ o, h k = some o := by
  rcases hk with rfl | rfl | rfl | hk | hk
  · obtain ⟨u, w, f, p, _, e⟩ := P.dsk; exact ⟨_, e⟩
  · obtain ⟨es, c, e, _⟩ := P.now; exact ⟨_, e⟩
  · obtain ⟨es, c, e, _⟩ := P.sure; exact ⟨_, e⟩
  · obtain ⟨c, f, e⟩ := buf_alive P.ch hk; exact ⟨_, e⟩
  · obtain ⟨c, f, e, _⟩ := P.fx.alive hk; exact ⟨_, e⟩
theorem PD.mono (P : PD h A S) (m : ∀ k x, A.own k → h k = some x → h' k = some x) : PD h' A S := by
  obtain ⟨u, w, f, p, e1, e2⟩ := P.dsk
  obtain ⟨es, c, e3, e4⟩ := P.now
  obtain ⟨es', c', e5, e6⟩ := P.sure
  exact ⟨⟨u, w, f, p, e1, m _ _ (.inl rfl) e2⟩, ⟨es, c, m _ _ (.inr (.inl rfl)) e3, e4⟩, ⟨es', c', m _ _ (.inr (.inr (.inl rfl))) e5, e6⟩, P.ne, buf_mono P.ch fun k x hk e => m k x (.inr (.inr (.inr (.inl hk)))) e, P.fl,
    P.fx.mono fun k y hk e => m k y (.inr (.inr (.inr (.inr hk)))) e⟩
theorem PD.keep (P : PD h A S) (K : Keep h h') : PD h' A S := P.mono fun k x _ e => K k x e
/-- The disk's own cells have changed, of which the files and names are as they were. -/
theorem PD.cells (P : PD h A S) (C : Ck [82] h h') (e1 : S'.now = S.now) (e2 : S'.sure = S.sure) (e3 : S'.chg = S.chg) (e4 : S'.fl = S.fl)
    (hd : ∃ u w f p : Int, (S'.down = false → u = S'.left ∧ w = S'.well ∧ f = S'.fails ∧ p = S'.part) ∧ h' A.db = some (.cells ⟨[.int .i64 S'.room, .map (some A.nb), .map (some A.sb), .slice A.ch.a A.ch.n A.ch.c, .int .i64 u, .int .i64 w, .int .i64 f, .int .i64 p, .bool S'.down]⟩ 80 (0, 0))) : PD h' A S' := by
  obtain ⟨es, c, n1, n2⟩ := P.now
  obtain ⟨es', c', n3, n4⟩ := P.sure
  exact ⟨hd, ⟨es, c, C.keep _ _ n1 (by simp [kd]), by rw [e1]; exact n2⟩, ⟨es', c', C.keep _ _ n3 (by simp [kd]), by rw [e2]; exact n4⟩, P.ne, by rw [e3]; exact C.buf (by decide) P.ch, by rw [e4]; exact P.fl,
    P.fx.mono fun k y hk e => C.keep k y e (by
      obtain ⟨c, t, e', ht⟩ := P.fx.alive hk
      rw [e] at e'; cases e'
      rcases ht with ht | ht <;> simp [kd, ht])⟩
theorem one_wr {b o t : Nat} {c : Array Value} {f : Nat × Nat} {vs : List Value} (hb : h b = some (.cells c t f)) : One b h (h.wr b o vs) := by
  have e : h.wr b o vs = h.new b (.cells (setL c.toList o vs).toArray t f) := by
    funext k
    unfold Hp.wr Hp.new
    by_cases hk : k = b
    · rw [if_pos hk, if_pos hk, hb]
    · rw [if_neg hk, if_neg hk]
  rw [e]
  exact One.new _ (by rw [hb]; simp)
theorem wr_cells {b o t : Nat} {c : Array Value} {f : Nat × Nat} {vs : List Value} (hb : h b = some (.cells c t f)) : (h.wr b o vs) b = some (.cells (setL c.toList o vs).toArray t f) := by
  unfold Hp.wr; rw [if_pos rfl, hb]
theorem strs_rd {l : Sl} {A B : List ByteArray} {s : ByteArray} (hr : h.row l.a (l.n * 1) ((A ++ s :: B).map Value.string)) : ∃ b o, l.a = some ⟨b, o, none⟩ ∧ (A.length : Int) < (l.n : Int) ∧ h.at b (o + (A.length : Int).toNat) = some (.string s) := by
  have hl := hr.1
  rw [List.length_map, List.length_append, List.length_cons] at hl
  obtain ⟨b, o, ha, hat⟩ := row_get hr (i := A.length) (by omega)
  refine ⟨b, o, ha, by omega, ?_⟩
  rw [Int.toNat_natCast, hat _ (by omega)]
  simp
theorem begin_p {l : Sl} {ns : List ByteArray} (P : PD h A S) (D : DOk S) (hr : h.row l.a (l.n * 1) (ns.map Value.string)) (hl : ns.length ≤ 1000) (hs : ∀ s ∈ ns, s.size ≤ 9223372036854775807)
    (hQ : ∀ h', PD h' A (dbegin S (ns.all nameOk)).2 → Tr2 A.own A.own h h' → Q (.int .i64 (dbegin S (ns.all nameOk)).1) h') : F49.T (some ⟨A.db, 0, none⟩) l h Q := by
  obtain ⟨u, w, f, p, hrig, hd⟩ := P.dsk
  have hln : l.n = ns.length := by have := hr.1; rw [List.length_map] at this; omega
  refine ⟨A.db, 0, rfl, S.down, at_of hd 8, fun hdown => ?_, fun hup => ?_⟩
  · have e : dbegin S (ns.all nameOk) = (30, S) := by unfold dbegin; rw [if_pos hdown]
    rw [e] at hQ
    exact hQ h P (Tr2.refl _ _)
  obtain ⟨rfl, rfl, rfl, rfl⟩ := hrig hup
  refine ⟨fun n h1 => Keep h h1 ∧ ∃ B C, ns = B ++ C ∧ n = (B.length : Int) ∧ B.all nameOk = true, fun n _ => ns.length - n.toNat, ⟨Keep.refl h, [], ns, rfl, rfl, rfl⟩, ?_⟩
  rintro n h1 ⟨K, B, C, rfl, rfl, hB⟩
  rw [List.length_append] at hln hl
  refine ⟨fun hlt => ?_, fun hge => ?_⟩
  · rcases C with _ | ⟨s, C⟩
    · exact absurd hlt (by simp at hln; omega)
    rw [List.length_cons] at hln hl
    obtain ⟨b, o, ha, hb, hat⟩ := strs_rd (K.row hr)
    refine ⟨b, o, ha, ⟨by omega, hb⟩, s, hat, ?_⟩
    refine name_spec (hs s (by simp)) fun h2 K2 => ⟨nameOk s, rfl, fun hok => ?_, fun hno => ?_⟩
    · rw [inc_i (n := 100000) (by omega) (by omega)]
      exact ⟨⟨K.trans K2, B ++ [s], C, by simp, by simp, by simp [hB, hok]⟩, by (try dsimp only); (try simp only [List.length_append, List.length_singleton, List.length_cons]); omega⟩
    · have e : dbegin S ((B ++ s :: C).all nameOk) = (33, S) := by
        have : (B ++ s :: C).all nameOk = false := by simp [hno]
        unfold dbegin
        rw [this, if_neg (by rw [hup]; simp), if_pos rfl]
      rw [e] at hQ
      exact hQ h2 (P.keep (K.trans K2)) (Tr2.of_keep _ (K.trans K2))
  · have hC : C = [] := List.eq_nil_of_length_eq_zero (by omega)
    subst hC
    rw [List.append_nil, hB] at hQ
    have P1 := P.keep K
    have hd1 := K _ _ hd
    have pos := D.pos
    have top := D.top
    refine ⟨A.db, 0, rfl, S.well, at_of hd1 5, fun hw => ?_, fun hw => ?_⟩
    · have e : dbegin S true = (0, { S with well := S.well - 1 }) := by unfold dbegin; rw [if_neg (by rw [hup]; simp), if_neg (by simp), if_pos hw]
      rw [e] at hQ
      refine ⟨A.db, 0, rfl, S.well, at_of hd1 5, A.db, 0, rfl, canW_new hd1 (by simp), ?_⟩
      rw [wrap_i64 (by omega) (by omega)]
      exact hQ _ (P1.cells (Ck.wr hd1) rfl rfl rfl rfl ⟨_, _, _, _, fun _ => ⟨rfl, rfl, rfl, rfl⟩, wr_cells hd1⟩) (Tr2.keepTr K (Tr2.one (one_wr hd1) (.inl rfl) fun _ d => .inl d))
    · refine ⟨A.db, 0, rfl, S.fails, at_of hd1 6, fun hf => ?_, fun hf => ?_⟩
      · have e : dbegin S true = (31, { S with fails := S.fails - 1 }) := by unfold dbegin; rw [if_neg (by rw [hup]; simp), if_neg (by simp), if_neg hw, if_pos hf]
        rw [e] at hQ
        refine ⟨A.db, 0, rfl, S.fails, at_of hd1 6, A.db, 0, rfl, canW_new hd1 (by simp), ?_⟩
        rw [wrap_i64 (by omega) (by omega)]
        exact hQ _ (P1.cells (Ck.wr hd1) rfl rfl rfl rfl ⟨_, _, _, _, fun _ => ⟨rfl, rfl, rfl, rfl⟩, wr_cells hd1⟩) (Tr2.keepTr K (Tr2.one (one_wr hd1) (.inl rfl) fun _ d => .inl d))
      · have e : dbegin S true = (0, S) := by unfold dbegin; rw [if_neg (by rw [hup]; simp), if_neg (by simp), if_neg hw, if_neg hf]
        rw [e] at hQ
        exact hQ h1 P1 (Tr2.of_keep _ K)
theorem falls_p {cost : Int} (P : PD h A S) (D : DOk S) (hup : S.down = false) (hc : 0 ≤ cost)
    (hN : ∀ h', (dfalls S cost).1 = none → PD h' A (dfalls S cost).2 → Tr2 A.own A.own h h' → Q (.tuple ⟨[.int .i64 0, .bool false]⟩) h')
    (hF : ∀ h' n, (dfalls S cost).1 = some n → 0 ≤ n → n < cost ∨ n = 0 ∧ cost = 0 ∨ n + 1 ≤ cost → PD h' A (dfalls S cost).2 → Tr2 A.own A.own h h' → Q (.tuple ⟨[.int .i64 n, .bool true]⟩) h') : F52.T (some ⟨A.db, 0, none⟩) cost h Q := by
  obtain ⟨u, w, f, p, hrig, hd⟩ := P.dsk
  obtain ⟨rfl, rfl, rfl, rfl⟩ := hrig hup
  have pos := D.pos
  have top := D.top
  refine ⟨A.db, 0, rfl, S.left, at_of hd 4, fun h0 => ?_, fun h0 => ⟨fun hlt => ?_, fun hge => ?_⟩⟩
  · have e : dfalls S cost = (none, S) := by unfold dfalls; rw [if_pos h0]
    rw [e] at hN
    exact hN h rfl P (Tr2.refl _ _)
  · have e : dfalls S cost = (none, { S with left := S.left - cost }) := by unfold dfalls; rw [if_neg h0, if_pos hlt]
    rw [e] at hN
    refine ⟨A.db, 0, rfl, S.left, at_of hd 4, A.db, 0, rfl, canW_new hd (by simp), ?_⟩
    rw [wrap_i64 (by omega) (by omega)]
    exact hN _ rfl (P.cells (Ck.wr hd) rfl rfl rfl rfl ⟨_, _, _, _, fun _ => ⟨rfl, rfl, rfl, rfl⟩, wr_cells hd⟩) (Tr2.one (one_wr hd) (.inl rfl) fun _ d => .inl d)
  · have e : dfalls S cost = (some (S.left - 1), { S with left := 0, well := 0, fails := 0, part := 0, down := true }) := by unfold dfalls; rw [if_neg h0, if_neg hge]
    rw [e] at hF
    have hd1 := wr_cells (o := 0 + 8) (vs := [.bool true]) hd
    refine ⟨A.db, 0, rfl, canW_new hd (by simp), A.db, 0, rfl, canW_new hd1 (by simp [setL]), ?_⟩
    rw [wrap_i64 (by omega) (by omega)]
    refine hF _ (S.left - 1) rfl (by omega) (.inr (.inr (by omega))) (P.cells ((Ck.wr hd).trans (Ck.wr hd1)) rfl rfl rfl rfl ⟨0, 0, 0, 0, fun h => (by cases h), wr_cells hd1⟩) (Tr2.one ((one_wr hd).trans (one_wr hd1)) (.inl rfl) fun _ d => .inl d)
theorem down_p (P : PD h A S) (hQ : Q (.bool S.down) h) : F18.T (some ⟨A.db, 0, none⟩) h Q := by
  obtain ⟨u, w, f, p, hrig, hd⟩ := P.dsk
  refine ⟨A.db, 0, rfl, S.down, at_of hd 8, fun e => ?_, fun e => ?_⟩
  · rw [e] at hQ; exact hQ
  · rw [e] at hQ; exact hQ
theorem fail_p {a b c : Int} (P : PD h A S) (hQ : ∀ h', PD h' A (kFail S a b c) → Tr2 A.own A.own h h' → Q (.tuple ⟨[]⟩) h') : F39.T (some ⟨A.db, 0, none⟩) a b c h Q := by
  obtain ⟨u, w, f, p, hrig, hd⟩ := P.dsk
  have hd1 := wr_cells (o := (0 + 4) + 1) (vs := [.int .i64 (iMax a 0)]) hd
  have hd2 := wr_cells (o := (0 + 4) + 2) (vs := [.int .i64 (iMax b 0)]) hd1
  have hd3 := wr_cells (o := (0 + 4) + 3) (vs := [.int .i64 (iMax c 0)]) hd2
  refine ⟨A.db, 0, rfl, canW_new hd (by simp), A.db, 0, rfl, canW_new hd1 (by simp [setL]), A.db, 0, rfl, canW_new hd2 (by simp [setL]), hQ _ ?_ (Tr2.one (((one_wr hd).trans (one_wr hd1)).trans (one_wr hd2)) (.inl rfl) fun _ d => .inl d)⟩
  have C : Ck [82] h _ := ((Ck.wr (o := (0 + 4) + 1) (vs := [.int .i64 (iMax a 0)]) hd).trans (Ck.wr (o := (0 + 4) + 2) (vs := [.int .i64 (iMax b 0)]) hd1)).trans (Ck.wr (o := (0 + 4) + 3) (vs := [.int .i64 (iMax c 0)]) hd2)
  unfold kFail
  by_cases hdn : S.down = true
  · rw [if_pos hdn]
    exact P.cells C rfl rfl rfl rfl ⟨_, _, _, _, fun h => (by rw [hdn] at h; cases h), hd3⟩
  · rw [if_neg hdn]
    have := hrig (by simpa using hdn)
    exact P.cells C rfl rfl rfl rfl ⟨_, _, _, _, fun h => ⟨this.1, rfl, rfl, rfl⟩, hd3⟩
end
end Go.Eng.Ytekflkpnpibneaa
end
section

/-
  SPECS OF THE DISK, 3: what the program's calls do to its disk: directories.
-/
set_option linter.unusedSimpArgs false
set_option linter.unusedVariables false
set_option maxRecDepth 100000
namespace Go.Eng.Ytekflkpnpibneaa
theorem pid_app (bk : List Nat) (b : Nat) {i : Nat} (hi : i < bk.length) : pid (bk ++ [b]) i = pid bk i := by unfold pid; rw [List.getElem?_append_left hi]
theorem pid_last (bk : List Nat) (b : Nat) : pid (bk ++ [b]) bk.length = .pointer (some ⟨b, 0, none⟩) := by unfold pid; simp
theorem pid_get {A : PA} {i : Nat} {x : FX} (hx : A.X[i]? = some x) : pid A.bk i = .pointer (some ⟨x.b, 0, none⟩) := by unfold pid PA.bk; rw [List.getElem?_map, hx]; rfl
theorem dlay_ren {d : Dir} (D : DSrt d) {s t : ByteArray} (i : Nat) (hne : s ≠ t) : ddel (dins d t i) s = dins (ddel d s) t i :=
  dir_ext (ddel_srt (dins_srt D _ _) _) (dins_srt (ddel_srt D _) _ _) fun u => by
    rw [dget_del (dins_srt D _ _), dget_ins, dget_ins, dget_del D]
    by_cases h1 : u = s
    · rw [if_pos h1, if_neg (by rw [h1]; exact hne), if_pos h1]
    · rw [if_neg h1, if_neg h1]
section
variable {h h' : Hp} {A : PA} {S S' : Dk} {Q : Value → Hp → Prop}
theorem lay_p {bk : List Nat} {mb c0 : Nat} {es : Array MapEntry} {d : Dir} {c : Cg} {p : Option Addr} (hm : h mb = some (.map es c0)) (M : SM es c0 d (pid bk)) (D : DSrt d) (hc : CgOk d c) (hp : c.kind = 0 → pid bk c.id = .pointer p)
    (hQ : ∀ es' c', SM es' c' (dlay d c) (pid bk) → Q (.tuple ⟨[]⟩) (h.new mb (.map es' c'))) : F45.T c.kind c.nm c.to p (some mb) h Q := by
  refine ⟨fun k0 => ?_, fun k0 => ⟨fun k1 => ?_, fun k1 => ⟨fun k2 => ?_, fun k2 => ?_⟩⟩⟩
  · obtain ⟨es', c', e1, e2⟩ := M.put c.nm c.id
    refine ⟨mb, es, c0, rfl, hm, M.fit _, ?_⟩
    rw [← hp k0, e1]
    have e : dlay d c = dins d c.nm c.id := by unfold dlay; rw [if_pos k0]
    exact hQ es' c' (by rw [e]; exact e2)
  · have hs : (dget d c.nm).isSome = true ∧ c.nm ≠ c.to := by
      rcases hc with e | e | e
      · exact absurd e k0
      · exact e.2
      · omega
    obtain ⟨i, hi⟩ := Option.isSome_iff_exists.1 hs.1
    have hv : mget es (.string c.nm) (.pointer none) = pid bk i := by rw [M.get, hi]
    obtain ⟨es', c', e1, e2⟩ := M.put c.to i
    refine ⟨es, c0, hm, M.fit _, (bk[i]?).map fun b => ⟨b, 0, none⟩, hv, mb, es, c0, rfl, hm, M.fit _, ?_⟩
    have e1' : mPut es c0 (.string c.to) (.pointer ((bk[i]?).map fun b => ⟨b, 0, none⟩)) = .map es' c' := e1
    rw [e1']
    refine ⟨es', c', new_at _ _ _, e2.fit _, ?_⟩
    show Q _ ((h.new mb _).new mb _)
    rw [new_new]
    have e : dlay d c = ddel (dins d c.to i) c.nm := by unfold dlay; rw [if_neg k0, if_pos k1, hi, dlay_ren D i hs.2]
    exact hQ _ c' (by rw [e]; exact e2.del (dins_srt D _ _) _)
  · have e : dlay d c = ddel d c.nm := by unfold dlay; rw [if_neg k0, if_neg k1]
    exact ⟨es, c0, hm, M.fit _, hQ _ c0 (by rw [e]; exact M.del D _)⟩
  · rcases hc with e | e | e
    · exact absurd e k0
    · exact absurd e.1 k1
    · exact absurd e k2
def chgT (p : Option Addr) (n : Int) (s s1 : ByteArray) (p1 : Option Addr) (h1 : Hp) (Q : Value → Hp → Prop) : Prop :=
  ∃ b1 o, (p : Option Addr) = some ⟨b1, o, none⟩ ∧ ∃ m : Option Nat, h1.at b1 (o + 1) = some (.map m) ∧ F45.T n s s1 p1 m h1 fun r1 h2 => ∃ b2 o1, (p : Option Addr) = some ⟨b2, o1, none⟩ ∧ ∃ l : Sl, h2.at b2 (o1 + 3) = some (.slice l.a l.n l.c) ∧ h2.at b2 (o1 + 3) = some (.slice l.a l.n l.c) ∧ appendD l 94 4 48 [.int .i64 0, .string (ByteArray.mk #[]), .string (ByteArray.mk #[]), .pointer none] 1 [.int .i64 n, .string s, .string s1, .pointer p1] h2 fun l1 h3 => ∃ b3 o2, (p : Option Addr) = some ⟨b3, o2, none⟩ ∧ h3.canW b3 (o2 + 3) 1 ∧ Q (.int .i64 0) (h3.wr b3 (o2 + 3) [.slice l1.a l1.n l1.c])
theorem chg_p {c : Cg} {p1 : Option Addr} (P : PD h A S) (D : DOk S) (hc : CgOk S.now c) (hp : (if c.kind = 0 then pid A.bk c.id else .pointer none) = .pointer p1) (hl : S.chg.length ≤ 1000000000)
    (hQ : ∀ h' A', A'.db = A.db → PD h' A' (kDo S c) → Tr2 A.own A'.own h h' → Q (.int .i64 0) h') : chgT (some ⟨A.db, 0, none⟩) c.kind c.nm c.to p1 h Q := by
  obtain ⟨u, w, f, p, hrig, hd⟩ := P.dsk
  obtain ⟨es, c0, hm, M⟩ := P.now
  obtain ⟨es2, c2, hm2, M2⟩ := P.sure
  refine ⟨A.db, 0, rfl, some A.nb, at_of hd 1, lay_p hm M D.now.s hc (fun k0 => by rw [if_pos k0] at hp; exact hp) fun es' c' M' => ?_⟩
  have C1 : Ck [0] h (h.new A.nb (.map es' c')) := Ck.put hm
  have O1 : One A.nb h (h.new A.nb (.map es' c')) := One.new _ (by rw [hm]; simp)
  have hn1 := new_at h A.nb (.map es' c')
  generalize h.new A.nb (.map es' c') = h2 at C1 O1 hn1 ⊢
  have hd2 := C1.keep _ _ hd (by simp [kd])
  have B2 := C1.buf (by decide) P.ch
  have hln : A.ch.n = S.chg.length := by have := P.ch.len; rw [chV_len] at this; omega
  refine ⟨A.db, 0, rfl, A.ch, at_of hd2 3, at_of hd2 3, append_buf B2 rfl rfl (by omega) fun s' h3 B3 hs' U3 => ?_⟩
  have C3 : Ck [96] h2 h3 := Ck.of_upd B2 U3
  have hd3 := C3.keep _ _ hd2 (by simp [kd])
  have hcell : [Value.int .i64 c.kind, .string c.nm, .string c.to, .pointer p1] = Cg.cells A.bk c := by unfold Cg.cells; rw [hp]
  have hV : chV A.bk S.chg ++ [Value.int .i64 c.kind, .string c.nm, .string c.to, .pointer p1] = chV A.bk (S.chg ++ [c]) := by rw [hcell]; unfold chV; simp
  rw [hV] at B3
  have C4 : Ck [82] h3 (h3.wr A.db (0 + 3) [.slice s'.a s'.n s'.c]) := Ck.wr hd3
  have C24 : Ck [96, 82] h2 (h3.wr A.db (0 + 3) [.slice s'.a s'.n s'.c]) := (C3.mono (by decide)).trans (C4.mono (by decide))
  refine ⟨A.db, 0, rfl, canW_new hd3 (by simp), hQ _ { A with ch := s' } rfl ⟨⟨u, w, f, p, hrig, wr_cells hd3⟩, ⟨es', c', C24.keep _ _ hn1 (by simp [kd]), M'⟩, ⟨es2, c2, C24.keep _ _ (O1.keep _ _ (fun e => P.ne e.symm) hm2) (by simp [kd]), M2⟩, P.ne, C4.buf (by decide) B3, P.fl, P.fx.mono fun k y hk e => ?_⟩ ?_⟩
  · obtain ⟨c, t, e', ht⟩ := P.fx.alive hk
    rw [e] at e'; cases e'
    exact C24.keep _ _ (C1.keep _ _ e (by simp [kd])) (by rcases ht with ht | ht <;> simp [kd, ht])
  · refine (Tr2.one (D' := A.own) O1 (.inr (.inl rfl)) fun k d => .inl d).trans ((Tr2.upd (D := A.own) (D' := PA.own { A with ch := s' }) U3 (fun k o e => .inr (.inr (.inr (.inl ⟨o, e⟩)))) fun k d => ?_).trans (Tr2.one (one_wr hd3) (.inl rfl) fun k d => .inl d))
    rcases d with d | d | d | d | d
    · exact .inl (.inl d)
    · exact .inl (.inr (.inl d))
    · exact .inl (.inr (.inr (.inl d)))
    · rcases upd_in U3 d with d | d
      · exact .inl (.inr (.inr (.inr (.inl d))))
      · exact .inr d
    · exact .inl (.inr (.inr (.inr (.inr d))))
/-- A change is done, if the machine does not fall. -/
theorem do_p {n : Int} {s s1 : ByteArray} {p1 : Option Addr} (P : PD h A S) (D : DOk S) (hup : S.down = false)
    (hF : ∀ h' m, (dfalls S 1).1 = some m → PD h' A (dfalls S 1).2 → Tr2 A.own A.own h h' → Q (.int .i64 30) h')
    (hN : ∀ h', (dfalls S 1).1 = none → PD h' A (dfalls S 1).2 → Tr2 A.own A.own h h' → (n = 1 ∧ s = s1 ∧ Q (.int .i64 0) h') ∨ (¬ (n = 1 ∧ s = s1) ∧ chgT (some ⟨A.db, 0, none⟩) n s s1 p1 h' Q)) : F50.T (some ⟨A.db, 0, none⟩) n s s1 p1 h Q := by
  unfold F50.T F50.G
  refine falls_p P D hup (by decide) (fun h1 e P1 T1 => ⟨0, false, ⟨fun h => (by cases h), fun _ => ⟨rfl, ?_⟩⟩⟩) (fun h1 m e _ _ P1 T1 => ⟨m, true, ⟨fun _ => ⟨rfl, hF h1 m e P1 T1⟩, fun h => (by cases h)⟩⟩)
  have hh := hN h1 e P1 T1
  refine ⟨fun n1 => ⟨fun es => ?_, fun es => ?_⟩, fun n1 => ?_⟩
  · rcases hh with hh | hh
    · exact hh.2.2
    · exact absurd ⟨n1, es⟩ hh.1
  · rcases hh with hh | hh
    · exact absurd hh.2.1 es
    · exact hh.2
  · rcases hh with hh | hh
    · exact absurd hh.1 n1
    · exact hh.2
theorem begin1 {s : ByteArray} {K : Value → Hp → Prop} (P : PD h A S) (D : DOk S) (hs : s.size ≤ 9223372036854775807) (hK : ∀ h', PD h' A (dbegin S (nameOk s)).2 → Tr2 A.own A.own h h' → K (.int .i64 (dbegin S (nameOk s)).1) h') :
    ∀ b, h b = none → F49.T (some ⟨A.db, 0, none⟩) ⟨(some ⟨b, 0, none⟩), 1, 1⟩ (h.new b (.cells ⟨[.string s]⟩ 9 (0, 0))) K := by
  intro b hb
  have K0 := Keep.new hb (.cells ⟨[.string s]⟩ 9 (0, 0))
  have hx := new_at h b (.cells ⟨[.string s]⟩ 9 (0, 0))
  have e : [s].all nameOk = nameOk s := by simp
  refine begin_p (ns := [s]) (P.keep K0) D ⟨rfl, .inr ⟨b, 0, rfl, fun j hj => ?_⟩⟩ (by simp) (fun t ht => by rw [List.mem_singleton.1 ht]; exact hs) fun h1 P1 T1 => ?_
  · have : j = 0 := by (try dsimp only at hj); omega
    subst this
    exact at_of hx 0
  · rw [e] at P1 ⊢
    exact hK h1 P1 (Tr2.keepTr K0 T1)
theorem look_p {s : ByteArray} {K : Option Addr → Prop} (P : PD h A S) (D : DOk S) (h0 : dget S.now s = none → K none) (h1 : ∀ i x, dget S.now s = some i → A.X[i]? = some x → K (some ⟨x.b, 0, none⟩)) :
    ∃ b o, (some ⟨A.db, 0, none⟩ : Option Addr) = some ⟨b, o, none⟩ ∧ ∃ m : Option Nat, h.at b (o + 1) = some (.map m) ∧ ∃ es c, h.mp m es c ∧ keysFit (.string s) es ∧ ∃ p1 : Option Addr, (mget es (.string s) (.pointer none)) = .pointer p1 ∧ K p1 := by
  obtain ⟨u, w, f, p, hrig, hd⟩ := P.dsk
  obtain ⟨es, c0, hm, M⟩ := P.now
  refine ⟨A.db, 0, rfl, some A.nb, at_of hd 1, es, c0, hm, M.fit _, ?_⟩
  rw [M.get]
  cases hg : dget S.now s with
  | none => exact ⟨none, rfl, h0 hg⟩
  | some i =>
    have hi : i < A.X.length := by
      have := D.now.i _ (dget_mem hg)
      rw [← P.fl, List.length_map] at this
      exact this
    have hx : A.X[i]? = some A.X[i] := List.getElem?_eq_getElem hi
    exact ⟨_, pid_get hx, h1 i _ hg hx⟩
theorem okPtr_none (h : Hp) (p : Option Addr) : okPtr h p none := fun a b _ e => by cases e
/-- One file more, that no name has. -/
theorem PD.newFile {x : FX} (P : PD h A S) (D : DOk S) (hb : h x.b = some (.cells ⟨[.slice x.d.a x.d.n x.d.c, .int .i64 (x.f.sure : Int)]⟩ 100 (0, 0))) (B : Buf h x.d 1 5 (bl x.f.data)) (n1 : ¬ A.own x.b) (n2 : ∀ k, inS x.d k → ¬ A.own k) : PD h { A with X := A.X ++ [x] } { S with fl := S.fl ++ [x.f] } := by
  have hlen : A.bk.length = S.fl.length := by unfold PA.bk; rw [List.length_map, ← P.fl, List.length_map]
  have hbk : PA.bk { A with X := A.X ++ [x] } = A.bk ++ [x.b] := by unfold PA.bk; simp
  obtain ⟨es, c0, hm, M⟩ := P.now
  obtain ⟨es2, c2, hm2, M2⟩ := P.sure
  refine ⟨P.dsk, ⟨es, c0, hm, ?_⟩, ⟨es2, c2, hm2, ?_⟩, P.ne, ?_, by simp [P.fl], P.fx.snoc hb B (fun e => n1 (.inr (.inr (.inr (.inr e))))) fun k hk e => n2 k hk (.inr (.inr (.inr (.inr e))))⟩
  · rw [hbk]; exact M.congr fun s i hi => (pid_app _ _ (by rw [hlen]; exact D.now.i _ (dget_mem hi))).symm
  · rw [hbk]; exact M2.congr fun s i hi => (pid_app _ _ (by rw [hlen]; exact D.sure.i _ (dget_mem hi))).symm
  · rw [hbk]
    have : chV (A.bk ++ [x.b]) S.chg = chV A.bk S.chg := by
      unfold chV
      rw [List.flatMap_def, List.flatMap_def]
      congr 1
      refine List.map_congr_left fun c hc => ?_
      unfold Cg.cells
      by_cases h0 : c.kind = 0
      · rw [if_pos h0, if_pos h0, pid_app _ _ (by rw [hlen]; exact (D.chg c hc).2.2 h0)]
      · rw [if_neg h0, if_neg h0]
    rw [this]; exact P.ch
theorem create_p {s : ByteArray} (P : PD h A S) (D : DOk S) (hs : s.size ≤ 9223372036854775807) (hl : S.chg.length ≤ 1000000000) (hQ : ∀ h' A', A'.db = A.db → PD h' A' (kCreate S s).2 → Tr2 A.own A'.own h h' → Q (.int .i64 (kCreate S s).1) h') : F20.T (some ⟨A.db, 0, none⟩) s h Q := by
  refine begin1 P D hs fun h1 P1 T1 => ⟨_, rfl, fun e0 => ?_, fun e0 => ?_⟩
  · have hk : kCreate S s = kCreate2 s (dbegin S (nameOk s)).2 := kThen_0 e0
    have D1 := D.begin (nameOk s)
    have hup := (begin_up e0).2.2
    have hl1 : (dbegin S (nameOk s)).2.chg.length ≤ 1000000000 := by rw [(begin_same S _).2.2.2.1]; exact hl
    rw [hk] at hQ
    generalize (dbegin S (nameOk s)).2 = S1 at P1 D1 hup hl1 hQ
    refine look_p P1 D1 (fun hg => ⟨okPtr_none _ _, ⟨fun _ => ?_, fun h => absurd rfl h⟩⟩) (fun i x hg hx => ⟨okPtr_none _ _, ⟨fun h => (by cases h), fun _ => ?_⟩⟩)
    · obtain ⟨u, w, f, p, hrig, hd⟩ := P1.dsk
      obtain ⟨es, c0, hm, M⟩ := P1.now
      refine ⟨A.db, 0, rfl, some A.nb, at_of hd 1, es, c0, hm, ?_⟩
      rw [M.len D1.now.s]
      refine ⟨fun hge => ?_, fun hlt b hb => ?_⟩
      · have e : kCreate2 s S1 = (32, S1) := by unfold kCreate2; rw [hg, if_neg (by simp), if_pos hge]
        rw [e] at hQ
        exact hQ h1 A rfl P1 T1
      · have e : kCreate2 s S1 = kFalls S1 1 fun S2 => (0, kDo (kNew S2) ⟨0, s, ⟨#[]⟩, S2.fl.length⟩) := by unfold kCreate2; rw [hg, if_neg (by simp), if_neg hlt]
        rw [e] at hQ
        have K0 := Keep.new hb (.cells ⟨[.slice none 0 0, .int .i64 0]⟩ 100 (0, 0))
        have hx := new_at h1 b (.cells ⟨[.slice none 0 0, .int .i64 0]⟩ 100 (0, 0))
        have hno : ¬ A.own b := fun d => by obtain ⟨o, ho⟩ := P1.alive d; rw [hb] at ho; cases ho
        refine do_p (P1.keep K0) D1 hup (fun h2 m e P2 T2 => ⟨_, rfl, ?_⟩) (fun h2 e P2 T2 => .inr ⟨fun h => by simp at h, ?_⟩)
        · rw [kFalls_s e] at hQ
          exact hQ h2 A rfl P2 (T1.trans (Tr2.keepTr K0 T2))
        · rw [kFalls_n e] at hQ
          have D2 := D1.falls (cost := 1) (by decide)
          have P3 := P2.newFile (x := ⟨b, ⟨none, 0, 0⟩, ⟨[], 0⟩⟩) D2 (T2.keep _ _ hno hx) (Buf.nil _ _ _) hno fun k hk => (inS_nil k hk).elim
          have T3 : Tr2 A.own (PA.own { A with X := A.X ++ [⟨b, ⟨none, 0, 0⟩, ⟨[], 0⟩⟩] }) h1 h2 := ⟨fun k x n e => T2.keep k x n (K0 k x e), fun k e => K0.dom k (T2.dom k e), fun k d => by
            rcases d with d | d | d | d | d
            · exact .inl (.inl d)
            · exact .inl (.inr (.inl d))
            · exact .inl (.inr (.inr (.inl d)))
            · exact .inl (.inr (.inr (.inr (.inl d))))
            · rcases ownX_snoc d with d | rfl | d
              · exact .inl (.inr (.inr (.inr (.inr d))))
              · exact .inr hb
              · exact (inS_nil k d).elim⟩
          have hlen : A.bk.length = (dfalls S1 1).2.fl.length := by unfold PA.bk; rw [List.length_map, ← P2.fl, List.length_map]
          refine chg_p (A := { A with X := A.X ++ [⟨b, ⟨none, 0, 0⟩, ⟨[], 0⟩⟩] }) (S := kNew (dfalls S1 1).2) (c := ⟨0, s, ⟨#[]⟩, (dfalls S1 1).2.fl.length⟩) P3 D2.new (.inl rfl) ?_ (by show (dfalls S1 1).2.chg.length ≤ _; rw [(falls_same S1 1).2.2.2.1]; exact hl1) fun h3 A3 eA P4 T4 => ⟨_, rfl, hQ h3 A3 eA P4 (T1.trans (T3.trans T4))⟩
          rw [if_pos rfl]
          have hbk : PA.bk { A with X := A.X ++ [⟨b, ⟨none, 0, 0⟩, ⟨[], 0⟩⟩] } = A.bk ++ [b] := by unfold PA.bk; simp
          rw [hbk, ← hlen, pid_last]
    · have e : kCreate2 s S1 = (35, S1) := by unfold kCreate2; rw [hg]; rfl
      rw [e] at hQ
      exact hQ h1 A rfl P1 T1
  · have hk : kCreate S s = dbegin S (nameOk s) := kThen_1 e0
    rw [hk] at hQ
    exact hQ h1 A rfl P1 T1
theorem delete_p {s : ByteArray} (P : PD h A S) (D : DOk S) (hs : s.size ≤ 9223372036854775807) (hl : S.chg.length ≤ 1000000000) (hQ : ∀ h' A', A'.db = A.db → PD h' A' (kDelete S s).2 → Tr2 A.own A'.own h h' → Q (.int .i64 (kDelete S s).1) h') : F26.T (some ⟨A.db, 0, none⟩) s h Q := by
  refine begin1 P D hs fun h1 P1 T1 => ⟨_, rfl, fun e0 => ?_, fun e0 => ?_⟩
  · have hk : kDelete S s = kDelete2 s (dbegin S (nameOk s)).2 := kThen_0 e0
    have D1 := D.begin (nameOk s)
    have hup := (begin_up e0).2.2
    have hl1 : (dbegin S (nameOk s)).2.chg.length ≤ 1000000000 := by rw [(begin_same S _).2.2.2.1]; exact hl
    rw [hk] at hQ
    generalize (dbegin S (nameOk s)).2 = S1 at P1 D1 hup hl1 hQ
    refine look_p P1 D1 (fun hg => ⟨okPtr_none _ _, ⟨fun _ => ?_, fun h => absurd rfl h⟩⟩) (fun i x hg hx => ⟨okPtr_none _ _, ⟨fun h => (by cases h), fun _ => ?_⟩⟩)
    · have e : kDelete2 s S1 = (34, S1) := by unfold kDelete2; rw [hg]
      rw [e] at hQ
      exact hQ h1 A rfl P1 T1
    · have e : kDelete2 s S1 = kFalls S1 1 fun S2 => (0, kDo S2 ⟨2, s, ⟨#[]⟩, 0⟩) := by unfold kDelete2; rw [hg]
      rw [e] at hQ
      refine do_p P1 D1 hup (fun h2 m e P2 T2 => ⟨_, rfl, ?_⟩) (fun h2 e P2 T2 => .inr ⟨fun h => by simp at h, ?_⟩)
      · rw [kFalls_s e] at hQ
        exact hQ h2 A rfl P2 (T1.trans T2)
      · rw [kFalls_n e] at hQ
        refine chg_p (c := ⟨2, s, ⟨#[]⟩, 0⟩) P2 (D1.falls (by decide)) (.inr (.inr rfl)) rfl (by rw [(falls_same S1 1).2.2.2.1]; exact hl1) fun h3 A3 eA P3 T3 => ⟨_, rfl, hQ h3 A3 eA P3 (T1.trans (T2.trans T3))⟩
  · have hk : kDelete S s = dbegin S (nameOk s) := kThen_1 e0
    rw [hk] at hQ
    exact hQ h1 A rfl P1 T1
end
end Go.Eng.Ytekflkpnpibneaa
end
section

/-
  SPECS OF THE DISK, 4: what the program's calls do to its disk: bytes.
-/
set_option linter.unusedSimpArgs false
set_option linter.unusedVariables false
set_option maxRecDepth 100000
namespace Go.Eng.Ytekflkpnpibneaa
section
variable {h h' : Hp} {A : PA} {S S' : Dk} {Q : Value → Hp → Prop}
theorem PD.file (P : PD h A S) {i : Nat} {x : FX} (hx : A.X[i]? = some x) : S.fl[i]? = some x.f := by rw [← P.fl, List.getElem?_map, hx]; rfl
/-- One file has changed. -/
theorem PD.set (P : PD h A S) {i : Nat} {x : FX} (hx : A.X[i]? = some x) {d' : Sl} {f' : Fil} {h1 h2 : Hp} (U : Upd h h1 x.d d') (B : Buf h1 d' 1 5 (bl f'.data)) (O : One x.b h1 h2)
    (hb : h2 x.b = some (.cells ⟨[.slice d'.a d'.n d'.c, .int .i64 (f'.sure : Int)]⟩ 100 (0, 0))) : PD h2 { A with X := A.X.set i ⟨x.b, d', f'⟩ } { S with fl := S.fl.set i f' } ∧ Tr2 A.own (PA.own { A with X := A.X.set i ⟨x.b, d', f'⟩ }) h h2 := by
  obtain ⟨F, C, T⟩ := P.fx.set (by decide) hx U B O hb
  have hbk : PA.bk { A with X := A.X.set i ⟨x.b, d', f'⟩ } = A.bk := by
    unfold PA.bk
    show (A.X.set i _).map _ = _
    rw [List.map_set]
    apply List.ext_getElem?
    intro n
    rw [List.getElem?_set]
    split
    · next hn =>
      subst hn
      split
      · rw [List.getElem?_map, hx]; rfl
      · next hl => rw [List.getElem?_eq_none (by omega)]
    · rfl
  obtain ⟨u, w, f, p, hrig, hd⟩ := P.dsk
  obtain ⟨es, c0, hm, M⟩ := P.now
  obtain ⟨es2, c2, hm2, M2⟩ := P.sure
  refine ⟨⟨⟨u, w, f, p, hrig, C.keep _ _ hd (by simp [kd])⟩, ⟨es, c0, C.keep _ _ hm (by simp [kd]), by rw [hbk]; exact M⟩, ⟨es2, c2, C.keep _ _ hm2 (by simp [kd]), by rw [hbk]; exact M2⟩, P.ne, by rw [hbk]; exact C.buf (by decide) P.ch, by show (A.X.set i _).map _ = S.fl.set i _; rw [List.map_set, P.fl], F⟩, ⟨fun k y hk e => ?_, T.dom, fun k d => ?_⟩⟩
  · by_cases hX : ownX A.X k
    · exact absurd (.inr (.inr (.inr (.inr hX)))) hk
    · exact T.keep k y hX e
  · rcases d with d | d | d | d | d
    · exact .inl (.inl d)
    · exact .inl (.inr (.inl d))
    · exact .inl (.inr (.inr (.inl d)))
    · exact .inl (.inr (.inr (.inr (.inl d))))
    · rcases T.grow k d with d | d
      · exact .inl (.inr (.inr (.inr (.inr d))))
      · exact .inr d
theorem addTo_of {i : Nat} {f : Fil} {b : List UInt8} (hf : S.fl[i]? = some f) : addTo S i b = { S with fl := S.fl.set i ⟨f.data ++ b, f.sure⟩ } := by unfold addTo; rw [hf]
theorem sureAll_of {i : Nat} {f : Fil} (hf : S.fl[i]? = some f) : sureAll S i = { S with fl := S.fl.set i ⟨f.data, f.data.length⟩ } := by unfold sureAll; rw [hf]
theorem dlen_of {i : Nat} {f : Fil} (hf : S.fl[i]? = some f) : dlen S i = f.data.length := by unfold dlen; rw [hf]
/-- Bytes laid at a file's end. -/
theorem lay_bytes {i m : Nat} {x : FX} {v : List UInt8} (P : PD h A S) (hx : A.X[i]? = some x) (hm : v.length = m) (hs : x.f.data.length + m ≤ 4294967296)
    {e : Int} (hQ : ∀ h' A', A'.db = A.db → PD h' A' (addTo S i v) → Tr2 A.own A'.own h h' → Q (.int .i64 e) h') :
    ∃ l1 : Sl, h.at x.b 0 = some (.slice l1.a l1.n l1.c) ∧ appendD l1 5 1 1 [.int .u8 0] m (bl v) h fun l2 h3 => ∃ b5 o3, (some ⟨x.b, 0, none⟩ : Option Addr) = some ⟨b5, o3, none⟩ ∧ h3.canW b5 o3 1 ∧ Q (.int .i64 e) (h3.wr b5 o3 [.slice l2.a l2.n l2.c]) := by
  have hb := P.fx.fb x (List.mem_of_getElem? hx)
  have B := P.fx.fd x (List.mem_of_getElem? hx)
  have hn : x.d.n = x.f.data.length := by have := B.len; rw [bl_len] at this; omega
  refine ⟨x.d, at_of hb 0, append_buf B rfl (by rw [bl_len]; omega) (by omega) fun d' h3 B3 hn' U => ?_⟩
  have hb3 := (Ck.of_upd B U).keep _ _ hb (by simp [kd])
  rw [← bl_app] at B3
  obtain ⟨P', T'⟩ := P.set hx (f' := ⟨x.f.data ++ v, x.f.sure⟩) U B3 (one_wr hb3 (o := 0) (vs := [.slice d'.a d'.n d'.c])) (wr_cells hb3)
  rw [← addTo_of (P.file hx)] at P'
  exact ⟨x.b, 0, rfl, canW_new hb3 (by simp), hQ _ { A with X := A.X.set i ⟨x.b, d', ⟨x.f.data ++ v, x.f.sure⟩⟩ } rfl P' T'⟩
theorem sync_p {s : ByteArray} (P : PD h A S) (D : DOk S) (hs : s.size ≤ 9223372036854775807) (hQ : ∀ h' A', A'.db = A.db → PD h' A' (kSync S s).2 → Tr2 A.own A'.own h h' → Q (.int .i64 (kSync S s).1) h') : F23.T (some ⟨A.db, 0, none⟩) s h Q := by
  refine begin1 P D hs fun h1 P1 T1 => ⟨_, rfl, fun e0 => ?_, fun e0 => ?_⟩
  · have hk : kSync S s = kSync2 s (dbegin S (nameOk s)).2 := kThen_0 e0
    have D1 := D.begin (nameOk s)
    have hup := (begin_up e0).2.2
    rw [hk] at hQ
    generalize (dbegin S (nameOk s)).2 = S1 at P1 D1 hup hQ
    refine look_p P1 D1 (fun hg => ⟨okPtr_none _ _, ⟨fun _ => ?_, fun h => absurd rfl h⟩⟩) (fun i x hg hx => ⟨okPtr_none _ _, ⟨fun h => (by cases h), fun _ => ?_⟩⟩)
    · have e : kSync2 s S1 = (34, S1) := by unfold kSync2; rw [hg]
      rw [e] at hQ
      exact hQ h1 A rfl P1 T1
    · have e : kSync2 s S1 = kFalls S1 1 fun S2 => (0, sureAll S2 i) := by unfold kSync2; rw [hg]
      rw [e] at hQ
      refine falls_p P1 D1 hup (by decide) (fun h2 e P2 T2 => ⟨0, false, ⟨fun h => (by cases h), fun _ => ⟨rfl, ?_⟩⟩⟩) (fun h2 m e _ _ P2 T2 => ⟨m, true, ⟨fun _ => ⟨rfl, ?_⟩, fun h => (by cases h)⟩⟩)
      · rw [kFalls_n e] at hQ
        have hb := P2.fx.fb x (List.mem_of_getElem? hx)
        have B := P2.fx.fd x (List.mem_of_getElem? hx)
        have hn : x.d.n = x.f.data.length := by have := B.len; rw [bl_len] at this; omega
        refine ⟨x.b, 0, rfl, x.d, at_of hb 0, x.b, 0, rfl, canW_new hb (by simp), ?_⟩
        obtain ⟨P', T'⟩ := P2.set hx (f' := ⟨x.f.data, x.f.data.length⟩) (Upd.refl _ _) B (one_wr hb (o := 0 + 1) (vs := [.int .i64 (x.d.n : Int)])) (by rw [wr_cells hb, hn]; rfl)
        rw [← sureAll_of (P2.file hx)] at P'
        exact hQ _ { A with X := A.X.set i ⟨x.b, x.d, ⟨x.f.data, x.f.data.length⟩⟩ } rfl P' (T1.trans (T2.trans T'))
      · rw [kFalls_s e] at hQ
        exact hQ h2 A rfl P2 (T1.trans T2)
  · have hk : kSync S s = dbegin S (nameOk s) := kThen_1 e0
    rw [hk] at hQ
    exact hQ h1 A rfl P1 T1
theorem read_p {s : ByteArray} (P : PD h A S) (D : DOk S) (hs : s.size ≤ 9223372036854775807) (hQ : ∀ h' r, Keep h h' → Buf h' r 1 5 (bl (kRead S s).2) → NewN h r → Q (.tuple ⟨[.slice r.a r.n r.c, .int .i64 (kRead S s).1]⟩) h') : F24.T (some ⟨A.db, 0, none⟩) s h Q := by
  obtain ⟨u, w, f, p, hrig, hd⟩ := P.dsk
  refine ⟨A.db, 0, rfl, S.down, at_of hd 8, fun e0 => ?_, fun e0 => name_spec hs fun h1 K1 => ⟨nameOk s, rfl, fun e1 => ?_, fun e1 => ?_⟩⟩
  · have e : kRead S s = (30, []) := by unfold kRead; rw [if_pos e0]
    rw [e] at hQ
    exact hQ h ⟨none, 0, 0⟩ (Keep.refl h) (Buf.nil _ _ _) (NewN.nil _)
  · have P1 := P.keep K1
    refine look_p P1 D (fun hg => ⟨okPtr_none _ _, ⟨fun _ => ?_, fun h => absurd rfl h⟩⟩) (fun i x hg hx => ⟨okPtr_none _ _, ⟨fun h => (by cases h), fun _ => ?_⟩⟩)
    · have e : kRead S s = (34, []) := by unfold kRead; rw [if_neg (by rw [e0]; simp), if_neg (by rw [e1]; simp), hg]
      rw [e] at hQ
      exact hQ h1 ⟨none, 0, 0⟩ K1 (Buf.nil _ _ _) (NewN.nil _)
    · have e : kRead S s = (0, x.f.data) := by unfold kRead; rw [if_neg (by rw [e0]; simp), if_neg (by rw [e1]; simp), hg]; show (0, _) = _; rw [P1.file hx]
      rw [e] at hQ
      refine look_p P1 D (fun hg' => by rw [hg] at hg'; cases hg') (fun j y hg' hy => ?_)
      rw [hg] at hg'; cases hg'
      rw [hx] at hy; cases hy
      have hb := P1.fx.fb x (List.mem_of_getElem? hx)
      have B := P1.fx.fd x (List.mem_of_getElem? hx)
      have hl := (D.fl x.f (List.mem_of_getElem? (P1.file hx))).1
      refine ⟨x.b, 0, rfl, x.d, at_of hb 0, clone_bytes B.row B.cap (fun ha => ?_) (by omega) fun h2 r K2 B2 N2 => ⟨r, rfl, hQ h2 r (K1.trans K2) B2 (N2.mono K1.dom)⟩⟩
      rcases B.own with ⟨_, hc⟩ | ⟨b, c, f, ha', _⟩
      · have := B.cap; omega
      · rw [ha] at ha'; cases ha'
  · have e : kRead S s = (33, []) := by unfold kRead; rw [if_neg (by rw [e0]; simp), if_pos e1]
    rw [e] at hQ
    exact hQ h1 ⟨none, 0, 0⟩ K1 (Buf.nil _ _ _) (NewN.nil _)
/-! ### Is there room? -/
theorem sum_le {l : List Nat} {B : Nat} (h : ∀ x ∈ l, x ≤ B) : l.sum ≤ l.length * B := by
  induction l with
  | nil => simp
  | cons x l ih =>
    have h1 := h x List.mem_cons_self
    have h2 := ih fun y hy => h y (List.mem_cons_of_mem _ hy)
    rw [List.sum_cons, List.length_cons, Nat.succ_mul]; omega
theorem dlen_le (D : DOk S) (i : Nat) : dlen S i ≤ 2147483648 := by
  unfold dlen
  split
  · next f hf => exact (D.fl f (List.mem_of_getElem? hf)).1
  · omega
theorem dtot_le (D : DOk S) : dtot S ≤ 18014398509481984 := by
  have h1 := sum_le (l := S.now.map fun x => dlen S x.2) (B := 2147483648) fun n hn => by
    obtain ⟨x, _, rfl⟩ := List.mem_map.1 hn
    exact dlen_le D _
  rw [List.length_map] at h1
  have := D.len
  exact Nat.le_trans h1 (Nat.mul_le_mul_right 2147483648 this)
/-- How many bytes the file of a map's value has. -/
def vlen (h : Hp) (v : Value) : Nat := match v with
  | .pointer (some a) => match h.at a.block 0 with | some (.slice _ n _) => n | _ => 0
  | _ => 0
theorem vlen_pid (P : PD h A S) {i : Nat} (hi : i < A.X.length) : vlen h (pid A.bk i) = dlen S i := by
  have hx : A.X[i]? = some A.X[i] := List.getElem?_eq_getElem hi
  have hb := P.fx.fb _ (List.mem_of_getElem? hx)
  have B := P.fx.fd _ (List.mem_of_getElem? hx)
  have e : h.at A.X[i].b 0 = some (.slice A.X[i].d.a A.X[i].d.n A.X[i].d.c) := at_of hb 0
  rw [pid_get hx]
  unfold vlen
  simp only [e]
  have := B.len
  rw [bl_len] at this
  rw [dlen_of (P.file hx)]
  omega
theorem full_p {i : Nat} {x : FX} {n : Int} (P : PD h A S) (D : DOk S) (hx : A.X[i]? = some x) (h0 : 0 ≤ n) (h1 : n ≤ 4294967296) (hQ : ∀ h', Keep h h' → Q (.bool (dfull S i n)) h') : F51.T (some ⟨A.db, 0, none⟩) (some ⟨x.b, 0, none⟩) n h Q := by
  obtain ⟨u, w, f, p, hrig, hd⟩ := P.dsk
  obtain ⟨es, c0, hm, M⟩ := P.now
  have hb := P.fx.fb x (List.mem_of_getElem? hx)
  have B := P.fx.fd x (List.mem_of_getElem? hx)
  have hn : x.d.n = x.f.data.length := by have := B.len; rw [bl_len] at this; omega
  have hl := (D.fl x.f (List.mem_of_getElem? (P.file hx))).1
  have hdl := dlen_of (P.file hx)
  have ht := dtot_le D
  have hf : dfull S i n = (decide (2147483648 < (x.d.n : Int) + n) || (decide (S.room ≠ 0) && decide (S.room < n + (dtot S : Int)))) := by unfold dfull; rw [hdl, hn]
  refine ⟨x.b, 0, rfl, x.d, at_of hb 0, ?_⟩
  rw [wrap_i64 (by omega) (by omega)]
  refine ⟨fun hgt => ?_, fun hle => ⟨A.db, 0, rfl, S.room, at_of hd 0, fun hr => ?_, fun hr => ⟨A.db, 0, rfl, some A.nb, at_of hd 1, es, c0, hm, fun b3 hb3 => ?_⟩⟩⟩
  · have := hQ h (Keep.refl h)
    rw [hf, decide_eq_true hgt] at this
    exact this
  · have := hQ h (Keep.refl h)
    rw [hf, decide_eq_false hle, decide_eq_false (by omega : ¬ S.room ≠ 0)] at this
    exact this
  have hw : ∀ e ∈ es.toList, ∃ s j, e.key = .string s ∧ e.val = pid A.bk j ∧ j < A.X.length := fun e he => by
    obtain ⟨s, j, k1, k2, k3⟩ := M.mem e he
    refine ⟨s, j, k1, k3, ?_⟩
    have := D.now.i _ (dget_mem k2)
    rw [← P.fl, List.length_map] at this
    exact this
  have hsum : (es.toList.map fun e => vlen h e.val).sum = dtot S := by
    have hp := ((M.perm D.now.s).map fun kv => vlen h kv.2).sum_nat
    rw [List.map_map, List.map_map] at hp
    have e1 : ((fun kv : Value × Value => vlen h kv.2) ∘ fun e : MapEntry => (e.key, e.val)) = fun e => vlen h e.val := rfl
    rw [e1] at hp
    rw [hp]
    unfold dtot
    congr 1
    refine List.map_congr_left fun y hy => ?_
    have := D.now.i y hy
    rw [← P.fl, List.length_map] at this
    exact vlen_pid P this
  refine ⟨fun n2 h1 => ∃ X Y : List MapEntry, es.toList.Perm (X ++ Y) ∧ h1 = h.new b3 (.mapIter (some A.nb) c0 (X.map (·.born)).toArray c0) ∧ n2 = n + ((X.map fun e => vlen h e.val).sum : Int),
    fun _ h1 => match h1 b3 with | some (.mapIter _ _ sn _) => es.size - sn.size | _ => 0, ⟨[], es.toList, List.Perm.refl _, rfl, by simp⟩, ?_⟩
  rintro n2 h1 ⟨X, Y, hp, rfl, rfl⟩
  have hst := M.st
  have hborn : ∀ e ∈ es.toList, e.born < c0 := hst.1
  have hnd : ((X ++ Y).map (·.born)).Nodup := (hp.map _).nodup_iff.1 hst.2.1
  have hle : (X.map fun e => vlen h e.val).sum + (Y.map fun e => vlen h e.val).sum = dtot S := by
    rw [← hsum, (hp.map fun e => vlen h e.val).sum_nat, List.map_append, List.sum_append]
  have hnb : A.nb ≠ b3 := ne_of hm hb3
  have hlen := hp.length_eq
  rw [List.length_append, Array.length_toList] at hlen
  refine ⟨b3, some A.nb, c0, (X.map (·.born)).toArray, c0, es, c0, rfl, new_at _ _ _, ?_, ?_, ?_, ?_⟩
  · show (h.new b3 _) A.nb = _
    rw [new_ne _ _ hnb]; exact hm
  · unfold nextOk
    rw [Bool.not_eq_true', Bool.and_eq_false_iff, Bool.and_eq_false_iff]
    by_cases hz : es.size = 0
    · exact .inl (.inr (by rw [Array.eq_empty_of_size_eq_zero hz]; rfl))
    · refine .inr (Bool.eq_false_iff.2 fun hall => ?_)
      have hm0 : es[0] ∈ es.toList := by rw [Array.mem_toList_iff]; exact Array.getElem_mem _
      have h1 := Array.all_eq_true.1 hall 0 (by omega)
      have h2 := hborn _ hm0
      rw [decide_eq_true_eq] at h1
      omega
  · intro e he hns
    have hin : e ∈ X ++ Y := hp.subset he
    have hY : e ∈ Y := by
      rcases List.mem_append.1 hin with hX | hY
      · exfalso
        have : (X.map (·.born)).toArray.contains e.born = true := by simp only [List.contains_toArray, List.contains_iff_mem]; exact List.mem_map_of_mem hX
        rw [this] at hns; cases hns
      · exact hY
    obtain ⟨Y1, Y2, rfl⟩ := List.append_of_mem hY
    obtain ⟨s, j, k1, k2, k3⟩ := hw e he
    have hx2 : A.X[j]? = some A.X[j] := List.getElem?_eq_getElem k3
    have hb2 := P.fx.fb _ (List.mem_of_getElem? hx2)
    have hfind : es.find? (fun e' => e'.born == e.born) = some e := by
      have hin := hst.2.1
      cases hfe : es.find? (fun e' => e'.born == e.born) with
      | none =>
        have := Array.find?_eq_none.1 hfe e (Array.mem_toList_iff.1 he)
        simp at this
      | some e' =>
        have h1 := Array.find?_some hfe
        have h2 := Array.mem_of_find?_eq_some hfe
        rw [beq_iff_eq] at h1
        have h3 := List.pairwise_map.1 hin
        obtain ⟨i1, hi1⟩ := List.mem_iff_getElem?.1 he
        obtain ⟨i2, hi2⟩ := List.mem_iff_getElem?.1 (Array.mem_toList_iff.2 h2)
        have l1 := (List.getElem?_eq_some_iff.1 hi1)
        have l2 := (List.getElem?_eq_some_iff.1 hi2)
        obtain ⟨l1, l1'⟩ := l1
        obtain ⟨l2, l2'⟩ := l2
        rcases Nat.lt_trichotomy i1 i2 with hlt | heq | hgt
        · exact absurd (by rw [l1', l2', h1]) (List.pairwise_iff_getElem.1 h3 i1 i2 l1 l2 hlt)
        · subst heq; rw [hi1] at hi2; rw [Option.some.inj hi2]
        · exact absurd (by rw [l1', l2', h1]) (List.pairwise_iff_getElem.1 h3 i2 i1 l2 l1 hgt)
    have hpush : (X.map (·.born)).toArray.push e.born = ((X ++ [e]).map (·.born)).toArray := by simp
    have hnew : ∀ o o', (h.new b3 o).new b3 o' = h.new b3 o' := fun o o' => new_new h b3 o o'
    have hv : vlen h e.val = A.X[j].d.n := by
      rw [k2, pid_get hx2]
      have e1 : h.at A.X[j].b 0 = some (.slice A.X[j].d.a A.X[j].d.n A.X[j].d.c) := at_of hb2 0
      unfold vlen
      simp only [e1]
    have hbj : A.X[j].b ≠ b3 := ne_of hb2 hb3
    rw [hnew, hpush]
    rw [List.map_append, List.sum_append, List.map_cons, List.sum_cons] at hle
    refine ⟨b3, A.nb, c0, ((X ++ [e]).map (·.born)).toArray, es, c0, e.born, e, rfl, new_at _ _ _, by simp, by rw [new_ne _ _ hnb]; exact hm, hfind, s, some ⟨A.X[j].b, 0, none⟩, by rw [k1, k2, pid_get hx2], A.X[j].b, 0, rfl, A.X[j].d, by unfold Hp.at; rw [new_ne _ _ hbj]; exact at_of hb2 0, ?_⟩
    rw [wrap_i64 (by omega) (by omega)]
    refine ⟨⟨X ++ [e], Y1 ++ Y2, hp.trans ?_, rfl, by rw [List.map_append, List.sum_append]; simp [hv]; omega⟩, ?_⟩
    · rw [List.append_assoc]
      exact List.Perm.append_left X List.perm_middle
    · dsimp only
      rw [new_at, new_at]
      simp only [List.length_append, List.length_cons] at hlen
      simp only [List.size_toArray, List.length_map, List.length_append, List.length_singleton]
      omega
  · intro hall
    have hY : Y = [] := by
      rcases Y with _ | ⟨y, Y⟩
      · rfl
      · exfalso
        have hy : y ∈ es.toList := hp.symm.subset (by simp)
        have h1 := hall y hy (hborn y hy)
        simp only [List.contains_toArray, List.contains_iff_mem] at h1
        rw [List.map_append, List.map_cons] at hnd
        exact (List.nodup_append.1 hnd).2.2 _ h1 _ List.mem_cons_self rfl
    subst hY
    rw [List.map_nil, List.sum_nil, Nat.add_zero] at hle
    have K := Keep.new hb3 (.mapIter (some A.nb) c0 (X.map (·.born)).toArray c0)
    refine ⟨A.db, 0, rfl, S.room, at_of (K _ _ hd) 0, ?_⟩
    rw [hle]
    have := hQ _ K
    rw [hf, decide_eq_false ‹¬ (2147483648 : Int) < (x.d.n : Int) + n›, decide_eq_true hr, Bool.false_or, Bool.true_and] at this
    exact ⟨fun h => by rw [decide_eq_true h] at this; exact this, fun h => by rw [decide_eq_false h] at this; exact this⟩
/-- The first bytes of a list, that lie in it. -/
theorem take_row {l : Sl} {v : List UInt8} {n : Int} (B : Buf h l 1 5 (bl v)) (h0 : 0 ≤ n) (h1 : n ≤ (v.length : Int)) : Sl.okCut l 0 n (l.c : Int) ∧ ∃ vs, h.row ((Sl.cut l 1 0 n (l.c : Int)).a) (((Sl.cut l 1 0 n (l.c : Int)).n) * 1) vs ∧ (∀ v ∈ vs, Value.oneCell' v = true) ∧ vs = bl (v.take n.toNat) ∧ (Sl.cut l 1 0 n (l.c : Int)).n = n.toNat := by
  have hl := B.len
  rw [bl_len] at hl
  have hc := B.cap
  obtain ⟨k, rfl⟩ := Int.eq_ofNat_of_zero_le h0
  refine ⟨⟨by omega, by omega, by omega, by omega⟩, bl (v.take k), ?_, bl_one _, by simp, by simp [Sl.cut]⟩
  have hn : (Sl.cut l 1 0 (k : Int) (l.c : Int)).n = k := by simp [Sl.cut]
  rw [hn]
  refine ⟨by rw [bl_len, List.length_take]; omega, ?_⟩
  by_cases hk : k = 0
  · exact .inl (by omega)
  · obtain ⟨b, o, ha, hat⟩ := row_get B.row (i := 0) (by omega)
    refine .inr ⟨b, o, ?_, fun j hj => ?_⟩
    · have hcc : (l.c : Int).toNat ≠ (0 : Int).toNat := by omega
      show (if (l.c : Int).toNat = (0 : Int).toNat then l.a else l.a.map (·.add ((0 : Int).toNat * 1))) = _
      rw [if_neg hcc, ha]; rfl
    · rw [hat j (by omega)]
      unfold bl
      rw [List.map_take, List.getElem?_take_of_lt (by omega)]
theorem append_p {s : ByteArray} {l : Sl} {v : List UInt8} (P : PD h A S) (D : DOk S) (hs : s.size ≤ 9223372036854775807) (B : Buf h l 1 5 (bl v)) (hd : ∀ k, inS l k → ¬ A.own k) (hv : v.length ≤ 1073741824)
    (hQ : ∀ h' A', A'.db = A.db → PD h' A' (kAppend S s v).2 → Tr2 A.own A'.own h h' → Q (.int .i64 (kAppend S s v).1) h') : F22.T (some ⟨A.db, 0, none⟩) s l h Q := by
  obtain ⟨u, w, f, p, hrig, hdk⟩ := P.dsk
  have hln : l.n = v.length := by have := B.len; rw [bl_len] at this; omega
  refine ⟨A.db, 0, rfl, p, at_of hdk ((0 + 4) + 3), begin1 P D hs fun h1 P1 T1 => ⟨_, rfl, ?_⟩⟩
  have D1 := D.begin (nameOk s)
  have B1 : Buf h1 l 1 5 (bl v) := buf_mono B fun k x hk e => T1.keep k x (hd k hk) e
  have hd1 : ∀ k, inS l k → ¬ A.own k := hd
  refine look_p P1 D1 (fun hg => ⟨fun e31 => ⟨okPtr_none _ _, ⟨fun _ => ?_, fun h => absurd rfl h⟩⟩, fun n31 => ⟨fun e0 => ⟨okPtr_none _ _, ⟨fun _ => ?_, fun h => absurd rfl h⟩⟩, fun n0 => ?_⟩⟩)
    (fun i x hg hx => ⟨fun e31 => ⟨okPtr_none _ _, ⟨fun h => (by cases h), fun _ => ?_⟩⟩, fun n31 => ⟨fun e0 => ⟨okPtr_none _ _, ⟨fun h => (by cases h), fun _ => ?_⟩⟩, fun n0 => ?_⟩⟩)
  · have hk : kAppend S s v = kPart s v (iMin S.part (v.length : Int)) (dbegin S (nameOk s)).2 := by unfold kAppend; rw [if_pos e31]
    have e : kAppend S s v = (31, (dbegin S (nameOk s)).2) := by rw [hk]; unfold kPart; rw [hg]
    rw [e] at hQ
    rw [e31]
    exact hQ h1 A rfl P1 T1
  · have hk : kAppend S s v = kAppend2 s v (dbegin S (nameOk s)).2 := by unfold kAppend; rw [if_neg n31, kThen_0 e0]
    have e : kAppend S s v = (34, (dbegin S (nameOk s)).2) := by rw [hk]; unfold kAppend2; rw [hg]
    rw [e] at hQ
    exact hQ h1 A rfl P1 T1
  · have hk : kAppend S s v = dbegin S (nameOk s) := by unfold kAppend; rw [if_neg n31, kThen_1 n0]
    rw [hk] at hQ
    exact hQ h1 A rfl P1 T1
  · have hk : kAppend S s v = kPart s v (iMin S.part (v.length : Int)) (dbegin S (nameOk s)).2 := by unfold kAppend; rw [if_pos e31]
    have hpp : p = S.part := (hrig (begin_31 e31).1).2.2.2
    have hpos := D.pos
    have hmin : 0 ≤ iMin S.part (v.length : Int) := by unfold iMin; split <;> omega
    have hmin2 := (iMin_le S.part (v.length : Int)).2
    rw [hk] at hQ
    rw [e31, hpp, hln]
    generalize (dbegin S (nameOk s)).2 = S1 at P1 D1 hQ hg
    generalize iMin S.part (v.length : Int) = n at hQ hmin hmin2
    refine full_p P1 D1 hx hmin (by omega) fun h2 K2 => ⟨_, rfl, fun hf => ?_, fun hf => ?_⟩
    · have e : kPart s v n S1 = (31, S1) := by unfold kPart; rw [hg]; show (if _ then _ else _) = _; rw [if_pos hf]
      rw [e] at hQ
      exact hQ h2 A rfl (P1.keep K2) (T1.trKeep K2)
    · have e : kPart s v n S1 = (31, addTo S1 i (v.take n.toNat)) := by unfold kPart; rw [hg]; show (if _ then _ else _) = _; rw [if_neg (by rw [hf]; simp)]
      rw [e] at hQ
      obtain ⟨hc, vs, hr, ho, rfl, hn⟩ := take_row (B1.keep K2) hmin hmin2
      have hlt : (v.take n.toNat).length = n.toNat := by rw [List.length_take]; omega
      have hfl := (D1.fl _ (List.mem_of_getElem? (P1.file hx))).1
      obtain ⟨l1, e2, e3⟩ := lay_bytes (Q := Q) (e := 31) (P1.keep K2) hx hlt (by omega) fun h3 A3 eA P3 T3 => hQ h3 A3 eA P3 ((T1.trKeep K2).trans T3)
      refine ⟨x.b, 0, rfl, l1, e2, hc, _, hr, ho, ?_⟩
      rw [hn]
      exact e3
  · have hk : kAppend S s v = kAppend2 s v (dbegin S (nameOk s)).2 := by unfold kAppend; rw [if_neg n31, kThen_0 e0]
    have e : kAppend S s v = kAppend3 i v (dbegin S (nameOk s)).2 := by rw [hk]; unfold kAppend2; rw [hg]
    have hup := (begin_up e0).2.2
    rw [e] at hQ
    rw [hln]
    generalize (dbegin S (nameOk s)).2 = S1 at P1 D1 hQ hg hup
    refine full_p P1 D1 hx (by omega) (by omega) fun h2 K2 => ⟨_, rfl, fun hf => ?_, fun hf => ?_⟩
    · have e : kAppend3 i v S1 = (32, S1) := by unfold kAppend3; rw [if_pos hf]
      rw [e] at hQ
      exact hQ h2 A rfl (P1.keep K2) (T1.trKeep K2)
    · rw [wrap_i64 (by omega) (by omega)]
      have e : kAppend3 i v S1 = match (dfalls S1 (1 + (v.length : Int))).1 with
        | some n => (30, addTo (dfalls S1 (1 + (v.length : Int))).2 i (v.take n.toNat))
        | none => (0, addTo (dfalls S1 (1 + (v.length : Int))).2 i v) := by unfold kAppend3; rw [if_neg (by rw [hf]; simp)]; rfl
      have hfl := (D1.fl _ (List.mem_of_getElem? (P1.file hx))).1
      refine falls_p (P1.keep K2) D1 hup (by omega) (fun h3 e' P3 T3 => ⟨0, false, ⟨fun h => (by cases h), fun _ => ⟨rfl, ?_⟩⟩⟩) (fun h3 m e' hm0 hm1 P3 T3 => ⟨m, true, ⟨fun _ => ⟨rfl, ?_⟩, fun h => (by cases h)⟩⟩)
      · rw [e, e'] at hQ
        have B3 : Buf h3 l 1 5 (bl v) := buf_mono (B1.keep K2) fun k x hk e => T3.keep k x (hd k hk) e
        obtain ⟨l1, e2, e3⟩ := lay_bytes (Q := Q) (e := 0) P3 hx (m := v.length) rfl (by omega) fun h4 A4 eA P4 T4 => hQ h4 A4 eA P4 ((T1.trKeep K2).trans (T3.trans T4))
        exact ⟨x.b, 0, rfl, l1, e2, bl v, hln ▸ B3.row, bl_one _, e3⟩
      · rw [e, e'] at hQ
        have B3 : Buf h3 l 1 5 (bl v) := buf_mono (B1.keep K2) fun k x hk e => T3.keep k x (hd k hk) e
        have hmle : m ≤ (v.length : Int) := by omega
        obtain ⟨hc, vs, hr, ho, rfl, hn⟩ := take_row B3 hm0 hmle
        have hlt : (v.take m.toNat).length = m.toNat := by rw [List.length_take]; omega
        obtain ⟨l1, e2, e3⟩ := lay_bytes (Q := Q) (e := 30) P3 hx hlt (by omega) fun h4 A4 eA P4 T4 => hQ h4 A4 eA P4 ((T1.trKeep K2).trans (T3.trans T4))
        refine ⟨x.b, 0, rfl, l1, e2, hc, _, hr, ho, ?_⟩
        rw [hn]
        exact e3
  · have hk : kAppend S s v = dbegin S (nameOk s) := by unfold kAppend; rw [if_neg n31, kThen_1 n0]
    rw [hk] at hQ
    exact hQ h1 A rfl P1 T1
end
end Go.Eng.Ytekflkpnpibneaa
end
section

/-
  SPECS OF THE DISK, 5: what the program's disk tells: its files, and what a fall would leave.
-/
set_option linter.unusedSimpArgs false
set_option linter.unusedVariables false
set_option maxRecDepth 100000
namespace Go.Eng.Ytekflkpnpibneaa
/-! ### Lists of files, one's own -/
/-- WRITING A CELL of a buffer. -/
theorem buf_set {h : Hp} {s : Sl} {sz t k : Nat} {vs : List Value} (B : Buf h s sz t vs) (hk : k < vs.length) : ∃ b, s.a = some ⟨b, 0, none⟩ ∧ h.at b k = vs[k]? ∧ h.canW b k 1 ∧ ∀ v, Upd h (h.wr b k [v]) s s ∧ Buf (h.wr b k [v]) s sz t (vs.set k v) := by
  rcases B.own with ⟨ha, hc⟩ | ⟨b, c, f, ha, hb, hsz, hf, ht⟩
  · have h1 := B.len
    have h2 := B.cap
    have : s.n = 0 := by omega
    rw [this, Nat.zero_mul] at h1
    omega
  · have hlen : vs.length ≤ c.size := by
      rw [B.len]
      exact Nat.le_trans (Nat.mul_le_mul_right _ B.cap) hsz
    have hget : c[k]? = vs[k]? := by
      rw [← ht, List.getElem?_take, if_pos hk, Array.getElem?_toList]
    refine ⟨b, ha, by unfold Hp.at; rw [hb]; exact hget, ⟨c, t, f, hb, by omega, fun j h1 h2 => hf j (by omega)⟩, fun v => ⟨⟨fun j x hj e => ?_, .inl rfl, fun j e => ?_⟩, ⟨by rw [List.length_set]; exact B.len, B.cap, .inr ⟨b, (setL c.toList k [v]).toArray, f, ha, wr_cells hb, ?_, ?_, ?_⟩⟩⟩⟩
    · have hjb : j ≠ b := fun q => hj 0 (by rw [q]; exact ha)
      unfold Hp.wr
      rw [if_neg hjb]
      exact e
    · unfold Hp.wr at e
      by_cases hjb : j = b
      · rw [if_pos hjb, hb] at e; cases e
      · rw [if_neg hjb] at e; exact e
    · simp only [List.size_toArray, setL_length, Array.length_toList]; exact hsz
    · intro j hj
      simp only [List.size_toArray, setL_length, Array.length_toList] at hj
      exact hf j hj
    · show (c.toList.set k v).take _ = _
      rw [List.length_set, List.take_set, ht]
theorem cut_a (s : Sl) (k m : Int) {sz : Nat} : (Sl.cut s sz 0 k m).a = s.a := by
  unfold Sl.cut
  simp only [Int.toNat_zero, Nat.zero_mul]
  split
  · rfl
  · cases s.a with
    | none => rfl
    | some a => simp [Addr.add]
theorem buf_cut2 {h : Hp} {s : Sl} {t : Nat} {vs : List Value} (B : Buf h s 1 t vs) {k : Nat} (hk : k ≤ s.n) : Buf h (Sl.cut s 1 0 (k : Int) (k : Int)) 1 t (vs.take k) := by
  have hn : (Sl.cut s 1 0 (k : Int) (k : Int)).n = k := by simp [Sl.cut]
  have hc : (Sl.cut s 1 0 (k : Int) (k : Int)).c = k := by simp [Sl.cut]
  have hl := B.len
  have hcap := B.cap
  refine ⟨by rw [hn, List.length_take]; omega, by rw [hn, hc]; exact Nat.le_refl _, ?_⟩
  rw [cut_a, hc]
  rcases B.own with h0 | ⟨b, c, f, ha, hb, hsz, hf, ht⟩
  · exact .inl ⟨h0.1, by omega⟩
  · refine .inr ⟨b, c, f, ha, hb, by omega, hf, ?_⟩
    rw [List.length_take, ← ht, List.take_take]
    congr 1
    rw [ht]
theorem buf_nil {h : Hp} {s : Sl} {sz t : Nat} {vs : List Value} (B : Buf h s sz t vs) (ha : s.a = none) : s.n = 0 := by
  rcases B.own with ⟨_, hc⟩ | ⟨b, c, f, ha', _⟩
  · have := B.cap; omega
  · rw [ha] at ha'; cases ha'
def fcell (x : Sl × FileR) : List Value := [.string x.2.nm, .slice x.1.a x.1.n x.1.c, .int .i64 (x.2.sure : Int)]
def fV (L : List (Sl × FileR)) : List Value := L.flatMap fcell
theorem fV_len (L : List (Sl × FileR)) : (fV L).length = L.length * 3 := by
  unfold fV
  induction L with
  | nil => rfl
  | cons c l ih => rw [List.flatMap_cons, List.length_append, ih, List.length_cons]; show 3 + _ = _; omega
theorem fV_app (L M : List (Sl × FileR)) : fV (L ++ M) = fV L ++ fV M := by unfold fV; simp
theorem fV_cons (x : Sl × FileR) (M : List (Sl × FileR)) : fV (x :: M) = Value.string x.2.nm :: .slice x.1.a x.1.n x.1.c :: .int .i64 (x.2.sure : Int) :: fV M := rfl
/-- A list of files, new since g. -/
structure FA (g h : Hp) (r : Sl) (L : List (Sl × FileR)) : Prop where
  b : Buf h r 3 60 (fV L)
  n : NewN g r
  d : ∀ x ∈ L, Buf h x.1 1 5 (bl x.2.data) ∧ NewN g x.1
  dj : L.Pairwise fun x y => Off x.1 y.1
theorem FA.mono {g g' h : Hp} {r : Sl} {L : List (Sl × FileR)} (F : FA g h r L) (d : ∀ k, g k = none → g' k = none) : FA g' h r L := ⟨F.b, F.n.mono d, fun x hx => ⟨(F.d x hx).1, (F.d x hx).2.mono d⟩, F.dj⟩
theorem FA.keep {g h h' : Hp} {r : Sl} {L : List (Sl × FileR)} (F : FA g h r L) (K : Keep h h') : FA g h' r L := ⟨F.b.keep K, F.n, fun x hx => ⟨(F.d x hx).1.keep K, (F.d x hx).2⟩, F.dj⟩
theorem FA.len {g h : Hp} {r : Sl} {L : List (Sl × FileR)} (F : FA g h r L) : r.n = L.length := by have := F.b.len; rw [fV_len] at this; omega
theorem set3a (a b c v : Value) (B : List Value) : ∀ A : List Value, (A ++ a :: b :: c :: B).set (A.length + 1) v = A ++ a :: v :: c :: B
  | [] => rfl
  | x :: A => by rw [List.length_cons, List.cons_append, List.set_cons_succ, set3a a b c v B A]; rfl
theorem set3b (a b c v : Value) (B : List Value) : ∀ A : List Value, (A ++ a :: b :: c :: B).set (A.length + 2) v = A ++ a :: b :: v :: B
  | [] => rfl
  | x :: A => by rw [List.length_cons, List.cons_append, show A.length + 1 + 2 = A.length + 2 + 1 from rfl, List.set_cons_succ, set3b a b c v B A]; rfl
theorem get3 (a b c : Value) (B : List Value) : ∀ A : List Value, (A ++ a :: b :: c :: B)[A.length]? = some a ∧ (A ++ a :: b :: c :: B)[A.length + 1]? = some b ∧ (A ++ a :: b :: c :: B)[A.length + 2]? = some c
  | [] => ⟨rfl, rfl, rfl⟩
  | x :: A => get3 a b c B A
/-- One file of a list. -/
theorem rec_at {h : Hp} {r : Sl} {L1 L2 : List (Sl × FileR)} {x : Sl × FileR} (B : Buf h r 3 60 (fV (L1 ++ x :: L2))) : ∃ b, r.a = some ⟨b, 0, none⟩ ∧ ((0 : Int) ≤ (L1.length : Int) ∧ (L1.length : Int) < (r.n : Int)) ∧
    h.at b (0 + (L1.length : Int).toNat * 3) = some (.string x.2.nm) ∧ h.at b ((0 + (L1.length : Int).toNat * 3) + 1) = some (.slice x.1.a x.1.n x.1.c) ∧ h.at b ((0 + (L1.length : Int).toNat * 3) + 2) = some (.int .i64 (x.2.sure : Int)) ∧
    h.canW b ((0 + (L1.length : Int).toNat * 3) + 1) 1 ∧ ∀ s : Sl, (h.wr b ((0 + (L1.length : Int).toNat * 3) + 1) [.slice s.a s.n s.c]).canW b ((0 + (L1.length : Int).toNat * 3) + 2) 1 ∧
      ∀ (n : Nat) (dt : List UInt8), Upd h ((h.wr b ((0 + (L1.length : Int).toNat * 3) + 1) [.slice s.a s.n s.c]).wr b ((0 + (L1.length : Int).toNat * 3) + 2) [.int .i64 (n : Int)]) r r ∧ Buf ((h.wr b ((0 + (L1.length : Int).toNat * 3) + 1) [.slice s.a s.n s.c]).wr b ((0 + (L1.length : Int).toNat * 3) + 2) [.int .i64 (n : Int)]) r 3 60 (fV (L1 ++ (s, ⟨x.2.nm, dt, n⟩) :: L2)) := by
  have hl := B.len
  have e0 : 0 + (L1.length : Int).toNat * 3 = (fV L1).length := by rw [fV_len]; omega
  have hlt : (L1.length : Int) < (r.n : Int) := by rw [fV_len, List.length_append, List.length_cons] at hl; omega
  rw [e0]
  rw [fV_app, fV_cons] at B hl
  rw [List.length_append] at hl
  simp only [List.length_cons] at hl
  obtain ⟨g0, g1, g2⟩ := get3 (.string x.2.nm) (.slice x.1.a x.1.n x.1.c) (.int .i64 (x.2.sure : Int)) (fV L2) (fV L1)
  have hlen : (fV L1 ++ Value.string x.2.nm :: .slice x.1.a x.1.n x.1.c :: .int .i64 (x.2.sure : Int) :: fV L2).length = (fV L1).length + (3 + (fV L2).length) := by simp only [List.length_append, List.length_cons]; omega
  obtain ⟨b, ha, hb0, _, _⟩ := buf_set B (k := (fV L1).length) (by omega)
  obtain ⟨b1, ha1, hb1, hw1, hu1⟩ := buf_set B (k := (fV L1).length + 1) (by omega)
  obtain ⟨b2, ha2, hb2, _, _⟩ := buf_set B (k := (fV L1).length + 2) (by omega)
  rw [ha] at ha1 ha2
  cases ha1; cases ha2
  refine ⟨b, ha, ⟨by omega, hlt⟩, hb0.trans g0, hb1.trans g1, hb2.trans g2, hw1, fun s => ?_⟩
  obtain ⟨U1, B1⟩ := hu1 (.slice s.a s.n s.c)
  rw [set3a] at B1
  obtain ⟨b3, ha3, _, hw3, hu3⟩ := buf_set B1 (k := (fV L1).length + 2) (by simp only [List.length_append, List.length_cons]; omega)
  rw [ha] at ha3
  cases ha3
  refine ⟨hw3, fun n dt => ?_⟩
  obtain ⟨U3, B3⟩ := hu3 (.int .i64 (n : Int))
  rw [set3b] at B3
  exact ⟨U1.trans U3, by rw [fV_app, fV_cons]; exact B3⟩
theorem sorted_eq : ∀ {us vs : List ByteArray}, us.Perm vs → us.Pairwise Le → vs.Pairwise Le → us = vs
  | [], vs, p, _, _ => p.nil_eq
  | u :: us, [], p, _, _ => absurd p.length_eq (by simp)
  | u :: us, v :: vs, p, hu, hv => by
    have hu' := List.pairwise_cons.1 hu
    have hv' := List.pairwise_cons.1 hv
    have e : u = v := by
      have h1 : Le v u := by
        rcases List.mem_cons.1 (p.subset List.mem_cons_self) with rfl | h
        · exact Le.refl _
        · exact hv'.1 _ h
      have h2 : Le u v := by
        rcases List.mem_cons.1 (p.symm.subset List.mem_cons_self) with rfl | h
        · exact Le.refl _
        · exact hu'.1 _ h
      rcases bl_tri u v with k | k | k
      · exact absurd k h1
      · exact absurd k h2
      · exact k
    subst e
    rw [sorted_eq p.cons_inv hu'.2 hv'.2]
theorem clone_p {h : Hp} {K : Value → Hp → Prop} {mb c : Nat} {es : Array MapEntry} (hm : h mb = some (.map es c)) (hK : ∀ b1, h b1 = none → K (.map (some b1)) (h.new b1 (.map es c))) : F44.T (some mb) h K :=
  ⟨fun h => (by cases h), fun b hb => by cases hb; exact ⟨es, c, hm, hK⟩⟩
def toldX (X : List FX) (x : ByteArray × Nat) : FileR := match X[x.2]? with | some y => ⟨x.1, y.f.data, y.f.sure⟩ | none => ⟨x.1, [], 0⟩
section
variable {h h' : Hp} {A : PA} {S S' : Dk} {Q : Value → Hp → Prop}
theorem PD.toldX (P : PD h A S) (x : ByteArray × Nat) : toldX A.X x = fileR S x := by
  unfold Go.Eng.Ytekflkpnpibneaa.toldX fileR
  rw [← P.fl, List.getElem?_map]
  cases A.X[x.2]? <;> rfl
theorem told_p {X : List FX} {mb c0 : Nat} {es : Array MapEntry} {d : Dir} (hm : h mb = some (.map es c0)) (M : SM es c0 d (pid (X.map (·.b)))) (F : Fls 100 h X) (D : DirOk X.length d) (hl : d.length ≤ 8388608) (hfl : ∀ x ∈ X, x.f.data.length ≤ 2147483648)
    (hQ : ∀ h' r L, Keep h h' → FA h h' r L → L.map (·.2) = d.map (toldX X) → Q (.slice r.a r.n r.c) h') : F43.T (some mb) h Q := by
  intro b hb
  have K0 := Keep.new hb (.cells ⟨[.map (some mb)]⟩ 75 (0, 0))
  have hx := new_at h b (.cells ⟨[.map (some mb)]⟩ 75 (0, 0))
  have hm1 := K0 _ _ hm
  obtain ⟨ks, hk, hp⟩ := M.keys D.s
  refine ⟨_, rfl, rfl, b, mb, es, c0, ks, rfl, hx, hm1, ⟨M.st, hk, fun k hk' => ?_⟩, ?_, fun h2 s us K2 B2 N2 hpu hsu => ⟨s, rfl, ?_⟩⟩
  · obtain ⟨x, hx, rfl⟩ := List.mem_map.1 (hp.subset hk')
    exact Nat.le_trans (D.k x hx) (by decide)
  · have := hp.length_eq
    rw [List.length_map] at this
    omega
  have hus : us = d.map (·.1) := sorted_eq (hpu.trans hp) hsu (List.pairwise_map.2 (D.s.imp fun h => Le.of h))
  subst hus
  have hsn : s.n = d.length := by have := B2.len; simp only [List.length_map] at this; omega
  refine ⟨fun l1 n h3 => ∃ d1 d2 L, d = d1 ++ d2 ∧ n = (d1.length : Int) ∧ Keep h2 h3 ∧ FA h2 h3 l1 L ∧ L.map (·.2) = d1.map (toldX X), fun _ n _ => d.length - n.toNat, ⟨[], d, [], rfl, rfl, Keep.refl _, ⟨Buf.nil _ _ _, NewN.nil _, fun x hx => (by cases hx), List.Pairwise.nil⟩, rfl⟩, ?_⟩
  rintro l1 n h3 ⟨d1, d2, L, rfl, rfl, K3, F3, e3⟩
  rw [List.length_append] at hsn hl
  refine ⟨fun hlt => ?_, fun hge => ?_⟩
  · rcases d2 with _ | ⟨x, d2⟩
    · exact absurd hlt (by simp at hsn; omega)
    rw [List.length_cons] at hsn hl
    have hmx : x ∈ d1 ++ x :: d2 := by simp
    obtain ⟨b', o, ha, hlt', hat⟩ := strs_rd (l := s) (A := d1.map (·.1)) (B := d2.map (·.1)) (s := x.1) (by have := (B2.keep K3).row; simpa using this)
    rw [List.length_map] at hlt' hat
    have hxl := D.i x hmx
    have hX : X[x.2]? = some X[x.2] := List.getElem?_eq_getElem hxl
    have hv : mget es (.string x.1) (.pointer none) = .pointer (some ⟨X[x.2].b, 0, none⟩) := by
      rw [M.get, mem_dget D.s (i := x.2) hmx]
      show pid _ _ = _
      unfold pid
      rw [List.getElem?_map, hX]; rfl
    have hm3 := K3 _ _ (K2 _ _ hm1)
    have FX3 : Fls 100 h3 X := F.mono fun k y _ e => K3 _ _ (K2 _ _ (K0 _ _ e))
    have hmX := List.mem_of_getElem? hX
    have hb3 := FX3.fb _ hmX
    have B3 := FX3.fd _ hmX
    have ht : toldX X x = ⟨x.1, X[x.2].f.data, X[x.2].f.sure⟩ := by unfold toldX; rw [hX]
    refine ⟨b', o, ha, ⟨by omega, by omega⟩, x.1, hat, es, c0, hm3, M.fit _, _, hv, X[x.2].b, 0, rfl, X[x.2].d, at_of hb3 0, es, c0, hm3, M.fit _, _, hv, X[x.2].b, 0, rfl, _, at_of hb3 1, ?_⟩
    refine clone_bytes B3.row B3.cap (buf_nil B3) (Nat.le_trans (hfl _ hmX) (by decide)) fun h4 l3 K4 B4 N4 => ⟨l3, rfl, ⟨es, c0, K4 _ _ hm3, M.fit _, hv⟩, at_of (K4 _ _ hb3) 1, ?_⟩
    have hln := F3.len
    have hLd : L.length = d1.length := by have := congrArg List.length e3; simpa using this
    refine append_buf (F3.b.keep K4) rfl rfl (by omega) fun l4 h5 B5 hn5 U5 => ?_
    have C5 := Ck.of_upd (F3.b.keep K4) U5
    obtain ⟨K5, N5⟩ := NewN.upd (K3.trans K4) F3.n U5
    rw [inc_i (n := 100000000) (by omega) (by omega)]
    refine ⟨⟨d1 ++ [x], d2, L ++ [(l3, toldX X x)], by simp, by simp, K5, ⟨?_, N5, fun y hy => ?_, ?_⟩, by simp [e3]⟩, by simp only [List.length_append, List.length_cons]; omega⟩
    · rw [fV_app, fV_cons, ht]; exact B5
    · rcases List.mem_append.1 hy with hy | hy
      · exact ⟨C5.buf (by decide) ((F3.d y hy).1.keep K4), (F3.d y hy).2⟩
      · rw [List.mem_singleton.1 hy, ht]
        exact ⟨C5.buf (by decide) B4, N4.mono K3.dom⟩
    · refine List.pairwise_append.2 ⟨F3.dj, List.pairwise_singleton _ _, fun y hy z hz => ?_⟩
      rw [List.mem_singleton.1 hz]
      exact (N4.off (F3.d y hy).1).1
  · have hd2 : d2 = [] := List.eq_nil_of_length_eq_zero (by omega)
    subst hd2
    rw [List.append_nil] at hQ
    exact hQ h3 l1 L (K0.trans (K2.trans K3)) (F3.mono fun k e => K0.dom k (K2.dom k e)) e3
theorem PD.xlen (P : PD h A S) : A.X.length = S.fl.length := by rw [← P.fl, List.length_map]
theorem files_p (P : PD h A S) (D : DOk S) (hQ : ∀ h' r L, Keep h h' → FA h h' r L → L.map (·.2) = dtold S S.now → Q (.slice r.a r.n r.c) h') : F14.T (some ⟨A.db, 0, none⟩) h Q := by
  obtain ⟨u, w, f, p, hrig, hd⟩ := P.dsk
  obtain ⟨es, c0, hm, M⟩ := P.now
  refine ⟨A.db, 0, rfl, some A.nb, at_of hd 1, told_p hm M P.fx (by rw [P.xlen]; exact D.now) D.len (fun x hx => (D.fl x.f (by rw [← P.fl]; exact List.mem_map_of_mem hx)).1) fun h1 r L K F e => ⟨r, rfl, hQ h1 r L K F ?_⟩⟩
  rw [e]
  exact List.map_congr_left fun x _ => P.toldX x
end
end Go.Eng.Ytekflkpnpibneaa
end
section

/-
  SPECS OF THE DISK, 6: what a fall would leave.
-/
set_option linter.unusedSimpArgs false
set_option linter.unusedVariables false
set_option maxRecDepth 100000
namespace Go.Eng.Ytekflkpnpibneaa
theorem chV_at (bk : List Nat) : ∀ {l : List Cg} {k r : Nat} {c : Cg}, l[k]? = some c → r < 4 → (chV bk l)[k * 4 + r]? = (Cg.cells bk c)[r]?
  | [], k, r, c, h, _ => by simp at h
  | x :: l, 0, r, c, h, hr => by
    simp only [List.getElem?_cons_zero, Option.some.injEq] at h
    subst h
    show (Cg.cells bk x ++ chV bk l)[0 * 4 + r]? = _
    rw [List.getElem?_append_left (by show _ < 4; omega)]
    congr 1; omega
  | x :: l, k + 1, r, c, h, hr => by
    simp only [List.getElem?_cons_succ] at h
    show (Cg.cells bk x ++ chV bk l)[(k + 1) * 4 + r]? = _
    rw [List.getElem?_append_right (by show 4 ≤ _; omega), ← chV_at bk h hr]
    congr 1
    show (k + 1) * 4 + r - 4 = _
    omega
theorem leftAll_snoc (keep : List Int) (f : FileR) : ∀ (i : Nat) (R : List FileR), leftAll keep i (R ++ [f]) = leftAll keep i R ++ [leftOf keep (i + R.length) f]
  | i, [] => rfl
  | i, r :: R => by
    show leftOf keep i r :: leftAll keep (i + 1) (R ++ [f]) = _
    rw [leftAll_snoc keep f (i + 1) R, List.length_cons, show i + 1 + R.length = i + (R.length + 1) by omega]
    rfl
theorem leftAll_len (keep : List Int) : ∀ (i : Nat) (R : List FileR), (leftAll keep i R).length = R.length
  | i, [] => rfl
  | i, r :: R => by show (leftAll keep (i + 1) R).length + 1 = _; rw [leftAll_len keep (i + 1) R]; rfl
theorem dtold_ok {S : Dk} (D : DOk S) {d : Dir} : ∀ f ∈ dtold S d, f.data.length ≤ 2147483648 ∧ f.sure ≤ f.data.length := by
  intro f hf
  obtain ⟨x, hx, rfl⟩ := List.mem_map.1 hf
  unfold fileR
  split
  · next y hy => exact D.fl y (List.mem_of_getElem? hy)
  · exact ⟨Nat.zero_le _, Nat.le_refl _⟩
theorem leftOf_le {keep : List Int} {i : Nat} {f : FileR} (h : f.sure ≤ f.data.length) : (leftOf keep i f).sure ≤ f.data.length := by
  unfold leftOf
  dsimp only
  split
  · next k hk =>
    have h1 := (iMin_le (iMax k 0) ((f.data.length : Int) - f.sure)).2
    show f.sure + (iMin (iMax k 0) ((f.data.length : Int) - f.sure)).toNat ≤ f.data.length
    generalize iMin (iMax k 0) ((f.data.length : Int) - f.sure) = z at h1 ⊢
    omega
  · omega
theorem off_map {L1 L2 : List (Sl × FileR)} {x y : Sl × FileR} (h : (L1 ++ x :: L2).Pairwise fun x y => Off x.1 y.1) (e : y.1.a = x.1.a) : (L1 ++ y :: L2).Pairwise fun x y => Off x.1 y.1 := by
  have h1 : ((L1 ++ x :: L2).map fun x => x.1.a).Pairwise fun a b => ∀ k o o', a = some ⟨k, o, none⟩ → b ≠ some ⟨k, o', none⟩ := List.pairwise_map.2 h
  have h2 : (L1 ++ x :: L2).map (fun x => x.1.a) = (L1 ++ y :: L2).map fun x => x.1.a := by simp [e]
  rw [h2] at h1
  exact (List.pairwise_map (f := fun x : Sl × FileR => x.1.a) (R := fun a b => ∀ k o o', a = some ⟨k, o, none⟩ → b ≠ some ⟨k, o', none⟩)).1 h1
/-- One file of a list is cut. -/
theorem fa_cut {g h : Hp} {r : Sl} {L1 L2 : List (Sl × FileR)} {x : Sl × FileR} (F : FA g h r (L1 ++ x :: L2)) (K : Keep g h) : ∃ b, r.a = some ⟨b, 0, none⟩ ∧ ((0 : Int) ≤ (L1.length : Int) ∧ (L1.length : Int) < (r.n : Int)) ∧
    h.at b ((0 + (L1.length : Int).toNat * 3) + 1) = some (.slice x.1.a x.1.n x.1.c) ∧ h.at b ((0 + (L1.length : Int).toNat * 3) + 2) = some (.int .i64 (x.2.sure : Int)) ∧ x.1.n = x.2.data.length ∧
    ∀ n : Nat, n ≤ x.1.n → Sl.okCut x.1 0 (n : Int) (n : Int) ∧ h.canW b ((0 + (L1.length : Int).toNat * 3) + 1) 1 ∧
      (h.wr b ((0 + (L1.length : Int).toNat * 3) + 1) [.slice (Sl.cut x.1 1 0 (n : Int) (n : Int)).a (Sl.cut x.1 1 0 (n : Int) (n : Int)).n (Sl.cut x.1 1 0 (n : Int) (n : Int)).c]).canW b ((0 + (L1.length : Int).toNat * 3) + 2) 1 ∧
      FA g ((h.wr b ((0 + (L1.length : Int).toNat * 3) + 1) [.slice (Sl.cut x.1 1 0 (n : Int) (n : Int)).a (Sl.cut x.1 1 0 (n : Int) (n : Int)).n (Sl.cut x.1 1 0 (n : Int) (n : Int)).c]).wr b ((0 + (L1.length : Int).toNat * 3) + 2) [.int .i64 (n : Int)]) r (L1 ++ (Sl.cut x.1 1 0 (n : Int) (n : Int), ⟨x.2.nm, x.2.data.take n, n⟩) :: L2) ∧
      Keep g ((h.wr b ((0 + (L1.length : Int).toNat * 3) + 1) [.slice (Sl.cut x.1 1 0 (n : Int) (n : Int)).a (Sl.cut x.1 1 0 (n : Int) (n : Int)).n (Sl.cut x.1 1 0 (n : Int) (n : Int)).c]).wr b ((0 + (L1.length : Int).toNat * 3) + 2) [.int .i64 (n : Int)]) := by
  obtain ⟨b, ha, hr, h0, h1, h2, hw, hs⟩ := rec_at F.b
  have hx : x ∈ L1 ++ x :: L2 := by simp
  have Bx := (F.d x hx).1
  have hn : x.1.n = x.2.data.length := by have := Bx.len; rw [bl_len] at this; omega
  refine ⟨b, ha, hr, h1, h2, hn, fun n hle => ⟨⟨by omega, by omega, by omega, by have := Bx.cap; omega⟩, hw, ?_⟩⟩
  obtain ⟨hw2, hu⟩ := hs (Sl.cut x.1 1 0 (n : Int) (n : Int))
  obtain ⟨U, B⟩ := hu n (x.2.data.take n)
  have C := Ck.of_upd F.b U
  obtain ⟨K', N'⟩ := NewN.upd K F.n U
  refine ⟨hw2, ⟨B, F.n, fun y hy => ?_, off_map F.dj (cut_a _ _ _)⟩, K'⟩
  rcases List.mem_append.1 hy with hy | hy
  · have := F.d y (List.mem_append_left _ hy)
    exact ⟨C.buf (by decide) this.1, this.2⟩
  · rcases List.mem_cons.1 hy with rfl | hy
    · refine ⟨C.buf (by decide) ?_, ?_⟩
      · have := buf_cut2 Bx hle
        unfold bl at this ⊢
        rw [List.map_take]
        exact this
      · have := (F.d x hx).2
        unfold NewN at this ⊢
        dsimp only
        rw [cut_a]; exact this
    · have := F.d y (List.mem_append_right _ (List.mem_cons_of_mem _ hy))
      exact ⟨C.buf (by decide) this.1, this.2⟩
section
variable {h h' : Hp} {A : PA} {S S' : Dk} {Q : Value → Hp → Prop}
theorem image_p {dir : Int} {l : Sl} {keep : List Int} (P : PD h A S) (D : DOk S) (hcl : S.chg.length ≤ 1000000000) (hr : h.row l.a (l.n * 1) (keep.map fun k => Value.int .i64 k))
    (hQ : ∀ h' r L, Keep h h' → FA h h' r L → L.map (·.2) = kImage S dir keep → Q (.slice r.a r.n r.c) h') : F16.T (some ⟨A.db, 0, none⟩) dir l h Q := by
  obtain ⟨u, w, f, p, hrig, hd⟩ := P.dsk
  obtain ⟨es, c0, hm, M⟩ := P.sure
  have hcn : A.ch.n = S.chg.length := by have := P.ch.len; rw [chV_len] at this; omega
  have hln : l.n = keep.length := by have := hr.1; rw [List.length_map] at this; omega
  have hDs := (D.rest dir)
  have hDl : (drest S dir).length ≤ 8388608 := D.pre _
  refine ⟨A.db, 0, rfl, some A.sb, at_of hd 2, clone_p hm fun b1 hb1 => ⟨some b1, rfl, ?_⟩⟩
  have K1 := Keep.new hb1 (.map es c0)
  refine ⟨A.db, 0, rfl, A.ch, at_of (K1 _ _ hd) 3, A.db, 0, rfl, A.ch, at_of (K1 _ _ hd) 3, ?_⟩
  have hK0 : 0 ≤ iMin (iMax dir 0) (A.ch.n : Int) := by have := iMax_0 dir; unfold iMin; split <;> omega
  have hK1 := (iMin_le (iMax dir 0) (A.ch.n : Int)).2
  have hKt : S.chg.take (iMin (iMax dir 0) (A.ch.n : Int)).toNat = S.chg.take dir.toNat := by
    rw [List.take_eq_take_iff]
    unfold iMin iMax
    split <;> split <;> omega
  have hcap := P.ch.cap
  generalize iMin (iMax dir 0) (A.ch.n : Int) = K at hK0 hK1 hKt ⊢
  have hca : (Sl.cut A.ch 4 0 K (A.ch.c : Int)).a = A.ch.a := cut_a _ _ _
  have hcn2 : (Sl.cut A.ch 4 0 K (A.ch.c : Int)).n = K.toNat := by simp [Sl.cut]
  refine ⟨⟨by omega, by omega, by omega, by omega⟩, ?_⟩
  generalize Sl.cut A.ch 4 0 K (A.ch.c : Int) = cs at hca hcn2 ⊢
  refine ⟨fun n1 h2 => ∃ (k : Nat) (es' : Array MapEntry) (c' : Nat), n1 = (k : Int) ∧ k ≤ K.toNat ∧ h2 = h.new b1 (.map es' c') ∧ SM es' c' ((S.chg.take k).foldl dlay S.sure) (pid A.bk), fun n1 _ => K.toNat - n1.toNat, ⟨0, es, c0, rfl, Nat.zero_le _, rfl, M⟩, ?_⟩
  rintro n1 h2 ⟨k, es', c', rfl, hk, rfl, M'⟩
  have Dk : DirOk S.fl.length ((S.chg.take k).foldl dlay S.sure) := DirOk.fold _ D.sure fun c hc => D.chg c (List.mem_of_mem_take hc)
  refine ⟨fun hlt => ?_, fun hge => ?_⟩
  · have hkl : k < S.chg.length := by omega
    have hget : S.chg[k]? = some S.chg[k] := List.getElem?_eq_getElem hkl
    generalize S.chg[k] = c at hget
    obtain ⟨b3, o3, ha3, hat⟩ := row_get P.ch.row (i := k * 4) (by omega)
    obtain ⟨cc, ff, hal⟩ := buf_alive P.ch ⟨o3, ha3⟩
    have hat' : ∀ r, r < 4 → (h.new b1 (.map es' c')).at b3 ((o3 + (k : Int).toNat * 4) + r) = (Cg.cells A.bk c)[r]? := fun r hr => by
      rw [at_new_ne (ne_of hal hb1), Int.toNat_natCast, Nat.add_assoc, hat _ (by omega), chV_at A.bk hget hr]
    obtain ⟨p1, hp1⟩ : ∃ p1, (if c.kind = 0 then pid A.bk c.id else .pointer none) = .pointer p1 := by
      split
      · exact ⟨_, rfl⟩
      · exact ⟨_, rfl⟩
    refine ⟨b3, o3, hca.trans ha3, ⟨by omega, hlt⟩, c.kind, hat' 0 (by omega), c.nm, hat' 1 (by omega), c.to, hat' 2 (by omega), p1, (hat' 3 (by omega)).trans (by show some _ = _; rw [hp1]), ?_⟩
    refine lay_p (new_at _ _ _) M' Dk.s (Lays.nth D.lays hget) (fun k0 => by rw [if_pos k0] at hp1; exact hp1) fun es2 c2 M2 => ?_
    rw [inc_i (n := 9223372036854775807) (by omega) (by omega), new_new]
    refine ⟨⟨k + 1, es2, c2, rfl, by omega, rfl, ?_⟩, by dsimp only; omega⟩
    rw [List.take_add_one, hget, List.foldl_append]
    exact M2
  · have hkK : k = K.toNat := by omega
    subst hkK
    rw [hKt] at M' Dk
    have K2 : Keep h (h.new b1 (.map es' c')) := Keep.new hb1 _
    refine told_p (new_at _ _ _) M' (P.fx.mono fun k x _ e => K2 _ _ e) (by rw [P.xlen]; exact hDs) hDl (fun x hx => (D.fl x.f (by rw [← P.fl]; exact List.mem_map_of_mem hx)).1) fun h4 r L K4 F4 e4 => ⟨r, rfl, ?_⟩
    have e4' : L.map (·.2) = dtold S (drest S dir) := e4.trans (List.map_congr_left fun x _ => P.toldX x)
    have hok := dtold_ok D (d := drest S dir)
    have hRl : (dtold S (drest S dir)).length ≤ 8388608 := by unfold dtold; rw [List.length_map]; exact hDl
    unfold kImage at hQ
    generalize dtold S (drest S dir) = R at e4' hok hRl hQ
    have hLR : L.length = R.length := by have := congrArg List.length e4'; simpa using this
    have hrn : r.n = R.length := F4.len.trans hLR
    generalize h.new b1 (.map es' c') = h2 at K2 K4 F4
    refine ⟨fun n3 h5 => ∃ L1 L2 R1 R2, n3 = (L1.length : Int) ∧ R = R1 ++ R2 ∧ Keep h2 h5 ∧ FA h2 h5 r (L1 ++ L2) ∧ L1.map (·.2) = leftAll keep 0 R1 ∧ L2.map (·.2) = R2, fun n3 _ => R.length - n3.toNat, ⟨[], L, [], R, rfl, rfl, K4, F4, rfl, e4'⟩, ?_⟩
    rintro n3 h5 ⟨L1, L2, R1, R2, rfl, rfl, K5, F5, e5, e6⟩
    have hl1 : L1.length = R1.length := by have := congrArg List.length e5; rw [leftAll_len] at this; simpa using this
    rw [List.length_append] at hrn hRl
    refine ⟨fun hlt => ?_, fun hge => ?_⟩
    · rcases R2 with _ | ⟨f, R2⟩
      · exact absurd hlt (by simp at hrn; omega)
      rcases L2 with _ | ⟨x, L2⟩
      · simp at e6
      rw [List.map_cons, List.cons.injEq] at e6
      obtain ⟨rfl, e6⟩ := e6
      have hf := hok x.2 (by simp)
      obtain ⟨b, ha, hrg, h1, h2', hxn, hcut⟩ := fa_cut F5 K5
      have hstep : ∀ (n : Nat), n = (leftOf keep L1.length x.2).sure → ∀ h6, FA h2 h6 r (L1 ++ (Sl.cut x.1 1 0 (n : Int) (n : Int), ⟨x.2.nm, x.2.data.take n, n⟩) :: L2) → Keep h2 h6 →
          (∃ L1' L2' R1' R2', IntKind.wrap .i64 ((L1.length : Int) + 1) = (L1'.length : Int) ∧ R1 ++ x.2 :: R2 = R1' ++ R2' ∧ Keep h2 h6 ∧ FA h2 h6 r (L1' ++ L2') ∧ L1'.map (·.2) = leftAll keep 0 R1' ∧ L2'.map (·.2) = R2') ∧ (R1 ++ x.2 :: R2).length - (IntKind.wrap .i64 ((L1.length : Int) + 1)).toNat < (R1 ++ x.2 :: R2).length - (L1.length : Int).toNat := by
        rintro n hn h6 F6 K6
        simp only [List.length_cons] at hRl
        rw [inc_i (n := 100000000) (by omega) (by omega)]
        refine ⟨⟨L1 ++ [(Sl.cut x.1 1 0 (n : Int) (n : Int), ⟨x.2.nm, x.2.data.take n, n⟩)], L2, R1 ++ [x.2], R2, by simp, by simp, K6, by rw [List.append_assoc]; exact F6, ?_, e6⟩, by simp only [List.length_append, List.length_cons]; omega⟩
        rw [leftAll_snoc, List.map_append, e5, Nat.zero_add, ← hl1]
        congr 1
        rw [hn]
        rfl
      refine ⟨b, 0, ha, hrg, (x.2.sure : Int), h2', fun hpos => ?_, fun hnp => ?_⟩
      · have hml : L1.length % keep.length < keep.length := Nat.mod_lt _ (by omega)
        have htm : Int.tmod (L1.length : Int) (l.n : Int) = ((L1.length % keep.length : Nat) : Int) := by rw [hln]; rfl
        rw [htm]
        obtain ⟨b5, o5, ha5, hat5⟩ := row_get hr (i := L1.length % keep.length) (by omega)
        have hgk : keep[L1.length % keep.length]? = some keep[L1.length % keep.length] := List.getElem?_eq_getElem hml
        have hsz : x.1.n = x.2.data.length := hxn
        have hN0 : (leftOf keep L1.length x.2).sure = x.2.sure + (iMin (iMax keep[L1.length % keep.length] 0) ((x.2.data.length : Int) - x.2.sure)).toNat := by
          unfold leftOf
          dsimp only
          rw [hgk]
        have hN1 := leftOf_le (keep := keep) (i := L1.length) hf.2
        have hi0 : 0 ≤ iMin (iMax keep[L1.length % keep.length] 0) ((x.2.data.length : Int) - x.2.sure) := by
          have := iMax_0 keep[L1.length % keep.length]
          have := hf.2
          unfold iMin; split <;> omega
        have hi1 := (iMin_le (iMax keep[L1.length % keep.length] 0) ((x.2.data.length : Int) - x.2.sure)).2
        refine ⟨by omega, b5, o5, ha5, ⟨by omega, by omega⟩, keep[L1.length % keep.length], ?_, b, 0, ha, hrg, x.1, h1, b, 0, ha, hrg, x.1, h1, ?_⟩
        · rw [Int.toNat_natCast]
          have hk5 : h5.row l.a (l.n * 1) (keep.map fun k => Value.int .i64 k) := (K2.trans K5).row hr
          obtain ⟨b6, o6, ha6, hat6⟩ := row_get hk5 (i := L1.length % keep.length) (by omega)
          rw [ha5] at ha6
          cases ha6
          rw [hat6 _ (by omega), List.getElem?_map, hgk]; rfl
        · have hf2 := hf.2
          have hf1 := hf.1
          have hw1 : IntKind.wrap .i64 ((x.1.n : Int) - (x.2.sure : Int)) = (x.2.data.length : Int) - x.2.sure := by rw [wrap_i64 (by omega) (by omega), hsz]
          rw [hw1]
          have hw2 : IntKind.wrap .i64 ((x.2.sure : Int) + iMin (iMax keep[L1.length % keep.length] 0) ((x.2.data.length : Int) - x.2.sure)) = ((leftOf keep L1.length x.2).sure : Int) := by
            rw [wrap_i64 (by omega) (by omega), hN0]; omega
          rw [hw2]
          obtain ⟨c1, c2, c3, c4, c5⟩ := hcut (leftOf keep L1.length x.2).sure (by omega)
          exact ⟨c1, b, 0, ha, hrg, c2, b, 0, ha, hrg, c3, hstep _ rfl _ c4 c5⟩
      · have hN0 : (leftOf keep L1.length x.2).sure = x.2.sure := by
          unfold leftOf
          dsimp only
          rw [List.getElem?_eq_none (by omega)]
          rfl
        have hf2 := hf.2
        obtain ⟨c1, c2, c3, c4, c5⟩ := hcut x.2.sure (by omega)
        exact ⟨b, 0, ha, hrg, x.1, h1, c1, b, 0, ha, hrg, c2, b, 0, ha, hrg, c3, hstep _ hN0.symm _ c4 c5⟩
    · have hR2 : R2 = [] := List.eq_nil_of_length_eq_zero (by omega)
      subst hR2
      have hL2 : L2 = [] := by simpa using e6
      subst hL2
      rw [List.append_nil] at hQ F5
      exact hQ h5 r L1 (K2.trans K5) (F5.mono fun k e => K2.dom k e) e5
end
end Go.Eng.Ytekflkpnpibneaa
end
section

/-
  SPECS OF THE DISK, 7: a fall; a disk begins.
-/
set_option linter.unusedSimpArgs false
set_option linter.unusedVariables false
set_option maxRecDepth 100000
namespace Go.Eng.Ytekflkpnpibneaa
theorem putAll_app (l m : List FileR) : ∀ (i : Nat) (d : Dir), putAll i d (l ++ m) = putAll (i + l.length) (putAll i d l) m := by
  induction l with
  | nil => intro i d; rfl
  | cons f l ih =>
    intro i d
    show putAll (i + 1) (dins d f.nm i) (l ++ m) = putAll (i + (l.length + 1)) (putAll (i + 1) (dins d f.nm i) l) m
    rw [ih, show i + 1 + l.length = i + (l.length + 1) by omega]
theorem rawSum_app (l m : List RawF) : rawSum (l ++ m) = rawSum l + rawSum m := by unfold rawSum; rw [List.map_append, List.sum_append]
theorem rawSum_nn : ∀ l : List RawF, 0 ≤ rawSum l
  | [] => Int.le_refl _
  | f :: l => by have := rawSum_nn l; show 0 ≤ (f.data.length : Int) + rawSum l; omega
/-- A directory that is being built. -/
structure Bld (g h : Hp) (mb : Nat) (X : List FX) (d : Dir) : Prop where
  mp : ∃ es c, h mb = some (.map es c) ∧ SM es c d (pid (X.map (·.b)))
  mn : g mb = none
  fx : Fls 100 h X
  fn : ∀ k, ownX X k → g k = none
  ix : DirOk X.length d
theorem Bld.keep {g h h' : Hp} {mb : Nat} {X : List FX} {d : Dir} (W : Bld g h mb X d) (K : Keep h h') : Bld g h' mb X d := by
  obtain ⟨es, c, hm, M⟩ := W.mp
  exact ⟨⟨es, c, K _ _ hm, M⟩, W.mn, W.fx.mono fun k x _ e => K _ _ e, W.fn, W.ix⟩
theorem bld_put {g h h1 : Hp} {mb b4 : Nat} {X : List FX} {d : Dir} {s : Sl} {f : Fil} {nm : ByteArray} (W : Bld g h mb X d) (hb4 : h b4 = none) (hg4 : g b4 = none) (hn : nm.size ≤ 24) (B : Buf h s 1 5 (bl f.data)) (NS : NewN g s) (no : ∀ k, inS s k → ¬ ownX X k)
    (hx : h1 = h.new b4 (.cells ⟨[.slice s.a s.n s.c, .int .i64 (f.sure : Int)]⟩ 100 (0, 0))) :
    ∃ es c, h1 mb = some (.map es c) ∧ keysFit (.string nm) es ∧ Bld g (h1.new mb (mPut es c (.string nm) (.pointer (some ⟨b4, 0, none⟩)))) mb (X ++ [⟨b4, s, f⟩]) (dins d nm X.length) := by
  obtain ⟨es, c, hm, M⟩ := W.mp
  have K4 : Keep h h1 := by rw [hx]; exact Keep.new hb4 _
  have hx4 : h1 b4 = some (.cells ⟨[.slice s.a s.n s.c, .int .i64 (f.sure : Int)]⟩ 100 (0, 0)) := by rw [hx]; exact new_at _ _ _
  have hm1 := K4 _ _ hm
  have hbk : (X ++ [(⟨b4, s, f⟩ : FX)]).map (·.b) = X.map (·.b) ++ [b4] := by simp
  have hbl : (X.map (·.b)).length = X.length := List.length_map _
  have M1 : SM es c d (pid (X.map (·.b) ++ [b4])) := M.congr fun t i hi => (pid_app _ _ (by rw [hbl]; exact W.ix.i _ (dget_mem hi))).symm
  obtain ⟨es', c', e1, e2⟩ := M1.put nm X.length
  have hv : pid (X.map (·.b) ++ [b4]) X.length = .pointer (some ⟨b4, 0, none⟩) := by rw [← hbl]; exact pid_last _ _
  rw [hv] at e1
  refine ⟨es, c, hm1, M.fit _, ?_⟩
  rw [e1]
  have O : One mb h1 (h1.new mb (.map es' c')) := One.new _ (by rw [hm1]; simp)
  have C : Ck [0] h1 (h1.new mb (.map es' c')) := Ck.put hm1
  have hne : mb ≠ b4 := ne_of hm hb4
  have n4 : ¬ ownX X b4 := fun ho => by
    obtain ⟨cc, tt, al, _⟩ := W.fx.alive ho
    rw [hb4] at al; cases al
  refine ⟨⟨es', c', new_at _ _ _, by rw [hbk]; exact e2⟩, W.mn, (W.fx.mono fun k x hk e => ?_).snoc (O.keep _ _ (fun e => hne e.symm) hx4) (C.buf (by decide) (B.keep K4)) n4 no, fun k hk => ?_, ?_⟩
  · obtain ⟨cc, tt, al, _⟩ := W.fx.alive hk
    exact O.keep _ _ (ne_kd al hm (by simp [kd])) (K4 _ _ e)
  · rcases ownX_snoc hk with hk | rfl | hk
    · exact W.fn k hk
    · exact hg4
    · exact newN_in NS hk
  · rw [List.length_append]
    exact (W.ix.mono (Nat.le_succ _)).ins hn (Nat.lt_succ_self _)
theorem leftAll_nm (keep : List Int) : ∀ (i : Nat) (R : List FileR), (leftAll keep i R).map (·.nm) = R.map (·.nm)
  | i, [] => rfl
  | i, r :: R => by show r.nm :: (leftAll keep (i + 1) R).map (·.nm) = _; rw [leftAll_nm keep (i + 1) R]; rfl
theorem image_nm (S : Dk) (dir : Int) (keep : List Int) : (kImage S dir keep).map (·.nm) = (drest S dir).map (·.1) := by
  unfold kImage dtold
  rw [leftAll_nm, List.map_map]
  refine List.map_congr_left fun x _ => ?_
  show (fileR S x).nm = _
  unfold fileR
  split <;> rfl
theorem image_ok {S : Dk} (D : DOk S) (dir : Int) (keep : List Int) : (kImage S dir keep).length ≤ 8388608 ∧ (∀ f ∈ kImage S dir keep, f.nm.size ≤ 24) ∧ ∀ f ∈ kImage S dir keep, f.data.length ≤ 2147483648 ∧ f.sure = f.data.length := by
  refine ⟨?_, fun f hf => ?_, ?_⟩
  · have := congrArg List.length (image_nm S dir keep)
    rw [List.length_map, List.length_map] at this
    rw [this]; exact D.pre _
  · have h1 : f.nm ∈ (kImage S dir keep).map (·.nm) := List.mem_map_of_mem hf
    rw [image_nm] at h1
    obtain ⟨x, hx, e⟩ := List.mem_map.1 h1
    rw [← e]; exact (D.rest dir).k x hx
  · have key : ∀ (i : Nat) (R : List FileR), (∀ f ∈ R, f.data.length ≤ 2147483648 ∧ f.sure ≤ f.data.length) → ∀ f ∈ leftAll keep i R, f.data.length ≤ 2147483648 ∧ f.sure = f.data.length := by
      intro i R
      induction R generalizing i with
      | nil => intro _ f hf; cases hf
      | cons r R ih =>
        intro hR f hf
        rcases List.mem_cons.1 hf with rfl | hf
        · have hr := hR r List.mem_cons_self
          have hl := leftOf_le (keep := keep) (i := i) hr.2
          have e : (leftOf keep i r).data = r.data.take (leftOf keep i r).sure := rfl
          rw [e, List.length_take]
          omega
        · exact ih (i + 1) (fun f hf => hR f (List.mem_cons_of_mem _ hf)) f hf
    exact key 0 _ (dtold_ok D)
theorem putAll_ok {n : Nat} : ∀ (l : List FileR) (i : Nat) (d : Dir), DirOk n d → (∀ f ∈ l, f.nm.size ≤ 24) → i + l.length ≤ n → DirOk n (putAll i d l)
  | [], i, d, D, _, _ => D
  | f :: l, i, d, D, h, hn => putAll_ok l (i + 1) _ (D.ins (h f List.mem_cons_self) (by rw [List.length_cons] at hn; omega)) (fun g hg => h g (List.mem_cons_of_mem _ hg)) (by rw [List.length_cons] at hn; omega)
theorem putAll_len : ∀ (l : List FileR) (i : Nat) (d : Dir), (putAll i d l).length ≤ d.length + l.length
  | [], i, d => Nat.le_refl _
  | f :: l, i, d => by
    have h1 := putAll_len l (i + 1) (dins d f.nm i)
    have h2 := dins_len (d := d) f.nm i
    rw [List.length_cons]
    show (putAll (i + 1) (dins d f.nm i) l).length ≤ _
    omega
theorem fresh_ok {room : Int} {l : List FileR} (hr : 0 ≤ room ∧ room ≤ 9223372036854775807) (hl : l.length ≤ 8388608) (hn : ∀ f ∈ l, f.nm.size ≤ 24) (hd : ∀ f ∈ l, f.data.length ≤ 2147483648 ∧ f.sure ≤ f.data.length) : DN 0 (fresh room l) := by
  have hlen : (l.map fun f => (⟨f.data, f.sure⟩ : Fil)).length = l.length := List.length_map _
  have h1 : DirOk (l.map fun f => (⟨f.data, f.sure⟩ : Fil)).length (putAll 0 [] l) := putAll_ok l 0 [] (DirOk.nil _) hn (by rw [hlen]; omega)
  have h2 := putAll_len l 0 []
  rw [List.length_nil] at h2
  refine ⟨⟨h1, h1, fun f hf => ?_, fun c hc => (by cases hc), Nat.le_trans h2 (by omega), fun k => ?_, rfl, hr, ⟨Int.le_refl _, Int.le_refl _, Int.le_refl _, Int.le_refl _⟩, ⟨show (0 : Int) ≤ 9223372036854775807 by decide, show (0 : Int) ≤ 9223372036854775807 by decide, show (0 : Int) ≤ 9223372036854775807 by decide, show (0 : Int) ≤ 9223372036854775807 by decide⟩⟩, Nat.le_refl _, by show (l.map _).length ≤ _; rw [hlen]; omega⟩
  · obtain ⟨x, hx, rfl⟩ := List.mem_map.1 hf
    exact hd x hx
  · show ((List.take k []).foldl dlay _).length ≤ _
    rw [List.take_nil]
    exact Nat.le_trans h2 (by omega)
section
variable {h h' : Hp} {A : PA} {S S' : Dk} {Q : Value → Hp → Prop}
/-! ### A disk begins -/
def rcell (x : Sl × RawF) : List Value := [.string x.2.nm, .slice x.1.a x.1.n x.1.c, .int .i64 x.2.sure]
def rV (L : List (Sl × RawF)) : List Value := L.flatMap rcell
theorem rV_len (L : List (Sl × RawF)) : (rV L).length = L.length * 3 := by
  unfold rV
  induction L with
  | nil => rfl
  | cons c l ih => rw [List.flatMap_cons, List.length_append, ih, List.length_cons]; show 3 + _ = _; omega
/-- Files as a caller holds them. -/
structure RA (h : Hp) (l : Sl) (L : List (Sl × RawF)) : Prop where
  b : h.row l.a (l.n * 3) (rV L)
  d : ∀ x ∈ L, h.row x.1.a (x.1.n * 1) (bl x.2.data) ∧ x.1.n ≤ x.1.c ∧ (x.1.a = none → x.1.n = 0)
theorem RA.keep {l : Sl} {L : List (Sl × RawF)} (R : RA h l L) (K : Keep h h') : RA h' l L := ⟨K.row R.b, fun x hx => ⟨K.row (R.d x hx).1, (R.d x hx).2⟩⟩
theorem RA.len {l : Sl} {L : List (Sl × RawF)} (R : RA h l L) : l.n = L.length := by have := R.b.1; rw [rV_len] at this; omega
theorem RA.at {l : Sl} {L1 L2 : List (Sl × RawF)} {x : Sl × RawF} (R : RA h l (L1 ++ x :: L2)) : ∃ b o, l.a = some ⟨b, o, none⟩ ∧ ((0 : Int) ≤ (L1.length : Int) ∧ (L1.length : Int) < (l.n : Int)) ∧
    h.at b (o + (L1.length : Int).toNat * 3) = some (.string x.2.nm) ∧ h.at b ((o + (L1.length : Int).toNat * 3) + 1) = some (.slice x.1.a x.1.n x.1.c) ∧ h.at b ((o + (L1.length : Int).toNat * 3) + 2) = some (.int .i64 x.2.sure) := by
  have hl := R.len
  rw [List.length_append, List.length_cons] at hl
  obtain ⟨b, o, ha, hat⟩ := row_get R.b (i := L1.length * 3) (by omega)
  have hv : rV (L1 ++ x :: L2) = rV L1 ++ Value.string x.2.nm :: .slice x.1.a x.1.n x.1.c :: .int .i64 x.2.sure :: rV L2 := by unfold rV; simp [rcell]
  obtain ⟨g0, g1, g2⟩ := get3 (.string x.2.nm) (.slice x.1.a x.1.n x.1.c) (.int .i64 x.2.sure) (rV L2) (rV L1)
  rw [← hv, rV_len] at g0 g1 g2
  rw [Int.toNat_natCast]
  exact ⟨b, o, ha, ⟨by omega, by omega⟩, (hat _ (by omega)).trans g0, by rw [Nat.add_assoc]; exact (hat _ (by omega)).trans g1, by rw [Nat.add_assoc]; exact (hat _ (by omega)).trans g2⟩
theorem new_p {room : Int} {l : Sl} {L : List (Sl × RawF)} (R : RA h l L) (hroom : room ≤ 9223372036854775807) (hnm : ∀ x ∈ L, x.2.nm.size ≤ 9223372036854775807)
    (hQn : newOk room (L.map (·.2)) = false → ∀ h', Keep h h' → Q (.tuple ⟨[.pointer none, .int .i64 36]⟩) h')
    (hQs : newOk room (L.map (·.2)) = true → ∀ h' A', Keep h h' → (∀ k, A'.own k → h k = none) → PD h' A' (fresh room (L.map fun x => x.2.f)) → Q (.tuple ⟨[.pointer (some ⟨A'.db, 0, none⟩), .int .i64 0]⟩) h') : F19.T room l h Q := by
  intro b hbn b1 hb1
  have hln := R.len
  have K0 := Keep.new hbn (.map #[] 0)
  have hmb := new_at h b (.map #[] 0)
  have Ka := Keep.new hb1 (.cells ⟨[.int .i64 room, .map (some b), .map none, .slice none 0 0, .int .i64 0, .int .i64 0, .int .i64 0, .int .i64 0, .bool false]⟩ 80 (0, 0))
  have hx1 := new_at (h.new b (.map #[] 0)) b1 (.cells ⟨[.int .i64 room, .map (some b), .map none, .slice none 0 0, .int .i64 0, .int .i64 0, .int .i64 0, .int .i64 0, .bool false]⟩ 80 (0, 0))
  have hb1n : h b1 = none := K0.dom _ hb1
  have hb1b : b1 ≠ b := fun e => by rw [e, hmb] at hb1; cases hb1
  have hmb2 := Ka _ _ hmb
  generalize (h.new b (.map #[] 0)).new b1 (.cells ⟨[.int .i64 room, .map (some b), .map none, .slice none 0 0, .int .i64 0, .int .i64 0, .int .i64 0, .int .i64 0, .bool false]⟩ 80 (0, 0)) = h0 at Ka hx1 hmb2 ⊢
  refine ⟨fun hneg => hQn (by unfold newOk; rw [decide_eq_false (by omega)]; rfl) h0 (K0.trans Ka), fun hpos => ⟨fun hbig => hQn (by unfold newOk; rw [List.length_map, decide_eq_false (by omega : ¬ (L.length : Int) ≤ 8388608)]; simp) h0 (K0.trans Ka), fun hsm => ?_⟩⟩
  refine ⟨fun all i h1 => ∃ L1 L2 X, L = L1 ++ L2 ∧ i = (L1.length : Int) ∧ all = rawSum (L1.map (·.2)) ∧ all ≤ (L1.length : Int) * 2147483648 ∧ 0 ≤ all ∧ Bld h h1 b X (putAll 0 [] (L1.map fun x => x.2.f)) ∧ X.map (·.f) = L1.map (fun x => ⟨x.2.f.data, x.2.f.sure⟩) ∧
    rawOk 0 [] (L.map (·.2)) = rawOk L1.length (putAll 0 [] (L1.map fun x => x.2.f)) (L2.map (·.2)) ∧ (room = 0 ∨ all ≤ room) ∧ Keep h h1 ∧ h1 b1 = some (.cells ⟨[.int .i64 room, .map (some b), .map none, .slice none 0 0, .int .i64 0, .int .i64 0, .int .i64 0, .int .i64 0, .bool false]⟩ 80 (0, 0)), fun _ i _ => L.length - i.toNat,
    ⟨[], L, [], rfl, rfl, rfl, Int.le_refl _, Int.le_refl _, ⟨⟨#[], 0, hmb2, SM.empty _ _⟩, hbn, ⟨fun x hx => (by cases hx), fun x hx => (by cases hx), fun i j x y hx => (by simp at hx)⟩, fun k hk => (by obtain ⟨x, hx, _⟩ := hk; cases hx), DirOk.nil _⟩, rfl, rfl, .inr (by omega), K0.trans Ka, hx1⟩, ?_⟩
  rintro all i h1 ⟨L1, L2, X, rfl, rfl, hall, hle, hall0, W, hXf, hraw, hrm, K1, hb1'⟩
  rw [List.length_append] at hln
  refine ⟨fun hlt => ?_, fun hge => ?_⟩
  · rcases L2 with _ | ⟨x, L2⟩
    · exact absurd hlt (by simp at hln; omega)
    rw [List.length_cons] at hln
    have hmx : x ∈ L1 ++ x :: L2 := by simp
    obtain ⟨b2, o, ha, hrg, g0, g1, g2⟩ := (R.keep K1).at
    have hxr := (R.keep K1).d x hmx
    have hxn : (x.1.n : Int) = (x.2.data.length : Int) := by have := hxr.1.1; rw [bl_len] at this; omega
    have bad : x.2.ok (putAll 0 [] (L1.map fun x => x.2.f)) = false → newOk room ((L1 ++ x :: L2).map (·.2)) = false := fun hx => by
      have : rawOk 0 [] ((L1 ++ x :: L2).map (·.2)) = false := by
        rw [hraw]
        show (x.2.ok _ && _) = false
        rw [hx]; rfl
      unfold newOk
      rw [this]; simp
    refine ⟨b2, o, ha, hrg, x.2.nm, g0, x.1, g1, x.2.sure, g2, name_spec (hnm x hmx) fun h2 K2 => ⟨nameOk x.2.nm, rfl, fun hnok => ?_, fun hnok => hQn (bad (by unfold RawF.ok; rw [hnok]; rfl)) h2 (K1.trans K2)⟩⟩
    obtain ⟨es, c, hm, M⟩ := W.mp
    have hm2 := K2 _ _ hm
    have hb2 := K2 _ _ hb1'
    refine ⟨some b, at_of hb2 1, es, c, hm2, M.fit _, ?_⟩
    rw [M.get]
    cases hg : dget (putAll 0 [] (L1.map fun x => x.2.f)) x.2.nm with
    | some j =>
      have hj := W.ix.i _ (dget_mem hg)
      have hXj : X[j]? = some X[j] := List.getElem?_eq_getElem hj
      refine ⟨some ⟨X[j].b, 0, none⟩, by show pid _ _ = _; unfold pid; rw [List.getElem?_map, hXj]; rfl, okPtr_none _ _, fun h => (by cases h), fun _ => hQn (bad (by unfold RawF.ok; rw [hg]; simp)) h2 (K1.trans K2)⟩
    | none =>
      refine ⟨none, rfl, okPtr_none _ _, fun _ => ?_, fun h => absurd rfl h⟩
      rw [hxn]
      refine ⟨fun h31 => hQn (bad (by unfold RawF.ok; rw [decide_eq_false (by omega : ¬ (x.2.data.length : Int) ≤ 2147483648)]; simp)) h2 (K1.trans K2), fun h31 => ⟨fun hs0 => hQn (bad (by unfold RawF.ok; rw [decide_eq_false (by omega : ¬ 0 ≤ x.2.sure)]; simp)) h2 (K1.trans K2), fun hs0 => ⟨fun hs1 => hQn (bad (by unfold RawF.ok; rw [decide_eq_false (by omega : ¬ x.2.sure ≤ (x.2.data.length : Int))]; simp)) h2 (K1.trans K2), fun hs1 => ?_⟩⟩⟩
      have hxok : x.2.ok (putAll 0 [] (L1.map fun x => x.2.f)) = true := by
        unfold RawF.ok
        rw [hnok, hg, decide_eq_true (by omega : (x.2.data.length : Int) ≤ 2147483648), decide_eq_true (by omega : 0 ≤ x.2.sure), decide_eq_true (by omega : x.2.sure ≤ (x.2.data.length : Int))]; rfl
      rw [wrap_i64 (by omega) (by omega)]
      refine ⟨fun hr0 => ?_, fun hr0 => ⟨fun hover => hQn ?_ h2 (K1.trans K2), fun hfit => ?_⟩⟩
      · have hroom' : room = 0 ∨ all + (x.2.data.length : Int) ≤ room := .inl hr0
        refine ⟨some b, at_of hb2 1, ?_⟩
        refine clone_bytes (h := h2) (v := x.2.data) (K2.row hxr.1) hxr.2.1 hxr.2.2 (by omega) fun h3 l2 K3 B3 N3 => ⟨l2, rfl, at_of (K3 _ _ hb2) 1, at_of (K3 _ _ hb2) 1, fun b4 hb4 => ?_⟩
        have K4 := Keep.new hb4 (.cells ⟨[.slice l2.a l2.n l2.c, .int .i64 x.2.sure]⟩ 100 (0, 0))
        have hb5 := K4 _ _ (K3 _ _ hb2)
        have Kh3 : Keep h h3 := K1.trans (K2.trans K3)
        have Wk := (W.keep K2).keep K3
        have hs0 : (x.2.f.sure : Int) = x.2.sure := by show ((x.2.sure.toNat : Nat) : Int) = _; omega
        obtain ⟨es1, c1, e1, e2, e3⟩ := bld_put Wk hb4 (Kh3.dom _ hb4) (f := ⟨x.2.f.data, x.2.f.sure⟩) (nm := x.2.nm) (name_size hnok) B3 (N3.mono (fun k e => K1.dom k (K2.dom k e))) (fun k hk ho => by
          obtain ⟨cc, tt, al, _⟩ := (W.keep K2).fx.alive ho
          rw [newN_in N3 hk] at al; cases al) (h1 := h3.new b4 (.cells ⟨[.slice l2.a l2.n l2.c, .int .i64 x.2.sure]⟩ 100 (0, 0))) (by dsimp only; rw [hs0])
        refine ⟨at_of hb5 1, b, es1, c1, rfl, e1, e2, ?_⟩
        have O5 := One.new (h := h3.new b4 (.cells ⟨[.slice l2.a l2.n l2.c, .int .i64 x.2.sure]⟩ 100 (0, 0))) (b := b) (mPut es1 c1 (.string x.2.nm) (.pointer (some ⟨b4, 0, none⟩))) (by rw [e1]; simp)
        rw [inc_i (n := 100000000) (by omega) (by omega)]
        refine ⟨⟨L1 ++ [x], L2, X ++ [⟨b4, l2, ⟨x.2.f.data, x.2.f.sure⟩⟩], by simp, by simp, by rw [List.map_append, rawSum_app, ← hall]; show _ = _ + ((x.2.data.length : Int) + 0); omega, by simp only [List.length_append, List.length_singleton]; omega, by omega, ?_, by simp [hXf, RawF.f], ?_, hroom', (Kh3.trans K4).one O5 hbn, O5.keep _ _ hb1b hb5⟩, by simp only [List.length_append, List.length_cons]; omega⟩
        · rw [List.map_append, putAll_app, Nat.zero_add, List.length_map]
          have hXl : X.length = L1.length := by have := congrArg List.length hXf; simpa using this
          rw [← hXl]
          exact e3
        · rw [hraw]
          show (x.2.ok _ && rawOk _ _ _) = _
          rw [hxok, Bool.true_and, List.map_append, putAll_app, List.length_append, Nat.zero_add, List.length_map]
          rfl
      · have hsum : rawSum ((L1 ++ x :: L2).map (·.2)) = all + ((x.2.data.length : Int) + rawSum (L2.map (·.2))) := by rw [List.map_append, rawSum_app, ← hall]; rfl
        have := rawSum_nn (L2.map (·.2))
        unfold newOk
        have hno : ¬ all + ((x.2.data.length : Int) + rawSum (L2.map (·.2))) ≤ room := by omega
        rw [hsum, decide_eq_false hr0, decide_eq_false hno]
        simp
      · have hroom' : room = 0 ∨ all + (x.2.data.length : Int) ≤ room := .inr (by omega)
        refine ⟨some b, at_of hb2 1, ?_⟩
        refine clone_bytes (h := h2) (v := x.2.data) (K2.row hxr.1) hxr.2.1 hxr.2.2 (by omega) fun h3 l2 K3 B3 N3 => ⟨l2, rfl, at_of (K3 _ _ hb2) 1, at_of (K3 _ _ hb2) 1, fun b4 hb4 => ?_⟩
        have K4 := Keep.new hb4 (.cells ⟨[.slice l2.a l2.n l2.c, .int .i64 x.2.sure]⟩ 100 (0, 0))
        have hb5 := K4 _ _ (K3 _ _ hb2)
        have Kh3 : Keep h h3 := K1.trans (K2.trans K3)
        have Wk := (W.keep K2).keep K3
        have hs0 : (x.2.f.sure : Int) = x.2.sure := by show ((x.2.sure.toNat : Nat) : Int) = _; omega
        obtain ⟨es1, c1, e1, e2, e3⟩ := bld_put Wk hb4 (Kh3.dom _ hb4) (f := ⟨x.2.f.data, x.2.f.sure⟩) (nm := x.2.nm) (name_size hnok) B3 (N3.mono (fun k e => K1.dom k (K2.dom k e))) (fun k hk ho => by
          obtain ⟨cc, tt, al, _⟩ := (W.keep K2).fx.alive ho
          rw [newN_in N3 hk] at al; cases al) (h1 := h3.new b4 (.cells ⟨[.slice l2.a l2.n l2.c, .int .i64 x.2.sure]⟩ 100 (0, 0))) (by dsimp only; rw [hs0])
        refine ⟨at_of hb5 1, b, es1, c1, rfl, e1, e2, ?_⟩
        have O5 := One.new (h := h3.new b4 (.cells ⟨[.slice l2.a l2.n l2.c, .int .i64 x.2.sure]⟩ 100 (0, 0))) (b := b) (mPut es1 c1 (.string x.2.nm) (.pointer (some ⟨b4, 0, none⟩))) (by rw [e1]; simp)
        rw [inc_i (n := 100000000) (by omega) (by omega)]
        refine ⟨⟨L1 ++ [x], L2, X ++ [⟨b4, l2, ⟨x.2.f.data, x.2.f.sure⟩⟩], by simp, by simp, by rw [List.map_append, rawSum_app, ← hall]; show _ = _ + ((x.2.data.length : Int) + 0); omega, by simp only [List.length_append, List.length_singleton]; omega, by omega, ?_, by simp [hXf, RawF.f], ?_, hroom', (Kh3.trans K4).one O5 hbn, O5.keep _ _ hb1b hb5⟩, by simp only [List.length_append, List.length_cons]; omega⟩
        · rw [List.map_append, putAll_app, Nat.zero_add, List.length_map]
          have hXl : X.length = L1.length := by have := congrArg List.length hXf; simpa using this
          rw [← hXl]
          exact e3
        · rw [hraw]
          show (x.2.ok _ && rawOk _ _ _) = _
          rw [hxok, Bool.true_and, List.map_append, putAll_app, List.length_append, Nat.zero_add, List.length_map]
          rfl
  · have hL2 : L2 = [] := List.eq_nil_of_length_eq_zero (by omega)
    subst hL2
    rw [List.append_nil] at hraw hQs
    obtain ⟨es, c, hm, M⟩ := W.mp
    refine ⟨some b, at_of hb1' 1, clone_p hm fun b' hb' => ⟨some b', rfl, ?_⟩⟩
    have K5 := Keep.new hb' (.map es c)
    have hx' := new_at h1 b' (.map es c)
    have q0 := K5 _ _ hb1'
    have q1 := wr_cells (o := 2) (vs := [.map (some b')]) q0
    have O := one_wr (o := 2) (vs := [.map (some b')]) q0
    have C := O.ck q0
    refine ⟨canW_new q0 (by simp), ?_⟩
    generalize (h1.new b' (.map es c)).wr b1 2 [.map (some b')] = h5 at q1 O C ⊢
    have hok : newOk room (L1.map (·.2)) = true := by
      have hraw' : rawOk 0 [] (L1.map (·.2)) = true := hraw
      unfold newOk
      rw [hraw', ← hall, List.length_map, decide_eq_true (by omega : 0 ≤ room), decide_eq_true (by simp at hln; omega : (L1.length : Int) ≤ 8388608)]
      rcases hrm with h | h
      · rw [decide_eq_true h]; rfl
      · rw [decide_eq_true h, Bool.or_true]; rfl
    have W5 := W.keep K5
    refine hQs hok h5 ⟨b1, b, b', ⟨none, 0, 0⟩, X⟩ ((K1.trans K5).one O hb1n) (fun k d => ?_) ⟨⟨0, 0, 0, 0, fun _ => ⟨rfl, rfl, rfl, rfl⟩, q1⟩, ⟨es, c, C.keep _ _ (K5 _ _ hm) (by simp [kd]), M⟩, ⟨es, c, C.keep _ _ hx' (by simp [kd]), M⟩, ne_of hm hb', Buf.nil _ _ _, by rw [hXf]; unfold fresh; dsimp only; rw [List.map_map]; rfl, W5.fx.mono fun k y hk e => ?_⟩
    · rcases d with d | d | d | d | d
      · rw [show k = b1 from d]; exact hb1n
      · rw [show k = b from d]; exact hbn
      · rw [show k = b' from d]; exact K1.dom _ hb'
      · exact (inS_nil k d).elim
      · exact W.fn k d
    · obtain ⟨cc, tt, al, ht⟩ := W5.fx.alive hk
      rw [e] at al; cases al
      exact C.keep _ _ e (by rcases ht with ht | ht <;> simp [kd, ht])
end
end Go.Eng.Ytekflkpnpibneaa
end
section

/-
  SPECS OF THE DISK, 8: the document's directories: find, with, without, twin.
-/
set_option linter.unusedSimpArgs false
set_option linter.unusedVariables false
set_option maxRecDepth 100000
namespace Go.Eng.Ytekflkpnpibneaa
def ecell (x : ByteArray × Nat) : List Value := [.string x.1, .int .i64 (x.2 : Int)]
def eV (d : Dir) : List Value := d.flatMap ecell
theorem eV_len (d : Dir) : (eV d).length = d.length * 2 := by
  unfold eV
  induction d with
  | nil => rfl
  | cons c l ih => rw [List.flatMap_cons, List.length_append, ih, List.length_cons]; show 2 + _ = _; omega
theorem eV_app (L M : Dir) : eV (L ++ M) = eV L ++ eV M := by unfold eV; simp
theorem eV_cons (x : ByteArray × Nat) (M : Dir) : eV (x :: M) = Value.string x.1 :: .int .i64 (x.2 : Int) :: eV M := rfl
theorem eV_one (d : Dir) : ∀ v ∈ eV d, Value.oneCell' v = true := fun v hv => by
  unfold eV at hv
  obtain ⟨x, _, hx⟩ := List.mem_flatMap.1 hv
  unfold ecell at hx
  rcases List.mem_cons.1 hx with rfl | hx
  · rfl
  · rw [List.mem_singleton.1 hx]; rfl
theorem setL_app' : ∀ (V A U B : List Value), U.length = V.length → setL (A ++ (U ++ B)) A.length V = A ++ (V ++ B)
  | [], A, U, B, h => by
    have : U = [] := List.eq_nil_of_length_eq_zero h
    subst this; rfl
  | v :: V, A, [], B, h => (by cases h)
  | v :: V, A, u :: U, B, h => by
    unfold setL
    have e : (A ++ (u :: U ++ B)).set A.length v = (A ++ [v]) ++ (U ++ B) := by simp
    have l : A.length + 1 = (A ++ [v]).length := by simp
    rw [e, l, setL_app' V (A ++ [v]) U B (by simpa using h)]
    simp
theorem buf_get {h : Hp} {s : Sl} {sz t : Nat} {vs : List Value} (B : Buf h s sz t vs) (h0 : 0 < vs.length) : ∃ b, s.a = some ⟨b, 0, none⟩ ∧ ∀ k, k < vs.length → h.at b k = vs[k]? := by
  obtain ⟨b, ha, _⟩ := buf_set B h0
  refine ⟨b, ha, fun k hk => ?_⟩
  obtain ⟨b', ha', hg, _⟩ := buf_set B hk
  rw [ha] at ha'; cases ha'
  exact hg
/-- WRITING CELLS of a buffer. -/
theorem buf_wrL {h : Hp} {s : Sl} {sz t : Nat} {A U C V : List Value} (B : Buf h s sz t (A ++ (U ++ C))) (hU : U.length = V.length) (h0 : 0 < V.length) : ∃ b, s.a = some ⟨b, 0, none⟩ ∧ h.canW b A.length V.length ∧ Upd h (h.wr b A.length V) s s ∧ Buf (h.wr b A.length V) s sz t (A ++ (V ++ C)) := by
  have hlen : (A ++ (U ++ C)).length = A.length + (V.length + C.length) := by simp only [List.length_append]; omega
  rcases B.own with ⟨ha, hc⟩ | ⟨b, c, f, ha, hb, hsz, hf, ht⟩
  · have h1 := B.len
    have h2 := B.cap
    have : s.n = 0 := by omega
    rw [this, Nat.zero_mul] at h1
    omega
  · have hle : (A ++ (U ++ C)).length ≤ c.size := by
      rw [B.len]
      exact Nat.le_trans (Nat.mul_le_mul_right _ B.cap) hsz
    refine ⟨b, ha, ⟨c, t, f, hb, by omega, fun j h1 h2 => hf j (by omega)⟩, ⟨fun j x hj e => ?_, .inl rfl, fun j e => ?_⟩, ⟨?_, B.cap, .inr ⟨b, (setL c.toList A.length V).toArray, f, ha, wr_cells hb, ?_, ?_, ?_⟩⟩⟩
    · have hjb : j ≠ b := fun q => hj 0 (by rw [q]; exact ha)
      unfold Hp.wr
      rw [if_neg hjb]
      exact e
    · unfold Hp.wr at e
      by_cases hjb : j = b
      · rw [if_pos hjb, hb] at e; cases e
      · rw [if_neg hjb] at e; exact e
    · rw [← B.len, hlen]; simp only [List.length_append]
    · simp only [List.size_toArray, setL_length, Array.length_toList]; exact hsz
    · intro j hj
      simp only [List.size_toArray, setL_length, Array.length_toList] at hj
      exact hf j hj
    · have e : c.toList = A ++ (U ++ (C ++ c.toList.drop (A ++ (U ++ C)).length)) := by
        rw [← List.append_assoc U, ← List.append_assoc A, ← ht, List.length_take, Nat.min_eq_left (by rw [Array.length_toList]; exact hle), List.take_append_drop]
      show (setL c.toList A.length V).take _ = _
      have e2 : ∀ X : List Value, A ++ (V ++ (C ++ X)) = (A ++ (V ++ C)) ++ X := fun X => by simp
      rw [e, setL_app' V A U _ hU, e2]
      exact List.take_left' rfl
theorem buf_cutS {h : Hp} {s : Sl} {sz t : Nat} {vs ws : List Value} (B : Buf h s sz t vs) {k : Nat} (hk : k ≤ s.n) (hw : vs.take (k * sz) = ws) : Buf h (Sl.cut s sz 0 (k : Int) (s.c : Int)) sz t ws := by
  have hn : (Sl.cut s sz 0 (k : Int) (s.c : Int)).n = k := by simp [Sl.cut]
  have hc : (Sl.cut s sz 0 (k : Int) (s.c : Int)).c = s.c := by simp [Sl.cut]
  have hl := B.len
  have hcap := B.cap
  have hkm : k * sz ≤ s.n * sz := Nat.mul_le_mul_right _ hk
  subst hw
  refine ⟨by rw [hn, List.length_take]; omega, by rw [hn, hc]; omega, ?_⟩
  rw [cut_a, hc]
  rcases B.own with h0 | ⟨b, c, f, ha, hb, hsz, hf, ht⟩
  · exact .inl h0
  · refine .inr ⟨b, c, f, ha, hb, hsz, hf, ?_⟩
    rw [List.length_take, ← ht, List.take_take]
    congr 1
    rw [ht]
theorem split_get {α : Type} : ∀ {l : List α} {k : Nat} {x : α}, l[k]? = some x → ∃ A B, l = A ++ x :: B ∧ A.length = k
  | [], k, x, h => by simp at h
  | y :: l, 0, x, h => ⟨[], l, by simp at h; rw [h]; rfl, rfl⟩
  | y :: l, k + 1, x, h => by
    obtain ⟨A, B, rfl, hl⟩ := split_get (l := l) (k := k) (x := x) (by simpa using h)
    exact ⟨y :: A, B, rfl, by simp [hl]⟩
/-! ### A name's place -/
theorem dsplit : ∀ {d : Dir}, DSrt d → ∀ s, (∃ d1 j d2, d = d1 ++ (s, j) :: d2) ∨ (∃ d1 d2, d = d1 ++ d2 ∧ (∀ x ∈ d1, Bl x.1 s) ∧ ∀ x ∈ d2, Bl s x.1)
  | [], _, s => .inr ⟨[], [], rfl, fun x hx => (by cases hx), fun x hx => (by cases hx)⟩
  | x :: d, D, s => by
    have D' := List.pairwise_cons.1 D
    rcases bl_tri x.1 s with k | k | k
    · rcases dsplit D'.2 s with ⟨d1, j, d2, rfl⟩ | ⟨d1, d2, rfl, h1, h2⟩
      · exact .inl ⟨x :: d1, j, d2, rfl⟩
      · refine .inr ⟨x :: d1, d2, rfl, fun y hy => ?_, h2⟩
        rcases List.mem_cons.1 hy with rfl | hy
        · exact k
        · exact h1 y hy
    · refine .inr ⟨[], x :: d, rfl, fun y hy => (by cases hy), fun y hy => ?_⟩
      rcases List.mem_cons.1 hy with rfl | hy
      · exact k
      · exact k.trans (D'.1 y hy)
    · exact .inl ⟨[], x.2, d, by rw [← k]; rfl⟩
theorem hit_lt {d1 d2 : Dir} {s : ByteArray} {j : Nat} (D : DSrt (d1 ++ (s, j) :: d2)) : (∀ x ∈ d1, Bl x.1 s) ∧ ∀ x ∈ d2, Bl s x.1 := by
  have h := List.pairwise_append.1 D
  exact ⟨fun x hx => h.2.2 x hx _ List.mem_cons_self, fun x hx => (List.pairwise_cons.1 h.2.1).1 x hx⟩
theorem dins_lt {s : ByteArray} {i : Nat} {e : Dir} : ∀ {d1 : Dir}, (∀ x ∈ d1, Bl x.1 s) → dins (d1 ++ e) s i = d1 ++ dins e s i
  | [], _ => rfl
  | x :: d1, h => by
    have hx := h x List.mem_cons_self
    show (if x.1 = s then _ else if bB s x.1 = true then _ else x :: dins (d1 ++ e) s i) = _
    rw [if_neg (fun e => by rw [e] at hx; exact Bl.irr hx), if_neg (by rw [bB_t]; exact hx.asym), dins_lt fun y hy => h y (List.mem_cons_of_mem _ hy)]
    rfl
theorem ddel_lt {s : ByteArray} {e : Dir} : ∀ {d1 : Dir}, (∀ x ∈ d1, Bl x.1 s) → ddel (d1 ++ e) s = d1 ++ ddel e s
  | [], _ => rfl
  | x :: d1, h => by
    have hx := h x List.mem_cons_self
    show (if x.1 = s then _ else x :: ddel (d1 ++ e) s) = _
    rw [if_neg (fun e => by rw [e] at hx; exact Bl.irr hx), ddel_lt fun y hy => h y (List.mem_cons_of_mem _ hy)]
    rfl
theorem dins_hit {d1 d2 : Dir} {s : ByteArray} {j : Nat} (D : DSrt (d1 ++ (s, j) :: d2)) (i : Nat) : dins (d1 ++ (s, j) :: d2) s i = d1 ++ (s, i) :: d2 := by
  rw [dins_lt (hit_lt D).1]; unfold dins; rw [if_pos rfl]
theorem ddel_hit {d1 d2 : Dir} {s : ByteArray} {j : Nat} (D : DSrt (d1 ++ (s, j) :: d2)) : ddel (d1 ++ (s, j) :: d2) s = d1 ++ d2 := by
  rw [ddel_lt (hit_lt D).1]; unfold ddel; rw [if_pos rfl]
theorem dins_miss {d1 d2 : Dir} {s : ByteArray} (h1 : ∀ x ∈ d1, Bl x.1 s) (h2 : ∀ x ∈ d2, Bl s x.1) (i : Nat) : dins (d1 ++ d2) s i = d1 ++ (s, i) :: d2 := by
  rw [dins_lt h1]
  rcases d2 with _ | ⟨x, d2⟩
  · rfl
  · have hx := h2 x List.mem_cons_self
    unfold dins
    rw [if_neg (fun e => by rw [e] at hx; exact Bl.irr hx), if_pos (bB_t.2 hx)]
theorem miss_none {d1 d2 : Dir} {s : ByteArray} (h1 : ∀ x ∈ d1, Bl x.1 s) (h2 : ∀ x ∈ d2, Bl s x.1) : dget (d1 ++ d2) s = none := by
  refine dget_none.2 fun x hx e => ?_
  rcases List.mem_append.1 hx with hx | hx
  · have := h1 x hx; rw [e] at this; exact Bl.irr this
  · have := h2 x hx; rw [e] at this; exact Bl.irr this
theorem ddel_miss : ∀ {d : Dir} {s : ByteArray}, dget d s = none → ddel d s = d
  | [], s, _ => rfl
  | x :: d, s, h => by
    unfold dget at h
    unfold ddel
    by_cases hx : x.1 = s
    · rw [if_pos hx] at h; cases h
    · rw [if_neg hx] at h; rw [if_neg hx, ddel_miss h]
theorem get2 (a b : Value) (B : List Value) : ∀ A : List Value, (A ++ a :: b :: B)[A.length]? = some a ∧ (A ++ a :: b :: B)[A.length + 1]? = some b
  | [] => ⟨rfl, rfl⟩
  | x :: A => get2 a b B A
section
variable {h h' : Hp} {Q : Value → Hp → Prop} {d : Dir} {l : Sl} {s : ByteArray}
theorem e_n (B : Buf h l 2 88 (eV d)) : l.n = d.length := by have := B.len; rw [eV_len] at this; omega
theorem e_at {d1 d2 : Dir} {x : ByteArray × Nat} (B : Buf h l 2 88 (eV (d1 ++ x :: d2))) : ∃ b, l.a = some ⟨b, 0, none⟩ ∧ ((0 : Int) ≤ (d1.length : Int) ∧ (d1.length : Int) < (l.n : Int)) ∧ h.at b (0 + (d1.length : Int).toNat * 2) = some (.string x.1) ∧ h.at b ((0 + (d1.length : Int).toNat * 2) + 1) = some (.int .i64 (x.2 : Int)) ∧
    h.canW b ((0 + (d1.length : Int).toNat * 2) + 1) 1 ∧ ∀ i : Nat, Upd h (h.wr b ((0 + (d1.length : Int).toNat * 2) + 1) [.int .i64 (i : Int)]) l l ∧ Buf (h.wr b ((0 + (d1.length : Int).toNat * 2) + 1) [.int .i64 (i : Int)]) l 2 88 (eV (d1 ++ (x.1, i) :: d2)) := by
  have hn := e_n B
  rw [List.length_append, List.length_cons] at hn
  have e0 : 0 + (d1.length : Int).toNat * 2 = (eV d1).length := by rw [eV_len]; omega
  rw [e0]
  rw [eV_app, eV_cons] at B
  have hlen : (eV d1 ++ Value.string x.1 :: .int .i64 (x.2 : Int) :: eV d2).length = (eV d1).length + (2 + (eV d2).length) := by simp only [List.length_append, List.length_cons]; omega
  obtain ⟨g0, g1⟩ := get2 (.string x.1) (.int .i64 (x.2 : Int)) (eV d2) (eV d1)
  obtain ⟨b, ha, hat⟩ := buf_get B (by omega)
  have B' : Buf h l 2 88 ((eV d1 ++ [Value.string x.1]) ++ ([Value.int .i64 (x.2 : Int)] ++ eV d2)) := by simpa using B
  obtain ⟨b1, ha1, hw, _, _⟩ := buf_wrL B' (V := [.int .i64 (x.2 : Int)]) rfl (by simp)
  rw [ha] at ha1; cases ha1
  have hl1 : (eV d1 ++ [Value.string x.1]).length = (eV d1).length + 1 := by simp
  rw [hl1] at hw
  refine ⟨b, ha, ⟨by omega, by omega⟩, (hat _ (by omega)).trans g0, (hat _ (by omega)).trans g1, hw, fun i => ?_⟩
  obtain ⟨b1, ha1, _, U, B2⟩ := buf_wrL B' (V := [.int .i64 (i : Int)]) rfl (by simp)
  rw [ha] at ha1; cases ha1
  rw [hl1] at U B2
  exact ⟨U, by rw [eV_app, eV_cons]; simpa using B2⟩
theorem find_r (B : Buf h l 2 88 (eV d)) (D : DSrt d) (hl : d.length ≤ 1000000000) (h1 : ∀ d1 j d2, d = d1 ++ (s, j) :: d2 → Q (.tuple ⟨[.int .i64 (d1.length : Int), .bool true]⟩) h)
    (h0 : ∀ d1 d2, d = d1 ++ d2 → (∀ x ∈ d1, Bl x.1 s) → (∀ x ∈ d2, Bl s x.1) → Q (.tuple ⟨[.int .i64 (d1.length : Int), .bool false]⟩) h) : F67.T l s h Q := by
  have hn := e_n B
  obtain ⟨p, hp, hpl, hend⟩ : ∃ p : Nat, (∀ k x, d[k]? = some x → (Bl x.1 s ↔ k < p)) ∧ p ≤ d.length ∧ par ((p : Int) < (l.n : Int)) (∃ b1 o1, (l.a : Option Addr) = some ⟨b1, o1, none⟩ ∧ ((0 : Int) ≤ (p : Int) ∧ (p : Int) < (l.n : Int)) ∧ ∃ s2 : ByteArray, h.at b1 (o1 + (p : Int).toNat * 2) = some (.string s2) ∧ par (s2 = s) (h.at b1 (o1 + (p : Int).toNat * 2) = some (.string s2) ∧ Q (.tuple ⟨[.int .i64 (p : Int), .bool true]⟩) h) (h.at b1 (o1 + (p : Int).toNat * 2) = some (.string s2) ∧ Q (.tuple ⟨[.int .i64 (p : Int), .bool false]⟩) h)) (Q (.tuple ⟨[.int .i64 (p : Int), .bool false]⟩) h) := by
    have key : ∀ (d1 d2 : Dir), (∀ x ∈ d1, Bl x.1 s) → (∀ x ∈ d2, ¬ Bl x.1 s) → ∀ (k : Nat) x, (d1 ++ d2)[k]? = some x → (Bl x.1 s ↔ k < d1.length) := fun d1 d2 h1 h2 k x hk => by
      rcases Nat.lt_or_ge k d1.length with hlt | hge
      · rw [List.getElem?_append_left hlt] at hk
        exact ⟨fun _ => hlt, fun _ => h1 x (List.mem_of_getElem? hk)⟩
      · rw [List.getElem?_append_right hge] at hk
        exact ⟨fun hb => absurd hb (h2 x (List.mem_of_getElem? hk)), fun hlt => by omega⟩
    rcases dsplit D s with ⟨d1, j, d2, rfl⟩ | ⟨d1, d2, rfl, g1, g2⟩
    · have hh := hit_lt D
      obtain ⟨b, ha, hr, hat, _⟩ := e_at B
      refine ⟨d1.length, key d1 _ hh.1 (fun x hx => ?_), by simp, ⟨fun _ => ⟨b, 0, ha, hr, s, hat, ⟨fun _ => ⟨hat, h1 d1 j d2 rfl⟩, fun hne => absurd rfl hne⟩⟩, fun hge => absurd hr.2 hge⟩⟩
      rcases List.mem_cons.1 hx with rfl | hx
      · exact Bl.irr
      · exact (hh.2 x hx).asym
    · refine ⟨d1.length, key d1 d2 g1 fun x hx => (g2 x hx).asym, by simp, ?_⟩
      rcases d2 with _ | ⟨x, d2⟩
      · exact ⟨fun hlt => by simp at hn; omega, fun _ => h0 d1 [] rfl g1 g2⟩
      · obtain ⟨b, ha, hr, hat, _⟩ := e_at B
        have hx := g2 x List.mem_cons_self
        exact ⟨fun _ => ⟨b, 0, ha, hr, x.1, hat, ⟨fun e => by rw [e] at hx; exact absurd hx Bl.irr, fun _ => ⟨hat, h0 d1 _ rfl g1 g2⟩⟩⟩, fun hge => absurd hr.2 hge⟩
  refine ⟨fun n n1 h1 => ∃ lo hi : Nat, n = (lo : Int) ∧ n1 = (hi : Int) ∧ lo ≤ p ∧ p ≤ hi ∧ hi ≤ d.length ∧ h1 = h, fun n n1 _ => (n1 - n).toNat, ⟨0, d.length, rfl, by rw [hn], Nat.zero_le _, hpl, Nat.le_refl _, rfl⟩, ?_⟩
  rintro n n1 h1 ⟨lo, hi, rfl, rfl, hlo, hhi, hdl, rfl⟩
  refine ⟨fun hlt => ?_, fun hge => ?_⟩
  · have hm : IntKind.wrap .i64 (Int.tdiv (IntKind.wrap .i64 ((lo : Int) + (hi : Int))) 2) = (((lo + hi) / 2 : Nat) : Int) := by
      rw [wrap_i64 (n := (lo : Int) + hi) (by omega) (by omega)]
      have e : Int.tdiv ((lo : Int) + (hi : Int)) 2 = (((lo + hi) / 2 : Nat) : Int) := by
        rw [show (lo : Int) + (hi : Int) = ((lo + hi : Nat) : Int) by omega]; rfl
      rw [e, wrap_i64 (by omega) (by omega)]
    rw [hm]
    have hml : (lo + hi) / 2 < d.length := by omega
    have hgx : d[(lo + hi) / 2]? = some d[(lo + hi) / 2] := List.getElem?_eq_getElem hml
    generalize d[(lo + hi) / 2] = x at hgx
    obtain ⟨A, C, hAC, hAl⟩ := split_get hgx
    have B' := B
    rw [hAC] at B'
    obtain ⟨b, ha, hr, hat, _⟩ := e_at B'
    rw [hAl] at hr hat
    have hiff := hp _ _ hgx
    refine ⟨by decide, b, 0, ha, hr, x.1, hat, fun hs => ?_, fun hs => ?_⟩
    · have := hiff.1 ((sLt_bl _ _).1 hs)
      rw [inc_i (n := 2000000000) (by omega) (by omega)]
      exact ⟨⟨(lo + hi) / 2 + 1, hi, rfl, rfl, by omega, hhi, hdl, rfl⟩, by dsimp only; omega⟩
    · have : ¬ (lo + hi) / 2 < p := fun hlt => hs ((sLt_bl _ _).2 (hiff.2 hlt))
      exact ⟨⟨lo, (lo + hi) / 2, rfl, rfl, hlo, by omega, by omega, rfl⟩, by dsimp only; omega⟩
  · have : lo = p := by omega
    subst this
    exact hend
theorem cut_add {l : Sl} {b : Nat} (ha : l.a = some ⟨b, 0, none⟩) {k n : Nat} (hk : k < l.c) : (Sl.cut l 2 (k : Int) (n : Int) (l.c : Int)).a = some ⟨b, 0 + k * 2, none⟩ := by
  unfold Sl.cut
  dsimp only
  rw [Int.toNat_natCast, Int.toNat_natCast, if_neg (by omega), ha]
  simp [Addr.add]
  omega
theorem cut_n {l : Sl} {k n : Nat} : (Sl.cut l 2 (k : Int) (n : Int) (l.c : Int)).n = n - k := by simp [Sl.cut]
theorem with_r {i : Nat} (B : Buf h l 2 88 (eV d)) (D : DSrt d) (hl : d.length ≤ 1000000000) (hQ : ∀ h' l', Buf h' l' 2 88 (eV (dins d s i)) → Upd h h' l l' → Q (.slice l'.a l'.n l'.c) h') : F66.T l s (i : Int) h Q := by
  unfold F66.T F66.G
  refine find_r B D hl (fun d1 j d2 e => ⟨_, true, ⟨fun _ => ⟨rfl, ?_⟩, fun h => (by cases h)⟩⟩) (fun d1 d2 e g1 g2 => ⟨_, false, ⟨fun h => (by cases h), fun _ => ⟨rfl, ?_⟩⟩⟩)
  · subst e
    obtain ⟨b, ha, hr, _, _, hw, hu⟩ := e_at B
    refine ⟨b, 0, ha, hr, hw, hQ _ l ?_ (hu i).1⟩
    rw [dins_hit D]
    exact (hu i).2
  · subst e
    have hn := e_n B
    rw [List.length_append] at hn hl
    refine append_buf B rfl rfl (by omega) fun l1 h2 B2 hn2 U2 => ?_
    have hcap := B2.cap
    have hi1 : IntKind.wrap .i64 ((d1.length : Int) + 1) = ((d1.length + 1 : Nat) : Int) := inc_i (n := 2000000000) (by omega) (by omega)
    rw [hi1]
    refine ⟨⟨by omega, by omega, by omega, by omega⟩, ⟨by omega, by omega, by omega, by omega⟩, ?_⟩
    rw [cut_n, cut_n]
    have hmin : Nat.min (l1.n - d1.length) (l1.n - (d1.length + 1)) = d2.length := by
      show min _ _ = _
      rw [Nat.min_eq_right (by omega)]; omega
    rw [hmin]
    have h0l : 0 < (eV (d1 ++ d2) ++ [Value.string ⟨#[]⟩, .int .i64 0]).length := by simp
    obtain ⟨b, ha, hat⟩ := buf_get B2 h0l
    have fin : ∀ (h3 : Hp) (p0 p1 : Value), Buf h3 l1 2 88 (eV d1 ++ ([p0, p1] ++ eV d2)) → Upd h h3 l l1 → ∃ b2 o1, (l1.a : Option Addr) = some ⟨b2, o1, none⟩ ∧ ((0 : Int) ≤ (d1.length : Int) ∧ (d1.length : Int) < (l1.n : Int)) ∧ h3.canW b2 (o1 + (d1.length : Int).toNat * 2) 2 ∧ Q (.slice l1.a l1.n l1.c) (h3.wr b2 (o1 + (d1.length : Int).toNat * 2) [.string s, .int .i64 (i : Int)]) := fun h3 p0 p1 B3 U3 => by
      obtain ⟨b3, ha3, hw3, U4, B4⟩ := buf_wrL B3 (V := [.string s, .int .i64 (i : Int)]) rfl (by simp)
      have e0 : 0 + (d1.length : Int).toNat * 2 = (eV d1).length := by rw [eV_len]; omega
      rw [← e0] at hw3 U4 B4
      refine ⟨b3, 0, ha3, ⟨by omega, by omega⟩, hw3, hQ _ l1 ?_ (U3.trans U4)⟩
      rw [dins_miss g1 g2, eV_app, eV_cons]
      exact B4
    refine ⟨eV d2, ?_, eV_one d2, ?_⟩
    · refine ⟨by rw [eV_len], .inr ⟨b, 0 + d1.length * 2, cut_add ha (by omega), fun j hj => ?_⟩⟩
      rw [hat _ (by simp [eV_len]; omega), eV_app, List.append_assoc, show 0 + d1.length * 2 + j = (eV d1).length + j by rw [eV_len]; omega, List.getElem?_append_right (Nat.le_add_right _ _), Nat.add_sub_cancel_left, List.getElem?_append_left (by rw [eV_len]; exact hj)]
    · rcases d2 with _ | ⟨x, d2⟩
      · refine ⟨.inl rfl, ?_⟩
        rw [show eV [] = [] from rfl, wrA_nil]
        refine fin h2 (.string ⟨#[]⟩) (.int .i64 0) ?_ U2
        have e0 : eV ([] : Dir) = [] := rfl
        rw [e0]
        simpa using B2
      · rw [List.length_cons] at hn
        have hadd : (Sl.cut l1 2 ((d1.length + 1 : Nat) : Int) (l1.n : Int) (l1.c : Int)).a = some ⟨b, 0 + (d1.length + 1) * 2, none⟩ := cut_add ha (by omega)
        rw [hadd]
        obtain ⟨V2, hV2⟩ : ∃ V2, eV (x :: d2) ++ [Value.string ⟨#[]⟩, .int .i64 0] = [Value.string x.1, .int .i64 (x.2 : Int)] ++ V2 ∧ V2.length = (eV (x :: d2)).length := ⟨eV d2 ++ [Value.string ⟨#[]⟩, .int .i64 0], by rw [eV_cons]; rfl, by rw [eV_cons]; simp⟩
        have B2' : Buf h2 l1 2 88 ((eV d1 ++ [Value.string x.1, .int .i64 (x.2 : Int)]) ++ (V2 ++ [])) := by
          rw [List.append_nil, List.append_assoc, ← hV2.1, ← List.append_assoc, ← eV_app]
          exact B2
        obtain ⟨b3, ha3, hw3, U4, B4⟩ := buf_wrL B2' (V := eV (x :: d2)) hV2.2 (by simp [eV_cons])
        rw [ha] at ha3; cases ha3
        have e1 : (eV d1 ++ [Value.string x.1, .int .i64 (x.2 : Int)]).length = 0 + (d1.length + 1) * 2 := by simp [eV_len]; omega
        rw [e1] at hw3 U4 B4
        refine ⟨.inr ⟨b, _, rfl, hw3⟩, ?_⟩
        show ∃ b2 o1, _ ∧ _ ∧ (h2.wr b (0 + (d1.length + 1) * 2) (eV (x :: d2))).canW _ _ _ ∧ _
        refine fin _ (.string x.1) (.int .i64 (x.2 : Int)) ?_ (U2.trans U4)
        simpa using B4
theorem without_r (B : Buf h l 2 88 (eV d)) (D : DSrt d) (hl : d.length ≤ 1000000000) (hQ : ∀ h' l', Buf h' l' 2 88 (eV (ddel d s)) → Upd h h' l l' → Q (.slice l'.a l'.n l'.c) h') : F71.T l s h Q := by
  unfold F71.T F71.G
  refine find_r B D hl (fun d1 j d2 e => ⟨_, true, ⟨fun _ => ⟨rfl, ?_⟩, fun h => (by cases h)⟩⟩) (fun d1 d2 e g1 g2 => ⟨_, false, ⟨fun h => (by cases h), fun _ => ⟨rfl, ?_⟩⟩⟩)
  · subst e
    have hn := e_n B
    rw [List.length_append, List.length_cons] at hn hl
    have hcap := B.cap
    have hi1 : IntKind.wrap .i64 ((d1.length : Int) + 1) = ((d1.length + 1 : Nat) : Int) := inc_i (n := 2000000000) (by omega) (by omega)
    have hi2 : IntKind.wrap .i64 ((l.n : Int) - 1) = ((d1.length + d2.length : Nat) : Int) := by rw [wrap_i64 (by omega) (by omega)]; omega
    rw [hi1, hi2]
    refine ⟨⟨by omega, by omega, by omega, by omega⟩, ⟨by omega, by omega, by omega, by omega⟩, ?_⟩
    rw [cut_n, cut_n]
    have hmin : Nat.min (l.n - (d1.length + 1)) (l.n - d1.length) = d2.length := by
      show min _ _ = _
      rw [Nat.min_eq_left (by omega)]; omega
    rw [hmin]
    have B' : Buf h l 2 88 (eV d1 ++ (Value.string s :: .int .i64 (j : Int) :: eV d2)) := by rw [eV_app, eV_cons] at B; exact B
    obtain ⟨b, ha, hat⟩ := buf_get B' (by simp only [List.length_append, List.length_cons]; omega)
    have hadd : (Sl.cut l 2 (d1.length : Int) (l.n : Int) (l.c : Int)).a = some ⟨b, 0 + d1.length * 2, none⟩ := cut_add ha (by omega)
    rw [hadd]
    have fin : ∀ (h3 : Hp) (ws : List Value), Buf h3 l 2 88 (eV (d1 ++ d2) ++ ws) → Upd h h3 l l → Q (.slice (Sl.cut l 2 0 ((d1.length + d2.length : Nat) : Int) (l.c : Int)).a (Sl.cut l 2 0 ((d1.length + d2.length : Nat) : Int) (l.c : Int)).n (Sl.cut l 2 0 ((d1.length + d2.length : Nat) : Int) (l.c : Int)).c) h3 := fun h3 ws B3 U3 => by
      refine hQ h3 _ (buf_cutS B3 (by omega) ?_) ⟨U3.keep, .inl (cut_a _ _ _), U3.dom⟩
      rw [ddel_hit D, List.take_left' (by rw [eV_len, List.length_append])]
    refine ⟨eV d2, ?_, eV_one d2, ?_⟩
    · refine ⟨by rw [eV_len], ?_⟩
      by_cases h0 : d2.length * 2 = 0
      · exact .inl h0
      · refine .inr ⟨b, 0 + (d1.length + 1) * 2, cut_add ha (by omega), fun k hk => ?_⟩
        rw [hat _ (by simp [eV_len]; omega), show 0 + (d1.length + 1) * 2 + k = (eV d1).length + (k + 1 + 1) by rw [eV_len]; omega, List.getElem?_append_right (Nat.le_add_right _ _), Nat.add_sub_cancel_left, List.getElem?_cons_succ, List.getElem?_cons_succ]
    · rcases d2 with _ | ⟨x, d2⟩
      · refine ⟨.inl rfl, ⟨by omega, by omega, by omega, by omega⟩, ?_⟩
        rw [show eV [] = [] from rfl, wrA_nil]
        refine fin h [Value.string s, .int .i64 (j : Int)] ?_ (Upd.refl _ _)
        rw [List.append_nil]; exact B'
      · obtain ⟨U1, ws, hU1, hUl⟩ : ∃ U1 ws, (Value.string s :: .int .i64 (j : Int) :: eV (x :: d2)) = U1 ++ ws ∧ U1.length = (eV (x :: d2)).length :=
          ⟨(Value.string s :: .int .i64 (j : Int) :: eV (x :: d2)).take (eV (x :: d2)).length, (Value.string s :: .int .i64 (j : Int) :: eV (x :: d2)).drop (eV (x :: d2)).length, (List.take_append_drop _ _).symm, by rw [List.length_take]; simp only [List.length_cons]; omega⟩
        rw [hU1] at B'
        obtain ⟨b3, ha3, hw3, U4, B4⟩ := buf_wrL B' (V := eV (x :: d2)) hUl (by simp [eV_cons])
        rw [ha] at ha3; cases ha3
        have e1 : (eV d1).length = 0 + d1.length * 2 := by rw [eV_len]; omega
        rw [e1] at hw3 U4 B4
        refine ⟨.inr ⟨b, _, rfl, hw3⟩, ⟨by omega, by omega, by omega, by omega⟩, ?_⟩
        show Q _ (h.wr b (0 + d1.length * 2) (eV (x :: d2)))
        refine fin _ ws ?_ U4
        rw [eV_app, List.append_assoc]
        exact B4
  · subst e
    refine hQ h l ?_ (Upd.refl _ _)
    rw [ddel_miss (miss_none g1 g2)]
    exact B
theorem twin_r (B : Buf h l 2 88 (eV d)) (hl : d.length ≤ 1000000000) (hQ : ∀ h' l', Keep h h' → Buf h' l' 2 88 (eV d) → NewN h l' → Q (.slice l'.a l'.n l'.c) h') : F61.T l h Q := by
  have hn := e_n B
  refine ⟨eV d, B.row, eV_one d, append_buf (Buf.nil _ _ _) rfl (by rw [eV_len, hn]) (by dsimp only; omega) fun l' h' B' _ U' => ?_⟩
  obtain ⟨K, N⟩ := NewN.upd (Keep.refl h) (NewN.nil h) U'
  exact hQ h' l' K (by simpa using B') N
end
end Go.Eng.Ytekflkpnpibneaa
end
section

/-
  SPECS OF THE DISK, 9: the document's disk in memory; what begins a call; falls; names.
-/
set_option linter.unusedSimpArgs false
set_option linter.unusedVariables false
set_option maxRecDepth 100000
namespace Go.Eng.Ytekflkpnpibneaa
structure RB where
  db : Nat
  fs : Sl
  nw : Sl
  sr : Sl
  cs : Sl
  X : List FX
def pV (X : List FX) : List Value := X.map fun x => .pointer (some ⟨x.b, 0, none⟩)
def ccell (c : Cg) : List Value := [.int .i64 (c.kind + 1), .string c.nm, .string c.to, .int .i64 (if c.kind = 0 then (c.id : Int) else 0)]
def cV (l : List Cg) : List Value := l.flatMap ccell
theorem cV_len (l : List Cg) : (cV l).length = l.length * 4 := by
  unfold cV
  induction l with
  | nil => rfl
  | cons c l ih => rw [List.flatMap_cons, List.length_append, ih, List.length_cons]; show 4 + _ = _; omega
def RB.cells (B : RB) (S : Dk) : List Value := [.int .i64 S.room, .slice B.fs.a B.fs.n B.fs.c, .slice B.nw.a B.nw.n B.nw.c, .slice B.sr.a B.sr.n B.sr.c, .slice B.cs.a B.cs.n B.cs.c, .int .i64 S.left, .int .i64 S.well, .int .i64 S.fails, .int .i64 S.part, .bool S.down]
/-- The document's disk. -/
structure RD (h : Hp) (B : RB) (S : Dk) : Prop where
  dsk : h B.db = some (.cells ⟨[.int .i64 S.room, .slice B.fs.a B.fs.n B.fs.c, .slice B.nw.a B.nw.n B.nw.c, .slice B.sr.a B.sr.n B.sr.c, .slice B.cs.a B.cs.n B.cs.c, .int .i64 S.left, .int .i64 S.well, .int .i64 S.fails, .int .i64 S.part, .bool S.down]⟩ 85 (0, 0))
  fs : Buf h B.fs 1 86 (pV B.X)
  nw : Buf h B.nw 2 88 (eV S.now)
  sr : Buf h B.sr 2 88 (eV S.sure)
  cs : Buf h B.cs 4 116 (cV S.chg)
  fl : B.X.map (·.f) = S.fl
  fx : Fls 90 h B.X
  dj : Off B.nw B.sr
def RB.own (B : RB) (k : Nat) : Prop := k = B.db ∨ inS B.fs k ∨ inS B.nw k ∨ inS B.sr k ∨ inS B.cs k ∨ ownX B.X k
section
variable {h h' h1 h2 : Hp} {B : RB} {S S' : Dk} {Q : Value → Hp → Prop} {s : ByteArray}
theorem RD.alive (R : RD h B S) {k : Nat} (hk : B.own k) : ∃ o, h k = some o := by
  rcases hk with rfl | hk | hk | hk | hk | hk
  · exact ⟨_, R.dsk⟩
  · obtain ⟨c, f, e⟩ := buf_alive R.fs hk; exact ⟨_, e⟩
  · obtain ⟨c, f, e⟩ := buf_alive R.nw hk; exact ⟨_, e⟩
  · obtain ⟨c, f, e⟩ := buf_alive R.sr hk; exact ⟨_, e⟩
  · obtain ⟨c, f, e⟩ := buf_alive R.cs hk; exact ⟨_, e⟩
  · obtain ⟨c, f, e, _⟩ := R.fx.alive hk; exact ⟨_, e⟩
theorem RD.mono (R : RD h B S) (m : ∀ k x, B.own k → h k = some x → h' k = some x) : RD h' B S :=
  ⟨m _ _ (.inl rfl) R.dsk, buf_mono R.fs fun k x hk e => m k x (.inr (.inl hk)) e, buf_mono R.nw fun k x hk e => m k x (.inr (.inr (.inl hk))) e, buf_mono R.sr fun k x hk e => m k x (.inr (.inr (.inr (.inl hk)))) e, buf_mono R.cs fun k x hk e => m k x (.inr (.inr (.inr (.inr (.inl hk))))) e, R.fl,
    R.fx.mono fun k x hk e => m k x (.inr (.inr (.inr (.inr (.inr hk))))) e, R.dj⟩
theorem RD.keep (R : RD h B S) (K : Keep h h') : RD h' B S := R.mono fun k x _ e => K k x e
theorem fls_ck {t : Nat} {κ : List Nat} {X : List FX} (F : Fls t h X) (C : Ck κ h h') (h5 : 7 ∉ κ) (ht : t + 2 ∉ κ) : Fls t h' X := F.mono fun k y hk e => C.keep k y e (by
  obtain ⟨c, u, e', hu⟩ := F.alive hk
  rw [e] at e'; cases e'
  rcases hu with hu | hu
  · show u.1 + 2 ∉ κ; rw [hu]; exact h5
  · show u.1 + 2 ∉ κ; rw [hu]; exact ht)
theorem RD.setNow (R : RD h B S) {nw' : Sl} {d' : Dir} (U : Upd h h1 B.nw nw') (Bn : Buf h1 nw' 2 88 (eV d')) : h1.canW B.db (0 + 2) 1 ∧ RD (h1.wr B.db (0 + 2) [.slice nw'.a nw'.n nw'.c]) { B with nw := nw' } { S with now := d' } ∧ Tr2 B.own (RB.own { B with nw := nw' }) h (h1.wr B.db (0 + 2) [.slice nw'.a nw'.n nw'.c]) := by
  have C1 : Ck [90] h h1 := Ck.of_upd R.nw U
  have hd1 := C1.keep _ _ R.dsk (by simp [kd])
  have C2 : Ck [87] h1 (h1.wr B.db (0 + 2) [.slice nw'.a nw'.n nw'.c]) := Ck.wr hd1
  have C : Ck [90, 87] h (h1.wr B.db (0 + 2) [.slice nw'.a nw'.n nw'.c]) := (C1.mono (by decide)).trans (C2.mono (by decide))
  refine ⟨canW_new hd1 (by simp), ⟨wr_cells hd1, C.buf (by decide) R.fs, C2.buf (by decide) Bn, C2.buf (by decide) (R.sr.upd U (offS R.dj)), C.buf (by decide) R.cs, R.fl, fls_ck R.fx C (by decide) (by decide), offS (off_upd U (offS R.dj) R.sr)⟩, ?_⟩
  refine (Tr2.upd (D := B.own) (D' := RB.own { B with nw := nw' }) U (fun k o e => .inr (.inr (.inl ⟨o, e⟩))) fun k d => ?_).trans (Tr2.one (one_wr hd1) (.inl rfl) fun k d => .inl d)
  rcases d with d | d | d | d | d | d
  · exact .inl (.inl d)
  · exact .inl (.inr (.inl d))
  · rcases upd_in U d with d | d
    · exact .inl (.inr (.inr (.inl d)))
    · exact .inr d
  · exact .inl (.inr (.inr (.inr (.inl d))))
  · exact .inl (.inr (.inr (.inr (.inr (.inl d)))))
  · exact .inl (.inr (.inr (.inr (.inr (.inr d)))))
/-- One file more. -/
theorem RD.addFile (R : RD h B S) {x : FX} {fs' : Sl} (K : Keep h h1) (hb : h1 x.b = some (.cells ⟨[.slice x.d.a x.d.n x.d.c, .int .i64 (x.f.sure : Int)]⟩ 90 (0, 0))) (Bd : Buf h1 x.d 1 5 (bl x.f.data)) (n1 : h x.b = none) (n2 : NewN h x.d) (U : Upd h1 h2 B.fs fs') (Bf : Buf h2 fs' 1 86 (pV (B.X ++ [x]))) :
    h2.canW B.db (0 + 1) 1 ∧ RD (h2.wr B.db (0 + 1) [.slice fs'.a fs'.n fs'.c]) { B with fs := fs', X := B.X ++ [x] } { S with fl := S.fl ++ [x.f] } ∧ Tr2 B.own (RB.own { B with fs := fs', X := B.X ++ [x] }) h (h2.wr B.db (0 + 1) [.slice fs'.a fs'.n fs'.c]) := by
  have R1 := R.keep K
  have C1 : Ck [88] h1 h2 := Ck.of_upd R1.fs U
  have hd1 := C1.keep _ _ R1.dsk (by simp [kd])
  have C2 : Ck [87] h2 (h2.wr B.db (0 + 1) [.slice fs'.a fs'.n fs'.c]) := Ck.wr hd1
  have C : Ck [88, 87] h1 (h2.wr B.db (0 + 1) [.slice fs'.a fs'.n fs'.c]) := (C1.mono (by decide)).trans (C2.mono (by decide))
  have F1 : Fls 90 h1 (B.X ++ [x]) := R1.fx.snoc hb Bd (fun ho => by obtain ⟨c, u, e, _⟩ := R.fx.alive ho; rw [n1] at e; cases e) fun k hk ho => by obtain ⟨c, u, e, _⟩ := R.fx.alive ho; rw [newN_in n2 hk] at e; cases e
  refine ⟨canW_new hd1 (by simp), ⟨wr_cells hd1, C2.buf (by decide) Bf, C.buf (by decide) R1.nw, C.buf (by decide) R1.sr, C.buf (by decide) R1.cs, by simp [R.fl], fls_ck F1 C (by decide) (by decide), R.dj⟩, ?_⟩
  have T : Tr2 B.own B.own h (h2.wr B.db (0 + 1) [.slice fs'.a fs'.n fs'.c]) := Tr2.keepTr K ((Tr2.upd (D := B.own) (D' := B.own) U (fun k o e => .inr (.inl ⟨o, e⟩)) fun k d => .inl d).trans (Tr2.one (D' := B.own) (one_wr hd1) (.inl rfl) fun k d => .inl d))
  refine ⟨T.keep, T.dom, fun k d => ?_⟩
  · rcases d with d | d | d | d | d | d
    · exact .inl (.inl d)
    · rcases upd_in U d with d | d
      · exact .inl (.inr (.inl d))
      · exact .inr (K.dom _ d)
    · exact .inl (.inr (.inr (.inl d)))
    · exact .inl (.inr (.inr (.inr (.inl d))))
    · exact .inl (.inr (.inr (.inr (.inr (.inl d)))))
    · rcases ownX_snoc d with d | rfl | d
      · exact .inl (.inr (.inr (.inr (.inr (.inr d)))))
      · exact .inr n1
      · exact .inr (newN_in n2 d)
theorem RD.file (R : RD h B S) {i : Nat} {x : FX} (hx : B.X[i]? = some x) : S.fl[i]? = some x.f := by rw [← R.fl, List.getElem?_map, hx]; rfl
theorem RD.xlen (R : RD h B S) : B.X.length = S.fl.length := by rw [← R.fl, List.length_map]
theorem xget (R : RD h B S) {i : Nat} (hi : i < S.fl.length) : ∃ x, B.X[i]? = some x ∧ ∃ b, B.fs.a = some ⟨b, 0, none⟩ ∧ ((0 : Int) ≤ (i : Int) ∧ (i : Int) < (B.fs.n : Int)) ∧ h.at b (0 + (i : Int).toNat) = some (.pointer (some ⟨x.b, 0, none⟩)) := by
  have hX : i < B.X.length := by rw [R.xlen]; exact hi
  have hl : (pV B.X).length = B.X.length := List.length_map _
  have hn : B.fs.n = B.X.length := by have := R.fs.len; rw [hl] at this; omega
  obtain ⟨b, ha, hat⟩ := buf_get R.fs (by omega)
  have hx : B.X[i]? = some B.X[i] := List.getElem?_eq_getElem hX
  refine ⟨_, hx, b, ha, ⟨by omega, by omega⟩, ?_⟩
  rw [Int.toNat_natCast, Nat.zero_add, hat _ (by omega)]
  unfold pV
  rw [List.getElem?_map, hx]; rfl
end
end Go.Eng.Ytekflkpnpibneaa
end
section

/-
  SPECS OF THE DISK, 10: what the document's calls do to its disk.
-/
set_option linter.unusedSimpArgs false
set_option linter.unusedVariables false
set_option maxRecDepth 100000
namespace Go.Eng.Ytekflkpnpibneaa
section
variable {h h' h1 h2 : Hp} {B : RB} {S S' : Dk} {Q : Value → Hp → Prop} {s : ByteArray}
end
end Go.Eng.Ytekflkpnpibneaa
end
section

/-
  SPECS OF THE DISK, 11: what the document's disk does with bytes, and what it tells.
-/
set_option linter.unusedSimpArgs false
set_option linter.unusedVariables false
set_option maxRecDepth 100000
namespace Go.Eng.Ytekflkpnpibneaa
section
variable {h h' h1 h2 : Hp} {B : RB} {S S' : Dk} {Q : Value → Hp → Prop} {s : ByteArray}
/-- A copy of bytes, by append. -/
theorem copy_row {l : Sl} {v : List UInt8} {n : Nat} {K : Sl → Hp → Prop} (hr : h.row l.a (n * 1) (bl v)) (hs : v.length ≤ 4294967296) (hK : ∀ h' r, Keep h h' → Buf h' r 1 5 (bl v) → NewN h r → r.n = n → K r h') :
    ∃ vs, h.row l.a (n * 1) vs ∧ (∀ v ∈ vs, Value.oneCell' v = true) ∧ appendD ⟨none, 0, 0⟩ 5 1 1 [.int .u8 0] n vs h K := by
  have hn : n = v.length := by have := hr.1; rw [bl_len] at this; omega
  refine ⟨bl v, hr, bl_one _, append_buf (Buf.nil _ _ _) rfl (by rw [bl_len]; omega) (by dsimp only; omega) fun r h' B' hn' U' => ?_⟩
  obtain ⟨K', N'⟩ := NewN.upd (Keep.refl h) (NewN.nil h) U'
  exact hK h' r K' (by simpa using B') N' (by dsimp only at hn'; omega)
/-- A list of files, and one more. -/
theorem fa_snoc {g : Hp} {r l3 r' : Sl} {L : List (Sl × FileR)} {f : FileR} (F : FA g h r L) (K : Keep g h) (Bd : Buf h l3 1 5 (bl f.data)) (N : NewN g l3) (o : ∀ x ∈ L, Off x.1 l3) (U : Upd h h' r r') (Bf : Buf h' r' 3 60 (fV L ++ fcell (l3, f))) : FA g h' r' (L ++ [(l3, f)]) ∧ Keep g h' := by
  have C := Ck.of_upd F.b U
  obtain ⟨K', N'⟩ := NewN.upd K F.n U
  refine ⟨⟨by rw [fV_app]; simpa [fV] using Bf, N', fun y hy => ?_, List.pairwise_append.2 ⟨F.dj, List.pairwise_singleton _ _, fun y hy z hz => by rw [List.mem_singleton.1 hz]; exact o y hy⟩⟩, K'⟩
  rcases List.mem_append.1 hy with hy | hy
  · exact ⟨C.buf (by decide) (F.d y hy).1, (F.d y hy).2⟩
  · rw [List.mem_singleton.1 hy]
    exact ⟨C.buf (by decide) Bd, N⟩
theorem FA.off {g : Hp} {r l3 : Sl} {L : List (Sl × FileR)} (F : FA g h r L) (N : NewN h l3) : ∀ x ∈ L, Off x.1 l3 := fun x hx => (N.off (F.d x hx).1).1
theorem files_r (R : RD h B S) (D : DOk S) (hQ : ∀ h' r L, Keep h h' → FA h h' r L → L.map (·.2) = dtold S S.now → Q (.slice r.a r.n r.c) h') : F15.T (some ⟨B.db, 0, none⟩) h Q := by
  have hl := D.len
  have hn := e_n R.nw
  refine ⟨fun l n h1 => ∃ d1 d2 L, S.now = d1 ++ d2 ∧ n = (d1.length : Int) ∧ Keep h h1 ∧ FA h h1 l L ∧ L.map (·.2) = dtold S d1, fun _ n _ => S.now.length - n.toNat, ⟨[], S.now, [], rfl, rfl, Keep.refl _, ⟨Buf.nil _ _ _, NewN.nil _, fun x hx => (by cases hx), List.Pairwise.nil⟩, rfl⟩, ?_⟩
  rintro l n h1 ⟨d1, d2, L, e, rfl, K1, F1, e1⟩
  have R1 := R.keep K1
  refine ⟨B.db, 0, rfl, B.nw, at_of R1.dsk 2, fun hlt => ?_, fun hge => ?_⟩
  · rcases d2 with _ | ⟨x, d2⟩
    · rw [hn, e] at hlt; exact absurd hlt (by simp)
    have Bn := R1.nw
    rw [e] at Bn
    obtain ⟨b, ha, hr, hs, hat, _⟩ := e_at Bn
    have hj := D.now.i x (by rw [e]; simp)
    obtain ⟨y, hy, b5, ha5, hr5, hat5⟩ := xget R1 hj
    have hb := R1.fx.fb y (List.mem_of_getElem? hy)
    have Bd := R1.fx.fd y (List.mem_of_getElem? hy)
    have hly := (D.fl y.f (List.mem_of_getElem? (R1.file hy))).1
    have hlen := congrArg List.length e
    rw [List.length_append, List.length_cons] at hlen
    have hL : L.length = d1.length := by have := congrArg List.length e1; unfold dtold at this; simpa using this
    have hfl := F1.len
    refine ⟨B.db, 0, rfl, B.fs, at_of R1.dsk 1, B.db, 0, rfl, B.nw, at_of R1.dsk 2, b, 0, ha, hr, (x.2 : Int), hat, b5, 0, ha5, hr5, _, hat5, B.db, 0, rfl, B.nw, at_of R1.dsk 2, b, 0, ha, hr, x.1, hs, y.b, 0, rfl, y.d, at_of hb 0, y.b, 0, rfl, _, at_of hb 1, copy_row Bd.row (by omega) fun h2 l6 K2 B2 N2 hl6 => ?_⟩
    refine ⟨at_of (K2 _ _ R1.dsk) 2, K2.at hs, at_of (K2 _ _ hb) 1, append_buf (F1.b.keep K2) rfl rfl (by omega) fun l7 h3 B3 hn3 U3 => ?_⟩
    have ht : fileR S x = ⟨x.1, y.f.data, y.f.sure⟩ := by unfold fileR; rw [R1.file hy]
    obtain ⟨F3, K3⟩ := fa_snoc (f := fileR S x) (l3 := l6) (F1.keep K2) (K1.trans K2) (by rw [ht]; exact B2) (N2.mono K1.dom) (F1.off N2) U3 (by rw [ht]; exact B3)
    rw [inc_i (n := 100000000) (by omega) (by omega)]
    exact ⟨⟨d1 ++ [x], d2, L ++ [(l6, fileR S x)], by rw [e]; simp, by simp, K3, F3, by unfold dtold at e1 ⊢; simp [e1]⟩, by dsimp only; omega⟩
  · have hd2 : d2 = [] := by
      rw [hn, e] at hge
      refine List.eq_nil_of_length_eq_zero ?_
      rw [List.length_append] at hge; omega
    subst hd2
    rw [List.append_nil] at e
    rw [← e] at e1
    exact hQ h1 l L K1 F1 e1
end
end Go.Eng.Ytekflkpnpibneaa
end
section

/-
  SPECS OF THE DISK, 12: what a fall leaves of the document's disk; the fall; a disk begins.
-/
set_option linter.unusedSimpArgs false
set_option linter.unusedVariables false
set_option maxRecDepth 100000
namespace Go.Eng.Ytekflkpnpibneaa
theorem cV_at : ∀ {l : List Cg} {k r : Nat} {c : Cg}, l[k]? = some c → r < 4 → (cV l)[k * 4 + r]? = (ccell c)[r]?
  | [], k, r, c, h, _ => by simp at h
  | x :: l, 0, r, c, h, hr => by
    simp only [List.getElem?_cons_zero, Option.some.injEq] at h
    subst h
    show (ccell x ++ cV l)[0 * 4 + r]? = _
    rw [List.getElem?_append_left (by show _ < 4; omega)]
    congr 1; omega
  | x :: l, k + 1, r, c, h, hr => by
    simp only [List.getElem?_cons_succ] at h
    show (ccell x ++ cV l)[(k + 1) * 4 + r]? = _
    rw [List.getElem?_append_right (by show 4 ≤ _; omega), ← cV_at h hr]
    congr 1
    show (k + 1) * 4 + r - 4 = _
    omega
section
variable {h h' h1 h2 : Hp} {B : RB} {S S' : Dk} {Q : Value → Hp → Prop} {s : ByteArray}
theorem rest_r {dir : Int} (R : RD h B S) (D : DOk S) (hcl : S.chg.length ≤ 1000000000) (hQ : ∀ h' l, Keep h h' → Buf h' l 2 88 (eV (drest S dir)) → NewN h l → Q (.slice l.a l.n l.c) h') : F46.T (some ⟨B.db, 0, none⟩) dir h Q := by
  have hsl : S.sure.length ≤ 8388608 := by have := D.pre 0; simpa using this
  have hcn : B.cs.n = S.chg.length := by have := R.cs.len; rw [cV_len] at this; omega
  unfold F46.T F46.G
  refine ⟨B.db, 0, rfl, B.sr, at_of R.dsk 3, twin_r R.sr (by omega) fun h1 l1 K1 B1 N1 => ⟨l1, rfl, ?_⟩⟩
  refine ⟨fun l2 n1 h2 => ∃ k : Nat, n1 = (k : Int) ∧ k ≤ S.chg.length ∧ k ≤ dir.toNat ∧ Keep h h2 ∧ Buf h2 l2 2 88 (eV ((S.chg.take k).foldl dlay S.sure)) ∧ NewN h l2, fun _ n1 _ => S.chg.length - n1.toNat, ⟨0, rfl, Nat.zero_le _, Nat.zero_le _, K1, B1, N1⟩, ?_⟩
  rintro l2 n1 h2 ⟨k, rfl, hk1, hk2, K2, B2, N2⟩
  have R2 := R.keep K2
  have Dk : DirOk S.fl.length ((S.chg.take k).foldl dlay S.sure) := DirOk.fold _ D.sure fun c hc => D.chg c (List.mem_of_mem_take hc)
  have hpre := D.pre k
  refine ⟨B.db, 0, rfl, B.cs, at_of R2.dsk 4, fun hlt => ⟨fun hdir => ?_, fun hdir => ?_⟩, fun hge => ?_⟩
  · have hkl : k < S.chg.length := by omega
    have hget : S.chg[k]? = some S.chg[k] := List.getElem?_eq_getElem hkl
    generalize S.chg[k] = c at hget
    have hlen : (cV S.chg).length = S.chg.length * 4 := cV_len _
    obtain ⟨b3, ha3, hat⟩ := buf_get R2.cs (by omega)
    have hat' : ∀ r, r < 4 → h2.at b3 ((0 + (k : Int).toNat * 4) + r) = (ccell c)[r]? := fun r hr => by
      rw [Int.toNat_natCast, Nat.zero_add, hat _ (by omega), cV_at hget hr]
    have hnth := Lays.nth D.lays hget
    have hfold : ∀ (d : Dir), d = dlay ((S.chg.take k).foldl dlay S.sure) c → d = (S.chg.take (k + 1)).foldl dlay S.sure := fun d e => by
      rw [List.take_add_one, hget, List.foldl_append]; exact e
    generalize (S.chg.take k).foldl dlay S.sure = d at B2 Dk hpre hnth hfold
    have hstep : ∀ h3 l3 d', Upd h2 h3 l2 l3 → Buf h3 l3 2 88 (eV d') → d' = dlay d c → (∃ k' : Nat, IntKind.wrap .i64 ((k : Int) + 1) = (k' : Int) ∧ k' ≤ S.chg.length ∧ k' ≤ dir.toNat ∧ Keep h h3 ∧ Buf h3 l3 2 88 (eV ((S.chg.take k').foldl dlay S.sure)) ∧ NewN h l3) ∧ S.chg.length - (IntKind.wrap .i64 ((k : Int) + 1)).toNat < S.chg.length - ((k : Int)).toNat := fun h3 l3 d' U3 B3 e3 => by
      rw [inc_i (n := 2000000000) (by omega) (by omega)]
      obtain ⟨K3, N3⟩ := NewN.upd K2 N2 U3
      exact ⟨⟨k + 1, rfl, by omega, by omega, K3, by rw [← hfold d' e3]; exact B3, N3⟩, by omega⟩
    refine ⟨B.db, 0, rfl, B.cs, at_of R2.dsk 4, b3, 0, ha3, ⟨by omega, hlt⟩, c.kind + 1, hat' 0 (by omega), c.nm, hat' 1 (by omega), c.to, hat' 2 (by omega), (if c.kind = 0 then (c.id : Int) else 0), hat' 3 (by omega), fun k1 => ?_, fun k1 => ⟨fun k2 => ?_, fun k2 => ⟨fun k3 => ?_, fun k3 => ?_⟩⟩⟩
    · have k0 : c.kind = 0 := by omega
      rw [if_pos k0]
      refine with_r B2 Dk.s (by omega) fun h3 l3 B3 U3 => ⟨l3, rfl, hstep h3 l3 _ U3 B3 ?_⟩
      unfold dlay; rw [if_pos k0]
    · have k0 : c.kind = 1 := by omega
      refine find_r B2 Dk.s (by omega) (fun d1 j d2 ed => ⟨_, true, ⟨fun _ => ⟨rfl, ?_⟩, fun h => (by cases h)⟩⟩) (fun d1 d2 ed g1 g2 => ⟨_, false, ⟨fun h => (by cases h), fun _ => ⟨rfl, ?_⟩⟩⟩)
      · have hg : dget d c.nm = some j := mem_dget Dk.s (by rw [ed]; simp)
        have Bn := B2
        rw [ed] at Bn
        obtain ⟨b, ha, hr, _, hat2, _⟩ := e_at Bn
        have hdel := ddel_len (d := d) c.nm
        refine ⟨b, 0, ha, hr, (j : Int), hat2, without_r B2 Dk.s (by omega) fun h3 l3 B3 U3 => ⟨l3, rfl, with_r B3 (ddel_srt Dk.s _) (by omega) fun h4 l4 B4 U4 => ⟨l4, rfl, hstep h4 l4 _ (U3.trans U4) B4 ?_⟩⟩⟩
        unfold dlay; rw [if_neg (by omega), if_pos k0, hg]
      · have hg : dget d c.nm = none := by rw [ed]; exact miss_none g1 g2
        exact hstep h2 l2 _ (Upd.refl _ _) B2 (by unfold dlay; rw [if_neg (by omega), if_pos k0, hg])
    · have k0 : c.kind = 2 := by omega
      refine without_r B2 Dk.s (by omega) fun h3 l3 B3 U3 => ⟨l3, rfl, hstep h3 l3 _ U3 B3 ?_⟩
      unfold dlay; rw [if_neg (by omega), if_neg (by omega)]
    · rcases hnth with e | e | e
      · omega
      · have := e.1; omega
      · omega
  · refine hQ h2 l2 K2 ?_ N2
    have : dir.toNat = k := by omega
    unfold drest
    rw [this]; exact B2
  · refine hQ h2 l2 K2 ?_ N2
    have : S.chg.take dir.toNat = S.chg.take k := by rw [List.take_of_length_le (by omega), List.take_of_length_le (by omega)]
    unfold drest
    rw [this]; exact B2
theorem image_r {dir : Int} {l : Sl} {keep : List Int} (R : RD h B S) (D : DOk S) (hcl : S.chg.length ≤ 1000000000) (hr : h.row l.a (l.n * 1) (keep.map fun k => Value.int .i64 k))
    (hQ : ∀ h' r L, Keep h h' → FA h h' r L → L.map (·.2) = kImage S dir keep → Q (.slice r.a r.n r.c) h') : F17.T (some ⟨B.db, 0, none⟩) dir l h Q := by
  have hln : l.n = keep.length := by have := hr.1; rw [List.length_map] at this; omega
  have hDs := D.rest dir
  have hDl : (drest S dir).length ≤ 8388608 := D.pre _
  unfold F17.T F17.G
  refine rest_r R D hcl fun h1 l1 K1 B1 N1 => ⟨l1, rfl, ?_⟩
  unfold kImage at hQ
  generalize drest S dir = d at B1 hDs hDl hQ
  have hn := e_n B1
  refine ⟨fun l2 n1 h2 => ∃ d1 d2 L, d = d1 ++ d2 ∧ n1 = (d1.length : Int) ∧ Keep h1 h2 ∧ FA h1 h2 l2 L ∧ L.map (·.2) = leftAll keep 0 (dtold S d1), fun _ n1 _ => d.length - n1.toNat, ⟨[], d, [], rfl, rfl, Keep.refl _, ⟨Buf.nil _ _ _, NewN.nil _, fun x hx => (by cases hx), List.Pairwise.nil⟩, rfl⟩, ?_⟩
  rintro l2 n1 h2 ⟨d1, d2, L, rfl, rfl, K2, F2, e2⟩
  have R2 := R.keep (K1.trans K2)
  have hL : L.length = d1.length := by have := congrArg List.length e2; rw [leftAll_len] at this; unfold dtold at this; simpa using this
  rw [List.length_append] at hn hDl
  refine ⟨fun hlt => ?_, fun hge => ?_⟩
  · rcases d2 with _ | ⟨x, d2⟩
    · exact absurd hlt (by simp at hn; omega)
    rw [List.length_cons] at hn hDl
    obtain ⟨b, ha, hrg, hs, hat, _⟩ := e_at (B1.keep K2)
    have hj := hDs.i x (by simp)
    obtain ⟨y, hy, b5, ha5, hr5, hat5⟩ := xget R2 hj
    have hb := R2.fx.fb y (List.mem_of_getElem? hy)
    have Bd := R2.fx.fd y (List.mem_of_getElem? hy)
    have hly := D.fl y.f (List.mem_of_getElem? (R2.file hy))
    have hyn : y.d.n = y.f.data.length := by have := Bd.len; rw [bl_len] at this; omega
    have ht : fileR S x = ⟨x.1, y.f.data, y.f.sure⟩ := by unfold fileR; rw [R2.file hy]
    have hle := leftOf_le (keep := keep) (i := d1.length) (f := fileR S x) (by rw [ht]; exact hly.2)
    have hge0 : (fileR S x).sure ≤ (leftOf keep d1.length (fileR S x)).sure := Nat.le_add_right _ _
    rw [ht] at hle hge0
    dsimp only at hle hge0
    refine ⟨B.db, 0, rfl, B.fs, at_of R2.dsk 1, b, 0, ha, hrg, (x.2 : Int), hat, b5, 0, ha5, hr5, _, hat5, fun n3 h3 => h3 = h2 ∧ (y.f.sure : Int) + n3 = ((leftOf keep d1.length ⟨x.1, y.f.data, y.f.sure⟩).sure : Int), ?_, ?_⟩
    · rintro n3 h3 ⟨rfl, hn3⟩
      refine ⟨y.b, 0, rfl, y.d, at_of hb 0, y.b, 0, rfl, _, at_of hb 1, ?_⟩
      rw [hn3, wrap_i64 (by omega) (by omega)]
      generalize hN : (leftOf keep d1.length ⟨x.1, y.f.data, y.f.sure⟩).sure = N at hle hge0
      obtain ⟨hc, vs, hrow, ho, rfl, hcn⟩ := take_row Bd (n := (N : Int)) (by omega) (by omega)
      rw [Int.toNat_natCast] at hrow hcn
      refine ⟨hc, copy_row hrow (by rw [List.length_take]; omega) fun h4 l5 K4 B4 N4 hl5 => ?_⟩
      rw [hcn] at hl5
      refine ⟨b, 0, ha, hrg, x.1, K4.at hs, append_buf (F2.b.keep K4) rfl rfl (by have := F2.len; omega) fun l6 h5 B5 hn5 U5 => ?_⟩
      have hlf : leftOf keep d1.length (fileR S x) = ⟨x.1, y.f.data.take N, N⟩ := by rw [ht, ← hN]; rfl
      have e5 : fcell (l5, ⟨x.1, y.f.data.take N, N⟩) = [.string x.1, .slice l5.a l5.n l5.c, .int .i64 (l5.n : Int)] := by unfold fcell; rw [hl5]
      obtain ⟨F5, K5⟩ := fa_snoc (f := leftOf keep d1.length (fileR S x)) (l3 := l5) (F2.keep K4) (K2.trans K4) (by rw [hlf]; exact B4) (N4.mono K2.dom) (F2.off N4) U5 (by rw [hlf, e5]; exact B5)
      rw [inc_i (n := 100000000) (by omega) (by omega)]
      refine ⟨⟨d1 ++ [x], d2, L ++ [(l5, leftOf keep d1.length (fileR S x))], by simp, by simp, K5, F5, ?_⟩, by simp only [List.length_append, List.length_cons]; omega⟩
      unfold dtold at e2 ⊢
      rw [List.map_append, List.map_append, List.map_cons, List.map_nil, List.map_cons, List.map_nil, leftAll_snoc, e2, Nat.zero_add, List.length_map]
    · refine ⟨fun hpos => ?_, fun hnp => ⟨rfl, ?_⟩⟩
      · have hml : d1.length % keep.length < keep.length := Nat.mod_lt _ (by omega)
        have htm : Int.tmod (d1.length : Int) (l.n : Int) = ((d1.length % keep.length : Nat) : Int) := by rw [hln]; rfl
        rw [htm]
        have hgk : keep[d1.length % keep.length]? = some keep[d1.length % keep.length] := List.getElem?_eq_getElem hml
        obtain ⟨b6, o6, ha6, hat6⟩ := row_get ((K1.trans K2).row hr) (i := d1.length % keep.length) (by omega)
        refine ⟨by omega, b6, o6, ha6, ⟨by omega, by omega⟩, keep[d1.length % keep.length], ?_, y.b, 0, rfl, y.d, at_of hb 0, y.b, 0, rfl, _, at_of hb 1, rfl, ?_⟩
        · rw [Int.toNat_natCast, hat6 _ (by omega), List.getElem?_map, hgk]; rfl
        · rw [wrap_i64 (by omega) (by omega), hyn]
          have hi0 : 0 ≤ iMin (iMax keep[d1.length % keep.length] 0) ((y.f.data.length : Int) - y.f.sure) := by
            have := iMax_0 keep[d1.length % keep.length]
            unfold iMin; split <;> omega
          have hL : (leftOf keep d1.length ⟨x.1, y.f.data, y.f.sure⟩).sure = y.f.sure + (iMin (iMax keep[d1.length % keep.length] 0) ((y.f.data.length : Int) - y.f.sure)).toNat := by
            unfold leftOf
            dsimp only
            rw [hgk]
          rw [hL]
          generalize iMin (iMax keep[d1.length % keep.length] 0) ((y.f.data.length : Int) - y.f.sure) = z at hi0 ⊢
          omega
      · unfold leftOf
        dsimp only
        rw [List.getElem?_eq_none (by omega)]
        dsimp only
        omega
  · have hd2 : d2 = [] := List.eq_nil_of_length_eq_zero (by omega)
    subst hd2
    rw [List.append_nil] at hQ
    exact hQ h2 l2 L (K1.trans K2) (F2.mono K1.dom) e2
end
end Go.Eng.Ytekflkpnpibneaa
end
section

/-
  SPECS OF THE DISK, 13: the document's fall; its disk begins.
-/
set_option linter.unusedSimpArgs false
set_option linter.unusedVariables false
set_option maxRecDepth 100000
namespace Go.Eng.Ytekflkpnpibneaa
section
variable {h h' h1 h2 : Hp} {B : RB} {S S' : Dk} {Q : Value → Hp → Prop} {s : ByteArray}
/-- A disk that is being begun. -/
def part (room : Int) (L : List RawF) : Dk := ⟨room, L.map fun f => ⟨f.data, f.sure.toNat⟩, putAll 0 [] (L.map RawF.f), [], [], 0, 0, 0, 0, false⟩
theorem new_r {room : Int} {l : Sl} {L : List (Sl × RawF)} (R : RA h l L) (hroom : room ≤ 9223372036854775807)
    (hQn : newOk room (L.map (·.2)) = false → ∀ h', Keep h h' → Q (.tuple ⟨[.pointer none, .int .i64 36]⟩) h')
    (hQs : newOk room (L.map (·.2)) = true → ∀ h' B', Keep h h' → (∀ k, B'.own k → h k = none) → RD h' B' (fresh room (L.map fun x => x.2.f)) → Q (.tuple ⟨[.pointer (some ⟨B'.db, 0, none⟩), .int .i64 0]⟩) h') : F41.T room l h Q := by
  have hln := R.len
  unfold F41.T F41.G
  refine ⟨fun hneg => hQn (by unfold newOk; rw [decide_eq_false (by omega)]; rfl) h (Keep.refl h), fun hpos => ⟨fun hbig => hQn (by unfold newOk; rw [List.length_map, decide_eq_false (by omega : ¬ (L.length : Int) ≤ 8388608)]; simp) h (Keep.refl h), fun hsm b hb => ?_⟩⟩
  have K0 := Keep.new hb (.cells ⟨[.int .i64 room, .slice none 0 0, .slice none 0 0, .slice none 0 0, .slice none 0 0, .int .i64 0, .int .i64 0, .int .i64 0, .int .i64 0, .bool false]⟩ 85 (0, 0))
  have hx0 := new_at h b (.cells ⟨[.int .i64 room, .slice none 0 0, .slice none 0 0, .slice none 0 0, .slice none 0 0, .int .i64 0, .int .i64 0, .int .i64 0, .int .i64 0, .bool false]⟩ 85 (0, 0))
  refine ⟨fun all i h1 => ∃ L1 L2 B, L = L1 ++ L2 ∧ i = (L1.length : Int) ∧ all = rawSum (L1.map (·.2)) ∧ all ≤ (L1.length : Int) * 2147483648 ∧ 0 ≤ all ∧ B.db = b ∧ RD h1 B (part room (L1.map (·.2))) ∧ (∀ k, B.own k → h k = none) ∧ DirOk L1.length (putAll 0 [] ((L1.map (·.2)).map RawF.f)) ∧
    rawOk 0 [] (L.map (·.2)) = rawOk L1.length (putAll 0 [] ((L1.map (·.2)).map RawF.f)) (L2.map (·.2)) ∧ Keep h h1, fun _ i _ => L.length - i.toNat,
    ⟨[], L, ⟨b, ⟨none, 0, 0⟩, ⟨none, 0, 0⟩, ⟨none, 0, 0⟩, ⟨none, 0, 0⟩, []⟩, rfl, rfl, rfl, Int.le_refl _, Int.le_refl _, rfl, ⟨hx0, Buf.nil _ _ _, Buf.nil _ _ _, Buf.nil _ _ _, Buf.nil _ _ _, rfl, ⟨fun x hx => (by cases hx), fun x hx => (by cases hx), fun i j x y hx => (by simp at hx)⟩, off_nil (.inl rfl)⟩, fun k hk => ?_, DirOk.nil _, rfl, K0⟩, ?_⟩
  · rcases hk with hk | hk | hk | hk | hk | hk
    · rw [show k = b from hk]; exact hb
    · exact (inS_nil k hk).elim
    · exact (inS_nil k hk).elim
    · exact (inS_nil k hk).elim
    · exact (inS_nil k hk).elim
    · obtain ⟨x, hx, _⟩ := hk; cases hx
  rintro all i h1 ⟨L1, L2, B, rfl, rfl, hall, hle, hall0, rfl, R1, hown, hDir, hraw, K1⟩
  rw [List.length_append] at hln
  have hdl : (putAll 0 [] ((L1.map (·.2)).map RawF.f)).length ≤ L1.length := by have := putAll_len ((L1.map (·.2)).map RawF.f) 0 []; simpa using this
  refine ⟨fun hlt => ?_, fun hge => ?_⟩
  · rcases L2 with _ | ⟨x, L2⟩
    · exact absurd hlt (by simp at hln; omega)
    rw [List.length_cons] at hln
    have hmx : x ∈ L1 ++ x :: L2 := by simp
    obtain ⟨b2, o, ha, hrg, g0, g1, g2⟩ := (R.keep K1).at
    have hxr := (R.keep K1).d x hmx
    have hxn : (x.1.n : Int) = (x.2.data.length : Int) := by have := hxr.1.1; rw [bl_len] at this; omega
    have bad : x.2.ok (putAll 0 [] ((L1.map (·.2)).map RawF.f)) = false → newOk room ((L1 ++ x :: L2).map (·.2)) = false := fun hx => by
      have : rawOk 0 [] ((L1 ++ x :: L2).map (·.2)) = false := by
        rw [hraw]
        show (x.2.ok _ && _) = false
        rw [hx]; rfl
      unfold newOk
      rw [this]; simp
    refine ⟨b2, o, ha, hrg, x.2.nm, g0, x.1, g1, x.2.sure, g2, name_doc ⟨nameOk x.2.nm, rfl, fun hnok => ?_, fun hnok => hQn (bad (by unfold RawF.ok; rw [hnok]; rfl)) h1 K1⟩⟩
    rw [hxn]
    refine ⟨fun h31 => hQn (bad (by unfold RawF.ok; rw [decide_eq_false (by omega : ¬ (x.2.data.length : Int) ≤ 2147483648)]; simp)) h1 K1, fun h31 => ⟨fun hs0 => hQn (bad (by unfold RawF.ok; rw [decide_eq_false (by omega : ¬ 0 ≤ x.2.sure)]; simp)) h1 K1, fun hs0 => ⟨fun hs1 => hQn (bad (by unfold RawF.ok; rw [decide_eq_false (by omega : ¬ x.2.sure ≤ (x.2.data.length : Int))]; simp)) h1 K1, fun hs1 => ?_⟩⟩⟩
    refine ⟨B.nw, at_of R1.dsk 2, find_r R1.nw hDir.s (by show (putAll 0 [] ((L1.map (·.2)).map RawF.f)).length ≤ _; omega) (fun d1 j d2 ed => ⟨_, true, ⟨fun _ => ⟨rfl, hQn (bad ?_) h1 K1⟩, fun h => (by cases h)⟩⟩) (fun d1 d2 ed q1 q2 => ⟨_, false, ⟨fun h => (by cases h), fun _ => ⟨rfl, ?_⟩⟩⟩)⟩
    · have hg : dget (putAll 0 [] ((L1.map (·.2)).map RawF.f)) x.2.nm = some j := mem_dget hDir.s (by have : (part room (L1.map (·.2))).now = putAll 0 [] ((L1.map (·.2)).map RawF.f) := rfl; rw [← this, ed]; simp)
      unfold RawF.ok; rw [hg]; simp
    · have hg : dget (putAll 0 [] ((L1.map (·.2)).map RawF.f)) x.2.nm = none := by have : (part room (L1.map (·.2))).now = putAll 0 [] ((L1.map (·.2)).map RawF.f) := rfl; rw [← this, ed]; exact miss_none q1 q2
      have hxok : x.2.ok (putAll 0 [] ((L1.map (·.2)).map RawF.f)) = true := by
        unfold RawF.ok
        rw [hnok, hg, decide_eq_true (by omega : (x.2.data.length : Int) ≤ 2147483648), decide_eq_true (by omega : 0 ≤ x.2.sure), decide_eq_true (by omega : x.2.sure ≤ (x.2.data.length : Int))]; rfl
      have hXl : B.X.length = L1.length := by have := R1.xlen; unfold part at this; simpa using this
      have hfn : B.fs.n = L1.length := by have := R1.fs.len; unfold pV at this; rw [List.length_map] at this; omega
      refine ⟨B.fs, at_of R1.dsk 1, copy_row hxr.1 (by omega) fun h3 l4 K3 B3 N3 hl4 => ⟨at_of (K3 _ _ R1.dsk) 1, at_of (K3 _ _ R1.dsk) 1, fun b4 hb4 => ?_⟩⟩
      have K4 := Keep.new hb4 (.cells ⟨[.slice l4.a l4.n l4.c, .int .i64 x.2.sure]⟩ 90 (0, 0))
      have hx4 := new_at h3 b4 (.cells ⟨[.slice l4.a l4.n l4.c, .int .i64 x.2.sure]⟩ 90 (0, 0))
      have hs0' : ((x.2.sure.toNat : Nat) : Int) = x.2.sure := by omega
      have K34 := K3.trans K4
      refine ⟨at_of (K4 _ _ (K3 _ _ R1.dsk)) 1, at_of (K4 _ _ (K3 _ _ R1.dsk)) 1, append_buf (R1.keep K34).fs rfl rfl (by omega) fun l5 h5 B5 hn5 U5 => ?_⟩
      obtain ⟨hw5, R5, T5⟩ := R1.addFile (x := ⟨b4, l4, ⟨x.2.data, x.2.sure.toNat⟩⟩) K34 (by dsimp only; rw [hs0']; exact hx4) (B3.keep K4) (K3.dom _ hb4) N3 U5 (by unfold pV at B5 ⊢; simpa using B5)
      refine ⟨hw5, B.nw, at_of R5.dsk 2, l5, at_of R5.dsk 1, ?_⟩
      have hi : IntKind.wrap .i64 ((l5.n : Int) - 1) = (L1.length : Int) := by rw [wrap_i64 (by omega) (by omega)]; omega
      rw [hi]
      refine with_r R5.nw hDir.s (by show (putAll 0 [] ((L1.map (·.2)).map RawF.f)).length ≤ _; omega) fun h6 l8 B6 U6 => ⟨l8, rfl, ?_⟩
      obtain ⟨hw6, R6, T6⟩ := R5.setNow U6 B6
      have T := T5.trans T6
      rw [inc_i (n := 100000000) (by omega) (by omega), wrap_i64 (n := all + (x.2.data.length : Int)) (by omega) (by omega)]
      have hput : putAll 0 [] (((L1 ++ [x]).map (·.2)).map RawF.f) = dins (putAll 0 [] ((L1.map (·.2)).map RawF.f)) x.2.nm L1.length := by
        rw [List.map_append, List.map_append, putAll_app, Nat.zero_add, List.length_map, List.length_map]; rfl
      refine ⟨hw6, ⟨L1 ++ [x], L2, { B with fs := l5, X := B.X ++ [⟨b4, l4, ⟨x.2.data, x.2.sure.toNat⟩⟩], nw := l8 }, by simp, by simp, by rw [List.map_append, rawSum_app, ← hall]; show _ = _ + ((x.2.data.length : Int) + 0); omega, by simp only [List.length_append, List.length_singleton]; omega, by omega, rfl, ?_, T.newer K1 hown, ?_, ?_, T.base K1 hown⟩, by simp only [List.length_append, List.length_cons]; omega⟩
      · have e : part room ((L1 ++ [x]).map (·.2)) = { (part room (L1.map (·.2))) with fl := (part room (L1.map (·.2))).fl ++ [⟨x.2.data, x.2.sure.toNat⟩], now := dins (part room (L1.map (·.2))).now x.2.nm L1.length } := by
          unfold part
          rw [hput]
          simp
        rw [e]
        exact R6
      · rw [hput, List.length_append]
        exact (hDir.mono (Nat.le_succ _)).ins (name_size hnok) (Nat.lt_succ_self _)
      · rw [hraw, hput]
        show (x.2.ok _ && rawOk _ _ _) = _
        rw [hxok, Bool.true_and, List.length_append]
        rfl
  · have hL2 : L2 = [] := List.eq_nil_of_length_eq_zero (by omega)
    subst hL2
    rw [List.append_nil] at hraw hQs hQn
    have hraw' : rawOk 0 [] (L1.map (·.2)) = true := hraw
    have hok : newOk room (L1.map (·.2)) = (decide (room = 0) || decide (all ≤ room)) := by
      unfold newOk
      rw [hraw', ← hall, List.length_map, decide_eq_true (by omega : 0 ≤ room), decide_eq_true (by simp at hln; omega : (L1.length : Int) ≤ 8388608)]
      rfl
    have hfresh : fresh room (L1.map fun x => x.2.f) = { (part room (L1.map (·.2))) with sure := putAll 0 [] ((L1.map (·.2)).map RawF.f) } := by
      unfold fresh part
      rw [List.map_map, List.map_map, List.map_map]; rfl
    have fin : newOk room (L1.map (·.2)) = true → ∃ l9 : Sl, h1.at B.db 2 = some (.slice l9.a l9.n l9.c) ∧ F61.T l9 h1 fun r3 h7 => ∃ l10 : Sl, r3 = .slice l10.a l10.n l10.c ∧ h7.canW B.db 3 1 ∧ Q (.tuple ⟨[.pointer (some ⟨B.db, 0, none⟩), .int .i64 0]⟩) (h7.wr B.db 3 [.slice l10.a l10.n l10.c]) := fun hk => by
      refine ⟨B.nw, at_of R1.dsk 2, twin_r R1.nw (by show (putAll 0 [] ((L1.map (·.2)).map RawF.f)).length ≤ _; omega) fun h7 sr K7 B7 N7 => ⟨sr, rfl, ?_⟩⟩
      have R7 := R1.keep K7
      have g1 := wr_cells (o := 3) (vs := [.slice sr.a sr.n sr.c]) R7.dsk
      have O := one_wr (o := 3) (vs := [.slice sr.a sr.n sr.c]) R7.dsk
      have C := O.ck R7.dsk
      refine ⟨canW_new R7.dsk (by simp), hQs hk _ { B with sr := sr } ((K1.trans K7).one O (hown _ (.inl rfl))) (fun k d => ?_) ?_⟩
      · rcases d with d | d | d | d | d | d
        · exact hown k (.inl d)
        · exact hown k (.inr (.inl d))
        · exact hown k (.inr (.inr (.inl d)))
        · exact K1.dom _ (newN_in N7 d)
        · exact hown k (.inr (.inr (.inr (.inr (.inl d)))))
        · exact hown k (.inr (.inr (.inr (.inr (.inr d)))))
      · rw [hfresh]
        exact ⟨g1, C.buf (by simp [kd]) R7.fs, C.buf (by simp [kd]) R7.nw, C.buf (by simp [kd]) B7, C.buf (by simp [kd]) R7.cs, R7.fl, fls_ck R7.fx C (by simp [kd]) (by simp [kd]), (N7.off R1.nw).1⟩
    refine ⟨fun hr0 => fin (by rw [hok, decide_eq_true hr0]; rfl), fun hr0 => ⟨fun hov => hQn (by rw [hok, decide_eq_false hr0, decide_eq_false (by omega : ¬ all ≤ room)]; rfl) h1 K1, fun hfit => fin (by rw [hok, decide_eq_true (by omega : all ≤ room), Bool.or_true])⟩⟩
end
end Go.Eng.Ytekflkpnpibneaa
end
section

/-
  SPECS OF THE DISK, 14: the bench's own: lists of files compared, copied, counted; both disks.
-/
set_option linter.unusedSimpArgs false
set_option linter.unusedVariables false
set_option maxRecDepth 100000
namespace Go.Eng.Ytekflkpnpibneaa
def ba (v : List UInt8) : ByteArray := ⟨⟨v⟩⟩
theorem bytesV_ba (v : List UInt8) : bytesV (ba v) = bl v := rfl
section
variable {h h' h1 h2 : Hp} {Q : Value → Hp → Prop}
theorem sameB {l l1 : Sl} {v : List UInt8} (h1 : h.row l.a l.n (bl v)) (h2 : h.row l1.a l1.n (bl v)) (hQ : Q (.bool true) h) : F42.T l l1 h Q :=
  ⟨ba v, by rw [bytesV_ba]; exact h1, ba v, by rw [bytesV_ba]; exact h2, fun _ => hQ, fun hne => absurd rfl hne⟩
theorem row1 {l : Sl} {vs : List Value} (B : h.row l.a (l.n * 1) vs) : h.row l.a l.n vs := by rwa [Nat.mul_one] at B
theorem sameF {g g' : Hp} {r r' : Sl} {L L' : List (Sl × FileR)} (F : FA g h r L) (F' : FA g' h r' L') (e : L.map (·.2) = L'.map (·.2)) (hQ : Q (.bool true) h) (hl : L.length ≤ 100000000) : F13.T r r' h Q := by
  have hn := F.len
  have hn' := F'.len
  have hll : L.length = L'.length := by have := congrArg List.length e; simpa using this
  unfold F13.T F13.G
  refine ⟨fun _ => ⟨fun n g1 => g1 = h ∧ ∃ L1 L2 M1 M2, L = L1 ++ L2 ∧ L' = M1 ++ M2 ∧ n = (L1.length : Int) ∧ L1.length = M1.length ∧ L2.map (·.2) = M2.map (·.2), fun n _ => L.length - n.toNat, ⟨rfl, [], L, [], L', rfl, rfl, rfl, rfl, e⟩, ?_⟩, fun hne => absurd (by omega) hne⟩
  rintro n g1 ⟨rfl, L1, L2, M1, M2, rfl, rfl, rfl, hlm, e2⟩
  rw [List.length_append] at hn hll hl
  rw [List.length_append] at hn' hll
  refine ⟨fun hlt => ?_, fun _ => hQ⟩
  rcases L2 with _ | ⟨x, L2⟩
  · exact absurd hlt (by simp at hn; omega)
  rcases M2 with _ | ⟨y, M2⟩
  · simp at e2
  rw [List.map_cons, List.map_cons, List.cons.injEq] at e2
  obtain ⟨exy, e2⟩ := e2
  rw [List.length_cons] at hn hl
  obtain ⟨b, ha, hr, g0, k1, k2, _⟩ := rec_at F.b
  obtain ⟨b', ha', hr', g0', k1', k2', _⟩ := rec_at F'.b
  rw [← hlm] at hr' g0' k1' k2'
  refine ⟨b, 0, ha, hr, x.2.nm, g0, b', 0, ha', hr', y.2.nm, g0', fun _ => ⟨b, 0, ha, hr, _, k2, b', 0, ha', hr', _, k2', fun _ => ⟨b, 0, ha, hr, x.1, k1, b', 0, ha', hr', y.1, k1', ?_⟩, fun hne => absurd (by rw [exy]) hne⟩, fun hne => absurd (by rw [exy]) hne⟩
  refine sameB (v := x.2.data) (row1 (F.d x (by simp)).1.row) (by rw [exy]; exact row1 (F'.d y (by simp)).1.row) ⟨true, rfl, fun _ => ?_, fun h => (by cases h)⟩
  rw [inc_i (n := 200000000) (by omega) (by omega)]
  exact ⟨⟨rfl, L1 ++ [x], L2, M1 ++ [y], M2, by simp, by simp, by simp, by simp [hlm], e2⟩, by simp only [List.length_append, List.length_cons]; omega⟩
/-- A copy of files. -/
theorem copyF {l : Sl} {L : List (Sl × RawF)} (R : RA h l L) (hl : L.length * 48 ≤ 140737488355328) (hd : ∀ x ∈ L, x.2.data.length ≤ 4294967296) (hQ : ∀ h' l' L', Keep h h' → RA h' l' L' → L'.map (·.2) = L.map (·.2) → Q (.slice l'.a l'.n l'.c) h') : F40.T l h Q := by
  have hln := R.len
  refine ⟨fun l1 n h1 => ∃ L1 L2 M, L = L1 ++ L2 ∧ n = (L1.length : Int) ∧ Keep h h1 ∧ Buf h1 l1 3 60 (rV M) ∧ NewN h l1 ∧ (∀ x ∈ M, Buf h1 x.1 1 5 (bl x.2.data)) ∧ M.map (·.2) = L1.map (·.2), fun _ n _ => L.length - n.toNat, ⟨[], L, [], rfl, rfl, Keep.refl _, Buf.nil _ _ _, NewN.nil _, fun x hx => (by cases hx), rfl⟩, ?_⟩
  rintro l1 n h1 ⟨L1, L2, M, rfl, rfl, K1, BM, NM, dM, eM⟩
  rw [List.length_append] at hln hl
  have hMl : M.length = L1.length := by have := congrArg List.length eM; simpa using this
  have hMn : l1.n = M.length := by have := BM.len; rw [rV_len] at this; omega
  refine ⟨fun hlt => ?_, fun hge => ?_⟩
  · rcases L2 with _ | ⟨x, L2⟩
    · exact absurd hlt (by simp at hln; omega)
    rw [List.length_cons] at hln hl
    have hmx : x ∈ L1 ++ x :: L2 := by simp
    obtain ⟨b, o, ha, hrg, g0, g1, g2⟩ := (R.keep K1).at
    have hxr := (R.keep K1).d x hmx
    refine ⟨b, o, ha, hrg, x.2.nm, g0, b, o, ha, hrg, x.1, g1, b, o, ha, hrg, x.2.sure, g2, copy_row hxr.1 (hd x hmx) fun h2 l3 K2 B2 N2 hl3 => ⟨K2.at g0, K2.at g2, append_buf (BM.keep K2) rfl rfl (by omega) fun l4 h3 B3 hn3 U3 => ?_⟩⟩
    obtain ⟨K3, N3⟩ := NewN.upd (K1.trans K2) NM U3
    have C3 := Ck.of_upd (BM.keep K2) U3
    rw [inc_i (n := 4000000000000) (by omega) (by omega)]
    refine ⟨⟨L1 ++ [x], L2, M ++ [(l3, x.2)], by simp, by simp, K3, by unfold rV at B3 ⊢; simpa [rcell] using B3, N3, fun y hy => ?_, by simp [eM]⟩, by simp only [List.length_append, List.length_cons]; omega⟩
    rcases List.mem_append.1 hy with hy | hy
    · exact C3.buf (by decide) ((dM y hy).keep K2)
    · rw [List.mem_singleton.1 hy]; exact C3.buf (by decide) B2
  · have hL2 : L2 = [] := List.eq_nil_of_length_eq_zero (by omega)
    subst hL2
    rw [List.append_nil] at hQ
    refine hQ h1 l1 M K1 ⟨?_, fun x hx => ⟨(dM x hx).row, (dM x hx).cap, buf_nil (dM x hx)⟩⟩ eM
    exact BM.row
end
end Go.Eng.Ytekflkpnpibneaa
end
section

/-
  SPECS OF THE DISK, 15: one call of both disks.
-/
set_option linter.unusedSimpArgs false
set_option linter.unusedVariables false
set_option maxRecDepth 100000
namespace Go.Eng.Ytekflkpnpibneaa
/-- Both disks, new since g. -/
structure PR (g h : Hp) (pb : Nat) (A : PA) (B : RB) (S : Dk) : Prop where
  P : PD h A S
  R : RD h B S
  d : ∀ k, A.own k → ¬ B.own k
  pbe : h pb = some (.cells ⟨[.pointer (some ⟨A.db, 0, none⟩), .pointer (some ⟨B.db, 0, none⟩)]⟩ 32 (0, 0))
  np : ¬ A.own pb
  nr : ¬ B.own pb
  K : Keep g h
  na : ∀ k, A.own k → g k = none
  nb : ∀ k, B.own k → g k = none
  npb : g pb = none
structure OpP where
  kind : Int
  nm : ByteArray
  to : ByteArray
  data : List UInt8
  a : Int
  b : Int
  c : Int
  keep : List Int
def kStep (S : Dk) (o : OpP) : Dk :=
  if o.kind = 1 then (kCreate S o.nm).2 else if o.kind = 2 then (kAppend S o.nm o.data).2 else if o.kind = 3 then (kSync S o.nm).2 else if o.kind = 4 then (kRename S o.nm o.to).2 else if o.kind = 5 then (kDelete S o.nm).2 else
  if o.kind = 6 then (kSyncDir S).2 else if o.kind = 10 then kFall S o.a o.keep else if o.kind = 11 then kArm S o.a else if o.kind = 12 then kFail S o.a o.b o.c else S
section
variable {g h h' h1 h2 : Hp} {A A' : PA} {B : RB} {S S' : Dk} {Q : Value → Hp → Prop} {pb : Nat}
theorem PR.keep (X : PR g h pb A B S) (K : Keep h h') : PR g h' pb A B S := ⟨X.P.keep K, X.R.keep K, X.d, K _ _ X.pbe, X.np, X.nr, X.K.trans K, X.na, X.nb, X.npb⟩
end
end Go.Eng.Ytekflkpnpibneaa
end
section

/-
  SPECS OF THE DISK, 16: both disks begin; small scripts.
-/
set_option linter.unusedSimpArgs false
set_option linter.unusedVariables false
set_option maxRecDepth 100000
namespace Go.Eng.Ytekflkpnpibneaa
section
variable {h h' h1 h2 : Hp} {Q : Value → Hp → Prop}
theorem begin_s {room : Int} {l : Sl} {L : List (Sl × RawF)} (R : RA h l L) (hroom : room ≤ 9223372036854775807) (hnm : ∀ x ∈ L, x.2.nm.size ≤ 9223372036854775807) (hl : L.length * 48 ≤ 140737488355328) (hd : ∀ x ∈ L, x.2.data.length ≤ 4294967296)
    (hQn : newOk room (L.map (·.2)) = false → ∀ h', Keep h h' → Q (.tuple ⟨[.pointer none, .bool true]⟩) h')
    (hQs : newOk room (L.map (·.2)) = true → ∀ h' pb A B, PR h h' pb A B (fresh room (L.map fun x => x.2.f)) → Q (.tuple ⟨[.pointer (some ⟨pb, 0, none⟩), .bool true]⟩) h') : F12.T room l h Q := by
  unfold F12.T F12.G
  refine copyF R hl hd fun h1 l1 L' K1 R' eL => ⟨l1, rfl, ?_⟩
  have hnm' : ∀ x ∈ L', x.2.nm.size ≤ 9223372036854775807 := fun x hx => by
    have : x.2 ∈ L.map (·.2) := by rw [← eL]; exact List.mem_map_of_mem hx
    obtain ⟨y, hy, e⟩ := List.mem_map.1 this
    rw [← e]; exact hnm y hy
  have ef : (L'.map fun x => x.2.f) = L.map fun x => x.2.f := by
    have : ∀ M : List (Sl × RawF), (M.map fun x => x.2.f) = (M.map (·.2)).map RawF.f := fun M => by rw [List.map_map]; rfl
    rw [this, this, eL]
  refine new_p R' hroom hnm' (fun hno h2 K2 => ⟨none, 36, rfl, ?_⟩) (fun hyes h2 A K2 nA PA => ⟨_, 0, rfl, ?_⟩)
  · rw [eL] at hno
    refine new_r (R.keep (K1.trans K2)) hroom (fun _ h3 K3 => ⟨none, 36, rfl, fun h4 => h4 = h3, ?_, ?_⟩) (fun hyes => by rw [hno] at hyes; cases hyes)
    · rintro h4 rfl
      exact ⟨okPtr_none _ _, fun _ => hQn hno h4 (K1.trans (K2.trans K3)), fun hne => absurd rfl hne⟩
    · exact ⟨fun _ => ⟨okPtr_none _ _, fun _ => ⟨okPtr_none _ _, fun _ => ⟨fun _ => rfl, fun hne => absurd rfl hne⟩, fun hne => absurd rfl hne⟩, fun hne => absurd rfl hne⟩, fun hne => absurd rfl hne⟩
  · rw [eL] at hyes
    rw [ef] at PA
    refine new_r (R.keep (K1.trans K2)) hroom (fun hno => by rw [hno] at hyes; cases hyes) (fun _ h3 B K3 nB RB => ⟨_, 0, rfl, fun h4 => h4 = h3, ?_, ?_⟩)
    · rintro h4 rfl
      refine ⟨okPtr_none _ _, fun he => (by cases he), fun _ b hb => ?_⟩
      have K4 := Keep.new hb (.cells ⟨[.pointer (some ⟨A.db, 0, none⟩), .pointer (some ⟨B.db, 0, none⟩)]⟩ 32 (0, 0))
      have PA4 := (PA.keep K3)
      have K := K1.trans (K2.trans (K3.trans K4))
      refine hQs hyes _ b A B ⟨PA4.keep K4, RB.keep K4, fun k ha hb' => ?_, new_at _ _ _, fun ha => ?_, fun hb' => ?_, K, fun k ha => K1.dom k (nA k ha), fun k hb' => K1.dom k (K2.dom k (nB k hb')), K1.dom _ (K2.dom _ (K3.dom _ hb))⟩
      · obtain ⟨o, ho⟩ := PA.alive ha
        rw [nB k hb'] at ho; cases ho
      · obtain ⟨o, ho⟩ := PA4.alive ha
        rw [hb] at ho; cases ho
      · obtain ⟨o, ho⟩ := RB.alive hb'
        rw [hb] at ho; cases ho
    · exact ⟨fun _ => ⟨okPtr_none _ _, fun he => (by cases he), fun _ => ⟨okPtr_none _ _, fun he => (by cases he), fun _ => ⟨fun _ => rfl, fun hne => absurd rfl hne⟩⟩⟩, fun hne => absurd rfl hne⟩
/-! ### Scripts -/
structure OpR where
  d : Sl
  k : Sl
  o : OpP
def ocell (x : OpR) : List Value := [.int .i64 x.o.kind, .string x.o.nm, .string x.o.to, .slice x.d.a x.d.n x.d.c, .int .i64 x.o.a, .int .i64 x.o.b, .int .i64 x.o.c, .slice x.k.a x.k.n x.k.c]
def oV (l : List OpR) : List Value := l.flatMap ocell
theorem oV_len (l : List OpR) : (oV l).length = l.length * 8 := by
  unfold oV
  induction l with
  | nil => rfl
  | cons c l ih => rw [List.flatMap_cons, List.length_append, ih, List.length_cons]; show 8 + _ = _; omega
theorem oV_at : ∀ {l : List OpR} {k r : Nat} {c : OpR}, l[k]? = some c → r < 8 → (oV l)[k * 8 + r]? = (ocell c)[r]?
  | [], k, r, c, h, _ => by simp at h
  | x :: l, 0, r, c, h, hr => by
    simp only [List.getElem?_cons_zero, Option.some.injEq] at h
    subst h
    show (ocell x ++ oV l)[0 * 8 + r]? = _
    rw [List.getElem?_append_left (by show _ < 8; omega)]
    congr 1; omega
  | x :: l, k + 1, r, c, h, hr => by
    simp only [List.getElem?_cons_succ] at h
    show (ocell x ++ oV l)[(k + 1) * 8 + r]? = _
    rw [List.getElem?_append_right (by show 8 ≤ _; omega), ← oV_at h hr]
    congr 1
    show (k + 1) * 8 + r - 8 = _
    omega
/-- A script as a caller holds it. -/
structure OA (h : Hp) (l : Sl) (O : List OpR) : Prop where
  b : h.row l.a (l.n * 8) (oV O)
  d : ∀ x ∈ O, h.row x.d.a (x.d.n * 1) (bl x.o.data) ∧ x.d.n ≤ x.d.c ∧ h.row x.k.a (x.k.n * 1) (x.o.keep.map fun k => Value.int .i64 k)
  z : ∀ x ∈ O, x.o.nm.size ≤ 9223372036854775807 ∧ x.o.to.size ≤ 9223372036854775807 ∧ x.o.a ≤ 9223372036854775807 ∧ x.o.b ≤ 9223372036854775807 ∧ x.o.c ≤ 9223372036854775807 ∧ x.o.data.length ≤ 140737488355328 ∧ x.o.keep.length ≤ 140737488355328
theorem OA.len {l : Sl} {O : List OpR} (R : OA h l O) : l.n = O.length := by have := R.b.1; rw [oV_len] at this; omega
theorem OA.at {l : Sl} {O : List OpR} {k : Nat} {x : OpR} (R : OA h l O) (hk : O[k]? = some x) : ∃ b o, l.a = some ⟨b, o, none⟩ ∧ ((0 : Int) ≤ (k : Int) ∧ (k : Int) < (l.n : Int)) ∧ ∀ r, r < 8 → h.at b ((o + (k : Int).toNat * 8) + r) = (ocell x)[r]? := by
  have hl := R.len
  have hkl := (List.getElem?_eq_some_iff.1 hk).1
  obtain ⟨b, o, ha, hat⟩ := row_get R.b (i := k * 8) (by omega)
  refine ⟨b, o, ha, ⟨by omega, by omega⟩, fun r hr => ?_⟩
  rw [Int.toNat_natCast, Nat.add_assoc, hat _ (by omega), oV_at hk hr]
theorem small_s {l l1 : Sl} {L : List (Sl × RawF)} {O : List OpR} (R : RA h l L) (R1 : OA h l1 O) (hd : ∀ x ∈ L, x.2.data.length ≤ 140737488355328) (hLl : L.length ≤ 140737488355328) (hOl : O.length ≤ 140737488355328)
    (hF : Q (.bool false) h) (hT : (∀ x ∈ L, x.2.data.length ≤ 1048576) → (∀ x ∈ O, x.o.data.length ≤ 1048576 ∧ x.o.keep.length ≤ 1048576) → O.length ≤ 400 → Q (.bool true) h) : F11.T l l1 h Q := by
  have hln := R.len
  have hln1 := R1.len
  refine ⟨fun n n1 h1 => h1 = h ∧ ∃ L1 L2, L = L1 ++ L2 ∧ n1 = (L1.length : Int) ∧ 0 ≤ n ∧ n ≤ 1048576 ∧ ∀ x ∈ L1, x.2.data.length ≤ 1048576, fun _ n1 _ => L.length - n1.toNat, ⟨rfl, [], L, rfl, rfl, Int.le_refl _, by decide, fun x hx => (by cases hx)⟩, ?_⟩
  rintro n n1 h1 ⟨rfl, L1, L2, rfl, rfl, hn0, hn1, hs⟩
  rw [List.length_append] at hln hLl
  refine ⟨fun hlt => ?_, fun hge => ?_⟩
  · rcases L2 with _ | ⟨x, L2⟩
    · exact absurd hlt (by simp at hln; omega)
    rw [List.length_cons] at hln hLl
    have hmx : x ∈ L1 ++ x :: L2 := by simp
    obtain ⟨b, o, ha, hrg, g0, g1, g2⟩ := R.at
    have hxr := R.d x hmx
    have hxn : x.1.n = x.2.data.length := by have := hxr.1.1; rw [bl_len] at this; omega
    have hdx := hd x hmx
    refine ⟨b, o, ha, hrg, x.1, g1, ?_⟩
    rw [wrap_i64 (by omega) (by omega)]
    refine ⟨fun _ => hF, fun hle => ?_⟩
    rw [inc_i (n := 140737488355329) (by omega) (by omega)]
    refine ⟨⟨rfl, L1 ++ [x], L2, by simp, by simp, by omega, by omega, fun y hy => ?_⟩, by simp only [List.length_append, List.length_cons]; omega⟩
    rcases List.mem_append.1 hy with hy | hy
    · exact hs y hy
    · rw [List.mem_singleton.1 hy]; omega
  · have hL2 : L2 = [] := List.eq_nil_of_length_eq_zero (by omega)
    subst hL2
    rw [List.append_nil] at hT
    refine ⟨fun n2 n3 h2 => h2 = h1 ∧ ∃ k : Nat, n3 = (k : Int) ∧ k ≤ O.length ∧ 0 ≤ n2 ∧ n2 ≤ 1048576 ∧ ∀ j x, j < k → O[j]? = some x → x.o.data.length ≤ 1048576 ∧ x.o.keep.length ≤ 1048576, fun _ n3 _ => O.length - n3.toNat, ⟨rfl, 0, rfl, Nat.zero_le _, hn0, hn1, fun j x hj => by omega⟩, ?_⟩
    rintro n2 n3 h2 ⟨rfl, k, rfl, hk, hm0, hm1, hks⟩
    refine ⟨fun hlt => ?_, fun hge => ⟨fun h4 => hT hs (fun x hx => ?_) (by omega), fun _ => hF⟩⟩
    · have hget : O[k]? = some O[k] := List.getElem?_eq_getElem (by omega)
      generalize O[k] = x at hget
      obtain ⟨b, o, ha, hrg, hat⟩ := R1.at hget
      have hxd := R1.d x (List.mem_of_getElem? hget)
      have hxz := R1.z x (List.mem_of_getElem? hget)
      have e1 : x.d.n = x.o.data.length := by have := hxd.1.1; rw [bl_len] at this; omega
      have e2 : x.k.n = x.o.keep.length := by have := hxd.2.2.1; rw [List.length_map] at this; omega
      refine ⟨b, o, ha, hrg, x.d, hat 3 (by omega), b, o, ha, hrg, x.k, hat 7 (by omega), ?_⟩
      rw [wrap_i64 (n := n2 + (x.d.n : Int)) (by omega) (by omega), wrap_i64 (by omega) (by omega)]
      refine ⟨fun _ => hF, fun hle => ?_⟩
      rw [inc_i (n := 140737488355329) (by omega) (by omega)]
      refine ⟨⟨rfl, k + 1, rfl, by omega, by omega, by omega, fun j y hj hy => ?_⟩, by dsimp only; omega⟩
      by_cases hjk : j = k
      · subst hjk; rw [hget] at hy; cases hy; omega
      · exact hks j y (by omega) hy
    · obtain ⟨j, hj⟩ := List.mem_iff_getElem?.1 hx
      exact hks j x (by have := (List.getElem?_eq_some_iff.1 hj).1; omega) hj
end
end Go.Eng.Ytekflkpnpibneaa
end
