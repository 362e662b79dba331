/-
  SPECS, 17: edits brought to where they may be written.
-/
import Derived.Test.YtblghgacokoklaaS16
import Derived.Test.YtblghgacokoklaaM2
set_option linter.unusedSimpArgs false
set_option linter.unusedVariables false
namespace Go.Eng.Ytblghgacokoklaa
theorem ed_mid (P R : List EdS) (x : EdS) (j : Nat) (hj : j < 6) : (edV (P ++ x :: R))[P.length * 6 + j]? = (EdS.cells x)[j]? := by
  have e : edV (P ++ x :: R) = edV P ++ (EdS.cells x ++ edV R) := by simp [edV]
  rw [e, ← edV_len, app_get, List.getElem?_append_left (by show j < 6; exact hj)]
theorem Ws.at_ {h0 h : Hp} {l1 : Sl} {P R : List EdS} {x : EdS} (W : Ws h0 h l1 (P ++ x :: R)) : ∃ b o, l1.a = some ⟨b, o, none⟩ ∧ (P.length : Int) < (l1.n : Int) ∧ ∀ j, j < 6 → h.at b ((o + P.length * 6) + j) = (EdS.cells x)[j]? := by
  have hn := ed_n W.B
  rw [List.length_append, List.length_cons] at hn
  obtain ⟨b, o, ha, hat⟩ := row_get W.B.row (i := P.length * 6) (by omega)
  exact ⟨b, o, ha, by omega, fun j hj => by rw [Nat.add_assoc, hat _ (by omega), ed_mid P R x j hj]⟩
theorem buf_set2 {h : Hp} {s : Sl} {sz t j b : Nat} {A B : List Value} (Bf : Buf h s sz t (A ++ B)) (hj : j < B.length) (hb : s.a = some ⟨b, 0, none⟩) : h.at b (A.length + j) = B[j]? ∧ h.canW b (A.length + j) 1 ∧ ∀ v, Upd h (h.wr b (A.length + j) [v]) s s ∧ Buf (h.wr b (A.length + j) [v]) s sz t (A ++ B.set j v) := by
  obtain ⟨b', hb', h1, h2, h3⟩ := buf_set Bf (k := A.length + j) (by rw [List.length_append]; omega)
  rw [hb] at hb'
  simp only [Option.some.injEq, Addr.mk.injEq, and_true] at hb'
  subst hb'
  refine ⟨by rw [h1, app_get], h2, fun v => ?_⟩
  have := h3 v
  rw [app_set] at this
  exact this
theorem buf_b {h : Hp} {s : Sl} {sz t : Nat} {vs : List Value} (B : Buf h s sz t vs) (hk : 0 < vs.length) : ∃ b, s.a = some ⟨b, 0, none⟩ := by
  obtain ⟨b, hb, _⟩ := buf_set B hk
  exact ⟨b, hb⟩
theorem right_out {h0 h : Hp} {l1 : Sl} {P R : List EdS} {x : EdS} {Rx : Hp → Prop} (W : Ws h0 h l1 (P ++ x :: R)) (hp : PW (P ++ x :: R)) (hraw : ∀ p ∈ x.e.out, iI p.lv ∧ okU p.num) (hsz : x.e.out.length ≤ 10000)
    (hR : ∀ h' o, Ws h0 h' l1 (P ++ ⟨{ x.e with out := o }, x.a, x.b, x.c⟩ :: R) → o.length = x.e.out.length → (∀ p ∈ o, PGood p) → Rx h') :
    ∃ (I1 : Int → Hp → Prop) (m1 : Int → Hp → Nat), I1 0 h ∧ (∀ n1 : Int, ∀ h3 : Hp, I1 n1 h3 → ∃ b o, (l1.a : Option Addr) = some ⟨b, o, none⟩ ∧ ((0 : Int) ≤ (P.length : Int) ∧ (P.length : Int) < (l1.n : Int)) ∧ ∃ l2 : Sl, h3.at b ((o + (P.length : Int).toNat * 6) + 3) = some (.slice l2.a l2.n l2.c) ∧ par (n1 < (l2.n : Int)) (∃ b1 o1, (l1.a : Option Addr) = some ⟨b1, o1, none⟩ ∧ ((0 : Int) ≤ (P.length : Int) ∧ (P.length : Int) < (l1.n : Int)) ∧ ∃ l3 : Sl, h3.at b1 ((o1 + (P.length : Int).toNat * 6) + 3) = some (.slice l3.a l3.n l3.c) ∧ ∃ b2 o2, (l1.a : Option Addr) = some ⟨b2, o2, none⟩ ∧ ((0 : Int) ≤ (P.length : Int) ∧ (P.length : Int) < (l1.n : Int)) ∧ ∃ l4 : Sl, h3.at b2 ((o2 + (P.length : Int).toNat * 6) + 3) = some (.slice l4.a l4.n l4.c) ∧ ∃ b3 o3, (l4.a : Option Addr) = some ⟨b3, o3, none⟩ ∧ ((0 : Int) ≤ n1 ∧ n1 < (l4.n : Int)) ∧ ∃ n2 : Int, h3.at b3 (o3 + n1.toNat * 2) = some (.int .i64 n2) ∧ F19.T n2 5 h3 fun r1 h4 => ∃ n3 : Int, r1 = .int .i64 n3 ∧ h4.at b1 ((o1 + (P.length : Int).toNat * 6) + 3) = some (.slice l3.a l3.n l3.c) ∧ ∃ b4 o4, (l3.a : Option Addr) = some ⟨b4, o4, none⟩ ∧ ((0 : Int) ≤ n1 ∧ n1 < (l3.n : Int)) ∧ h4.canW b4 (o4 + n1.toNat * 2) 1 ∧ I1 (IntKind.wrap .i64 (n1 + 1)) (h4.wr b4 (o4 + n1.toNat * 2) [.int .i64 n3]) ∧ m1 (IntKind.wrap .i64 (n1 + 1)) (h4.wr b4 (o4 + n1.toNat * 2) [.int .i64 n3]) < m1 n1 h3) (Rx h3)) := by
  refine ⟨fun n1 h3 => ∃ G S : List Place, n1 = (G.length : Int) ∧ (G ++ S).length = x.e.out.length ∧ (∀ p ∈ G, PGood p) ∧ (∀ p ∈ S, iI p.lv ∧ okU p.num) ∧ Ws h0 h3 l1 (P ++ ⟨{ x.e with out := G ++ S }, x.a, x.b, x.c⟩ :: R), fun n1 _ => x.e.out.length - n1.toNat, ⟨[], x.e.out, rfl, rfl, fun p hp => (by cases hp), hraw, W⟩, ?_⟩
  rintro n1 h3 ⟨G, S, rfl, hlen, hG, hS, W1⟩
  obtain ⟨b, o, ha, hn, hat⟩ := W1.at_
  have hc := hat 3 (by decide)
  have hxa : x.a.n = (G ++ S).length := out_n W1.x.a
  rw [Int.toNat_natCast]
  refine ⟨b, o, ha, ⟨by omega, hn⟩, x.a, hc, fun hlt => ?_, fun hge => ?_⟩
  · rcases S with _ | ⟨p, S⟩
    · simp only [List.append_nil] at hxa; omega
    have hpr := hS p List.mem_cons_self
    have e0 : outV (G ++ p :: S) = outV G ++ (p.cells ++ outV S) := by simp [outV]
    have B0 : Buf h3 x.a 2 89 (outV G ++ (p.cells ++ outV S)) := by rw [← e0]; exact W1.x.a
    obtain ⟨b3, hb3⟩ := buf_b B0 (by rw [List.length_append, List.length_append]; show 0 < _ + (2 + _); omega)
    obtain ⟨s1, s2, s3⟩ := buf_set2 B0 (j := 0) (by rw [List.length_append]; show 0 < 2 + _; omega) hb3
    have hA : G.length * 2 = (outV G).length + 0 := by rw [outV_len]; rfl
    rw [Int.toNat_natCast, hA]
    rw [List.length_append, List.length_cons] at hlen
    refine ⟨b, o, ha, ⟨by omega, hn⟩, x.a, hc, b, o, ha, ⟨by omega, hn⟩, x.a, hc, b3, 0, hb3, ⟨by omega, hlt⟩, p.lv, by rw [Nat.zero_add]; exact s1, ?_⟩
    refine place_spec hpr.1 (by decide) fun r r0 r5 => ⟨r, rfl, hc, b3, 0, hb3, ⟨by omega, hlt⟩, ?_⟩
    have w3 : IntKind.wrap .i64 ((G.length : Int) + 1) = ((G.length + 1 : Nat) : Int) := by rw [wrap_i64 (by omega) (by omega)]; omega
    rw [w3, Nat.zero_add]
    have s4 := s3 (.int .i64 r)
    have e1 : outV G ++ (p.cells ++ outV S).set 0 (.int .i64 r) = outV ((G ++ [⟨r, p.num⟩]) ++ S) := by simp [outV, Place.cells]
    rw [e1] at s4
    refine ⟨s2, ⟨G ++ [⟨r, p.num⟩], S, by rw [List.length_append]; rfl, by simp only [List.length_append, List.length_cons, List.length_nil]; omega, fun q hq => ?_, fun q hq => hS q (List.mem_cons_of_mem _ hq), W1.setA (hp.swap rfl rfl rfl) s4.1 s4.2⟩, by dsimp only; omega⟩
    rcases List.mem_append.1 hq with hq | hq
    · exact hG q hq
    · rw [List.mem_singleton] at hq; subst hq
      exact ⟨r0, by show r ≤ 4; omega, hpr.2⟩
  · have hS0 : S = [] := by
      rw [List.length_append] at hxa
      exact List.eq_nil_of_length_eq_zero (by omega)
    subst hS0
    rw [List.append_nil] at W1 hlen
    exact hR h3 G W1 hlen hG
theorem max0 {n : Int} (h : iI n) : 0 ≤ iMax n 0 ∧ iMax n 0 ≤ 9223372036854775807 := by
  have h1 := h.1
  have h2 := h.2
  unfold iMax
  split <;> omega
theorem cut_str (s : ByteArray) : okSub s 0 (iMin (s.size : Int) 64) ∧ (s.extract (0 : Int).toNat ((iMin (s.size : Int) 64) : Int).toNat).size ≤ 64 := by
  have h1 : iMin (s.size : Int) 64 = ((min s.size 64 : Nat) : Int) := iMin_nat s.size 64
  rw [h1]
  refine ⟨⟨by decide, by omega, by omega⟩, ?_⟩
  rw [ByteArray.size_extract, Int.toNat_natCast]
  simp only [Int.toNat_zero]
  omega
theorem right_inn {h0 h : Hp} {l1 : Sl} {P R : List EdS} {x : EdS} {Rx : Hp → Prop} (W : Ws h0 h l1 (P ++ x :: R)) (hp : PW (P ++ x :: R)) (hraw : ∀ p ∈ x.e.inn, iI p.lv ∧ okU p.num ∧ iI p.weight ∧ iI p.bytes ∧ iI p.entries ∧ p.least.size ≤ 9223372036854775807 ∧ p.greatest.size ≤ 9223372036854775807) (hsz : x.e.inn.length ≤ 10000)
    (hR : ∀ h' o, Ws h0 h' l1 (P ++ ⟨{ x.e with inn := o }, x.a, x.b, x.c⟩ :: R) → o.length = x.e.inn.length → (∀ p ∈ o, DGood p) → Rx h') :
    ∃ (I2 : Int → Hp → Prop) (m2 : Int → Hp → Nat), I2 0 h ∧ (∀ n4 : Int, ∀ h5 : Hp, I2 n4 h5 → ∃ b5 o5, (l1.a : Option Addr) = some ⟨b5, o5, none⟩ ∧ ((0 : Int) ≤ (P.length : Int) ∧ (P.length : Int) < (l1.n : Int)) ∧ ∃ l5 : Sl, h5.at b5 ((o5 + (P.length : Int).toNat * 6) + 4) = some (.slice l5.a l5.n l5.c) ∧ par (n4 < (l5.n : Int)) (∃ b6 o6, (l1.a : Option Addr) = some ⟨b6, o6, none⟩ ∧ ((0 : Int) ≤ (P.length : Int) ∧ (P.length : Int) < (l1.n : Int)) ∧ ∃ l6 : Sl, h5.at b6 ((o6 + (P.length : Int).toNat * 6) + 4) = some (.slice l6.a l6.n l6.c) ∧ ∃ b7 o7, (l6.a : Option Addr) = some ⟨b7, o7, none⟩ ∧ ((0 : Int) ≤ n4 ∧ n4 < (l6.n : Int)) ∧ ∃ n5 : Int, h5.at b7 (o7 + n4.toNat * 7) = some (.int .i64 n5) ∧ F19.T n5 5 h5 fun r2 h6 => ∃ n6 : Int, r2 = .int .i64 n6 ∧ h6.canW b7 (o7 + n4.toNat * 7) 1 ∧ ∃ n7 : Int, (h6.wr b7 (o7 + n4.toNat * 7) [.int .i64 n6]).at b7 (((o7 + n4.toNat * 7) + 1) + 1) = some (.int .i64 n7) ∧ ∃ n8 : Int, (h6.wr b7 (o7 + n4.toNat * 7) [.int .i64 n6]).at b7 (((o7 + n4.toNat * 7) + 1) + 2) = some (.int .i64 n8) ∧ ∃ n9 : Int, (h6.wr b7 (o7 + n4.toNat * 7) [.int .i64 n6]).at b7 (((o7 + n4.toNat * 7) + 1) + 3) = some (.int .i64 n9) ∧ (h6.wr b7 (o7 + n4.toNat * 7) [.int .i64 n6]).canW b7 (((o7 + n4.toNat * 7) + 1) + 1) 1 ∧ ((h6.wr b7 (o7 + n4.toNat * 7) [.int .i64 n6]).wr b7 (((o7 + n4.toNat * 7) + 1) + 1) [.int .i64 (iMax n7 0)]).canW b7 (((o7 + n4.toNat * 7) + 1) + 2) 1 ∧ (((h6.wr b7 (o7 + n4.toNat * 7) [.int .i64 n6]).wr b7 (((o7 + n4.toNat * 7) + 1) + 1) [.int .i64 (iMax n7 0)]).wr b7 (((o7 + n4.toNat * 7) + 1) + 2) [.int .i64 (iMax n8 0)]).canW b7 (((o7 + n4.toNat * 7) + 1) + 3) 1 ∧ ∃ s : ByteArray, ((((h6.wr b7 (o7 + n4.toNat * 7) [.int .i64 n6]).wr b7 (((o7 + n4.toNat * 7) + 1) + 1) [.int .i64 (iMax n7 0)]).wr b7 (((o7 + n4.toNat * 7) + 1) + 2) [.int .i64 (iMax n8 0)]).wr b7 (((o7 + n4.toNat * 7) + 1) + 3) [.int .i64 (iMax n9 0)]).at b7 (((o7 + n4.toNat * 7) + 1) + 4) = some (.string s) ∧ ∃ s1 : ByteArray, ((((h6.wr b7 (o7 + n4.toNat * 7) [.int .i64 n6]).wr b7 (((o7 + n4.toNat * 7) + 1) + 1) [.int .i64 (iMax n7 0)]).wr b7 (((o7 + n4.toNat * 7) + 1) + 2) [.int .i64 (iMax n8 0)]).wr b7 (((o7 + n4.toNat * 7) + 1) + 3) [.int .i64 (iMax n9 0)]).at b7 (((o7 + n4.toNat * 7) + 1) + 4) = some (.string s1) ∧ okSub s 0 (iMin (s1.size : Int) 64) ∧ ((((h6.wr b7 (o7 + n4.toNat * 7) [.int .i64 n6]).wr b7 (((o7 + n4.toNat * 7) + 1) + 1) [.int .i64 (iMax n7 0)]).wr b7 (((o7 + n4.toNat * 7) + 1) + 2) [.int .i64 (iMax n8 0)]).wr b7 (((o7 + n4.toNat * 7) + 1) + 3) [.int .i64 (iMax n9 0)]).canW b7 (((o7 + n4.toNat * 7) + 1) + 4) 1 ∧ ∃ s2 : ByteArray, (((((h6.wr b7 (o7 + n4.toNat * 7) [.int .i64 n6]).wr b7 (((o7 + n4.toNat * 7) + 1) + 1) [.int .i64 (iMax n7 0)]).wr b7 (((o7 + n4.toNat * 7) + 1) + 2) [.int .i64 (iMax n8 0)]).wr b7 (((o7 + n4.toNat * 7) + 1) + 3) [.int .i64 (iMax n9 0)]).wr b7 (((o7 + n4.toNat * 7) + 1) + 4) [.string (s.extract (0 : Int).toNat ((iMin (s1.size : Int) 64) : Int).toNat)]).at b7 (((o7 + n4.toNat * 7) + 1) + 5) = some (.string s2) ∧ ∃ s3 : ByteArray, (((((h6.wr b7 (o7 + n4.toNat * 7) [.int .i64 n6]).wr b7 (((o7 + n4.toNat * 7) + 1) + 1) [.int .i64 (iMax n7 0)]).wr b7 (((o7 + n4.toNat * 7) + 1) + 2) [.int .i64 (iMax n8 0)]).wr b7 (((o7 + n4.toNat * 7) + 1) + 3) [.int .i64 (iMax n9 0)]).wr b7 (((o7 + n4.toNat * 7) + 1) + 4) [.string (s.extract (0 : Int).toNat ((iMin (s1.size : Int) 64) : Int).toNat)]).at b7 (((o7 + n4.toNat * 7) + 1) + 5) = some (.string s3) ∧ okSub s2 0 (iMin (s3.size : Int) 64) ∧ (((((h6.wr b7 (o7 + n4.toNat * 7) [.int .i64 n6]).wr b7 (((o7 + n4.toNat * 7) + 1) + 1) [.int .i64 (iMax n7 0)]).wr b7 (((o7 + n4.toNat * 7) + 1) + 2) [.int .i64 (iMax n8 0)]).wr b7 (((o7 + n4.toNat * 7) + 1) + 3) [.int .i64 (iMax n9 0)]).wr b7 (((o7 + n4.toNat * 7) + 1) + 4) [.string (s.extract (0 : Int).toNat ((iMin (s1.size : Int) 64) : Int).toNat)]).canW b7 (((o7 + n4.toNat * 7) + 1) + 5) 1 ∧ I2 (IntKind.wrap .i64 (n4 + 1)) ((((((h6.wr b7 (o7 + n4.toNat * 7) [.int .i64 n6]).wr b7 (((o7 + n4.toNat * 7) + 1) + 1) [.int .i64 (iMax n7 0)]).wr b7 (((o7 + n4.toNat * 7) + 1) + 2) [.int .i64 (iMax n8 0)]).wr b7 (((o7 + n4.toNat * 7) + 1) + 3) [.int .i64 (iMax n9 0)]).wr b7 (((o7 + n4.toNat * 7) + 1) + 4) [.string (s.extract (0 : Int).toNat ((iMin (s1.size : Int) 64) : Int).toNat)]).wr b7 (((o7 + n4.toNat * 7) + 1) + 5) [.string (s2.extract (0 : Int).toNat ((iMin (s3.size : Int) 64) : Int).toNat)]) ∧ m2 (IntKind.wrap .i64 (n4 + 1)) ((((((h6.wr b7 (o7 + n4.toNat * 7) [.int .i64 n6]).wr b7 (((o7 + n4.toNat * 7) + 1) + 1) [.int .i64 (iMax n7 0)]).wr b7 (((o7 + n4.toNat * 7) + 1) + 2) [.int .i64 (iMax n8 0)]).wr b7 (((o7 + n4.toNat * 7) + 1) + 3) [.int .i64 (iMax n9 0)]).wr b7 (((o7 + n4.toNat * 7) + 1) + 4) [.string (s.extract (0 : Int).toNat ((iMin (s1.size : Int) 64) : Int).toNat)]).wr b7 (((o7 + n4.toNat * 7) + 1) + 5) [.string (s2.extract (0 : Int).toNat ((iMin (s3.size : Int) 64) : Int).toNat)]) < m2 n4 h5) (Rx h5)) := by
  refine ⟨fun n1 h3 => ∃ G S : List Placed, n1 = (G.length : Int) ∧ (G ++ S).length = x.e.inn.length ∧ (∀ p ∈ G, DGood p) ∧ (∀ p ∈ S, iI p.lv ∧ okU p.num ∧ iI p.weight ∧ iI p.bytes ∧ iI p.entries ∧ p.least.size ≤ 9223372036854775807 ∧ p.greatest.size ≤ 9223372036854775807) ∧ Ws h0 h3 l1 (P ++ ⟨{ x.e with inn := G ++ S }, x.a, x.b, x.c⟩ :: R), fun n1 _ => x.e.inn.length - n1.toNat, ⟨[], x.e.inn, rfl, rfl, fun p hp => (by cases hp), hraw, W⟩, ?_⟩
  rintro n1 h3 ⟨G, S, rfl, hlen, hG, hS, W1⟩
  obtain ⟨b, o, ha, hn, hat⟩ := W1.at_
  have hc := hat 4 (by decide)
  have hxa : x.b.n = (G ++ S).length := in_n W1.x.b
  rw [Int.toNat_natCast]
  refine ⟨b, o, ha, ⟨by omega, hn⟩, x.b, hc, fun hlt => ?_, fun hge => ?_⟩
  · rcases S with _ | ⟨p, S⟩
    · simp only [List.append_nil] at hxa; omega
    have hpr := hS p List.mem_cons_self
    rw [List.length_append, List.length_cons] at hlen
    have e0 : inV (G ++ p :: S) = inV G ++ (.int .i64 p.lv :: .int .u64 p.num :: .int .i64 p.weight :: .int .i64 p.bytes :: .int .i64 p.entries :: .string p.least :: .string p.greatest :: inV S) := by simp [inV, Placed.cells]
    have B0 : Buf h3 x.b 7 87 (inV G ++ (.int .i64 p.lv :: .int .u64 p.num :: .int .i64 p.weight :: .int .i64 p.bytes :: .int .i64 p.entries :: .string p.least :: .string p.greatest :: inV S)) := by rw [← e0]; exact W1.x.b
    obtain ⟨b7, hb7⟩ := buf_b B0 (by simp only [List.length_append, List.length_cons]; omega)
    have hA : G.length * 7 = (inV G).length := by rw [inV_len]
    obtain ⟨q0, c0, z0⟩ := buf_set2 B0 (j := 0) (Nat.lt_of_lt_of_le (by decide : 0 < 7) (by simp)) hb7
    rw [Int.toNat_natCast, hA]
    refine ⟨b, o, ha, ⟨by omega, hn⟩, x.b, hc, b7, 0, hb7, ⟨by omega, hlt⟩, p.lv, by rw [Nat.zero_add]; exact q0, ?_⟩
    refine place_spec hpr.1 (by decide) fun r r0 r5 => ⟨r, rfl, ?_⟩
    have w3 : IntKind.wrap .i64 ((G.length : Int) + 1) = ((G.length + 1 : Nat) : Int) := by rw [wrap_i64 (by omega) (by omega)]; omega
    rw [w3, Nat.zero_add]
    have B1 := (z0 (.int .i64 r)).2
    simp only [List.set_cons_zero] at B1
    obtain ⟨q2, c2, z2⟩ := buf_set2 B1 (j := 2) (Nat.lt_of_lt_of_le (by decide : 2 < 7) (by simp)) hb7
    obtain ⟨q3, _, _⟩ := buf_set2 B1 (j := 3) (Nat.lt_of_lt_of_le (by decide : 3 < 7) (by simp)) hb7
    obtain ⟨q4, _, _⟩ := buf_set2 B1 (j := 4) (Nat.lt_of_lt_of_le (by decide : 4 < 7) (by simp)) hb7
    have B2 := (z2 (.int .i64 (iMax p.weight 0))).2
    simp only [List.set_cons_zero, List.set_cons_succ] at B2
    obtain ⟨_, c3, z3⟩ := buf_set2 B2 (j := 3) (Nat.lt_of_lt_of_le (by decide : 3 < 7) (by simp)) hb7
    have B3 := (z3 (.int .i64 (iMax p.bytes 0))).2
    simp only [List.set_cons_zero, List.set_cons_succ] at B3
    obtain ⟨_, c4, z4⟩ := buf_set2 B3 (j := 4) (Nat.lt_of_lt_of_le (by decide : 4 < 7) (by simp)) hb7
    have B4 := (z4 (.int .i64 (iMax p.entries 0))).2
    simp only [List.set_cons_zero, List.set_cons_succ] at B4
    obtain ⟨q5, c5, z5⟩ := buf_set2 B4 (j := 5) (Nat.lt_of_lt_of_le (by decide : 5 < 7) (by simp)) hb7
    have k1 := cut_str p.least
    have k2 := cut_str p.greatest
    have B5 := (z5 (.string (p.least.extract (0 : Int).toNat ((iMin (p.least.size : Int) 64) : Int).toNat))).2
    simp only [List.set_cons_zero, List.set_cons_succ] at B5
    obtain ⟨q6, c6, z6⟩ := buf_set2 B5 (j := 6) (Nat.lt_of_lt_of_le (by decide : 6 < 7) (by simp)) hb7
    have B6 := (z6 (.string (p.greatest.extract (0 : Int).toNat ((iMin (p.greatest.size : Int) 64) : Int).toNat))).2
    simp only [List.set_cons_zero, List.set_cons_succ] at B6
    have U6 := (((((z0 (.int .i64 r)).1.trans (z2 (.int .i64 (iMax p.weight 0))).1).trans (z3 (.int .i64 (iMax p.bytes 0))).1).trans (z4 (.int .i64 (iMax p.entries 0))).1).trans (z5 (.string (p.least.extract (0 : Int).toNat ((iMin (p.least.size : Int) 64) : Int).toNat))).1).trans (z6 (.string (p.greatest.extract (0 : Int).toNat ((iMin (p.greatest.size : Int) 64) : Int).toNat))).1
    have e6 : inV G ++ (.int .i64 r :: .int .u64 p.num :: .int .i64 (iMax p.weight 0) :: .int .i64 (iMax p.bytes 0) :: .int .i64 (iMax p.entries 0) :: .string (p.least.extract (0 : Int).toNat ((iMin (p.least.size : Int) 64) : Int).toNat) :: .string (p.greatest.extract (0 : Int).toNat ((iMin (p.greatest.size : Int) 64) : Int).toNat) :: inV S) = inV ((G ++ [⟨r, p.num, iMax p.weight 0, iMax p.bytes 0, iMax p.entries 0, p.least.extract (0 : Int).toNat ((iMin (p.least.size : Int) 64) : Int).toNat, p.greatest.extract (0 : Int).toNat ((iMin (p.greatest.size : Int) 64) : Int).toNat⟩]) ++ S) := by simp [inV, Placed.cells]
    rw [e6] at B6
    refine ⟨c0, p.weight, q2, p.bytes, q3, p.entries, q4, c2, c3, c4, p.least, q5, p.least, q5, k1.1, c5, p.greatest, q6, p.greatest, q6, k2.1, c6, ⟨G ++ [⟨r, p.num, iMax p.weight 0, iMax p.bytes 0, iMax p.entries 0, p.least.extract (0 : Int).toNat ((iMin (p.least.size : Int) 64) : Int).toNat, p.greatest.extract (0 : Int).toNat ((iMin (p.greatest.size : Int) 64) : Int).toNat⟩], S, by rw [List.length_append]; rfl, by simp only [List.length_append, List.length_cons, List.length_nil]; omega, fun q hq => ?_, fun q hq => hS q (List.mem_cons_of_mem _ hq), W1.setB (hp.swap rfl rfl rfl) U6 B6⟩, by dsimp only; omega⟩
    rcases List.mem_append.1 hq with hq | hq
    · exact hG q hq
    · rw [List.mem_singleton] at hq; subst hq
      obtain ⟨f1, f2, f3, f4, f5, f6, f7⟩ := hpr
      exact ⟨r0, by show r ≤ 4; omega, f2, (max0 f3).1, (max0 f3).2, (max0 f4).1, (max0 f4).2, (max0 f5).1, (max0 f5).2, k1.2, k2.2⟩
  · have hS0 : S = [] := by
      rw [List.length_append] at hxa
      exact List.eq_nil_of_length_eq_zero (by omega)
    subst hS0
    rw [List.append_nil] at W1 hlen
    exact hR h3 G W1 hlen hG
end Go.Eng.Ytblghgacokoklaa
