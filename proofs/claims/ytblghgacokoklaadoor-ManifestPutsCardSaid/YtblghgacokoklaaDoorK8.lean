/-
  Proved: the law ManifestPuts answers true, whatever the edits and the number, and what it was handed reads behind the call as it read before; the card ties what the package's table holds at the start to the program's text. No other condition.
-/
import Derived.Test.YtblghgacokoklaaDoorK7
import Derived.Test.YtblghgacokoklaaDoorK5
import Derived.ChangeSlices
import Derived.Below
import Derived.Test.YtblghgacokoklaaDoorK6
import Derived.Test.YtblghgacokoklaaDoorRows
import Derived.Test.YtblghgacokoklaaDoorCards
import Derived.Test.YtblghgacokoklaaDoorTie
import Derived.WalkKit
import Derived.ProofKit
import Derived.OpenShut
import Derived.ShutString
import Derived.ChangeOld
import Derived.ChangeMaps5
import Derived.SizedLaws
import Derived.LaidMore
import Derived.Stop.Joined
import Derived.SevenTiedAt
section
/-
  SPECS OF THE ROOM, 3: edits laid in a room.
-/
set_option linter.unusedSimpArgs false
set_option linter.unusedVariables false
set_option maxRecDepth 100000
namespace Go.Eng.YtblghgacokoklaaDoor
theorem edn {h : Hp} {l : Sl} {L : List EdS} (hr : h.row l.a (l.n * 6) (edV L)) : l.n = L.length := by
  have h1 := hr.1
  rw [edV_len] at h1
  omega
theorem edcells {h : Hp} {l : Sl} {L : List EdS} (hr : h.row l.a (l.n * 6) (edV L)) {i : Nat} (hi : i < L.length) : ∃ b o, l.a = some ⟨b, o, none⟩ ∧ ((0 : Int) ≤ (i : Int) ∧ (i : Int) < (l.n : Int)) ∧ h.at b (o + (i : Int).toNat * 6) = some (.int .u64 L[i].e.log) ∧ h.at b ((o + (i : Int).toNat * 6) + 1) = some (.int .u64 L[i].e.next) ∧ h.at b ((o + (i : Int).toNat * 6) + 2) = some (.int .u64 L[i].e.seq) ∧ h.at b ((o + (i : Int).toNat * 6) + 3) = some (.slice L[i].a.a L[i].a.n L[i].a.c) ∧ h.at b ((o + (i : Int).toNat * 6) + 4) = some (.slice L[i].b.a L[i].b.n L[i].b.c) ∧ h.at b ((o + (i : Int).toNat * 6) + 5) = some (.slice L[i].c.a L[i].c.n L[i].c.c) := by
  have hn := edn hr
  obtain ⟨b, o, ha, hat⟩ := row_get hr (i := i * 6) (by omega)
  have c : ∀ j, j < 6 → h.at b ((o + (i : Int).toNat * 6) + j) = (EdS.cells L[i])[j]? := fun j hj => by
    rw [Int.toNat_natCast, Nat.add_assoc, hat _ (by omega)]
    exact flat_get EdS.cells 6 (fun _ => rfl) L i j hi hj
  exact ⟨b, o, ha, ⟨by omega, by omega⟩, c 0 (by decide), c 1 (by decide), c 2 (by decide), c 3 (by decide), c 4 (by decide), c 5 (by decide)⟩
theorem edV_snoc (L : List EdS) (x : EdS) : edV (L ++ [x]) = edV L ++ x.cells := by unfold edV; rw [List.flatMap_append]; simp
/-- Edits in a room. -/
structure RX (h0 h : Hp) (pb : Nat) (X : List FE) : Prop where
  ex : ∃ t tn p pn d dn, Room h0 h pb t tn p pn d dn (xT X) (xP X) (xD X)
theorem roomy_spec {h0 h : Hp} {pb : Nat} {l : Sl} {L : List EdS} {Q : Value → Hp → Prop} (A : Args h0 l L) (hp : parts L ≤ 10000) (R : RX h0 h pb [])
    (hQ : ∀ h' l' X, RX h0 h' pb X → X.map FE.e = L.map EdS.e → Buf h' l' 6 65 (edV (X.map FE.s)) → (l'.a = none ∨ New h0 l') → Q (.slice l'.a l'.n l'.c) h') : F19.T (some ⟨pb, 0, none⟩) l h Q := by
  have hln := A.n
  have hL := parts_len L
  refine ⟨fun l1 n h1 => ∃ (i : Nat) (X : List FE), n = (i : Int) ∧ i ≤ L.length ∧ RX h0 h1 pb X ∧ X.map FE.e = (L.take i).map EdS.e ∧ Buf h1 l1 6 65 (edV (X.map FE.s)) ∧ (l1.a = none ∨ New h0 l1), fun _ n _ => L.length - n.toNat, ⟨0, [], rfl, Nat.zero_le _, R, rfl, Buf.nil h 6 65, .inl rfl⟩, ?_⟩
  rintro l1 n h1 ⟨i, X, rfl, hi, R1, hX, B1, N1⟩
  have hXl : X.length = i := by have := congrArg List.length hX; rw [List.length_map, List.length_map, List.length_take] at this; omega
  have hl1 : l1.n = i := by have := ed_n B1; rw [List.length_map] at this; omega
  refine ⟨fun hlt => ?_, fun hge => ?_⟩
  · have hi1 : i < L.length := by omega
    have hx := List.getElem_mem hi1
    have hpm := parts_mem hx
    obtain ⟨t, tn, p, pn, d, dn, R1⟩ := R1
    obtain ⟨b, o, hb, hbd, c0, c1, c2, c3, c4, c5⟩ := edcells (R1.keep.row A.row) hi1
    refine ⟨b, o, hb, hbd, _, c0, _, c1, _, c2, _, c3, _, c4, _, c5, ?_⟩
    refine room_edit R1 (A.at_ _ hx) (by omega) (by omega) (by omega) (by omega) fun h2 t' tn' p' pn' d' dn' fa fb fc R2 g65 => ⟨_, _, _, ⟨fa.a, L[i].e.out.length, fa.n⟩, ⟨fb.a, L[i].e.inn.length, fb.n⟩, ⟨fc.a, L[i].e.ptr.length, fc.n⟩, rfl, ?_⟩
    have B2 := g65 _ _ _ B1
    refine append_buf B2 rfl rfl (by omega) fun l8 h3 B3 hn3 U3 => ?_
    have R3 := R2.upd U3 B2 N1
    have w : IntKind.wrap .i64 ((i : Int) + 1) = ((i + 1 : Nat) : Int) := by rw [wrap_i64 (by omega) (by omega)]; omega
    rw [w]
    refine ⟨⟨i + 1, X ++ [⟨L[i].e, fa, fb, fc⟩], rfl, hi1, ⟨t', tn', p', pn', d', dn', R3⟩, ?_, ?_, (keep_grow R2.keep N1 U3).2⟩, by dsimp only; omega⟩
    · rw [List.map_append, hX, List.take_succ_eq_append_getElem hi1, List.map_append]; rfl
    · rw [List.map_append]
      show Buf h3 l8 6 65 (edV (X.map FE.s ++ [FE.s ⟨L[i].e, fa, fb, fc⟩]))
      rw [edV_snoc]
      exact B3
  · have e : L.take i = L := List.take_of_length_le (by omega)
    rw [e] at hX
    exact hQ h1 l1 X R1 hX B1 N1
end Go.Eng.YtblghgacokoklaaDoor
end
section
/-
  SPECS OF THE ROOM, 4: the room holds.
-/
set_option linter.unusedSimpArgs false
set_option linter.unusedVariables false
set_option maxRecDepth 100000
namespace Go.Eng.YtblghgacokoklaaDoor
theorem mark_get {α : Type} {f : α → List Value} {mk : Nat → List Value} {sz : Nat} (hf : ∀ x, (f x).length = sz) (hm : ∀ j, (mk j).length = sz) (o : List α) {j c : Nat} (hj : j < 40) (hc : c < sz) : (o.flatMap f ++ marks mk 40)[(o.length + j) * sz + c]? = (mk j)[c]? := by
  have h1 := flat_length f sz hf o
  have h2 : (o.length + j) * sz = o.length * sz + j * sz := Nat.add_mul _ _ _
  rw [List.getElem?_append_right (by omega), show (o.length + j) * sz + c - (o.flatMap f).length = j * sz + c by omega]
  unfold marks
  rw [flat_get mk sz hm (List.range 40) j c (by rw [List.length_range]; exact hj) hc, List.getElem_range]
theorem hold_t {h0 h : Hp} {pb : Nat} {t tn p pn d dn : Sl} {FT : List (Sl × List ByteArray)} {FP : List (Sl × List Place)} {FD : List (Sl × List Placed)} {Q : Value → Hp → Prop} (R : Room h0 h pb t tn p pn d dn FT FP FD) (hF : FT.length ≤ 100000) (hk : ∀ x ∈ FT, x.2.length ≤ 100000) (hQ : Q (.bool true) h) : F47.T (some ⟨pb, 0, none⟩) h Q := by
  have hwn : t.n = FT.length := by have := R.T.W.len; rw [slV_length, List.length_map] at this; omega
  have hnn : tn.n = FT.length := by have := R.T.N.len; rw [lensV_len, List.length_map] at this; omega
  have hc := R.cell
  have rW := R.T.W.row
  have rN := R.T.N.row
  rw [Nat.mul_one] at rW rN
  refine ⟨fun n h1 => ∃ i : Nat, n = (i : Int) ∧ i ≤ FT.length ∧ h1 = h, fun n _ => FT.length - n.toNat, ⟨0, rfl, Nat.zero_le _, rfl⟩, ?_⟩
  rintro n2 h1 ⟨i, rfl, hi, rfl⟩
  refine ⟨pb, 0, rfl, t, by unfold Hp.at; rw [hc]; rfl, fun hlt => ?_, fun _ => hQ⟩
  have hi1 : i < FT.length := by omega
  have hx := List.getElem_mem hi1
  have hkx := hk _ hx
  obtain ⟨b2, o2, ha2, hat2⟩ := row_get rN (i := i) (by omega)
  obtain ⟨b4, o4, ha4, hat4⟩ := row_get rW (i := i) (by omega)
  have c2 : h1.at b2 (o2 + ((i : Int)).toNat) = some (.int .i64 ((FT[i].2.length : Nat) : Int)) := by rw [Int.toNat_natCast, hat2 i (by omega)]; simp [lensV, hi1]
  have c4 : h1.at b4 (o4 + ((i : Int)).toNat) = some (.slice FT[i].1.a FT[i].1.n FT[i].1.c) := by rw [Int.toNat_natCast, hat4 i (by omega)]; simp [slV, hi1]
  have B := R.T.S _ hx
  have hBn : FT[i].1.n = FT[i].2.length + 40 := by have := B.len; rw [List.length_append, flat_length oneT 1 (fun _ => rfl), marks_len (sz := 1) (fun _ => rfl)] at this; omega
  have rB := B.row
  refine ⟨pb, 0, rfl, tn, by unfold Hp.at; rw [hc]; rfl, b2, o2, ha2, ⟨by omega, by omega⟩, _, c2, ?_⟩
  refine ⟨fun n2 h2 => ∃ j : Nat, n2 = ((FT[i].2.length + j : Nat) : Int) ∧ j ≤ 40 ∧ h2 = h1, fun n2 _ => FT[i].2.length + 40 - n2.toNat, ⟨0, rfl, by decide, rfl⟩, ?_⟩
  rintro n3 h2 ⟨j, rfl, hj, rfl⟩
  refine ⟨pb, 0, rfl, t, by unfold Hp.at; rw [hc]; rfl, b4, o4, ha4, ⟨by omega, by omega⟩, _, c4, fun hlt2 => ?_, fun hge2 => ?_⟩
  · have hj4 : j < 40 := by omega
    obtain ⟨b7, o7, ha7, hat7⟩ := row_get rB (i := (FT[i].2.length + j) * 1) (by omega)
    have cc : ∀ c, c < 1 → h2.at b7 (o7 + ((FT[i].2.length + j) * 1 + c)) = (mkT j)[c]? := fun c hc' => by
      rw [hat7 _ (by omega)]
      exact mark_get (f := oneT) (mk := mkT) (sz := 1) (fun _ => rfl) (fun _ => rfl) _ hj4 hc'
    have w1 : IntKind.wrap .i64 (((FT[i].2.length + j : Nat) : Int) - ((FT[i].2.length : Nat) : Int)) = (j : Int) := by rw [wrap_i64 (by omega) (by omega)]; omega
    have w2 : IntKind.wrap .i64 (((FT[i].2.length + j : Nat) : Int) + 1) = ((FT[i].2.length + (j + 1) : Nat) : Int) := by rw [wrap_i64 (by omega) (by omega)]; omega
    refine ⟨pb, 0, rfl, t, by unfold Hp.at; rw [hc]; rfl, b4, o4, ha4, ⟨by omega, by omega⟩, _, c4, b7, o7, ha7, ⟨by omega, hlt2⟩, _, by rw [Int.toNat_natCast]; have := cc 0 (by decide); rw [Nat.mul_one] at this; exact this, ?_⟩
    rw [w1, w2]
    exact word_spec ⟨_, rfl, fun _ => ⟨⟨j + 1, rfl, by omega, rfl⟩, by dsimp only; omega⟩, fun h0 => absurd rfl h0⟩
  · rw [next_i hi1 (by omega)]
    exact ⟨⟨i + 1, rfl, hi1, rfl⟩, by dsimp only; omega⟩
theorem hold_p {h0 h : Hp} {pb : Nat} {t tn p pn d dn : Sl} {FT : List (Sl × List ByteArray)} {FP : List (Sl × List Place)} {FD : List (Sl × List Placed)} {Q : Value → Hp → Prop} (R : Room h0 h pb t tn p pn d dn FT FP FD) (hF : FP.length ≤ 100000) (hk : ∀ x ∈ FP, x.2.length ≤ 100000) (hQ : Q (.bool true) h) : F52.T (some ⟨pb, 0, none⟩) h Q := by
  have hwn : p.n = FP.length := by have := R.P.W.len; rw [slV_length, List.length_map] at this; omega
  have hnn : pn.n = FP.length := by have := R.P.N.len; rw [lensV_len, List.length_map] at this; omega
  have hc := R.cell
  have rW := R.P.W.row
  have rN := R.P.N.row
  rw [Nat.mul_one] at rW rN
  refine ⟨fun n h1 => ∃ i : Nat, n = (i : Int) ∧ i ≤ FP.length ∧ h1 = h, fun n _ => FP.length - n.toNat, ⟨0, rfl, Nat.zero_le _, rfl⟩, ?_⟩
  rintro n2 h1 ⟨i, rfl, hi, rfl⟩
  refine ⟨pb, 0, rfl, p, by unfold Hp.at; rw [hc]; rfl, fun hlt => ?_, fun _ => hQ⟩
  have hi1 : i < FP.length := by omega
  have hx := List.getElem_mem hi1
  have hkx := hk _ hx
  obtain ⟨b2, o2, ha2, hat2⟩ := row_get rN (i := i) (by omega)
  obtain ⟨b4, o4, ha4, hat4⟩ := row_get rW (i := i) (by omega)
  have c2 : h1.at b2 (o2 + ((i : Int)).toNat) = some (.int .i64 ((FP[i].2.length : Nat) : Int)) := by rw [Int.toNat_natCast, hat2 i (by omega)]; simp [lensV, hi1]
  have c4 : h1.at b4 (o4 + ((i : Int)).toNat) = some (.slice FP[i].1.a FP[i].1.n FP[i].1.c) := by rw [Int.toNat_natCast, hat4 i (by omega)]; simp [slV, hi1]
  have B := R.P.S _ hx
  have hBn : FP[i].1.n = FP[i].2.length + 40 := by have := B.len; rw [List.length_append, flat_length Place.cells 2 (fun _ => rfl), marks_len (sz := 2) (fun _ => rfl)] at this; omega
  have rB := B.row
  refine ⟨pb, 0, rfl, pn, by unfold Hp.at; rw [hc]; rfl, b2, o2, ha2, ⟨by omega, by omega⟩, _, c2, ?_⟩
  refine ⟨fun n2 h2 => ∃ j : Nat, n2 = ((FP[i].2.length + j : Nat) : Int) ∧ j ≤ 40 ∧ h2 = h1, fun n2 _ => FP[i].2.length + 40 - n2.toNat, ⟨0, rfl, by decide, rfl⟩, ?_⟩
  rintro n3 h2 ⟨j, rfl, hj, rfl⟩
  refine ⟨pb, 0, rfl, p, by unfold Hp.at; rw [hc]; rfl, b4, o4, ha4, ⟨by omega, by omega⟩, _, c4, fun hlt2 => ?_, fun hge2 => ?_⟩
  · have hj4 : j < 40 := by omega
    obtain ⟨b7, o7, ha7, hat7⟩ := row_get rB (i := (FP[i].2.length + j) * 2) (by omega)
    have cc : ∀ c, c < 2 → h2.at b7 (o7 + ((FP[i].2.length + j) * 2 + c)) = (mkP j)[c]? := fun c hc' => by
      rw [hat7 _ (by omega)]
      exact mark_get (f := Place.cells) (mk := mkP) (sz := 2) (fun _ => rfl) (fun _ => rfl) _ hj4 hc'
    have w1 : IntKind.wrap .i64 (((FP[i].2.length + j : Nat) : Int) - ((FP[i].2.length : Nat) : Int)) = (j : Int) := by rw [wrap_i64 (by omega) (by omega)]; omega
    have w2 : IntKind.wrap .i64 (((FP[i].2.length + j : Nat) : Int) + 1) = ((FP[i].2.length + (j + 1) : Nat) : Int) := by rw [wrap_i64 (by omega) (by omega)]; omega
    refine ⟨pb, 0, rfl, p, by unfold Hp.at; rw [hc]; rfl, b4, o4, ha4, ⟨by omega, by omega⟩, _, c4, b7, o7, ha7, ⟨by omega, hlt2⟩, _, by rw [Int.toNat_natCast]; exact cc 0 (by decide), _, by rw [Int.toNat_natCast, Nat.add_assoc]; exact cc 1 (by decide), ?_⟩
    rw [w1, w2]
    exact lot_spec ⟨_, rfl, fun _ => ⟨⟨j + 1, rfl, by omega, rfl⟩, by dsimp only; omega⟩, fun h0 => absurd rfl h0⟩
  · rw [next_i hi1 (by omega)]
    exact ⟨⟨i + 1, rfl, hi1, rfl⟩, by dsimp only; omega⟩
theorem hold_d {h0 h : Hp} {pb : Nat} {t tn p pn d dn : Sl} {FT : List (Sl × List ByteArray)} {FP : List (Sl × List Place)} {FD : List (Sl × List Placed)} {Q : Value → Hp → Prop} (R : Room h0 h pb t tn p pn d dn FT FP FD) (hF : FD.length ≤ 100000) (hk : ∀ x ∈ FD, x.2.length ≤ 100000) (hQ : Q (.bool true) h) : F53.T (some ⟨pb, 0, none⟩) h Q := by
  have hwn : d.n = FD.length := by have := R.D.W.len; rw [slV_length, List.length_map] at this; omega
  have hnn : dn.n = FD.length := by have := R.D.N.len; rw [lensV_len, List.length_map] at this; omega
  have hc := R.cell
  have rW := R.D.W.row
  have rN := R.D.N.row
  rw [Nat.mul_one] at rW rN
  refine ⟨fun n h1 => ∃ i : Nat, n = (i : Int) ∧ i ≤ FD.length ∧ h1 = h, fun n _ => FD.length - n.toNat, ⟨0, rfl, Nat.zero_le _, rfl⟩, ?_⟩
  rintro n2 h1 ⟨i, rfl, hi, rfl⟩
  refine ⟨pb, 0, rfl, d, by unfold Hp.at; rw [hc]; rfl, fun hlt => ?_, fun _ => hQ⟩
  have hi1 : i < FD.length := by omega
  have hx := List.getElem_mem hi1
  have hkx := hk _ hx
  obtain ⟨b2, o2, ha2, hat2⟩ := row_get rN (i := i) (by omega)
  obtain ⟨b4, o4, ha4, hat4⟩ := row_get rW (i := i) (by omega)
  have c2 : h1.at b2 (o2 + ((i : Int)).toNat) = some (.int .i64 ((FD[i].2.length : Nat) : Int)) := by rw [Int.toNat_natCast, hat2 i (by omega)]; simp [lensV, hi1]
  have c4 : h1.at b4 (o4 + ((i : Int)).toNat) = some (.slice FD[i].1.a FD[i].1.n FD[i].1.c) := by rw [Int.toNat_natCast, hat4 i (by omega)]; simp [slV, hi1]
  have B := R.D.S _ hx
  have hBn : FD[i].1.n = FD[i].2.length + 40 := by have := B.len; rw [List.length_append, flat_length Placed.cells 7 (fun _ => rfl), marks_len (sz := 7) (fun _ => rfl)] at this; omega
  have rB := B.row
  refine ⟨pb, 0, rfl, dn, by unfold Hp.at; rw [hc]; rfl, b2, o2, ha2, ⟨by omega, by omega⟩, _, c2, ?_⟩
  refine ⟨fun n2 h2 => ∃ j : Nat, n2 = ((FD[i].2.length + j : Nat) : Int) ∧ j ≤ 40 ∧ h2 = h1, fun n2 _ => FD[i].2.length + 40 - n2.toNat, ⟨0, rfl, by decide, rfl⟩, ?_⟩
  rintro n3 h2 ⟨j, rfl, hj, rfl⟩
  refine ⟨pb, 0, rfl, d, by unfold Hp.at; rw [hc]; rfl, b4, o4, ha4, ⟨by omega, by omega⟩, _, c4, fun hlt2 => ?_, fun hge2 => ?_⟩
  · have hj4 : j < 40 := by omega
    obtain ⟨b7, o7, ha7, hat7⟩ := row_get rB (i := (FD[i].2.length + j) * 7) (by omega)
    have cc : ∀ c, c < 7 → h2.at b7 (o7 + ((FD[i].2.length + j) * 7 + c)) = (mkD j)[c]? := fun c hc' => by
      rw [hat7 _ (by omega)]
      exact mark_get (f := Placed.cells) (mk := mkD) (sz := 7) (fun _ => rfl) (fun _ => rfl) _ hj4 hc'
    have w1 : IntKind.wrap .i64 (((FD[i].2.length + j : Nat) : Int) - ((FD[i].2.length : Nat) : Int)) = (j : Int) := by rw [wrap_i64 (by omega) (by omega)]; omega
    have w2 : IntKind.wrap .i64 (((FD[i].2.length + j : Nat) : Int) + 1) = ((FD[i].2.length + (j + 1) : Nat) : Int) := by rw [wrap_i64 (by omega) (by omega)]; omega
    refine ⟨pb, 0, rfl, d, by unfold Hp.at; rw [hc]; rfl, b4, o4, ha4, ⟨by omega, by omega⟩, _, c4, b7, o7, ha7, ⟨by omega, hlt2⟩, _, by rw [Int.toNat_natCast]; exact cc 0 (by decide), _, by rw [Int.toNat_natCast, Nat.add_assoc]; exact cc 1 (by decide), _, by rw [Int.toNat_natCast, Nat.add_assoc]; exact cc 2 (by decide), _, by rw [Int.toNat_natCast, Nat.add_assoc]; exact cc 3 (by decide), _, by rw [Int.toNat_natCast, Nat.add_assoc]; exact cc 4 (by decide), _, by rw [Int.toNat_natCast, Nat.add_assoc]; exact cc 5 (by decide), _, by rw [Int.toNat_natCast, Nat.add_assoc]; exact cc 6 (by decide), ?_⟩
    rw [w1, w2]
    exact lot_spec ⟨_, rfl, fun _ => ⟨⟨j + 1, rfl, by omega, rfl⟩, by dsimp only; omega⟩, fun h0 => absurd rfl h0⟩
  · rw [next_i hi1 (by omega)]
    exact ⟨⟨i + 1, rfl, hi1, rfl⟩, by dsimp only; omega⟩
theorem hold44n {h : Hp} {pb : Nat} {Q : Value → Hp → Prop} (hc : h.at pb 0 = some (.slice none 0 0)) (hQ : Q (.bool true) h) : F44.T (some ⟨pb, 0, none⟩) h Q := by
  refine ⟨fun n h1 => n = 0 ∧ h1 = h, fun _ _ => 0, ⟨rfl, rfl⟩, ?_⟩
  rintro n h1 ⟨rfl, rfl⟩
  exact ⟨pb, 0, rfl, ⟨none, 0, 0⟩, hc, fun h0 => absurd h0 (by decide), fun _ => hQ⟩
theorem hold_room {h0 h : Hp} {pb : Nat} {X : List FE} {Q : Value → Hp → Prop} (R : RX h0 h pb X) (hX : X.length ≤ 100000) (hx : ∀ x ∈ X, x.e.out.length ≤ 100000 ∧ x.e.inn.length ≤ 100000 ∧ x.e.ptr.length ≤ 100000) (hQ : Q (.bool true) h) : F16.T (some ⟨pb, 0, none⟩) h Q := by
  obtain ⟨t, tn, p, pn, d, dn, R⟩ := R
  have nx : ∀ {A B : Prop}, A → ∃ b : Bool, (Value.bool true) = .bool b ∧ parB b A B := fun {A B} a => ⟨true, rfl, fun _ => a, fun h0 => (by cases h0)⟩
  have e : ∀ k, (roomE t tn p pn d dn)[k]? = some (.slice none 0 0) → h.at pb k = some (.slice none 0 0) := fun k hk => by
    unfold Hp.at; rw [R.cell]; show (roomE t tn p pn d dn).toArray[k]? = _; rw [List.getElem?_toArray]; exact hk
  have kT : ∀ x ∈ xT X, x.2.length ≤ 100000 := fun y hy => by
    obtain ⟨x, h1, rfl⟩ := List.mem_map.1 hy; exact (hx x h1).2.2
  have kP : ∀ x ∈ xP X, x.2.length ≤ 100000 := fun y hy => by
    obtain ⟨x, h1, rfl⟩ := List.mem_map.1 hy; exact (hx x h1).1
  have kD : ∀ x ∈ xD X, x.2.length ≤ 100000 := fun y hy => by
    obtain ⟨x, h1, rfl⟩ := List.mem_map.1 hy; exact (hx x h1).2.1
  have lT : (xT X).length ≤ 100000 := by unfold xT; rw [List.length_map]; exact hX
  have lP : (xP X).length ≤ 100000 := by unfold xP; rw [List.length_map]; exact hX
  have lD : (xD X).length ≤ 100000 := by unfold xD; rw [List.length_map]; exact hX
  exact hold44n (e 0 rfl) (nx (hold45 (e 2 rfl) (nx (hold46 (e 4 rfl) (nx (hold_t R lT kT (nx (hold48 (e 8 rfl) (nx (hold49 (e 10 rfl) (nx (hold50 (e 12 rfl) (nx (hold51 (e 14 rfl) (nx (hold_p R lP kP (nx (hold_d R lD kD (nx (hold54 (e 20 rfl) (nx (hold55 (e 22 rfl) (nx (hold56 (e 24 rfl) (nx (hold57 (e 26 rfl) (nx hQ)))))))))))))))))))))))))))
theorem RX.edat {h0 h : Hp} {pb : Nat} {X : List FE} (R : RX h0 h pb X) {x : FE} (hx : x ∈ X) : EdAt h x.e x.s.a x.s.b x.s.c ∧ x.s.a.n ≤ x.s.a.c ∧ x.s.b.n ≤ x.s.b.c ∧ x.s.c.n ≤ x.s.c.c := by
  obtain ⟨t, tn, p, pn, d, dn, R⟩ := R
  have BP := R.P.S (x.a, x.e.out) (List.mem_map_of_mem (f := fun x : FE => (x.a, x.e.out)) hx)
  have BD := R.D.S (x.b, x.e.inn) (List.mem_map_of_mem (f := fun x : FE => (x.b, x.e.inn)) hx)
  have BT := R.T.S (x.c, x.e.ptr) (List.mem_map_of_mem (f := fun x : FE => (x.c, x.e.ptr)) hx)
  have l1 : x.a.n = x.e.out.length + 40 := by have : (x.e.out.flatMap Place.cells ++ marks mkP 40).length = x.a.n * 2 := BP.len; rw [List.length_append, flat_length Place.cells 2 (fun _ => rfl), marks_len (sz := 2) (fun _ => rfl)] at this; omega
  have l2 : x.b.n = x.e.inn.length + 40 := by have : (x.e.inn.flatMap Placed.cells ++ marks mkD 40).length = x.b.n * 7 := BD.len; rw [List.length_append, flat_length Placed.cells 7 (fun _ => rfl), marks_len (sz := 7) (fun _ => rfl)] at this; omega
  have l3 : x.c.n = x.e.ptr.length + 40 := by have : (x.e.ptr.flatMap oneT ++ marks mkT 40).length = x.c.n * 1 := BT.len; rw [List.length_append, flat_length oneT 1 (fun _ => rfl), marks_len (sz := 1) (fun _ => rfl)] at this; omega
  have r1 := row_take BP.row (k := x.e.out.length * 2) (by show _ ≤ x.a.n * 2; omega)
  have r2 := row_take BD.row (k := x.e.inn.length * 7) (by show _ ≤ x.b.n * 7; omega)
  have r3 := row_take BT.row (k := x.e.ptr.length) (by show _ ≤ x.c.n * 1; omega)
  rw [List.take_left' (flat_length Place.cells 2 (fun _ => rfl) _)] at r1
  rw [List.take_left' (flat_length Placed.cells 7 (fun _ => rfl) _)] at r2
  rw [List.take_left' (by rw [flat_length oneT 1 (fun _ => rfl), Nat.mul_one]), flatT] at r3
  exact ⟨⟨r1, r2, r3⟩, by show x.e.out.length ≤ x.a.n; omega, by show x.e.inn.length ≤ x.b.n; omega, by show x.e.ptr.length ≤ x.c.n; omega⟩
end Go.Eng.YtblghgacokoklaaDoor
end
section
/-
  SPECS OF THE ROOM, 5: copies; lists of records alike; what stands in a room is written over.
-/
set_option linter.unusedSimpArgs false
set_option linter.unusedVariables false
set_option maxRecDepth 100000
namespace Go.Eng.YtblghgacokoklaaDoor
theorem copied_all {h : Hp} {l : Sl} {L : List EdS} {Q : Value → Hp → Prop} (A : Args h l L) (hp : parts L ≤ 10000)
    (hQ : ∀ h' l1 L', Ws h h' l1 L' → PW L' → L'.length = L.length → L'.map EdS.e = L.map EdS.e → (∀ y ∈ L', Raw y.e ∧ y.e.size ≤ 10000 ∧ y.e.ptr.length ≤ 10000) → Q (.slice l1.a l1.n l1.c) h') : F18.T l h Q := by
  have hln := A.n
  have hpl := parts_len L
  refine ⟨fun l1 n h1 => ∃ (i : Nat) (L' : List EdS), n = (i : Int) ∧ i ≤ L.length ∧ L'.length = i ∧ L'.map EdS.e = (L.take i).map EdS.e ∧ Ws h h1 l1 L' ∧ PW L' ∧ ∀ y ∈ L', Raw y.e ∧ y.e.size ≤ 10000 ∧ y.e.ptr.length ≤ 10000, fun _ n _ => L.length - n.toNat, ⟨0, [], rfl, Nat.zero_le _, rfl, rfl, ⟨Buf.nil h 6 65, fun y hy => (by cases hy), fun y hy => (by cases hy), .inl rfl, Keep.refl h⟩, List.Pairwise.nil, fun y hy => (by cases hy)⟩, ?_⟩
  rintro l1 n h1 ⟨i, L', rfl, hi, hL', hmap, W, hpw, hg⟩
  refine ⟨fun hlt => ?_, fun hge => hQ h1 l1 L' W hpw (by omega) (by rw [hmap, List.take_of_length_le (by omega)]) hg⟩
  have ia : i < L.length := by omega
  have hx := List.getElem_mem ia
  have hm := parts_mem hx
  have E := (A.at_ _ hx).keep W.K
  obtain ⟨b0, o0, ha0, hat⟩ := row_get (W.K.row A.row) (i := i * 6) (by omega)
  have cc : ∀ j, j < 6 → h1.at b0 ((o0 + i * 6) + j) = (EdS.cells L[i])[j]? := fun j hj => by
    rw [Nat.add_assoc, hat _ (by omega)]
    exact flat_get EdS.cells 6 (fun _ => rfl) L i j ia hj
  have e1 := E.nout
  have e2 := E.ninn
  have e3 := E.nptr
  have w3 : IntKind.wrap .i64 ((i : Int) + 1) = ((i + 1 : Nat) : Int) := by rw [wrap_i64 (by omega) (by omega)]; omega
  rw [Int.toNat_natCast, w3]
  refine ⟨b0, o0, ha0, ⟨by omega, hlt⟩, _, cc 0 (by decide), _, cc 1 (by decide), _, cc 2 (by decide), _, cc 3 (by decide), _, cc 4 (by decide), _, cc 5 (by decide), _, E.out, out_one _, ?_⟩
  refine append_buf (Buf.nil h1 2 104) rfl E.out.1 (by show (0 + _) * 16 ≤ _; omega) fun l5 h2 B5 n5 U5 => ⟨_, (U5.keepNil rfl).row E.inn, in_one _, ?_⟩
  have K5 := U5.keepNil rfl
  refine append_buf (Buf.nil h2 7 108) rfl E.inn.1 (by show (0 + _) * 72 ≤ _; omega) fun l6 h3 B6 n6 U6 => ?_
  have K6 := U6.keepNil rfl
  have hptr := (K5.trans K6).row E.ptr
  refine ⟨_, by rw [Nat.mul_one]; exact hptr, fun v hv => (by obtain ⟨s, _, rfl⟩ := List.mem_map.1 hv; rfl), ?_⟩
  refine append_buf (Buf.nil h3 1 9) rfl (by rw [Nat.mul_one]; exact hptr.1) (by show (0 + _) * 16 ≤ _; omega) fun l7 h4 B7 n7 U7 => ?_
  have K7 := U7.keepNil rfl
  have K14 := (K5.trans K6).trans K7
  have hb1 := ed_n W.B
  refine append_buf (W.B.keep K14) rfl rfl (by omega) fun l8 h5 B8 n8 U8 => ⟨⟨i + 1, L' ++ [⟨L[i].e, l5, l6, l7⟩], rfl, ia, by rw [List.length_append, hL']; rfl, by rw [List.map_append, hmap, List.take_succ_eq_append_getElem ia, List.map_append]; rfl, ?_, ?_, ?_⟩, by dsimp only; omega⟩
  · rw [List.nil_append] at B5 B6 B7
    have X : Three h4 ⟨L[i].e, l5, l6, l7⟩ := ⟨B5.keep (K6.trans K7), B6.keep K7, B7⟩
    have key : ∀ y, Three h4 y → Three h5 y := fun y Y => Y.upd U8 (buf_off Y.a (W.B.keep K14) (by decide)) (buf_off Y.b (W.B.keep K14) (by decide)) (buf_off Y.c (W.B.keep K14) (by decide))
    have kg := keep_grow (W.K.trans K14) W.N1 U8
    have nn : ∀ {hh hh' : Hp} {s : Sl}, Keep h hh → Upd hh hh' ⟨none, 0, 0⟩ s → s.a = none ∨ New h s := by
      intro hh hh' s k u
      rcases u.at_ with h0 | ⟨b, hb, hn⟩
      · exact .inl h0
      · exact .inr ⟨b, hb, k.dom b hn⟩
    refine ⟨?_, fun y hy => ?_, fun y hy => ?_, kg.2, kg.1⟩
    · unfold edV at B8 ⊢
      rw [List.flatMap_append]
      simpa [EdS.cells] using B8
    · rcases List.mem_append.1 hy with hy | hy
      · exact key y ((W.T y hy).keep K14)
      · rw [List.mem_singleton] at hy; subst hy; exact key _ X
    · rcases List.mem_append.1 hy with hy | hy
      · exact W.N y hy
      · rw [List.mem_singleton] at hy; subst hy
        exact ⟨nn W.K U5, nn (W.K.trans K5) U6, nn (W.K.trans (K5.trans K6)) U7⟩
  · have nn : ∀ {hh hh' : Hp} {s : Sl}, Keep h1 hh → Upd hh hh' ⟨none, 0, 0⟩ s → s.a = none ∨ New h1 s := by
      intro hh hh' s k u
      rcases u.at_ with h0 | ⟨b, hb, hn⟩
      · exact .inl h0
      · exact .inr ⟨b, hb, k.dom b hn⟩
    unfold PW
    rw [List.pairwise_append]
    refine ⟨hpw, List.pairwise_singleton _ _, fun y hy z hz => ?_⟩
    rw [List.mem_singleton] at hz
    subst hz
    have Y := W.T y hy
    have a1 := new_off (nn (Keep.refl h1) U5) Y.a
    have a2 := new_off (nn K5 U6) Y.b
    have a3 := new_off (nn (K5.trans K6) U7) Y.c
    exact ⟨⟨a1.1, a2.1, a3.1⟩, ⟨a1.2, a2.2, a3.2⟩⟩
  · intro y hy
    rcases List.mem_append.1 hy with hy | hy
    · exact hg y hy
    · rw [List.mem_singleton] at hy; subst hy
      exact ⟨A.raw L[i] hx, by show L[i].e.out.length + L[i].e.inn.length ≤ 10000; omega, by show L[i].e.ptr.length ≤ 10000; omega⟩
theorem same_chunks {h : Hp} {l l1 : Sl} {ss ts : List Sl} {recs : List (List Int)} {Q : Value → Hp → Prop} (hr : h.row l.a l.n (slV ss)) (R : Rows h ss recs) (hr1 : h.row l1.a l1.n (slV ts)) (R1 : Rows h ts recs) (hs : ∀ r ∈ recs, r.length ≤ 1000000000) (hn : recs.length ≤ 1000000000) (hQ : Q (.bool true) h) : F20.T l l1 h Q := by
  have e1 : ss.length = recs.length := R.1
  have e2 : ts.length = recs.length := R1.1
  have hln : l.n = recs.length := by have := hr.1; rw [slV_length, e1] at this; exact this.symm
  have hln1 : l1.n = recs.length := by have := hr1.1; rw [slV_length, e2] at this; exact this.symm
  refine ⟨fun _ => ?_, fun h0 => absurd (by omega) h0⟩
  refine ⟨fun n h1 => ∃ i : Nat, n = (i : Int) ∧ i ≤ recs.length ∧ h1 = h, fun n _ => recs.length - n.toNat, ⟨0, rfl, Nat.zero_le _, rfl⟩, ?_⟩
  rintro n h1 ⟨i, rfl, hi, rfl⟩
  refine ⟨fun hlt => ?_, fun _ => hQ⟩
  have hi1 : i < recs.length := by omega
  have hi2 : i < ss.length := by omega
  have hi3 : i < ts.length := by omega
  obtain ⟨b, o, ha, hat⟩ := row_get hr (i := i) (by omega)
  obtain ⟨b1, o1, ha1, hat1⟩ := row_get hr1 (i := i) (by omega)
  have hrl := hs _ (List.getElem_mem hi1)
  refine ⟨b, o, ha, ⟨by omega, hlt⟩, ss[i], by rw [Int.toNat_natCast, hat i (by omega)]; simp [slV, hi2], b1, o1, ha1, ⟨by omega, by omega⟩, ts[i], by rw [Int.toNat_natCast, hat1 i (by omega)]; simp [slV, hi3], ?_⟩
  refine sameBytes_eq (R.2 i hi2 hi1) (R1.2 i hi3 hi1) (by omega) (fun _ => ⟨true, rfl, fun _ => ?_, fun h0 => (by cases h0)⟩) (fun h0 => absurd rfl h0)
  rw [next_i hi1 (by omega)]
  exact ⟨⟨i + 1, rfl, hi1, rfl⟩, by dsimp only; omega⟩
theorem raw_valid {e : Edit} (R : Raw e) : e.valid := ⟨R.log, R.next, R.seq, fun p hp => ⟨(R.out p hp).1.2, (R.out p hp).2⟩, fun p hp => ⟨(R.inn p hp).1.2, (R.inn p hp).2.1, (R.inn p hp).2.2.1.2, (R.inn p hp).2.2.2.1.2, (R.inn p hp).2.2.2.2.1.2⟩⟩
theorem parts_map : ∀ {L M : List EdS}, L.map EdS.e = M.map EdS.e → parts L = parts M
  | [], [], _ => rfl
  | [], _ :: _, h => (by cases h)
  | _ :: _, [], h => (by cases h)
  | x :: L, y :: M, h => by
    simp only [List.map_cons, List.cons.injEq] at h
    rw [parts_cons, parts_cons, parts_map h.2, h.1]
theorem Ws.eds {h0 h : Hp} {l1 : Sl} {L : List EdS} (W : Ws h0 h l1 L) (hr : ∀ y ∈ L, Raw y.e) (hp : parts L ≤ 100000) : Eds h l1 L :=
  ⟨W.B.row, fun x hx => ⟨(W.T x hx).a.row, (W.T x hx).b.row, by have := (W.T x hx).c.row; rw [Nat.mul_one] at this; exact this⟩, fun x hx => ⟨(W.T x hx).a.cap, (W.T x hx).b.cap⟩, fun x hx => raw_valid (hr x hx), hp⟩
theorem copied_eds {h : Hp} {l : Sl} {L : List EdS} {Q : Value → Hp → Prop} (A : Args h l L) (hp : parts L ≤ 10000)
    (hQ : ∀ h' l1 L', Eds h' l1 L' → L'.map EdS.e = L.map EdS.e → Keep h h' → Q (.slice l1.a l1.n l1.c) h') : F18.T l h Q :=
  copied_all A hp fun h' l1 L' W _ _ he hr => hQ h' l1 L' (W.eds (fun y hy => (hr y hy).1) (by rw [parts_map he]; omega)) he W.K
theorem setL_app : ∀ (V A U B : List Value), U.length = V.length → setL (A ++ (U ++ B)) A.length V = A ++ (V ++ B)
  | [], A, U, B, h => by
    have : U = [] := List.eq_nil_of_length_eq_zero h
    subst this; rfl
  | v :: V, A, [], B, h => (by cases h)
  | v :: V, A, u :: U, B, h => by
    unfold setL
    have e : (A ++ (u :: U ++ B)).set A.length v = (A ++ [v]) ++ (U ++ B) := by simp
    have l : A.length + 1 = (A ++ [v]).length := by simp
    rw [e, l, setL_app V (A ++ [v]) U B (by simpa using h)]
    simp
theorem bufWr {h : Hp} {s : Sl} {sz t : Nat} {A U V B : List Value} (Bf : Buf h s sz t (A ++ (U ++ B))) (hu : U.length = V.length) (h0 : 0 < U.length) : ∃ b, s.a = some ⟨b, 0, none⟩ ∧ h.canW b A.length V.length ∧ Upd h (h.wr b A.length V) s s ∧ Buf (h.wr b A.length V) s sz t (A ++ (V ++ B)) := by
  have hlen0 : (A ++ (U ++ B)).length = A.length + (U.length + B.length) := by simp
  have hlen1 : (A ++ (V ++ B)).length = A.length + (U.length + B.length) := by simp [hu]
  rcases Bf.own with ⟨ha, hc⟩ | ⟨b, c, f, ha, hb, hsz, hf, ht⟩
  · have h1 := Bf.len
    have h2 := Bf.cap
    have : s.n = 0 := by omega
    rw [this, Nat.zero_mul] at h1
    omega
  · have hcl : (A ++ (U ++ B)).length ≤ c.size := by
      rw [Bf.len]
      exact Nat.le_trans (Nat.mul_le_mul_right _ Bf.cap) hsz
    have hct : c.toList = A ++ (U ++ (B ++ c.toList.drop (A ++ (U ++ B)).length)) := by
      have := List.take_append_drop (A ++ (U ++ B)).length c.toList
      rw [ht] at this
      rw [← this]
      simp
    refine ⟨b, ha, ⟨c, t, f, hb, by omega, fun j h1 h2 => hf j (by omega)⟩, ⟨fun j x hj e => ?_, .inl rfl, fun j e => ?_⟩, ⟨by rw [hlen1, ← hlen0]; exact Bf.len, Bf.cap, .inr ⟨b, (setL c.toList A.length V).toArray, f, ha, wr_at hb, ?_, ?_, ?_⟩⟩⟩
    · have hjb : j ≠ b := fun q => hj 0 (by rw [q]; exact ha)
      unfold Hp.wr
      rw [if_neg hjb]
      exact e
    · unfold Hp.wr at e
      by_cases hjb : j = b
      · rw [if_pos hjb, hb] at e; cases e
      · rw [if_neg hjb] at e; exact e
    · simp only [List.size_toArray, setL_length, Array.length_toList]; exact hsz
    · intro j hj
      simp only [List.size_toArray, setL_length, Array.length_toList] at hj
      exact hf j hj
    · show ((setL c.toList A.length V).take (A ++ (V ++ B)).length) = A ++ (V ++ B)
      rw [hct, setL_app V A U _ hu, show A ++ (V ++ (B ++ c.toList.drop (A ++ (U ++ B)).length)) = (A ++ (V ++ B)) ++ c.toList.drop (A ++ (U ++ B)).length by simp, List.take_left' rfl]
theorem ColF.wr {α : Type} {h0 h : Hp} {w n s : Sl} {tw t sz : Nat} {f : α → List Value} {mk : Nat → List Value} {F1 F2 : List (Sl × List α)} {o1 o2 : List α} {x : α} (v : α) (C : ColF h0 h w n tw t sz f mk (F1 ++ (s, o1 ++ x :: o2) :: F2)) (hf : ∀ x, (f x).length = sz) (hsz : 0 < sz) (e1 : tw ≠ t) (e2 : (3 : Nat) ≠ t) :
    ∃ b, s.a = some ⟨b, 0, none⟩ ∧ h.canW b (o1.length * sz) sz ∧ Upd h (h.wr b (o1.length * sz) (f v)) s s ∧ ColF h0 (h.wr b (o1.length * sz) (f v)) w n tw t sz f mk (F1 ++ (s, o1 ++ v :: o2) :: F2) ∧ (∃ vs, Buf h s sz t vs) ∧ New h0 s := by
  have hm : (s, o1 ++ x :: o2) ∈ F1 ++ (s, o1 ++ x :: o2) :: F2 := List.mem_append_right _ List.mem_cons_self
  have B := C.S _ hm
  have e : ∀ y, (o1 ++ y :: o2).flatMap f ++ marks mk 40 = o1.flatMap f ++ (f y ++ (o2.flatMap f ++ marks mk 40)) := fun y => by simp
  have B' : Buf h s sz t (o1.flatMap f ++ (f x ++ (o2.flatMap f ++ marks mk 40))) := by rw [← e]; exact B
  have hl := flat_length f sz hf o1
  obtain ⟨b, ha, hc, U, Bw⟩ := bufWr (V := f v) B' (by rw [hf, hf]) (by rw [hf]; exact hsz)
  rw [hl] at hc U Bw
  rw [hf] at hc
  rw [← e] at Bw
  have hpw := C.pw
  have hoff : ∀ y ∈ F1 ++ F2, Off y.1 s := by
    intro y hy
    rw [List.pairwise_append, List.pairwise_cons] at hpw
    rcases List.mem_append.1 hy with hy | hy
    · exact (hpw.2.2 y hy _ List.mem_cons_self).1
    · exact (hpw.2.1.1 y hy).2
  have hmem : ∀ y ∈ F1 ++ (s, o1 ++ v :: o2) :: F2, y = (s, o1 ++ v :: o2) ∨ (y ∈ F1 ++ F2 ∧ y ∈ F1 ++ (s, o1 ++ x :: o2) :: F2) := by
    intro y hy
    rcases List.mem_append.1 hy with hy | hy
    · exact .inr ⟨List.mem_append_left _ hy, List.mem_append_left _ hy⟩
    · rcases List.mem_cons.1 hy with hy | hy
      · exact .inl hy
      · exact .inr ⟨List.mem_append_right _ hy, List.mem_append_right _ (List.mem_cons_of_mem _ hy)⟩
  refine ⟨b, ha, hc, U, ⟨?_, ?_, C.wn, C.nn, fun y hy => ?_, fun y hy => ?_, ?_⟩, ⟨_, B⟩, C.new _ hm⟩
  · have := C.W.upd U (buf_off C.W B e1)
    simpa using this
  · have := C.N.upd U (buf_off C.N B e2)
    simpa using this
  · rcases hmem y hy with rfl | ⟨h1, h2⟩
    · exact Bw
    · exact (C.S y h2).upd U (hoff y h1)
  · rcases hmem y hy with rfl | ⟨h1, h2⟩
    · exact C.new (s, o1 ++ x :: o2) hm
    · exact C.new y h2
  · rw [List.pairwise_append, List.pairwise_cons] at hpw ⊢
    refine ⟨hpw.1, ⟨fun y hy => hpw.2.1.1 y hy, hpw.2.1.2⟩, fun a ha' y hy => ?_⟩
    rcases List.mem_cons.1 hy with rfl | hy
    · exact hpw.2.2 a ha' (s, o1 ++ x :: o2) List.mem_cons_self
    · exact hpw.2.2 a ha' y (List.mem_cons_of_mem _ hy)
end Go.Eng.YtblghgacokoklaaDoor
end
section
/-
  SPECS OF THE ROOM, 6: what stands in a room is written over.
-/
set_option linter.unusedSimpArgs false
set_option linter.unusedVariables false
set_option maxRecDepth 100000
namespace Go.Eng.YtblghgacokoklaaDoor
theorem split_at {α : Type} {l : List α} {i : Nat} (h : i < l.length) : ∃ A B, l = A ++ l[i] :: B ∧ A.length = i :=
  ⟨l.take i, l.drop (i + 1), by rw [← List.drop_eq_getElem_cons h, List.take_append_drop], by rw [List.length_take]; omega⟩
theorem mem_sub {α : Type} {P : α → Prop} {o1 o2 : List α} {y v : α} (h : ∀ q ∈ o1 ++ y :: o2, P q) (hv : P v) : ∀ q ∈ o1 ++ v :: o2, P q := fun q hq => by
  rcases List.mem_append.1 hq with hq | hq
  · exact h q (List.mem_append_left _ hq)
  · rcases List.mem_cons.1 hq with rfl | hq
    · exact hv
    · exact h q (List.mem_append_right _ (List.mem_cons_of_mem _ hq))
/-- Edits in a room, behind a list. -/
structure SP (h0 h : Hp) (pb : Nat) (l : Sl) (X0 : List FE) : Prop where
  ex : ∃ X, RX h0 h pb X ∧ X.map (fun x => x.s.cells) = X0.map (fun x => x.s.cells) ∧ ∀ x ∈ X, Raw x.e
  B : Buf h l 6 65 (edV (X0.map FE.s))
  N : l.a = none ∨ New h0 l
theorem SP.cells {h0 h : Hp} {pb : Nat} {l : Sl} {X0 : List FE} (S : SP h0 h pb l X0) {i : Nat} (hi : i < X0.length) : ∃ b o, l.a = some ⟨b, o, none⟩ ∧ ((0 : Int) ≤ (i : Int) ∧ (i : Int) < (l.n : Int)) ∧ h.at b ((o + (i : Int).toNat * 6) + 3) = some (.slice X0[i].a.a X0[i].e.out.length X0[i].a.n) ∧ h.at b ((o + (i : Int).toNat * 6) + 4) = some (.slice X0[i].b.a X0[i].e.inn.length X0[i].b.n) ∧ h.at b ((o + (i : Int).toNat * 6) + 5) = some (.slice X0[i].c.a X0[i].e.ptr.length X0[i].c.n) := by
  obtain ⟨b, o, h1, h2, _, _, _, c3, c4, c5⟩ := edcells S.B.row (i := i) (by rw [List.length_map]; exact hi)
  rw [List.getElem_map] at c3 c4 c5
  exact ⟨b, o, h1, h2, c3, c4, c5⟩
theorem SP.wout {h0 h : Hp} {pb : Nat} {l : Sl} {X0 : List FE} (S : SP h0 h pb l X0) {i k : Nat} (hi : i < X0.length) (hk : k < X0[i].e.out.length) : ∃ b, X0[i].a.a = some ⟨b, 0, none⟩ ∧ h.canW b (k * 2) 2 ∧ SP h0 (h.wr b (k * 2) [.int .i64 3, .int .u64 77]) pb l X0 := by
  obtain ⟨X, ⟨t, tn, p, pn, d, dn, R⟩, hX, hraw⟩ := S.ex
  have hlen : X.length = X0.length := by have := congrArg List.length hX; rwa [List.length_map, List.length_map] at this
  have hxi : X[i].s.cells = X0[i].s.cells := by
    have h1 : (X.map (fun x => x.s.cells))[i]? = (X0.map (fun x => x.s.cells))[i]? := by rw [hX]
    rw [List.getElem?_map, List.getElem?_map, List.getElem?_eq_getElem (by omega), List.getElem?_eq_getElem hi] at h1
    simpa using h1
  obtain ⟨X1, X2, hXs, hl1⟩ := split_at (l := X) (i := i) (by omega)
  generalize hx : X[i] = x at hxi hXs
  have hxr : Raw x.e := by rw [← hx]; exact hraw _ (List.getElem_mem _)
  have hq : x.a.a = X0[i].a.a ∧ x.e.out.length = X0[i].e.out.length := by
    simp only [FE.s, EdS.cells, List.cons.injEq, Value.slice.injEq, Value.int.injEq, and_true, true_and] at hxi
    exact ⟨by simp_all, by omega⟩
  obtain ⟨o1, o2, ho, hol⟩ := split_at (l := x.e.out) (i := k) (by omega)
  generalize hy : x.e.out[k] = y at ho
  have hcol : xP X = xP X1 ++ (x.a, o1 ++ y :: o2) :: xP X2 := by rw [hXs]; unfold xP; rw [List.map_append, List.map_cons, ← ho]
  have C := R.P
  rw [hcol] at C
  obtain ⟨b, ha, hc, U, C', ⟨vs, BB⟩, Nw⟩ := C.wr (⟨3, 77⟩ : Place) (fun _ => rfl) (by decide) (by decide) (by decide)
  rw [hol] at hc U C'
  refine ⟨b, by rw [← hq.1]; exact ha, hc, ⟨⟨X1 ++ ⟨{ x.e with out := o1 ++ (⟨3, 77⟩ : Place) :: o2 }, x.a, x.b, x.c⟩ :: X2, ⟨t, tn, p, pn, d, dn, ?_⟩, ?_, ?_⟩, S.B.upd U (buf_off S.B BB (by decide)), S.N⟩⟩
  · have eT : xT (X1 ++ ⟨{ x.e with out := o1 ++ (⟨3, 77⟩ : Place) :: o2 }, x.a, x.b, x.c⟩ :: X2) = xT X := by unfold xT; rw [List.map_append, List.map_cons]; rw [hXs, List.map_append, List.map_cons]
    have eP : xP (X1 ++ ⟨{ x.e with out := o1 ++ (⟨3, 77⟩ : Place) :: o2 }, x.a, x.b, x.c⟩ :: X2) = xP X1 ++ (x.a, o1 ++ (⟨3, 77⟩ : Place) :: o2) :: xP X2 := by unfold xP; rw [List.map_append, List.map_cons]
    have eD : xD (X1 ++ ⟨{ x.e with out := o1 ++ (⟨3, 77⟩ : Place) :: o2 }, x.a, x.b, x.c⟩ :: X2) = xD X := by unfold xD; rw [List.map_append, List.map_cons]; rw [hXs, List.map_append, List.map_cons]
    rw [eT, eP, eD]
    exact ⟨R.none_, U.keep pb _ (fun o hs => buf_off R.buf BB (by decide) pb 0 o rfl hs) R.cell, (keep_grow R.keep (.inr Nw) U).1, R.T.upd U BB (by decide) (by decide) (by decide), C', R.D.upd U BB (by decide) (by decide) (by decide), R.tp, R.td, R.pd⟩
  · rw [← hX, hXs, List.map_append, List.map_append, List.map_cons, List.map_cons]
    have : (o1 ++ (⟨3, 77⟩ : Place) :: o2).length = x.e.out.length := by rw [ho]; simp
    simp only [FE.s, EdS.cells, this]
  · intro z hz
    rcases List.mem_append.1 hz with hz | hz
    · exact hraw z (by rw [hXs]; exact List.mem_append_left _ hz)
    · rcases List.mem_cons.1 hz with rfl | hz
      · exact ⟨hxr.log, hxr.next, hxr.seq, mem_sub (by rw [← ho]; exact hxr.out) ⟨⟨by decide, by decide⟩, by decide, by decide⟩, hxr.inn, hxr.ptr⟩
      · exact hraw z (by rw [hXs]; exact List.mem_append_right _ (List.mem_cons_of_mem _ hz))
theorem SP.winn {h0 h : Hp} {pb : Nat} {l : Sl} {X0 : List FE} (S : SP h0 h pb l X0) {i k : Nat} (hi : i < X0.length) (hk : k < X0[i].e.inn.length) : ∃ b, X0[i].b.a = some ⟨b, 0, none⟩ ∧ h.canW b (k * 7) 7 ∧ SP h0 (h.wr b (k * 7) [.int .i64 2, .int .u64 78, .int .i64 0, .int .i64 0, .int .i64 0, .string (ByteArray.mk #[115]), .string (ByteArray.mk #[116])]) pb l X0 := by
  obtain ⟨X, ⟨t, tn, p, pn, d, dn, R⟩, hX, hraw⟩ := S.ex
  have hlen : X.length = X0.length := by have := congrArg List.length hX; rwa [List.length_map, List.length_map] at this
  have hxi : X[i].s.cells = X0[i].s.cells := by
    have h1 : (X.map (fun x => x.s.cells))[i]? = (X0.map (fun x => x.s.cells))[i]? := by rw [hX]
    rw [List.getElem?_map, List.getElem?_map, List.getElem?_eq_getElem (by omega), List.getElem?_eq_getElem hi] at h1
    simpa using h1
  obtain ⟨X1, X2, hXs, hl1⟩ := split_at (l := X) (i := i) (by omega)
  generalize hx : X[i] = x at hxi hXs
  have hxr : Raw x.e := by rw [← hx]; exact hraw _ (List.getElem_mem _)
  have hq : x.b.a = X0[i].b.a ∧ x.e.inn.length = X0[i].e.inn.length := by
    simp only [FE.s, EdS.cells, List.cons.injEq, Value.slice.injEq, Value.int.injEq, and_true, true_and] at hxi
    exact ⟨by simp_all, by omega⟩
  obtain ⟨o1, o2, ho, hol⟩ := split_at (l := x.e.inn) (i := k) (by omega)
  generalize hy : x.e.inn[k] = y at ho
  have hcol : xD X = xD X1 ++ (x.b, o1 ++ y :: o2) :: xD X2 := by rw [hXs]; unfold xD; rw [List.map_append, List.map_cons, ← ho]
  have C := R.D
  rw [hcol] at C
  obtain ⟨b, ha, hc, U, C', ⟨vs, BB⟩, Nw⟩ := C.wr (⟨2, 78, 0, 0, 0, ByteArray.mk #[115], ByteArray.mk #[116]⟩ : Placed) (fun _ => rfl) (by decide) (by decide) (by decide)
  rw [hol] at hc U C'
  refine ⟨b, by rw [← hq.1]; exact ha, hc, ⟨⟨X1 ++ ⟨{ x.e with inn := o1 ++ (⟨2, 78, 0, 0, 0, ByteArray.mk #[115], ByteArray.mk #[116]⟩ : Placed) :: o2 }, x.a, x.b, x.c⟩ :: X2, ⟨t, tn, p, pn, d, dn, ?_⟩, ?_, ?_⟩, S.B.upd U (buf_off S.B BB (by decide)), S.N⟩⟩
  · have eT : xT (X1 ++ ⟨{ x.e with inn := o1 ++ (⟨2, 78, 0, 0, 0, ByteArray.mk #[115], ByteArray.mk #[116]⟩ : Placed) :: o2 }, x.a, x.b, x.c⟩ :: X2) = xT X := by unfold xT; rw [List.map_append, List.map_cons]; rw [hXs, List.map_append, List.map_cons]
    have eP : xP (X1 ++ ⟨{ x.e with inn := o1 ++ (⟨2, 78, 0, 0, 0, ByteArray.mk #[115], ByteArray.mk #[116]⟩ : Placed) :: o2 }, x.a, x.b, x.c⟩ :: X2) = xP X := by unfold xP; rw [List.map_append, List.map_cons]; rw [hXs, List.map_append, List.map_cons]
    have eD : xD (X1 ++ ⟨{ x.e with inn := o1 ++ (⟨2, 78, 0, 0, 0, ByteArray.mk #[115], ByteArray.mk #[116]⟩ : Placed) :: o2 }, x.a, x.b, x.c⟩ :: X2) = xD X1 ++ (x.b, o1 ++ (⟨2, 78, 0, 0, 0, ByteArray.mk #[115], ByteArray.mk #[116]⟩ : Placed) :: o2) :: xD X2 := by unfold xD; rw [List.map_append, List.map_cons]
    rw [eT, eP, eD]
    exact ⟨R.none_, U.keep pb _ (fun o hs => buf_off R.buf BB (by decide) pb 0 o rfl hs) R.cell, (keep_grow R.keep (.inr Nw) U).1, R.T.upd U BB (by decide) (by decide) (by decide), R.P.upd U BB (by decide) (by decide) (by decide), C', R.tp, R.td, R.pd⟩
  · rw [← hX, hXs, List.map_append, List.map_append, List.map_cons, List.map_cons]
    have : (o1 ++ (⟨2, 78, 0, 0, 0, ByteArray.mk #[115], ByteArray.mk #[116]⟩ : Placed) :: o2).length = x.e.inn.length := by rw [ho]; simp
    simp only [FE.s, EdS.cells, this]
  · intro z hz
    rcases List.mem_append.1 hz with hz | hz
    · exact hraw z (by rw [hXs]; exact List.mem_append_left _ hz)
    · rcases List.mem_cons.1 hz with rfl | hz
      · exact ⟨hxr.log, hxr.next, hxr.seq, hxr.out, mem_sub (by rw [← ho]; exact hxr.inn) ⟨⟨by decide, by decide⟩, ⟨by decide, by decide⟩, ⟨by decide, by decide⟩, ⟨by decide, by decide⟩, ⟨by decide, by decide⟩, by decide, by decide⟩, hxr.ptr⟩
      · exact hraw z (by rw [hXs]; exact List.mem_append_right _ (List.mem_cons_of_mem _ hz))
theorem SP.wptr {h0 h : Hp} {pb : Nat} {l : Sl} {X0 : List FE} (S : SP h0 h pb l X0) {i k : Nat} (hi : i < X0.length) (hk : k < X0[i].e.ptr.length) : ∃ b, X0[i].c.a = some ⟨b, 0, none⟩ ∧ h.canW b (k * 1) 1 ∧ SP h0 (h.wr b (k * 1) [.string (ByteArray.mk #[115, 112, 111, 105, 108, 116])]) pb l X0 := by
  obtain ⟨X, ⟨t, tn, p, pn, d, dn, R⟩, hX, hraw⟩ := S.ex
  have hlen : X.length = X0.length := by have := congrArg List.length hX; rwa [List.length_map, List.length_map] at this
  have hxi : X[i].s.cells = X0[i].s.cells := by
    have h1 : (X.map (fun x => x.s.cells))[i]? = (X0.map (fun x => x.s.cells))[i]? := by rw [hX]
    rw [List.getElem?_map, List.getElem?_map, List.getElem?_eq_getElem (by omega), List.getElem?_eq_getElem hi] at h1
    simpa using h1
  obtain ⟨X1, X2, hXs, hl1⟩ := split_at (l := X) (i := i) (by omega)
  generalize hx : X[i] = x at hxi hXs
  have hxr : Raw x.e := by rw [← hx]; exact hraw _ (List.getElem_mem _)
  have hq : x.c.a = X0[i].c.a ∧ x.e.ptr.length = X0[i].e.ptr.length := by
    simp only [FE.s, EdS.cells, List.cons.injEq, Value.slice.injEq, Value.int.injEq, and_true, true_and] at hxi
    exact ⟨by simp_all, by omega⟩
  obtain ⟨o1, o2, ho, hol⟩ := split_at (l := x.e.ptr) (i := k) (by omega)
  generalize hy : x.e.ptr[k] = y at ho
  have hcol : xT X = xT X1 ++ (x.c, o1 ++ y :: o2) :: xT X2 := by rw [hXs]; unfold xT; rw [List.map_append, List.map_cons, ← ho]
  have C := R.T
  rw [hcol] at C
  obtain ⟨b, ha, hc, U, C', ⟨vs, BB⟩, Nw⟩ := C.wr (ByteArray.mk #[115, 112, 111, 105, 108, 116]) (fun _ => rfl) (by decide) (by decide) (by decide)
  rw [hol] at hc U C'
  refine ⟨b, by rw [← hq.1]; exact ha, hc, ⟨⟨X1 ++ ⟨{ x.e with ptr := o1 ++ (ByteArray.mk #[115, 112, 111, 105, 108, 116]) :: o2 }, x.a, x.b, x.c⟩ :: X2, ⟨t, tn, p, pn, d, dn, ?_⟩, ?_, ?_⟩, S.B.upd U (buf_off S.B BB (by decide)), S.N⟩⟩
  · have eT : xT (X1 ++ ⟨{ x.e with ptr := o1 ++ (ByteArray.mk #[115, 112, 111, 105, 108, 116]) :: o2 }, x.a, x.b, x.c⟩ :: X2) = xT X1 ++ (x.c, o1 ++ (ByteArray.mk #[115, 112, 111, 105, 108, 116]) :: o2) :: xT X2 := by unfold xT; rw [List.map_append, List.map_cons]
    have eP : xP (X1 ++ ⟨{ x.e with ptr := o1 ++ (ByteArray.mk #[115, 112, 111, 105, 108, 116]) :: o2 }, x.a, x.b, x.c⟩ :: X2) = xP X := by unfold xP; rw [List.map_append, List.map_cons]; rw [hXs, List.map_append, List.map_cons]
    have eD : xD (X1 ++ ⟨{ x.e with ptr := o1 ++ (ByteArray.mk #[115, 112, 111, 105, 108, 116]) :: o2 }, x.a, x.b, x.c⟩ :: X2) = xD X := by unfold xD; rw [List.map_append, List.map_cons]; rw [hXs, List.map_append, List.map_cons]
    rw [eT, eP, eD]
    exact ⟨R.none_, U.keep pb _ (fun o hs => buf_off R.buf BB (by decide) pb 0 o rfl hs) R.cell, (keep_grow R.keep (.inr Nw) U).1, C', R.P.upd U BB (by decide) (by decide) (by decide), R.D.upd U BB (by decide) (by decide) (by decide), R.tp, R.td, R.pd⟩
  · rw [← hX, hXs, List.map_append, List.map_append, List.map_cons, List.map_cons]
    have : (o1 ++ (ByteArray.mk #[115, 112, 111, 105, 108, 116]) :: o2).length = x.e.ptr.length := by rw [ho]; simp
    simp only [FE.s, EdS.cells, this]
  · intro z hz
    rcases List.mem_append.1 hz with hz | hz
    · exact hraw z (by rw [hXs]; exact List.mem_append_left _ hz)
    · rcases List.mem_cons.1 hz with rfl | hz
      · exact ⟨hxr.log, hxr.next, hxr.seq, hxr.out, hxr.inn, mem_sub (by rw [← ho]; exact hxr.ptr) (by decide)⟩
      · exact hraw z (by rw [hXs]; exact List.mem_append_right _ (List.mem_cons_of_mem _ hz))
end Go.Eng.YtblghgacokoklaaDoor
end
section
/-
  SPECS OF THE ROOM, 7: all that stands in edits is written over; the law of ManifestPuts.
-/
set_option linter.unusedSimpArgs false
set_option linter.unusedVariables false
set_option maxRecDepth 100000
namespace Go.Eng.YtblghgacokoklaaDoor
theorem spoil_spec {h0 h : Hp} {pb : Nat} {l : Sl} {X0 : List FE} {Q : Value → Hp → Prop} (S : SP h0 h pb l X0) (hX : X0.length ≤ 100000) (hx : ∀ x ∈ X0, x.e.out.length ≤ 100000 ∧ x.e.inn.length ≤ 100000 ∧ x.e.ptr.length ≤ 100000)
    (hQ : ∀ h', SP h0 h' pb l X0 → Q (.tuple ⟨[]⟩) h') : F26.T l h Q := by
  have hln : l.n = X0.length := by have := ed_n S.B; rw [List.length_map] at this; exact this
  refine ⟨fun n h1 => ∃ i : Nat, n = (i : Int) ∧ i ≤ X0.length ∧ SP h0 h1 pb l X0, fun n _ => X0.length - n.toNat, ⟨0, rfl, Nat.zero_le _, S⟩, ?_⟩
  rintro n h1 ⟨i, rfl, hi, S1⟩
  refine ⟨fun hlt => ?_, fun hge => hQ h1 S1⟩
  have hi1 : i < X0.length := by omega
  obtain ⟨n1, n2, n3⟩ := hx _ (List.getElem_mem hi1)
  refine ⟨fun n h2 => ∃ k : Nat, n = (k : Int) ∧ k ≤ X0[i].e.out.length ∧ SP h0 h2 pb l X0, fun n _ => X0[i].e.out.length - n.toNat, ⟨0, rfl, Nat.zero_le _, S1⟩, ?_⟩
  rintro n h2 ⟨k, rfl, hk, S2⟩
  obtain ⟨b, o, hb, hbd, c3, c4, c5⟩ := S2.cells hi1
  refine ⟨b, o, hb, hbd, ⟨X0[i].a.a, X0[i].e.out.length, X0[i].a.n⟩, c3, fun hlt2 => ?_, fun hge2 => ?_⟩
  · have hk1 : k < X0[i].e.out.length := by dsimp only at hlt2; omega
    obtain ⟨b2, ha2, hc2, S3⟩ := S2.wout hi1 hk1
    have w : IntKind.wrap .i64 ((k : Int) + 1) = ((k + 1 : Nat) : Int) := by rw [wrap_i64 (by omega) (by omega)]; omega
    rw [w]
    refine ⟨b, o, hb, hbd, ⟨X0[i].a.a, X0[i].e.out.length, X0[i].a.n⟩, c3, b2, 0, ha2, ⟨by omega, hlt2⟩, ?_⟩
    rw [Nat.zero_add, Int.toNat_natCast]
    exact ⟨hc2, ⟨k + 1, rfl, hk1, S3⟩, by dsimp only; omega⟩
  refine ⟨fun n h2 => ∃ k : Nat, n = (k : Int) ∧ k ≤ X0[i].e.inn.length ∧ SP h0 h2 pb l X0, fun n _ => X0[i].e.inn.length - n.toNat, ⟨0, rfl, Nat.zero_le _, S2⟩, ?_⟩
  clear c3 c4 c5 hb hbd b o hge2 hk k S2 h2
  rintro n h2 ⟨k, rfl, hk, S2⟩
  obtain ⟨b, o, hb, hbd, c3, c4, c5⟩ := S2.cells hi1
  refine ⟨b, o, hb, hbd, ⟨X0[i].b.a, X0[i].e.inn.length, X0[i].b.n⟩, c4, fun hlt2 => ?_, fun hge2 => ?_⟩
  · have hk1 : k < X0[i].e.inn.length := by dsimp only at hlt2; omega
    obtain ⟨b2, ha2, hc2, S3⟩ := S2.winn hi1 hk1
    have w : IntKind.wrap .i64 ((k : Int) + 1) = ((k + 1 : Nat) : Int) := by rw [wrap_i64 (by omega) (by omega)]; omega
    rw [w]
    refine ⟨b, o, hb, hbd, ⟨X0[i].b.a, X0[i].e.inn.length, X0[i].b.n⟩, c4, b2, 0, ha2, ⟨by omega, hlt2⟩, ?_⟩
    rw [Nat.zero_add, Int.toNat_natCast]
    exact ⟨hc2, ⟨k + 1, rfl, hk1, S3⟩, by dsimp only; omega⟩
  refine ⟨fun n h2 => ∃ k : Nat, n = (k : Int) ∧ k ≤ X0[i].e.ptr.length ∧ SP h0 h2 pb l X0, fun n _ => X0[i].e.ptr.length - n.toNat, ⟨0, rfl, Nat.zero_le _, S2⟩, ?_⟩
  clear c3 c4 c5 hb hbd b o hge2 hk k S2 h2
  rintro n h2 ⟨k, rfl, hk, S2⟩
  obtain ⟨b, o, hb, hbd, c3, c4, c5⟩ := S2.cells hi1
  refine ⟨b, o, hb, hbd, ⟨X0[i].c.a, X0[i].e.ptr.length, X0[i].c.n⟩, c5, fun hlt2 => ?_, fun hge2 => ?_⟩
  · have hk1 : k < X0[i].e.ptr.length := by dsimp only at hlt2; omega
    obtain ⟨b2, ha2, hc2, S3⟩ := S2.wptr hi1 hk1
    have w : IntKind.wrap .i64 ((k : Int) + 1) = ((k + 1 : Nat) : Int) := by rw [wrap_i64 (by omega) (by omega)]; omega
    rw [w]
    refine ⟨b, o, hb, hbd, ⟨X0[i].c.a, X0[i].e.ptr.length, X0[i].c.n⟩, c5, b2, 0, ha2, ⟨by omega, hlt2⟩, ?_⟩
    rw [Nat.zero_add, Int.toNat_natCast]
    rw [Nat.mul_one] at hc2 S3
    exact ⟨hc2, ⟨k + 1, rfl, hk1, S3⟩, by dsimp only; omega⟩
  · rw [next_i hi1 (by omega)]
    exact ⟨⟨i + 1, rfl, hi1, S2⟩, by dsimp only; omega⟩
theorem parts_each {L : List EdS} (h : parts L ≤ 100000) : ∀ x ∈ L, x.e.out.length ≤ 100000 ∧ x.e.inn.length ≤ 100000 ∧ x.e.ptr.length ≤ 100000 := fun x hx => by
  have := parts_mem hx
  omega
theorem map_s (X : List FE) : (X.map FE.s).map EdS.e = X.map FE.e := by rw [List.map_map]; rfl
theorem RX.eds {h0 h : Hp} {pb : Nat} {X : List FE} (R : RX h0 h pb X) {l : Sl} (B : Buf h l 6 65 (edV (X.map FE.s))) (hr : ∀ x ∈ X, Raw x.e) (hp : parts (X.map FE.s) ≤ 100000) : Eds h l (X.map FE.s) := by
  refine ⟨B.row, fun x hx => ?_, fun x hx => ?_, fun x hx => ?_, hp⟩ <;> obtain ⟨y, hy, rfl⟩ := List.mem_map.1 hx
  · exact (R.edat hy).1
  · exact ⟨(R.edat hy).2.1, (R.edat hy).2.2.1⟩
  · exact raw_valid (hr y hy)
theorem RX.keeps {h0 h h' : Hp} {pb : Nat} {X : List FE} (k : Keep h h') (R : RX h0 h pb X) : RX h0 h' pb X := by
  obtain ⟨t, tn, p, pn, d, dn, R⟩ := R
  exact ⟨t, tn, p, pn, d, dn, R.keeps k⟩
theorem same_e {L M : List EdS} (hm : L.map EdS.e = M.map EdS.e) {i : Nat} (hi : i < L.length) (hj : i < M.length) : L[i].e = M[i].e := by
  have h1 : (L.map EdS.e)[i]? = (M.map EdS.e)[i]? := by rw [hm]
  rw [List.getElem?_map, List.getElem?_map, List.getElem?_eq_getElem hi, List.getElem?_eq_getElem hj] at h1
  simpa using h1
/-- The document's records are like these. -/
theorem put_same {h : Hp} {r m : Sl} {ss : List Sl} {M : List EdS} {e : Edit} {i : Nat} {R : Bool → Hp → Prop} (B : Buf h r 1 23 (slV ss)) (Rw : RowsAt h ss (putS e)) (D : Eds h m M) (hi : i < M.length) (he : e = M[i].e) (hR : ∀ h', Keep h h' → R true h') :
    F22.T M[i].e.log M[i].e.next M[i].e.seq M[i].a M[i].b M[i].c h fun r4 h7 => ∃ l10 : Sl, r4 = .slice l10.a l10.n l10.c ∧ F20.T r l10 h7 fun r5 h8 => ∃ b4 : Bool, r5 = .bool b4 ∧ R b4 h8 := by
  have hx := List.getElem_mem hi
  have hfew := D.few
  have hp := parts_mem hx
  refine put_doc (D.at_ _ hx) (D.cap _ hx).1 (D.cap _ hx).2 (D.val _ hx) (by omega) (by omega) fun r4 h4 ts B4 R4 _ K4 N4 => ⟨r4, rfl, ?_⟩
  rw [← he] at R4
  obtain ⟨hn, hl⟩ := putS_recs (e := e) (by rw [he]; exact D.val _ hx)
  have hsz : e.size = M[i].e.size := by rw [he]
  refine same_chunks (by have := (B.keep K4).row; rw [Nat.mul_one] at this; exact this) (Rw.keep K4).rows (by have := B4.row; rw [Nat.mul_one] at this; exact this) R4.rows (fun r hr => by have := (hl r hr).2; omega) (by unfold Edit.size at hn hsz; omega) ⟨true, rfl, ?_⟩
  exact hR h4 K4
theorem edV_cells (X : List FE) : edV (X.map FE.s) = (X.map fun x => x.s.cells).flatten := by
  unfold edV; rw [List.flatMap_map, List.flatMap_def]
theorem parts_cells : ∀ {X Y : List FE}, (X.map fun x => x.s.cells) = (Y.map fun x => x.s.cells) → parts (X.map FE.s) = parts (Y.map FE.s)
  | [], [], _ => rfl
  | [], _ :: _, h => (by cases h)
  | _ :: _, [], h => (by cases h)
  | x :: X, y :: Y, h => by
    simp only [List.map_cons, List.cons.injEq] at h
    have hxy := h.1
    simp only [FE.s, EdS.cells, List.cons.injEq, Value.slice.injEq, Value.int.injEq, and_true, true_and] at hxy
    rw [List.map_cons, List.map_cons, parts_cons, parts_cons, parts_cells h.2]
    simp only [FE.s]
    omega
end Go.Eng.YtblghgacokoklaaDoor
end
section
/-
  THE LAW OF ManifestPuts.
-/
set_option linter.unusedSimpArgs false
set_option linter.unusedVariables false
set_option maxRecDepth 100000
namespace Go.Eng.YtblghgacokoklaaDoor
theorem row_one {h : Hp} {s : Sl} {t : Nat} {vs : List Value} (B : Buf h s 1 t vs) : h.row s.a s.n vs := by have := B.row; rw [Nat.mul_one] at this; exact this
theorem flat_e (L : List EdS) : (L.flatMap fun x => putS x.e) = (L.map EdS.e).flatMap putS := by rw [List.flatMap_map]
theorem all_bytes {h : Hp} {l m : Sl} {L M : List EdS} (A : Eds h l L) (hm : L.map EdS.e = M.map EdS.e) (a : Nat) : (bytesF a [] (M.flatMap fun x => putS x.e)).length ≤ 1000000000000 ∧ bytesF a [] (L.flatMap fun x => putS x.e) = bytesF a [] (M.flatMap fun x => putS x.e) := by
  have e : bytesF a [] (L.flatMap fun x => putS x.e) = bytesF a [] (M.flatMap fun x => putS x.e) := by rw [flat_e, flat_e, hm]
  refine ⟨?_, e⟩
  rw [← e]
  obtain ⟨h1, h2⟩ := allput A.val
  have h3 := bytes_len (a := a) _ [] fun r hr => (h2 r hr).2
  have h4 := szs_le L
  have h5 := A.few
  simp only [List.length_nil] at h3
  omega
theorem puts_spec {h : Hp} {l : Sl} {n : Int} {L : List EdS} {Q : Value → Hp → Prop} (T : Tab h) (A : Args h l L) (hQ : ∀ h', Keep h h' → Q (.bool true) h') : F4.T l n h Q := by
  refine few_spec A (fun h1 K1 hp => ⟨true, rfl, fun _ => ⟨fun hbig => hQ h1 K1, fun hsm => ?_⟩, fun h0 => (by cases h0)⟩) (fun h1 K1 => ⟨false, rfl, fun h0 => (by cases h0), fun _ => hQ h1 K1⟩)
  have hn : n ≤ 2000000000000 := by omega
  refine copied_eds (A.keep K1) hp fun h2 l1 M D hM K2 => ⟨l1, rfl, fun b1 hb1 => ?_⟩
  have T2 : Tab h2 := T.keep (K1.trans K2)
  have A2 := A.keep (K1.trans K2)
  refine roomy_spec A2 hp ⟨_, _, _, _, _, _, Room.start hb1⟩ fun h3 l2 X R3 hX B3 N3 => ⟨l2, rfl, ?_⟩
  have hXM : (X.map FE.s).map EdS.e = M.map EdS.e := by rw [map_s, hX, hM]
  have hpX : parts (X.map FE.s) ≤ 10000 := by rw [parts_map (M := L) (by rw [map_s, hX])]; exact hp
  have hXr : ∀ x ∈ X, Raw x.e := fun x hx => by
    have : x.e ∈ L.map EdS.e := by rw [← hX]; exact List.mem_map_of_mem hx
    obtain ⟨y, hy, he⟩ := List.mem_map.1 this
    rw [← he]; exact A.raw y hy
  have hXl : X.length = M.length := by have := congrArg List.length hXM; rwa [List.length_map, List.length_map, List.length_map] at this
  have hpl := parts_len (X.map FE.s)
  rw [List.length_map] at hpl
  have hXs : ∀ x ∈ X, x.e.out.length ≤ 100000 ∧ x.e.inn.length ≤ 100000 ∧ x.e.ptr.length ≤ 100000 := fun x hx => parts_each (L := X.map FE.s) (by omega) x.s (List.mem_map_of_mem hx)
  have K03 : Keep h2 h3 := by obtain ⟨t, tn, p, pn, d, dn, R⟩ := R3; exact R.keep
  have E3 : Eds h3 l2 (X.map FE.s) := R3.eds B3 hXr (by omega)
  have hl2 := E3.n
  rw [List.length_map] at hl2
  have D3 : Eds h3 l1 M := D.keep K03
  refine ⟨fun n1 h4 => ∃ k : Nat, n1 = (k : Int) ∧ k ≤ 2 ∧ Keep h3 h4, fun n1 _ => 2 - n1.toNat, ⟨0, rfl, by decide, Keep.refl h3⟩, ?_⟩
  rintro n1 h4 ⟨k, rfl, hk, K4⟩
  refine ⟨fun hlt => ?_, fun hge => ?_⟩
  · refine ⟨fun n2 h5 => ∃ i : Nat, n2 = (i : Int) ∧ i ≤ X.length ∧ Keep h3 h5, fun n2 _ => X.length - n2.toNat, ⟨0, rfl, Nat.zero_le _, K4⟩, ?_⟩
    rintro n2 h5 ⟨i, rfl, hi, K5⟩
    refine ⟨fun hlt2 => ?_, fun hge2 => ?_⟩
    · have hi1 : i < X.length := by omega
      have hi2 : i < M.length := by omega
      have hi3 : i < (X.map FE.s).length := by rw [List.length_map]; exact hi1
      have E5 := E3.keep K5
      obtain ⟨b2, o2, h21, h22, c0, c1, c2, c3, c4, c5⟩ := edcells E5.row hi3
      have D5 := D3.keep K5
      obtain ⟨b3, o3, h31, h32, d0, d1, d2, d3, d4, d5⟩ := edcells D5.row hi2
      have hx := List.getElem_mem hi3
      have hpm := parts_mem hx
      refine ⟨b2, o2, h21, h22, _, c0, _, c1, _, c2, _, c3, _, c4, _, c5, b3, o3, h31, h32, _, d0, _, d1, _, d2, _, d3, _, d4, _, d5, ?_⟩
      refine put_spec' (E5.at_ _ hx) (E5.cap _ hx).1 (E5.cap _ hx).2 (E5.val _ hx) (by omega) (by omega) fun r h6 ss B6 R6 _ K6 N6 => ⟨r, rfl, K6.at d0, K6.at d1, K6.at d2, K6.at d3, K6.at d4, K6.at d5, ?_⟩
      refine put_same (R := fun b4 h8 => parB b4 _ (Q (.bool false) h8)) B6 R6 (D5.keep K6) hi2 (same_e hXM hi3 hi2) fun h8 K8 => ⟨fun _ => ?_, fun h0 => (by cases h0)⟩
      rw [next_i hi1 (by omega)]
      exact ⟨⟨i + 1, rfl, hi1, (K5.trans K6).trans K8⟩, by dsimp only; omega⟩
    · refine bytes_spec ((T2.keep K03).keep K5) (E3.keep K5) hn fun l11 h9 B9 K9 N9 => ⟨l11, rfl, ?_⟩
      refine bytes_doc (D3.keep (K5.trans K9)) hn fun l12 h10 B10 K10 N10 => ⟨l12, rfl, ?_⟩
      obtain ⟨hbl, hbe⟩ := all_bytes (m := l1) E3 hXM n.toNat
      refine sameBytes_eq (buf_bytes (B9.keep K10)) (buf_bytes B10) hbl (fun _ => ⟨true, rfl, fun _ => ?_, fun h0 => (by cases h0)⟩) (fun h0 => absurd hbe h0)
      rw [next_i (n := 2) (by omega) (by omega)]
      exact ⟨⟨k + 1, rfl, by omega, (K5.trans K9).trans K10⟩, by dsimp only; omega⟩
  · have E4 := E3.keep K4
    have D4 := D3.keep K4
    have hfewX := E3.few
    have hfewM := D.few
    refine edits_eq E4.row D4.row E4.at_ D4.at_ (fun x hx => by have := parts_each hfewM x hx; omega) (by have := parts_len M; omega) hXM ⟨true, rfl, fun _ => ?_, fun h0 => (by cases h0)⟩
    refine hold_room (R3.keeps K4) (by omega) hXs ⟨true, rfl, fun _ => ?_, fun h0 => (by cases h0)⟩
    refine spoil_spec (⟨⟨X, R3.keeps K4, rfl, hXr⟩, B3.keep K4, N3⟩ : SP h2 h4 b1 l2 X) (by omega) hXs fun h14 S => ?_
    obtain ⟨X', R', hcell, hraw'⟩ := S.ex
    have B14 : Buf h14 l2 6 65 (edV (X'.map FE.s)) := by rw [edV_cells, hcell, ← edV_cells]; exact S.B
    have hp' : parts (X'.map FE.s) ≤ 10000 := by rw [parts_cells hcell]; exact hpX
    have E14 : Eds h14 l2 (X'.map FE.s) := R'.eds B14 hraw' (by omega)
    have hXl' : X'.length = X.length := by have := congrArg List.length hcell; rwa [List.length_map, List.length_map] at this
    have A14 : Args h14 l2 (X'.map FE.s) := ⟨E14.row, E14.at_, fun x hx => by obtain ⟨y, hy, rfl⟩ := List.mem_map.1 hx; exact hraw' y hy, fun x hx => by have := parts_each E14.few x hx; omega⟩
    have hXs' : ∀ x ∈ X', x.e.out.length ≤ 100000 ∧ x.e.inn.length ≤ 100000 ∧ x.e.ptr.length ≤ 100000 := fun x hx => parts_each (L := X'.map FE.s) (by omega) x.s (List.mem_map_of_mem hx)
    have T14 : Tab h14 := by obtain ⟨t, tn, p, pn, d, dn, R⟩ := R'; exact T2.keep R.keep
    have K014 : Keep h2 h14 := by obtain ⟨t, tn, p, pn, d, dn, R⟩ := R'; exact R.keep
    have hl14 := E14.n
    rw [List.length_map] at hl14
    refine ⟨fun n9 h15 => ∃ i : Nat, n9 = (i : Int) ∧ i ≤ X'.length ∧ Keep h14 h15, fun n9 _ => X'.length - n9.toNat, ⟨0, rfl, Nat.zero_le _, Keep.refl h14⟩, ?_⟩
    rintro n9 h15 ⟨i, rfl, hi, K15⟩
    refine ⟨fun hlt2 => ?_, fun hge2 => ?_⟩
    · have hi1 : i < X'.length := by omega
      have hi3 : i < (X'.map FE.s).length := by rw [List.length_map]; exact hi1
      have E15 := E14.keep K15
      obtain ⟨b2, o2, h21, h22, c0, c1, c2, c3, c4, c5⟩ := edcells E15.row hi3
      have hx := List.getElem_mem hi3
      have hpm := parts_mem hx
      refine ⟨b2, o2, h21, h22, _, c0, _, c1, _, c2, _, c3, _, c4, _, c5, ?_⟩
      refine put_spec' (E15.at_ _ hx) (E15.cap _ hx).1 (E15.cap _ hx).2 (E15.val _ hx) (by omega) (by omega) fun r h16 ss B6 R6 _ K6 N6 => ⟨r, rfl, ?_⟩
      refine copied_eds (A14.keep (K15.trans K6)) hp' fun h17 l17 M' D' hM' K17 => ⟨l17, rfl, ?_⟩
      have hi2 : i < M'.length := by have := congrArg List.length hM'; rw [List.length_map, List.length_map] at this; omega
      obtain ⟨b3, o3, h31, h32, d0, d1, d2, d3, d4, d5⟩ := edcells D'.row hi2
      refine ⟨b3, o3, h31, h32, _, d0, _, d1, _, d2, _, d3, _, d4, _, d5, ?_⟩
      refine put_same (R := fun b4 h8 => parB b4 _ (Q (.bool false) h8)) (B6.keep K17) (R6.keep K17) D' hi2 (same_e hM'.symm hi3 hi2) fun h8 K8 => ⟨fun _ => ?_, fun h0 => (by cases h0)⟩
      rw [next_i hi1 (by omega)]
      exact ⟨⟨i + 1, rfl, hi1, ((K15.trans K6).trans K17).trans K8⟩, by dsimp only; omega⟩
    · refine bytes_spec (T14.keep K15) (E14.keep K15) hn fun l22 h20 B20 K20 N20 => ⟨l22, rfl, ?_⟩
      refine copied_eds (A14.keep (K15.trans K20)) hp' fun h21 l23 M' D' hM' K21 => ⟨l23, rfl, ?_⟩
      refine bytes_doc D' hn fun l24 h22 B22 K22 N22 => ⟨l24, rfl, ?_⟩
      obtain ⟨hbl, hbe⟩ := all_bytes (m := l1) E14 hM'.symm n.toNat
      refine sameBytes_eq (buf_bytes (B20.keep (K21.trans K22))) (buf_bytes B22) hbl (fun _ => ⟨true, rfl, fun _ => ?_, fun h0 => (by cases h0)⟩) (fun h0 => absurd hbe h0)
      have Kend := ((K15.trans K20).trans K21).trans K22
      refine hold_room (R'.keeps Kend) (by omega) hXs' ⟨true, rfl, fun _ => ?_, fun h0 => (by cases h0)⟩
      exact hQ h22 ((K1.trans K2).trans (K014.trans Kend))
end Go.Eng.YtblghgacokoklaaDoor
end
section
/-
  ROWS, 0: a world's whole heap; an argument that is a list of lists of bytes.
-/
set_option linter.unusedSimpArgs false
set_option linter.unusedVariables false
namespace Go.Eng.YtblghgacokoklaaDoor
open Go.ChangeShapes Go.WideShapes Go.RowKit
/-- All that a world's memory holds. -/
def wh (W : World) : Hp := fun b => W.heap[b]?
theorem own_wh (W : World) : Own (fun _ => none) (wh W) W := ⟨fun _ _ h => h, fun _ _ h => (by cases h), fun _ => .inr rfl⟩
theorem below_of {W W' : World} {h' : Hp} (hw : Wr W W') (ho : Own (fun _ => none) h' W') (K : Keep (wh W) h') : Below W.heap.size W W' := by
  refine ⟨hw.os, hw.tape, hw.output, hw.size, fun k hk => ?_⟩
  have h1 : wh W k = some W.heap[k] := by unfold wh; exact Array.getElem?_eq_getElem hk
  have h2 := ho.hh k _ (K k _ h1)
  rw [h2, Array.getElem?_eq_getElem hk]
theorem cell_at {W : World} {b o : Nat} {v : Value} (h : W.cell? ⟨b, o, none⟩ = some v) : (wh W).at b o = some v := by
  unfold World.cell? at h
  unfold Hp.at wh
  cases hb : W.heap[b]? with
  | none => rw [hb] at h; cases h
  | some x =>
    rw [hb] at h
    cases x with
    | cells c t f => simpa using h
    | _ => cases h
theorem spot_none {W : World} {a : Addr} {v : Value} (h : W.cell? (a.add 0) = some v) : a = ⟨a.block, a.off, none⟩ := by
  obtain ⟨b, o, p⟩ := a
  cases p with
  | none => rfl
  | some p =>
    exfalso
    unfold World.cell? at h
    simp only [Addr.add, if_pos] at h
    cases hb : W.heap[b]? with
    | none => rw [hb] at h; cases h
    | some x =>
      rw [hb] at h
      cases x with
      | cells c t f => simp at h
      | _ => cases h
/-- Cells from an address on are a row. -/
theorem row_of_cells {W : World} {a : Addr} {n : Nat} {vs : List Value} (hl : vs.length = n) (h : ∀ i, (hi : i < n) → W.cell? (a.add i) = vs[i]?) : (wh W).row (some a) n vs := by
  refine ⟨hl, ?_⟩
  by_cases h0 : n = 0
  · exact .inl h0
  right
  have hz := h 0 (by omega)
  rw [List.getElem?_eq_getElem (by omega)] at hz
  have ha := spot_none hz
  refine ⟨a.block, a.off, by rw [← ha], fun j hj => ?_⟩
  have hj' := h j hj
  rw [List.getElem?_eq_getElem (by omega)] at hj' ⊢
  rw [ha, addr_add] at hj'
  exact cell_at hj'
theorem wf_u8 {n : Int} (h : (Lit.int .u8 n).wf = true) : 0 ≤ n ∧ n < 256 := by
  simp [Lit.wf, IntKind.min, IntKind.max, IntKind.signed, IntKind.bits] at h
  omega
section
variable {H : Type} {enc : TypeId × Value → H} {P : Program} {W : World} {base : Nat} {held : Bool}
theorem open_bytes {t e : TypeId} {fuel : Nat} {s : Sl} {x : DataW H × List MemPlace} (ht : P.underlying t = some (.slice e)) (he : P.underlying e = some (.int .u8)) (hc : P.cellsOf e = 1)
    (h : DataW.trod enc P W base (fun _ => true) held fuel t [.slice s.a s.n s.c] = some x) : ∃ r : List Int, (wh W).row s.a s.n (bv r) ∧ s.n ≤ s.c ∧ s.c ≤ maxLen ∧ ∀ c ∈ r, 0 ≤ c ∧ c < 256 := by
  rcases open_ints ht he hc h with ⟨hcs, _⟩ | ⟨a, n, c, zs, hcs, _, hl, hm, hz, _, hcell, hwf⟩
  · simp only [List.cons.injEq, Value.slice.injEq, and_true] at hcs
    obtain ⟨h1, h2, h3⟩ := hcs
    exact ⟨[], by rw [h1, h2]; exact ⟨rfl, .inl rfl⟩, by omega, by omega, fun c hc => (by cases hc)⟩
  · simp only [List.cons.injEq, Value.slice.injEq, and_true] at hcs
    obtain ⟨h1, h2, h3⟩ := hcs
    simp only [if_true] at hz
    refine ⟨zs.take n, ?_, by omega, by omega, fun c hc => wf_u8 (hwf c (List.mem_of_mem_take hc))⟩
    rw [h1, h2]
    refine row_of_cells (by rw [bv_length, List.length_take]; omega) fun i hi => ?_
    rw [hcell i (by omega)]
    have : i < zs.length := by omega
    simp [bv, hi, this, List.getD]
theorem open_rows {t e f : TypeId} {a : Option Addr} {len cap : Nat} {d : DataW H} {ps : List MemPlace} (ht : P.underlying t = some (.slice e)) (he : P.underlying e = some (.slice f)) (hf : P.underlying f = some (.int .u8)) (hce : P.cellsOf e = 1) (hcf : P.cellsOf f = 1)
    (h : DataW.Trod enc P W base (fun _ => true) held t (.slice a len cap) d ps) :
    len ≤ cap ∧ ∃ (ss : List Sl) (recs : List (List Int)), (wh W).row a len (slV ss) ∧ Rows (wh W) ss recs ∧ (∀ s ∈ ss, s.n ≤ s.c) ∧ (∀ s ∈ ss, s.n ≤ 9223372036854775807) ∧ ∀ r ∈ recs, ∀ c ∈ r, 0 ≤ c ∧ c < 256 := by
  obtain ⟨fuel, hf0⟩ := h
  rcases DataW.trod_slice ht hf0 with ⟨hcs, _⟩ | ⟨x, l, c, elems, rest, n, _, hcs, _, hb, hl, hm, hlen, hel, _, _⟩
  · simp [Value.cells] at hcs
    obtain ⟨rfl, rfl, rfl⟩ := hcs
    exact ⟨Nat.le_refl _, [], [], ⟨rfl, .inl rfl⟩, ⟨rfl, fun i hi => absurd hi (Nat.not_lt_zero i)⟩, fun s hs => (by cases hs), fun s hs => (by cases hs), fun s hs => (by cases hs)⟩
  · simp [Value.cells] at hcs
    obtain ⟨rfl, rfl, rfl⟩ := hcs
    have each : ∀ i : Fin len, ∃ sr : Sl × List Int, W.cell? (x.add i.1) = some (.slice sr.1.a sr.1.n sr.1.c) ∧ (wh W).row sr.1.a sr.1.n (bv sr.2) ∧ sr.1.n ≤ sr.1.c ∧ sr.1.c ≤ maxLen ∧ ∀ c ∈ sr.2, 0 ≤ c ∧ c < 256 := by
      rintro ⟨i, hi⟩
      have h1 := hel i hi
      rw [hce, Nat.mul_one, List.getElem?_eq_getElem (by omega), Option.bind_eq_some_iff] at h1
      obtain ⟨cs', hcs', hy⟩ := h1
      rcases DataW.trod_slice he hy with ⟨rfl, _⟩ | ⟨a', n', c', _, _, _, _, rfl, _, _, _, _, _, _, _, _⟩
      · obtain ⟨r, h2, h3, h4, h5⟩ := open_bytes (s := ⟨none, 0, 0⟩) he hf hcf hy
        exact ⟨(⟨none, 0, 0⟩, r), cell_of_cells?_one hcs', h2, h3, h4, h5⟩
      · obtain ⟨r, h2, h3, h4, h5⟩ := open_bytes (s := ⟨some a', n', c'⟩) he hf hcf hy
        exact ⟨(⟨some a', n', c'⟩, r), cell_of_cells?_one hcs', h2, h3, h4, h5⟩
    obtain ⟨g, hg⟩ := Classical.axiomOfChoice each
    refine ⟨hl, List.ofFn fun i => (g i).1, List.ofFn fun i => (g i).2, ?_, ⟨by simp, fun i hi hj => ?_⟩, fun s hs => ?_, fun s hs => ?_, fun r hr c hc => ?_⟩
    · refine row_of_cells (by rw [slV_length]; simp) fun i hi => ?_
      have := (hg ⟨i, hi⟩).1
      rw [this]
      simp [slV, hi]
    · have hi' : i < len := by simpa using hi
      have := (hg ⟨i, hi'⟩).2.1
      simpa using this
    · obtain ⟨i, rfl⟩ := (List.mem_ofFn ..).1 hs
      exact (hg i).2.2.1
    · obtain ⟨i, rfl⟩ := (List.mem_ofFn ..).1 hs
      have h1 := (hg i).2.2.1
      have h2 := (hg i).2.2.2.1
      have h3 : maxLen = 9223372036854775807 := by decide
      omega
    · obtain ⟨i, rfl⟩ := (List.mem_ofFn ..).1 hr
      exact (hg i).2.2.2.2 c hc
end
end Go.Eng.YtblghgacokoklaaDoor
end
section
/-
  ROWS, 1: an argument that is a list of edits.
-/
set_option linter.unusedSimpArgs false
set_option linter.unusedVariables false
namespace Go.Eng.YtblghgacokoklaaDoor
open Go.ChangeShapes Go.WideShapes Go.RowKit Go.Proofs
theorem add_add' (a : Addr) (m n : Nat) : (a.add m).add n = a.add (m + n) := by
  unfold Addr.add
  by_cases h1 : m = 0
  · subst h1; simp
  · by_cases h2 : n = 0
    · subst h2; simp [h1]
    · simp [h1, h2, Nat.add_assoc]
theorem wf_u64 {n : Int} (h : (Lit.int .u64 n).wf = true) : okU n := by
  simp [Lit.wf, IntKind.min, IntKind.max, IntKind.signed, IntKind.bits] at h
  exact ⟨by omega, by omega⟩
theorem wf_i64 {n : Int} (h : (Lit.int .i64 n).wf = true) : iI n := by
  simp [Lit.wf, IntKind.min, IntKind.max, IntKind.signed, IntKind.bits] at h
  exact ⟨by omega, by omega⟩
section
variable {H : Type} {enc : TypeId × Value → H} {P : Program} {W : World} {base : Nat} {held : Bool}
theorem slice_rows {α : Type} {t e : TypeId} {fuel : Nat} {s : Sl} {y : DataW H × List MemPlace} (sz : Nat) (f : α → List Value) (ok : α → Prop) (hsz : 0 < sz) (ht : P.underlying t = some (.slice e)) (hc : P.cellsOf e = sz) (hf : ∀ x, (f x).length = sz)
    (each : ∀ (fuel : Nat) (cs : List Value) (z : DataW H × List MemPlace), cs.length = sz → DataW.trod enc P W base (fun _ => true) held fuel e cs = some z → ∃ a, cs = f a ∧ ok a)
    (h : DataW.trod enc P W base (fun _ => true) held fuel t [.slice s.a s.n s.c] = some y) : ∃ l : List α, (wh W).row s.a (s.n * sz) (l.flatMap f) ∧ s.n ≤ s.c ∧ s.c ≤ maxLen ∧ l.length = s.n ∧ ∀ a ∈ l, ok a := by
  rcases DataW.trod_slice ht h with ⟨hcs, _⟩ | ⟨x, len, cap, elems, rest, n, _, hcs, _, hb, hl, hm, hlen, hel, _, _⟩
  · simp only [List.cons.injEq, Value.slice.injEq, and_true] at hcs
    obtain ⟨h1, h2, h3⟩ := hcs
    exact ⟨[], by rw [h1, h2]; exact ⟨by simp, .inl (by simp)⟩, by omega, by omega, by rw [h2]; rfl, fun a ha => (by cases ha)⟩
  · simp only [List.cons.injEq, Value.slice.injEq, and_true] at hcs
    obtain ⟨h1, h2, h3⟩ := hcs
    have ea : ∀ i : Fin len, ∃ a : α, (∀ j, j < sz → W.cell? (x.add (i.1 * sz + j)) = (f a)[j]?) ∧ ok a := by
      rintro ⟨i, hi⟩
      have q := hel i hi
      rw [hc, List.getElem?_eq_getElem (by omega), Option.bind_eq_some_iff] at q
      obtain ⟨cs', hcs', hy⟩ := q
      obtain ⟨_, hcl, hcell⟩ := World.cells?_some hcs'
      obtain ⟨a, rfl, hok⟩ := each _ _ _ hcl hy
      refine ⟨a, fun j hj => ?_, hok⟩
      rw [← hcell j hj, add_add']
    obtain ⟨g, hg⟩ := Classical.axiomOfChoice ea
    refine ⟨List.ofFn g, ?_, by omega, by omega, by rw [List.length_ofFn]; omega, fun a ha => ?_⟩
    · rw [h1, h2]
      have hll : ((List.ofFn g).flatMap f).length = len * sz := by
        have : ∀ l : List α, (l.flatMap f).length = l.length * sz := fun l => flat_length f sz hf l
        rw [this, List.length_ofFn]
      refine row_of_cells hll fun k hk => ?_
      have hi : k / sz < len := Nat.div_lt_of_lt_mul (by rw [Nat.mul_comm]; exact hk)
      have hj : k % sz < sz := Nat.mod_lt _ hsz
      have hkk : k = k / sz * sz + k % sz := by rw [Nat.mul_comm]; exact (Nat.div_add_mod k sz).symm
      have q := (hg ⟨k / sz, hi⟩).1 (k % sz) hj
      have q2 := flat_get f sz hf (List.ofFn g) (k / sz) (k % sz) (by rw [List.length_ofFn]; exact hi) hj
      simp only at q
      rw [← hkk] at q q2
      rw [q, q2]
      simp
    · obtain ⟨i, rfl⟩ := (List.mem_ofFn ..).1 ha
      exact (hg i).2
end
section
variable {H : Type} {enc : TypeId × Value → H} {W : World} {base : Nat} {held : Bool}
theorem c3 : Tryd.prog.cellsOf 3 = 1 := by kernel_rfl
theorem c55 : Tryd.prog.cellsOf 22 = 1 := by kernel_rfl
theorem c9 : Tryd.prog.cellsOf 9 = 1 := by kernel_rfl
theorem c85 : Tryd.prog.cellsOf 106 = 6 := by kernel_rfl
theorem c87 : Tryd.prog.cellsOf 108 = 7 := by kernel_rfl
theorem c89 : Tryd.prog.cellsOf 104 = 2 := by kernel_rfl
theorem c60 : Tryd.prog.cellsOf 65 = 6 := by kernel_rfl
theorem c56 : Tryd.prog.cellsOf 61 = 1 := by kernel_rfl
theorem c57 : Tryd.prog.cellsOf 62 = 1 := by kernel_rfl
theorem c58 : Tryd.prog.cellsOf 63 = 1 := by kernel_rfl
theorem int_cell {fuel : Nat} {c : Value} {x : Option (DataW H × List MemPlace)} (h : DataW.trod enc Tryd.prog W base (fun _ => true) held fuel 3 [c] = x) (hx : x.isSome) : ∃ n, c = .int .i64 n ∧ iI n := by
  obtain ⟨y, rfl⟩ := Option.isSome_iff_exists.1 hx
  obtain ⟨n, hn, _, hw⟩ := DataW.trod_int Tryd.underlying3 h
  exact ⟨n, by simpa using hn, wf_i64 hw⟩
theorem num_cell {fuel : Nat} {c : Value} {x : Option (DataW H × List MemPlace)} (h : DataW.trod enc Tryd.prog W base (fun _ => true) held fuel 22 [c] = x) (hx : x.isSome) : ∃ n, c = .int .u64 n ∧ okU n := by
  obtain ⟨y, rfl⟩ := Option.isSome_iff_exists.1 hx
  obtain ⟨n, hn, _, hw⟩ := DataW.trod_int Tryd.underlying22 h
  exact ⟨n, by simpa using hn, wf_u64 hw⟩
theorem str_cell {fuel : Nat} {c : Value} {x : Option (DataW H × List MemPlace)} (h : DataW.trod enc Tryd.prog W base (fun _ => true) held fuel 9 [c] = x) (hx : x.isSome) : ∃ s : ByteArray, c = .string s ∧ s.size ≤ 9223372036854775807 := by
  obtain ⟨y, rfl⟩ := Option.isSome_iff_exists.1 hx
  obtain ⟨s, hn, _, hw⟩ := DataW.trod_string Tryd.underlying9 h
  exact ⟨s, by simpa using hn, by have : maxLen = 9223372036854775807 := by decide
                                  omega⟩
theorem some_at {xs : List (DataW H × List MemPlace)} {n i : Nat} (h : xs.length = n) (hi : i < n) : (xs[i]?).isSome := by
  rw [List.getElem?_eq_getElem (by omega)]; rfl
theorem place_each (fuel : Nat) (cs : List Value) (z : DataW H × List MemPlace) (hl : cs.length = 2) (h : DataW.trod enc Tryd.prog W base (fun _ => true) held fuel 104 cs = some z) : ∃ p : Place, cs = p.cells ∧ iI p.lv ∧ okU p.num := by
  obtain ⟨xs, n, _, _, _, hxs, hf⟩ := DataW.trod_struct Tryd.underlying104 h
  rcases cs with _ | ⟨a0, _ | ⟨a1, _ | ⟨a2, cs⟩⟩⟩
  · cases hl
  · cases hl
  · have f0 : DataW.trod enc Tryd.prog W base (fun _ => true) held n 3 (([a0, a1].drop 0).take (Tryd.prog.cellsOf 3)) = xs[0]? := hf 0 _ rfl
    rw [c3] at f0
    have f1 : DataW.trod enc Tryd.prog W base (fun _ => true) held n 22 (([a0, a1].drop 1).take (Tryd.prog.cellsOf 22)) = xs[1]? := hf 1 _ rfl
    rw [c55] at f1
    obtain ⟨n0, rfl, g0⟩ := int_cell (c := a0) f0 (some_at hxs (by decide))
    obtain ⟨n1, rfl, g1⟩ := num_cell (c := a1) f1 (some_at hxs (by decide))
    exact ⟨⟨n0, n1⟩, rfl, g0, g1⟩
  · simp at hl
theorem placed_each (fuel : Nat) (cs : List Value) (z : DataW H × List MemPlace) (hl : cs.length = 7) (h : DataW.trod enc Tryd.prog W base (fun _ => true) held fuel 108 cs = some z) : ∃ p : Placed, cs = p.cells ∧ iI p.lv ∧ okU p.num ∧ iI p.weight ∧ iI p.bytes ∧ iI p.entries ∧ p.least.size ≤ 9223372036854775807 ∧ p.greatest.size ≤ 9223372036854775807 := by
  obtain ⟨xs, n, _, _, _, hxs, hf⟩ := DataW.trod_struct Tryd.underlying108 h
  rcases cs with _ | ⟨a0, _ | ⟨a1, _ | ⟨a2, _ | ⟨a3, _ | ⟨a4, _ | ⟨a5, _ | ⟨a6, _ | ⟨a7, cs⟩⟩⟩⟩⟩⟩⟩⟩
  case cons.cons.cons.cons.cons.cons.cons.nil =>
    have f0 : DataW.trod enc Tryd.prog W base (fun _ => true) held n 3 (([a0, a1, a2, a3, a4, a5, a6].drop 0).take (Tryd.prog.cellsOf 3)) = xs[0]? := hf 0 _ rfl
    rw [c3] at f0
    have f1 : DataW.trod enc Tryd.prog W base (fun _ => true) held n 106 (([a0, a1, a2, a3, a4, a5, a6].drop 1).take (Tryd.prog.cellsOf 106)) = xs[1]? := hf 1 _ rfl
    rw [c85] at f1
    obtain ⟨n0, rfl, g0⟩ := int_cell (c := a0) f0 (some_at hxs (by decide))
    obtain ⟨y, hy⟩ := Option.isSome_iff_exists.1 (some_at hxs (i := 1) (by decide))
    rw [hy] at f1
    have f1 : DataW.trod enc Tryd.prog W base (fun _ => true) held n 106 [a1, a2, a3, a4, a5, a6] = some y := f1
    obtain ⟨ys, m, _, _, _, hys, hg⟩ := DataW.trod_struct Tryd.underlying106 f1
    have e0 : DataW.trod enc Tryd.prog W base (fun _ => true) held m 22 (([a1, a2, a3, a4, a5, a6].drop 0).take (Tryd.prog.cellsOf 22)) = ys[0]? := hg 0 _ rfl
    rw [c55] at e0
    have e1 : DataW.trod enc Tryd.prog W base (fun _ => true) held m 3 (([a1, a2, a3, a4, a5, a6].drop 1).take (Tryd.prog.cellsOf 3)) = ys[1]? := hg 1 _ rfl
    rw [c3] at e1
    have e2 : DataW.trod enc Tryd.prog W base (fun _ => true) held m 3 (([a1, a2, a3, a4, a5, a6].drop 2).take (Tryd.prog.cellsOf 3)) = ys[2]? := hg 2 _ rfl
    rw [c3] at e2
    have e3 : DataW.trod enc Tryd.prog W base (fun _ => true) held m 3 (([a1, a2, a3, a4, a5, a6].drop 3).take (Tryd.prog.cellsOf 3)) = ys[3]? := hg 3 _ rfl
    rw [c3] at e3
    have e4 : DataW.trod enc Tryd.prog W base (fun _ => true) held m 9 (([a1, a2, a3, a4, a5, a6].drop 4).take (Tryd.prog.cellsOf 9)) = ys[4]? := hg 4 _ rfl
    rw [c9] at e4
    have e5 : DataW.trod enc Tryd.prog W base (fun _ => true) held m 9 (([a1, a2, a3, a4, a5, a6].drop 5).take (Tryd.prog.cellsOf 9)) = ys[5]? := hg 5 _ rfl
    rw [c9] at e5
    obtain ⟨n1, rfl, g1⟩ := num_cell (c := a1) e0 (some_at hys (by decide))
    obtain ⟨n2, rfl, g2⟩ := int_cell (c := a2) e1 (some_at hys (by decide))
    obtain ⟨n3, rfl, g3⟩ := int_cell (c := a3) e2 (some_at hys (by decide))
    obtain ⟨n4, rfl, g4⟩ := int_cell (c := a4) e3 (some_at hys (by decide))
    obtain ⟨s5, rfl, g5⟩ := str_cell (c := a5) e4 (some_at hys (by decide))
    obtain ⟨s6, rfl, g6⟩ := str_cell (c := a6) e5 (some_at hys (by decide))
    exact ⟨⟨n0, n1, n2, n3, n4, s5, s6⟩, rfl, g0, g1, g2, g3, g4, g5, g6⟩
  all_goals simp at hl
theorem text_each (fuel : Nat) (cs : List Value) (z : DataW H × List MemPlace) (hl : cs.length = 1) (h : DataW.trod enc Tryd.prog W base (fun _ => true) held fuel 9 cs = some z) : ∃ s : ByteArray, cs = [Value.string s] ∧ s.size ≤ 9223372036854775807 := by
  rcases cs with _ | ⟨a0, _ | ⟨a1, cs⟩⟩
  · cases hl
  · obtain ⟨s, rfl, hs⟩ := str_cell h rfl
    exact ⟨s, rfl, hs⟩
  · simp at hl
theorem slice_cell {t e : TypeId} {fuel : Nat} {c : Value} {x : Option (DataW H × List MemPlace)} (ht : Tryd.prog.underlying t = some (.slice e)) (h : DataW.trod enc Tryd.prog W base (fun _ => true) held fuel t [c] = x) (hx : x.isSome) : ∃ s : Sl, c = .slice s.a s.n s.c ∧ ∃ y, DataW.trod enc Tryd.prog W base (fun _ => true) held fuel t [.slice s.a s.n s.c] = some y := by
  obtain ⟨y, rfl⟩ := Option.isSome_iff_exists.1 hx
  rcases DataW.trod_slice ht h with ⟨hcs, _⟩ | ⟨a, len, cap, _, _, _, _, hcs, _, _, _, _, _, _, _, _⟩
  · simp only [List.cons.injEq, and_true] at hcs
    subst hcs
    exact ⟨⟨none, 0, 0⟩, rfl, y, h⟩
  · simp only [List.cons.injEq, and_true] at hcs
    subst hcs
    exact ⟨⟨some a, len, cap⟩, rfl, y, h⟩
theorem flat_one : ∀ p : List ByteArray, p.flatMap (fun s : ByteArray => [Value.string s]) = ptrV p
  | [] => rfl
  | a :: l => by
    rw [List.flatMap_cons, flat_one l]
    rfl
theorem edit_each (fuel : Nat) (cs : List Value) (z : DataW H × List MemPlace) (hl : cs.length = 6) (h : DataW.trod enc Tryd.prog W base (fun _ => true) held fuel 65 cs = some z) :
    ∃ x : EdS, cs = x.cells ∧ EdAt (wh W) x.e x.a x.b x.c ∧ Raw x.e ∧ x.e.out.length ≤ 9223372036854775807 ∧ x.e.inn.length ≤ 9223372036854775807 ∧ x.e.ptr.length ≤ 9223372036854775807 := by
  obtain ⟨xs, n, _, _, _, hxs, hf⟩ := DataW.trod_struct Tryd.underlying65 h
  rcases cs with _ | ⟨a0, _ | ⟨a1, _ | ⟨a2, _ | ⟨a3, _ | ⟨a4, _ | ⟨a5, _ | ⟨a6, cs⟩⟩⟩⟩⟩⟩⟩
  case cons.cons.cons.cons.cons.cons.nil =>
    have f0 : DataW.trod enc Tryd.prog W base (fun _ => true) held n 22 (([a0, a1, a2, a3, a4, a5].drop 0).take (Tryd.prog.cellsOf 22)) = xs[0]? := hf 0 _ rfl
    rw [c55] at f0
    have f1 : DataW.trod enc Tryd.prog W base (fun _ => true) held n 22 (([a0, a1, a2, a3, a4, a5].drop 1).take (Tryd.prog.cellsOf 22)) = xs[1]? := hf 1 _ rfl
    rw [c55] at f1
    have f2 : DataW.trod enc Tryd.prog W base (fun _ => true) held n 22 (([a0, a1, a2, a3, a4, a5].drop 2).take (Tryd.prog.cellsOf 22)) = xs[2]? := hf 2 _ rfl
    rw [c55] at f2
    have f3 : DataW.trod enc Tryd.prog W base (fun _ => true) held n 61 (([a0, a1, a2, a3, a4, a5].drop 3).take (Tryd.prog.cellsOf 61)) = xs[3]? := hf 3 _ rfl
    rw [c56] at f3
    have f4 : DataW.trod enc Tryd.prog W base (fun _ => true) held n 62 (([a0, a1, a2, a3, a4, a5].drop 4).take (Tryd.prog.cellsOf 62)) = xs[4]? := hf 4 _ rfl
    rw [c57] at f4
    have f5 : DataW.trod enc Tryd.prog W base (fun _ => true) held n 63 (([a0, a1, a2, a3, a4, a5].drop 5).take (Tryd.prog.cellsOf 63)) = xs[5]? := hf 5 _ rfl
    rw [c58] at f5
    obtain ⟨n0, rfl, g0⟩ := num_cell (c := a0) f0 (some_at hxs (by decide))
    obtain ⟨n1, rfl, g1⟩ := num_cell (c := a1) f1 (some_at hxs (by decide))
    obtain ⟨n2, rfl, g2⟩ := num_cell (c := a2) f2 (some_at hxs (by decide))
    obtain ⟨s3, rfl, y3, h3⟩ := slice_cell (c := a3) Tryd.underlying61 f3 (some_at hxs (by decide))
    obtain ⟨s4, rfl, y4, h4⟩ := slice_cell (c := a4) Tryd.underlying62 f4 (some_at hxs (by decide))
    obtain ⟨s5, rfl, y5, h5⟩ := slice_cell (c := a5) Tryd.underlying63 f5 (some_at hxs (by decide))
    obtain ⟨o, r3, _, m3, l3, k3⟩ := slice_rows 2 Place.cells (fun p => iI p.lv ∧ okU p.num) (by decide) Tryd.underlying61 c89 (fun _ => rfl) place_each h3
    obtain ⟨i, r4, _, m4, l4, k4⟩ := slice_rows 7 Placed.cells (fun p => iI p.lv ∧ okU p.num ∧ iI p.weight ∧ iI p.bytes ∧ iI p.entries ∧ p.least.size ≤ 9223372036854775807 ∧ p.greatest.size ≤ 9223372036854775807) (by decide) Tryd.underlying62 c87 (fun _ => rfl) placed_each h4
    obtain ⟨p, r5, _, m5, l5, k5⟩ := slice_rows 1 (fun s : ByteArray => [Value.string s]) (fun s => s.size ≤ 9223372036854775807) (by decide) Tryd.underlying63 c9 (fun _ => rfl) text_each h5
    have hmax : maxLen = 9223372036854775807 := by decide
    have e5 : p.flatMap (fun s : ByteArray => [Value.string s]) = ptrV p := flat_one p
    rw [e5, Nat.mul_one] at r5
    exact ⟨⟨⟨n0, n1, n2, o, i, p⟩, s3, s4, s5⟩, rfl, ⟨r3, r4, r5⟩, ⟨g0, g1, g2, k3, k4, k5⟩, by show o.length ≤ _; omega, by show i.length ≤ _; omega, by show p.length ≤ _; omega⟩
  all_goals simp at hl
theorem open_edits {a : Option Addr} {len cap : Nat} {d : DataW H} {ps : List MemPlace} (h : DataW.Trod enc Tryd.prog W base (fun _ => true) held 55 (.slice a len cap) d ps) : ∃ L, Args (wh W) ⟨a, len, cap⟩ L := by
  obtain ⟨fuel, hf0⟩ := h
  have hf1 : DataW.trod enc Tryd.prog W base (fun _ => true) held fuel 55 [.slice (⟨a, len, cap⟩ : Sl).a (⟨a, len, cap⟩ : Sl).n (⟨a, len, cap⟩ : Sl).c] = some (d, ps) := hf0
  obtain ⟨L, r, _, _, _, k⟩ := slice_rows 6 EdS.cells (fun x => EdAt (wh W) x.e x.a x.b x.c ∧ Raw x.e ∧ x.e.out.length ≤ 9223372036854775807 ∧ x.e.inn.length ≤ 9223372036854775807 ∧ x.e.ptr.length ≤ 9223372036854775807) (by decide) Tryd.underlying55 c60 (fun _ => rfl) edit_each hf1
  exact ⟨L, r, fun x hx => (k x hx).1, fun x hx => (k x hx).2.1, fun x hx => (k x hx).2.2⟩
end
end Go.Eng.YtblghgacokoklaaDoor
end
section
namespace Go.Proofs.YtblghgacokoklaaDoor.manifestPuts
open Go.ChangeShapes Go.WideShapes Go.ChangeAt Go.RowKit Go.Eng Go.Eng.YtblghgacokoklaaDoor
set_option linter.unusedVariables false
set_option maxRecDepth 100000
theorem own : ownKnob Tryd.prog.godebug = none := by kernel_rfl
theorem laidOut : laidOutB Tryd.prog = true := by kernel_rfl
theorem gNib : Tryd.prog.globalNamed "scree/codec.nibbles" = some 0 := by kernel_rfl
theorem tNib : (Tryd.prog.globals[0]?).map (·.type) = some 198 := by kernel_rfl
theorem cNib : Tryd.prog.cellsOf 198 = 16 := by kernel_rfl
theorem c32 : Tryd.prog.cellsOf 133 = 1 := by kernel_rfl
theorem datum : Rows.laid_scree_codec_nibbles (H := Unit) = .agg (nibL.map fun n : Nat => .lit (.int .u32 (n : Int))) := rfl
/-- The table lies in the first block. -/
theorem tab_of_laid {W : World} (h : laidMetH Tryd.prog [("scree/codec.nibbles", Rows.laid_scree_codec_nibbles)] W) : Tab (wh W) := by
  rw [MakeChecks.laidMetH_plain _ _ _ (by kernel_rfl)] at h
  obtain ⟨ps, ⟨g0, t0, cs0, f0, p0, q0, hg0, ht0, hv0, hd0, _, _⟩, _⟩ := h
  obtain rfl := Option.some.inj (gNib.symm.trans hg0)
  obtain rfl := Option.some.inj (tNib.symm.trans ht0)
  obtain ⟨xs, m, rfl, hx, hlen, hn, hel⟩ := DataW.trod_array Tryd.underlying198 hd0
  rw [cNib] at hlen
  rw [datum] at hx
  simp only [Prod.mk.injEq, DataW.agg.injEq] at hx
  intro i hi
  have h1 := hel i hi
  rw [c32, Nat.mul_one, List.getElem?_eq_getElem (by omega)] at h1
  have hil : i < cs0.toList.length := by omega
  have e1 : (cs0.toList.drop i).take 1 = [cs0.toList[i]] := by
    rw [List.drop_eq_getElem_cons hil]; rfl
  rw [e1] at h1
  obtain ⟨n, e2, e3, _⟩ := DataW.trod_int Tryd.underlying133 h1
  have e4 : (xs.map (·.1))[i]? = some (.lit (.int .u32 ((nib i : Nat) : Int))) := by
    rw [← hx.1, List.getElem?_map, nib_tab i hi]; rfl
  rw [List.getElem?_map, List.getElem?_eq_getElem (by omega)] at e4
  simp only [Option.map_some, Option.some.injEq] at e4
  rw [e3] at e4
  simp only [DataW.lit.injEq, Lit.int.injEq, true_and] at e4
  subst e4
  refine cell_at ?_
  rw [World.var?_cell hg0 hv0 i, ← Array.getElem?_toList, List.getElem?_eq_getElem hil]
  simp only [List.cons.injEq, and_true] at e2
  rw [e2]
theorem door_met (os : Os) (args : Array Value) : laidMetH Tryd.prog [("scree/codec.nibbles", Rows.laid_scree_codec_nibbles)] ((World.doorLaid Tryd.prog 14 os).forCall (fun _ _ => 0) ⟨#[], args, []⟩).memory :=
  laidMetH_of_parts3 (fuel := 8) (laidMet_of_run' 8 (by kernel_rfl) (by kernel_rfl)) (by kernel_rfl) (by kernel_rfl)
theorem walk {W : World} {n : Int} {l : Sl} {L : List EdS} (T : Tab (wh W)) (A : Args (wh W) l L) :
    Calls Tryd.prog 4 #[.slice l.a l.n l.c, .int .i64 n] W fun e W' => e = .returned (.bool true) ∧ Below W.heap.size W W' := by
  have hT : F4.T l n (wh W) (fun v h' => v = .bool true ∧ Keep (wh W) h') := puts_spec T A fun h' K => ⟨rfl, K⟩
  have hV : F4.V [.slice l.a l.n l.c, .int .i64 n] (wh W) (fun v h' => v = .bool true ∧ Keep (wh W) h') := hT
  refine (F4.ok.2 [.slice l.a l.n l.c, .int .i64 n] (wh W) _ hV (fun _ => none) W (own_wh W)).mono fun e W' ⟨v, h', he, ho, hw, hv, K⟩ => ?_
  subst hv
  exact ⟨he, below_of hw ho K⟩
theorem lifted (os : Os) (started : os.Started) (H : Type) (enc : TypeId × Value → H) :
    ReturnsInHanded {} Tryd.checked os 4 .any (fun w args => (Rows.manifestPutsSpec.pre enc Tryd.prog Tryd.f4 [] false w args ∧ laidMetH Tryd.prog [("scree/codec.nibbles", Rows.laid_scree_codec_nibbles)] w) ∧ sizedMet enc Tryd.prog Tryd.f4 (OpenSpec.ofChange Rows.manifestPutsSpec) false w args)
      (Rows.manifestPutsSpec.post enc Tryd.prog Tryd.f4 false true false false) := by
  refine returnsInHanded_of_change_and (C := Tryd.checked) (X := fun w _ => laidMetH Tryd.prog [("scree/codec.nibbles", Rows.laid_scree_codec_nibbles)] w) (fun _ _ _ hh h => h.of_heap hh) own started (by kernel_rfl) Tryd.func4
    (ChangeSpec.witness_shaped (enc := enc) (C := Tryd.checked) (os := os) (X := fun w _ => laidMetH Tryd.prog [("scree/codec.nibbles", Rows.laid_scree_codec_nibbles)] w) false (World.doorLaid Tryd.prog 14 os) #[.slice none 0 0, .int .i64 0] 8 rfl (World.shaped_of_RefB (by kernel_rfl) (by kernel_rfl)) (by kernel_rfl) (by kernel_rfl) (by kernel_rfl) (door_met os _)) ?_
  intro W base args ds gs before hval0 hW _ hsz0 hL _
  have hval : ∀ (j : Nat) t v, Tryd.f4.params[j]? = some t → args[j]? = some v → Value.okWide Tryd.prog W .any base t v := hval0
  have hW' := hW
  obtain ⟨p, q, hA0, hV, rfl, hfz, hnd⟩ := hW
  have hA : DataW.TrodAll enc Tryd.prog W 0 (fun _ => true) true Tryd.f4.params.toList args.toList ds p := hA0
  rw [Tryd.params4] at hA hval hsz0
  obtain ⟨v0, vs0, d0, ds0, p0, q0, hargs, rfl, rfl, h0, r0⟩ := trodAll_cons hA
  obtain ⟨v1, vs1, d1, ds1, p1, q1, rfl, rfl, rfl, h1, r1⟩ := trodAll_cons r0
  obtain ⟨rfl, rfl, rfl⟩ := trodAll_nil r1
  obtain rfl : args = #[v0, v1] := by cases args; simp_all
  obtain ⟨rfl, rfl⟩ := trodVars_none hV
  obtain ⟨a0, len0, cap0, rfl⟩ := okWide_slice Tryd.underlying55 (hval 0 55 v0 rfl rfl)
  have k0 := h0
  have lt0 : ∀ x ∈ p0, x.block < W.heap.size := by obtain ⟨m, hm⟩ := k0; exact DataW.trod_lt m _ _ _ hm
  obtain ⟨a1, rfl, rfl, rfl, w1⟩ := open_int Tryd.underlying3 (hval 1 3 v1 rfl rfl) h1
  obtain ⟨L, A⟩ := open_edits h0
  clear hA0 hval0 hsz0
  refine (walk (tab_of_laid hL) A).mono fun e W' ⟨he, bel⟩ => ?_
  subst he
  exact ⟨_, rfl, _, _, _, [], _, [], hW', trodAll_mk1 (shut_bool Tryd.underlying4 _), (trodAll_cons_mk (Below.trod laidOut (by kernel_rfl) (of_decide_eq_true (by kernel_rfl)) k0 bel lt0) (trodAll_cons_mk (shut_int Tryd.underlying3 w1) trodAll_mk0)), rfl, bel.frame _, fun h => by cases h⟩
theorem over : Rows.ManifestPutsSaid :=
  OpenClaim.holds_of_wide 4 Tryd.f4 rfl rfl rfl rfl rfl rfl rfl ⟨rfl, rfl, rfl, rfl, rfl⟩ rfl rfl rfl rfl rfl (by kernel_rfl) Tryd.func4 (by kernel_rfl)
    (of_decide_eq_true (by kernel_rfl)) (by unfold Func.isWrapper; first | (rw [if_pos (by decide +kernel)]; kernel_rfl) | (rw [if_neg (by decide +kernel)]; exact ⟨rfl, rfl⟩))
    (fun os started H enc _ => lifted os started H enc)
theorem proved : Rows.ManifestPutsCardSaid :=
  Claim7.holds_tied_plain_at .later [] [.data] true (true, "7bfe45f4d7d1248fbb256a9a881accb087cc8ebbb082f31669a99a686b5bfe16") false
    over (fun _ h => by cases h) (by kernel_rfl) (fun _ h => by cases h) manifestPuts_row_tie rfl ⟨rfl, rfl⟩ (by kernel_rfl) rfl
    (fun f fn hf hfn => by
      obtain rfl : f = 4 := Option.some.inj ((show Tryd.prog.funcNamed "scree/screelaw14.ManifestPuts" = some 4 by kernel_rfl).symm.trans hf) |>.symm
      obtain rfl : fn = Tryd.f4 := (Option.some.inj (Tryd.func4.symm.trans hfn)).symm
      exact ⟨by kernel_rfl, fun j t ht => by
        rw [Tryd.params4] at ht
        have hm : t ∈ [55, 3] := by simpa using Array.mem_of_getElem? ht
        have hall : ([55, 3].all fun u => !Tryd.prog.wantsStandIn u) = true := by kernel_rfl
        exact (show Tryd.prog.wantsStandIn t = false by simpa using List.all_eq_true.1 hall t hm)⟩)
    (by kernel_rfl)
#print axioms proved
end Go.Proofs.YtblghgacokoklaaDoor.manifestPuts
end
