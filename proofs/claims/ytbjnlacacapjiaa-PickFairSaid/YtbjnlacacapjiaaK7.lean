/-
  TEXTS OF MINE, JOINED: RV PKA JP1 JP2 JP3 JP4 JP5 JP6 JP7 JP9 JPA JPB.
-/
import Derived.Test.YtbjnlacacapjiaaK5
import Derived.Test.YtbjnlacacapjiaaK6
import Derived.ChangeSlices
import Derived.SizedLaws
import Derived.Below
import Derived.Test.YtbjnlacacapjiaaK2
set_option linter.unusedSimpArgs false
set_option linter.unusedVariables false
section
open Go.Proofs
namespace Go.Eng.Ytbjnlacacapjiaa
open Go.ChangeShapes Go.WideShapes Go.RowKit
def wh (W : World) : Hp := fun b => W.heap[b]?
theorem own_wh (W : World) : Own (fun _ => none) (wh W) W := ⟨fun _ _ h => h, fun _ _ h => (by cases h), fun _ => .inr rfl⟩
theorem below_of {W W' : World} {h' : Hp} (hw : Wr W W') (ho : Own (fun _ => none) h' W') (K : Keep (wh W) h') : Below W.heap.size W W' := by
  refine ⟨hw.os, hw.tape, hw.output, hw.size, fun k hk => ?_⟩
  have h1 : wh W k = some W.heap[k] := by unfold wh; exact Array.getElem?_eq_getElem hk
  have h2 := ho.hh k _ (K k _ h1)
  rw [h2, Array.getElem?_eq_getElem hk]
theorem cell_at {W : World} {b o : Nat} {v : Value} (h : W.cell? ⟨b, o, none⟩ = some v) : (wh W).at b o = some v := by
  unfold World.cell? at h
  unfold Hp.at wh
  cases hb : W.heap[b]? with
  | none => rw [hb] at h; cases h
  | some x =>
    rw [hb] at h
    cases x with
    | cells c t f => simpa using h
    | _ => cases h
theorem spot_none {W : World} {a : Addr} {v : Value} (h : W.cell? (a.add 0) = some v) : a = ⟨a.block, a.off, none⟩ := by
  obtain ⟨b, o, p⟩ := a
  cases p with
  | none => rfl
  | some p =>
    exfalso
    unfold World.cell? at h
    simp only [Addr.add, if_pos] at h
    cases hb : W.heap[b]? with
    | none => rw [hb] at h; cases h
    | some x =>
      rw [hb] at h
      cases x with
      | cells c t f => simp at h
      | _ => cases h
theorem row_of_cells {W : World} {a : Addr} {n : Nat} {vs : List Value} (hl : vs.length = n) (h : ∀ i, (hi : i < n) → W.cell? (a.add i) = vs[i]?) : (wh W).row (some a) n vs := by
  refine ⟨hl, ?_⟩
  by_cases h0 : n = 0
  · exact .inl h0
  right
  have hz := h 0 (by omega)
  rw [List.getElem?_eq_getElem (by omega)] at hz
  have ha := spot_none hz
  refine ⟨a.block, a.off, by rw [← ha], fun j hj => ?_⟩
  have hj' := h j hj
  rw [List.getElem?_eq_getElem (by omega)] at hj' ⊢
  rw [ha, addr_add] at hj'
  exact cell_at hj'
theorem add_add' (a : Addr) (m n : Nat) : (a.add m).add n = a.add (m + n) := by
  unfold Addr.add
  by_cases h1 : m = 0
  · subst h1; simp
  · by_cases h2 : n = 0
    · subst h2; simp [h1]
    · simp [h1, h2, Nat.add_assoc]
theorem wf_i64 {n : Int} (h : (Lit.int .i64 n).wf = true) : iI n := by
  simp [Lit.wf, IntKind.min, IntKind.max, IntKind.signed, IntKind.bits] at h
  exact ⟨by omega, by omega⟩
theorem weights_mem_all {H : Type} {P : Program} {e : TypeId} : ∀ {E : List (DataW H)} {d : DataW H}, d ∈ E → ∀ n ∈ d.weights P e, n ∈ DataW.weightsAll P e E
  | x :: E, d, hd, n, hn => by
    simp only [DataW.weightsAll, List.mem_append]
    rcases List.mem_cons.1 hd with rfl | hd
    · exact .inl hn
    · exact .inr (weights_mem_all hd n hn)
def WB {H : Type} (P : Program) (t : TypeId) (d : DataW H) : Prop := ∀ n ∈ d.weights P t, n ≤ reachBytes
theorem reach_le {n : Nat} (h : n ≤ reachBytes) : n ≤ 140737488355328 := by have := reachBytes_lt; omega
section
variable {H : Type} {enc : TypeId × Value → H} {P : Program} {W : World} {base : Nat} {held : Bool}
theorem slice_rowsW {α : Type} {t e : TypeId} {fuel : Nat} {s : Sl} {y : DataW H × List MemPlace} (sz : Nat) (f : α → List Value) (ok : α → Prop) (hsz : 0 < sz) (ht : P.underlying t = some (.slice e)) (hc : P.cellsOf e = sz) (hf : ∀ x, (f x).length = sz)
    (each : ∀ (fuel : Nat) (cs : List Value) (z : DataW H × List MemPlace), cs.length = sz → DataW.trod enc P W base (fun _ => true) held fuel e cs = some z → WB P e z.1 → ∃ a, cs = f a ∧ ok a)
    (h : DataW.trod enc P W base (fun _ => true) held fuel t [.slice s.a s.n s.c] = some y) (hw : WB P t y.1) : ∃ l : List α, (wh W).row s.a (s.n * sz) (l.flatMap f) ∧ s.n ≤ s.c ∧ (s.a = none → s.n = 0) ∧ l.length = s.n ∧ (s.n * P.bytesOf e ≤ reachBytes) ∧ ∀ a ∈ l, ok a := by
  rcases DataW.trod_slice ht h with ⟨hcs, _⟩ | ⟨x, len, cap, elems, rest, n, _, hcs, hyy, hb, hl, hm, hlen, hel, _, _⟩
  · simp only [List.cons.injEq, Value.slice.injEq, and_true] at hcs
    obtain ⟨h1, h2, h3⟩ := hcs
    exact ⟨[], by rw [h1, h2]; exact ⟨by simp, .inl (by simp)⟩, by omega, fun _ => h2, by rw [h2]; rfl, by rw [h2]; omega, fun a ha => (by cases ha)⟩
  · simp only [List.cons.injEq, Value.slice.injEq, and_true] at hcs
    obtain ⟨h1, h2, h3⟩ := hcs
    have hwl : ∀ n ∈ (DataW.slice (elems.map (·.1)) (rest.map (·.1))).weights P t, n ≤ reachBytes := by rw [hyy] at hw; exact hw
    have hws : (DataW.slice (elems.map (·.1)) (rest.map (·.1))).weights P t = ((elems.map (·.1)).length + (rest.map (·.1)).length) * P.bytesOf e :: (DataW.weightsAll P e (elems.map (·.1)) ++ DataW.weightsAll P e (rest.map (·.1))) := by simp [DataW.weights, ht]
    have ea : ∀ i : Fin len, ∃ a : α, (∀ j, j < sz → W.cell? (x.add (i.1 * sz + j)) = (f a)[j]?) ∧ ok a := by
      rintro ⟨i, hi⟩
      have q := hel i hi
      rw [hc, List.getElem?_eq_getElem (by omega), Option.bind_eq_some_iff] at q
      obtain ⟨cs', hcs', hy⟩ := q
      obtain ⟨_, hcl, hcell⟩ := World.cells?_some hcs'
      obtain ⟨a, rfl, hok⟩ := each _ _ _ hcl hy (fun m hm => hwl m (by
        rw [hws]
        refine List.mem_cons_of_mem _ (List.mem_append_left _ (weights_mem_all (List.mem_map_of_mem (List.getElem_mem (l := elems) (n := i) (by omega))) m hm))))
      refine ⟨a, fun j hj => ?_, hok⟩
      rw [← hcell j hj, add_add']
    obtain ⟨g, hg⟩ := Classical.axiomOfChoice ea
    refine ⟨List.ofFn g, ?_, by omega, fun hn => (by rw [h1] at hn; cases hn), by rw [List.length_ofFn]; omega, ?_, fun a ha => ?_⟩
    · rw [h1, h2]
      have hll : ((List.ofFn g).flatMap f).length = len * sz := by rw [flat_length f sz hf, List.length_ofFn]
      refine row_of_cells hll fun k hk => ?_
      have hi : k / sz < len := Nat.div_lt_of_lt_mul (by rw [Nat.mul_comm]; exact hk)
      have hj : k % sz < sz := Nat.mod_lt _ hsz
      have hkk : k = k / sz * sz + k % sz := by rw [Nat.mul_comm]; exact (Nat.div_add_mod k sz).symm
      have q := (hg ⟨k / sz, hi⟩).1 (k % sz) hj
      have q2 := flat_get f sz hf (List.ofFn g) (k / sz) (k % sz) (by rw [List.length_ofFn]; exact hi) hj
      simp only at q
      rw [← hkk] at q q2
      rw [q, q2]
      simp
    · have := hwl _ (by rw [hws]; exact List.mem_cons_self)
      rw [List.length_map, List.length_map] at this
      exact Nat.le_trans (Nat.mul_le_mul_right _ (by omega)) this
    · obtain ⟨i, rfl⟩ := (List.mem_ofFn ..).1 ha
      exact (hg i).2
theorem some_at {xs : List (DataW H × List MemPlace)} {n i : Nat} (h : xs.length = n) (hi : i < n) : ∃ y, xs[i]? = some y := ⟨_, List.getElem?_eq_getElem (by omega)⟩
end
section
variable {H : Type} {enc : TypeId × Value → H} {W : World} {base : Nat} {held : Bool}
theorem flat_one {α : Type} (g : α → Value) : ∀ l : List α, l.flatMap (fun x => [g x]) = l.map g
  | [] => rfl
  | a :: l => by rw [List.flatMap_cons, flat_one g l]; rfl
theorem c3 : Try.prog.cellsOf 3 = 1 := by kernel_rfl
theorem c9 : Try.prog.cellsOf 9 = 1 := by kernel_rfl
theorem c33 : Try.prog.cellsOf 33 = 1 := by kernel_rfl
theorem c47 : Try.prog.cellsOf 47 = 6 := by kernel_rfl
theorem c49 : Try.prog.cellsOf 49 = 7 := by kernel_rfl
theorem c58 : Try.prog.cellsOf 58 = 27 := by kernel_rfl
theorem b9 : Try.prog.bytesOf 9 = 16 := by kernel_rfl
theorem b33 : Try.prog.bytesOf 33 = 8 := by kernel_rfl
theorem b49 : Try.prog.bytesOf 49 = 72 := by kernel_rfl
theorem wf_u64 {n : Int} (h : (Lit.int .u64 n).wf = true) : okU n := by
  simp [Lit.wf, IntKind.min, IntKind.max, IntKind.signed, IntKind.bits] at h
  exact ⟨by omega, by omega⟩
theorem int_cell {fuel : Nat} {c : Value} {y : DataW H × List MemPlace} (h : DataW.trod enc Try.prog W base (fun _ => true) held fuel 3 [c] = some y) : ∃ n, c = .int .i64 n ∧ iI n := by
  obtain ⟨n, hn, _, hw⟩ := DataW.trod_int Try.underlying3 h
  exact ⟨n, by simpa using hn, wf_i64 hw⟩
theorem num_cell {fuel : Nat} {c : Value} {y : DataW H × List MemPlace} (h : DataW.trod enc Try.prog W base (fun _ => true) held fuel 33 [c] = some y) : ∃ n, c = .int .u64 n ∧ okU n := by
  obtain ⟨n, hn, _, hw⟩ := DataW.trod_int Try.underlying33 h
  exact ⟨n, by simpa using hn, wf_u64 hw⟩
theorem str_cell {fuel : Nat} {c : Value} {y : DataW H × List MemPlace} (h : DataW.trod enc Try.prog W base (fun _ => true) held fuel 9 [c] = some y) : ∃ s : ByteArray, c = .string s ∧ s.size ≤ 9223372036854775807 := by
  obtain ⟨s, hn, _, hw⟩ := DataW.trod_string Try.underlying9 h
  exact ⟨s, by simpa using hn, by have : maxLen = 9223372036854775807 := by decide
                                  omega⟩
def okP (p : Placed) : Prop := iI p.lv ∧ okU p.num ∧ iI p.weight ∧ iI p.bytes ∧ iI p.entries ∧ p.least.size ≤ 9223372036854775807 ∧ p.greatest.size ≤ 9223372036854775807
theorem placed_each (fuel : Nat) (cs : List Value) (z : DataW H × List MemPlace) (hl : cs.length = 7) (h : DataW.trod enc Try.prog W base (fun _ => true) held fuel 49 cs = some z) (hw : WB Try.prog 49 z.1) : ∃ p : Placed, cs = p.cells ∧ okP p := by
  obtain ⟨xs, n, _, rfl, _, hxs, hf⟩ := DataW.trod_struct Try.underlying49 h
  rcases cs with _ | ⟨a0, _ | ⟨a1, _ | ⟨a2, _ | ⟨a3, _ | ⟨a4, _ | ⟨a5, _ | ⟨a6, _ | ⟨a7, cs⟩⟩⟩⟩⟩⟩⟩⟩
  case cons.cons.cons.cons.cons.cons.cons.nil =>
    obtain ⟨y0, h0⟩ := some_at hxs (i := 0) (by decide)
    obtain ⟨y1, h1⟩ := some_at hxs (i := 1) (by decide)
    have f0 : DataW.trod enc Try.prog W base (fun _ => true) held n 3 (([a0, a1, a2, a3, a4, a5, a6].drop 0).take (Try.prog.cellsOf 3)) = xs[0]? := hf 0 _ rfl
    have f1 : DataW.trod enc Try.prog W base (fun _ => true) held n 47 (([a0, a1, a2, a3, a4, a5, a6].drop 1).take (Try.prog.cellsOf 47)) = xs[1]? := hf 1 _ rfl
    rw [c3, h0] at f0
    rw [c47, h1] at f1
    have f1 : DataW.trod enc Try.prog W base (fun _ => true) held n 47 [a1, a2, a3, a4, a5, a6] = some y1 := f1
    obtain ⟨ys, m, _, _, _, hys, hg⟩ := DataW.trod_struct Try.underlying47 f1
    obtain ⟨ye0, he0⟩ := some_at hys (i := 0) (by decide)
    have e0 : DataW.trod enc Try.prog W base (fun _ => true) held m 33 (([a1, a2, a3, a4, a5, a6].drop 0).take (Try.prog.cellsOf 33)) = ys[0]? := hg 0 _ rfl
    rw [c33, he0] at e0
    obtain ⟨ye1, he1⟩ := some_at hys (i := 1) (by decide)
    have e1 : DataW.trod enc Try.prog W base (fun _ => true) held m 3 (([a1, a2, a3, a4, a5, a6].drop 1).take (Try.prog.cellsOf 3)) = ys[1]? := hg 1 _ rfl
    rw [c3, he1] at e1
    obtain ⟨ye2, he2⟩ := some_at hys (i := 2) (by decide)
    have e2 : DataW.trod enc Try.prog W base (fun _ => true) held m 3 (([a1, a2, a3, a4, a5, a6].drop 2).take (Try.prog.cellsOf 3)) = ys[2]? := hg 2 _ rfl
    rw [c3, he2] at e2
    obtain ⟨ye3, he3⟩ := some_at hys (i := 3) (by decide)
    have e3 : DataW.trod enc Try.prog W base (fun _ => true) held m 3 (([a1, a2, a3, a4, a5, a6].drop 3).take (Try.prog.cellsOf 3)) = ys[3]? := hg 3 _ rfl
    rw [c3, he3] at e3
    obtain ⟨ye4, he4⟩ := some_at hys (i := 4) (by decide)
    have e4 : DataW.trod enc Try.prog W base (fun _ => true) held m 9 (([a1, a2, a3, a4, a5, a6].drop 4).take (Try.prog.cellsOf 9)) = ys[4]? := hg 4 _ rfl
    rw [c9, he4] at e4
    obtain ⟨ye5, he5⟩ := some_at hys (i := 5) (by decide)
    have e5 : DataW.trod enc Try.prog W base (fun _ => true) held m 9 (([a1, a2, a3, a4, a5, a6].drop 5).take (Try.prog.cellsOf 9)) = ys[5]? := hg 5 _ rfl
    rw [c9, he5] at e5
    obtain ⟨n0, rfl, g0⟩ := int_cell (c := a0) f0
    obtain ⟨n1, rfl, g1⟩ := num_cell (c := a1) e0
    obtain ⟨n2, rfl, g2⟩ := int_cell (c := a2) e1
    obtain ⟨n3, rfl, g3⟩ := int_cell (c := a3) e2
    obtain ⟨n4, rfl, g4⟩ := int_cell (c := a4) e3
    obtain ⟨s5, rfl, g5⟩ := str_cell (c := a5) e4
    obtain ⟨s6, rfl, g6⟩ := str_cell (c := a6) e5
    exact ⟨⟨n0, n1, n2, n3, n4, s5, s6⟩, rfl, g0, g1, g2, g3, g4, g5, g6⟩
  all_goals simp at hl
theorem open_placed {fuel : Nat} {a : Option Addr} {len cap : Nat} {y : DataW H × List MemPlace} (h : DataW.trod enc Try.prog W base (fun _ => true) held fuel 35 [.slice a len cap] = some y) (hw : WB Try.prog 35 y.1) : ∃ L : List Placed, (wh W).row a (len * 7) (inV L) ∧ len ≤ 140737488355328 ∧ L.length = len ∧ ∀ p ∈ L, okP p := by
  obtain ⟨L, r, _, _, hl, hb, k⟩ := slice_rowsW (s := ⟨a, len, cap⟩) 7 Placed.cells okP (by decide) Try.underlying35 c49 (fun _ => rfl) placed_each h hw
  rw [b49] at hb
  dsimp only at hb hl r
  exact ⟨L, r, by have := reach_le hb; omega, hl, k⟩
theorem open_texts {fuel : Nat} {a : Option Addr} {len cap : Nat} {y : DataW H × List MemPlace} (h : DataW.trod enc Try.prog W base (fun _ => true) held fuel 36 [.slice a len cap] = some y) (hw : WB Try.prog 36 y.1) : ∃ L : List ByteArray, (wh W).row a len (ptrV L) ∧ len ≤ 140737488355328 ∧ L.length = len ∧ ∀ s ∈ L, s.size ≤ 9223372036854775807 := by
  obtain ⟨L, r, _, _, hl, hb, k⟩ := slice_rowsW (s := ⟨a, len, cap⟩) 1 (fun s : ByteArray => [Value.string s]) (fun s => s.size ≤ 9223372036854775807) (by decide) Try.underlying36 c9 (fun _ => rfl) (fun fuel cs z hl h _ => by
    rcases cs with _ | ⟨a, _ | ⟨a1, cs⟩⟩
    · cases hl
    · obtain ⟨s, rfl, hs⟩ := str_cell h
      exact ⟨s, rfl, hs⟩
    · simp at hl) h hw
  rw [b9] at hb
  dsimp only at hb hl r
  rw [flat_one, Nat.mul_one] at r
  exact ⟨L, r, by have := reach_le hb; omega, hl, k⟩
theorem open_nums {fuel : Nat} {a : Option Addr} {len cap : Nat} {y : DataW H × List MemPlace} (h : DataW.trod enc Try.prog W base (fun _ => true) held fuel 27 [.slice a len cap] = some y) (hw : WB Try.prog 27 y.1) : ∃ L : List Int, (wh W).row a len (uvs L) ∧ len ≤ 140737488355328 ∧ L.length = len ∧ ∀ n ∈ L, okU n := by
  obtain ⟨L, r, _, _, hl, hb, k⟩ := slice_rowsW (s := ⟨a, len, cap⟩) 1 (fun n : Int => [Value.int .u64 n]) okU (by decide) Try.underlying27 c33 (fun _ => rfl) (fun fuel cs z hl h _ => by
    rcases cs with _ | ⟨a, _ | ⟨a1, cs⟩⟩
    · cases hl
    · obtain ⟨s, rfl, hs⟩ := num_cell h
      exact ⟨s, rfl, hs⟩
    · simp at hl) h hw
  rw [b33] at hb
  dsimp only at hb hl r
  rw [flat_one, Nat.mul_one] at r
  exact ⟨L, r, by have := reach_le hb; omega, hl, k⟩
theorem list27 : ∀ {cs : List Value}, cs.length = 27 → ∃ a0 a1 a2 a3 a4 a5 a6 a7 a8 a9 a10 a11 a12 a13 a14 a15 a16 a17 a18 a19 a20 a21 a22 a23 a24 a25 a26, cs = [a0, a1, a2, a3, a4, a5, a6, a7, a8, a9, a10, a11, a12, a13, a14, a15, a16, a17, a18, a19, a20, a21, a22, a23, a24, a25, a26]
  | [a0, a1, a2, a3, a4, a5, a6, a7, a8, a9, a10, a11, a12, a13, a14, a15, a16, a17, a18, a19, a20, a21, a22, a23, a24, a25, a26], _ => ⟨_, _, _, _, _, _, _, _, _, _, _, _, _, _, _, _, _, _, _, _, _, _, _, _, _, _, _, rfl⟩
set_option maxHeartbeats 2000000 in
theorem open_config {fuel : Nat} {cs : List Value} {y : DataW H × List MemPlace} (hl : cs.length = 27) (h : DataW.trod enc Try.prog W base (fun _ => true) held fuel 58 cs = some y) : ∃ m0 m1 m2 m3 m4 m5 m6 m7 m8 m9 m10 m11 m12 m13 m14 m15 m16 m17 m18 m19 m20 m21 m22 m23 m24 m25 m26 : Int, cs = [.int .i64 m0, .int .i64 m1, .int .i64 m2, .int .i64 m3, .int .i64 m4, .int .i64 m5, .int .i64 m6, .int .i64 m7, .int .i64 m8, .int .i64 m9, .int .i64 m10, .int .i64 m11, .int .i64 m12, .int .i64 m13, .int .i64 m14, .int .i64 m15, .int .i64 m16, .int .i64 m17, .int .i64 m18, .int .i64 m19, .int .i64 m20, .int .i64 m21, .int .i64 m22, .int .i64 m23, .int .i64 m24, .int .i64 m25, .int .i64 m26] ∧ (∀ x ∈ [m0, m1, m2, m3, m4, m5, m6, m7, m8, m9, m10, m11, m12, m13, m14, m15, m16, m17, m18, m19, m20, m21, m22, m23, m24, m25, m26], iI x) := by
  obtain ⟨xs, n, _, rfl, _, hxs, hf⟩ := DataW.trod_struct Try.underlying58 h
  obtain ⟨a0, a1, a2, a3, a4, a5, a6, a7, a8, a9, a10, a11, a12, a13, a14, a15, a16, a17, a18, a19, a20, a21, a22, a23, a24, a25, a26, rfl⟩ := list27 hl
  obtain ⟨yf0, hf0⟩ := some_at hxs (i := 0) (by decide)
  have f0 : DataW.trod enc Try.prog W base (fun _ => true) held n 3 (([a0, a1, a2, a3, a4, a5, a6, a7, a8, a9, a10, a11, a12, a13, a14, a15, a16, a17, a18, a19, a20, a21, a22, a23, a24, a25, a26].drop 0).take (Try.prog.cellsOf 3)) = xs[0]? := hf 0 _ rfl
  rw [c3, hf0] at f0
  obtain ⟨yf1, hf1⟩ := some_at hxs (i := 1) (by decide)
  have f1 : DataW.trod enc Try.prog W base (fun _ => true) held n 3 (([a0, a1, a2, a3, a4, a5, a6, a7, a8, a9, a10, a11, a12, a13, a14, a15, a16, a17, a18, a19, a20, a21, a22, a23, a24, a25, a26].drop 1).take (Try.prog.cellsOf 3)) = xs[1]? := hf 1 _ rfl
  rw [c3, hf1] at f1
  obtain ⟨yf2, hf2⟩ := some_at hxs (i := 2) (by decide)
  have f2 : DataW.trod enc Try.prog W base (fun _ => true) held n 3 (([a0, a1, a2, a3, a4, a5, a6, a7, a8, a9, a10, a11, a12, a13, a14, a15, a16, a17, a18, a19, a20, a21, a22, a23, a24, a25, a26].drop 2).take (Try.prog.cellsOf 3)) = xs[2]? := hf 2 _ rfl
  rw [c3, hf2] at f2
  obtain ⟨yf3, hf3⟩ := some_at hxs (i := 3) (by decide)
  have f3 : DataW.trod enc Try.prog W base (fun _ => true) held n 3 (([a0, a1, a2, a3, a4, a5, a6, a7, a8, a9, a10, a11, a12, a13, a14, a15, a16, a17, a18, a19, a20, a21, a22, a23, a24, a25, a26].drop 3).take (Try.prog.cellsOf 3)) = xs[3]? := hf 3 _ rfl
  rw [c3, hf3] at f3
  obtain ⟨yf4, hf4⟩ := some_at hxs (i := 4) (by decide)
  have f4 : DataW.trod enc Try.prog W base (fun _ => true) held n 3 (([a0, a1, a2, a3, a4, a5, a6, a7, a8, a9, a10, a11, a12, a13, a14, a15, a16, a17, a18, a19, a20, a21, a22, a23, a24, a25, a26].drop 4).take (Try.prog.cellsOf 3)) = xs[4]? := hf 4 _ rfl
  rw [c3, hf4] at f4
  obtain ⟨yf5, hf5⟩ := some_at hxs (i := 5) (by decide)
  have f5 : DataW.trod enc Try.prog W base (fun _ => true) held n 3 (([a0, a1, a2, a3, a4, a5, a6, a7, a8, a9, a10, a11, a12, a13, a14, a15, a16, a17, a18, a19, a20, a21, a22, a23, a24, a25, a26].drop 5).take (Try.prog.cellsOf 3)) = xs[5]? := hf 5 _ rfl
  rw [c3, hf5] at f5
  obtain ⟨yf6, hf6⟩ := some_at hxs (i := 6) (by decide)
  have f6 : DataW.trod enc Try.prog W base (fun _ => true) held n 3 (([a0, a1, a2, a3, a4, a5, a6, a7, a8, a9, a10, a11, a12, a13, a14, a15, a16, a17, a18, a19, a20, a21, a22, a23, a24, a25, a26].drop 6).take (Try.prog.cellsOf 3)) = xs[6]? := hf 6 _ rfl
  rw [c3, hf6] at f6
  obtain ⟨yf7, hf7⟩ := some_at hxs (i := 7) (by decide)
  have f7 : DataW.trod enc Try.prog W base (fun _ => true) held n 3 (([a0, a1, a2, a3, a4, a5, a6, a7, a8, a9, a10, a11, a12, a13, a14, a15, a16, a17, a18, a19, a20, a21, a22, a23, a24, a25, a26].drop 7).take (Try.prog.cellsOf 3)) = xs[7]? := hf 7 _ rfl
  rw [c3, hf7] at f7
  obtain ⟨yf8, hf8⟩ := some_at hxs (i := 8) (by decide)
  have f8 : DataW.trod enc Try.prog W base (fun _ => true) held n 3 (([a0, a1, a2, a3, a4, a5, a6, a7, a8, a9, a10, a11, a12, a13, a14, a15, a16, a17, a18, a19, a20, a21, a22, a23, a24, a25, a26].drop 8).take (Try.prog.cellsOf 3)) = xs[8]? := hf 8 _ rfl
  rw [c3, hf8] at f8
  obtain ⟨yf9, hf9⟩ := some_at hxs (i := 9) (by decide)
  have f9 : DataW.trod enc Try.prog W base (fun _ => true) held n 3 (([a0, a1, a2, a3, a4, a5, a6, a7, a8, a9, a10, a11, a12, a13, a14, a15, a16, a17, a18, a19, a20, a21, a22, a23, a24, a25, a26].drop 9).take (Try.prog.cellsOf 3)) = xs[9]? := hf 9 _ rfl
  rw [c3, hf9] at f9
  obtain ⟨yf10, hf10⟩ := some_at hxs (i := 10) (by decide)
  have f10 : DataW.trod enc Try.prog W base (fun _ => true) held n 3 (([a0, a1, a2, a3, a4, a5, a6, a7, a8, a9, a10, a11, a12, a13, a14, a15, a16, a17, a18, a19, a20, a21, a22, a23, a24, a25, a26].drop 10).take (Try.prog.cellsOf 3)) = xs[10]? := hf 10 _ rfl
  rw [c3, hf10] at f10
  obtain ⟨yf11, hf11⟩ := some_at hxs (i := 11) (by decide)
  have f11 : DataW.trod enc Try.prog W base (fun _ => true) held n 3 (([a0, a1, a2, a3, a4, a5, a6, a7, a8, a9, a10, a11, a12, a13, a14, a15, a16, a17, a18, a19, a20, a21, a22, a23, a24, a25, a26].drop 11).take (Try.prog.cellsOf 3)) = xs[11]? := hf 11 _ rfl
  rw [c3, hf11] at f11
  obtain ⟨yf12, hf12⟩ := some_at hxs (i := 12) (by decide)
  have f12 : DataW.trod enc Try.prog W base (fun _ => true) held n 3 (([a0, a1, a2, a3, a4, a5, a6, a7, a8, a9, a10, a11, a12, a13, a14, a15, a16, a17, a18, a19, a20, a21, a22, a23, a24, a25, a26].drop 12).take (Try.prog.cellsOf 3)) = xs[12]? := hf 12 _ rfl
  rw [c3, hf12] at f12
  obtain ⟨yf13, hf13⟩ := some_at hxs (i := 13) (by decide)
  have f13 : DataW.trod enc Try.prog W base (fun _ => true) held n 3 (([a0, a1, a2, a3, a4, a5, a6, a7, a8, a9, a10, a11, a12, a13, a14, a15, a16, a17, a18, a19, a20, a21, a22, a23, a24, a25, a26].drop 13).take (Try.prog.cellsOf 3)) = xs[13]? := hf 13 _ rfl
  rw [c3, hf13] at f13
  obtain ⟨yf14, hf14⟩ := some_at hxs (i := 14) (by decide)
  have f14 : DataW.trod enc Try.prog W base (fun _ => true) held n 3 (([a0, a1, a2, a3, a4, a5, a6, a7, a8, a9, a10, a11, a12, a13, a14, a15, a16, a17, a18, a19, a20, a21, a22, a23, a24, a25, a26].drop 14).take (Try.prog.cellsOf 3)) = xs[14]? := hf 14 _ rfl
  rw [c3, hf14] at f14
  obtain ⟨yf15, hf15⟩ := some_at hxs (i := 15) (by decide)
  have f15 : DataW.trod enc Try.prog W base (fun _ => true) held n 3 (([a0, a1, a2, a3, a4, a5, a6, a7, a8, a9, a10, a11, a12, a13, a14, a15, a16, a17, a18, a19, a20, a21, a22, a23, a24, a25, a26].drop 15).take (Try.prog.cellsOf 3)) = xs[15]? := hf 15 _ rfl
  rw [c3, hf15] at f15
  obtain ⟨yf16, hf16⟩ := some_at hxs (i := 16) (by decide)
  have f16 : DataW.trod enc Try.prog W base (fun _ => true) held n 3 (([a0, a1, a2, a3, a4, a5, a6, a7, a8, a9, a10, a11, a12, a13, a14, a15, a16, a17, a18, a19, a20, a21, a22, a23, a24, a25, a26].drop 16).take (Try.prog.cellsOf 3)) = xs[16]? := hf 16 _ rfl
  rw [c3, hf16] at f16
  obtain ⟨yf17, hf17⟩ := some_at hxs (i := 17) (by decide)
  have f17 : DataW.trod enc Try.prog W base (fun _ => true) held n 3 (([a0, a1, a2, a3, a4, a5, a6, a7, a8, a9, a10, a11, a12, a13, a14, a15, a16, a17, a18, a19, a20, a21, a22, a23, a24, a25, a26].drop 17).take (Try.prog.cellsOf 3)) = xs[17]? := hf 17 _ rfl
  rw [c3, hf17] at f17
  obtain ⟨yf18, hf18⟩ := some_at hxs (i := 18) (by decide)
  have f18 : DataW.trod enc Try.prog W base (fun _ => true) held n 3 (([a0, a1, a2, a3, a4, a5, a6, a7, a8, a9, a10, a11, a12, a13, a14, a15, a16, a17, a18, a19, a20, a21, a22, a23, a24, a25, a26].drop 18).take (Try.prog.cellsOf 3)) = xs[18]? := hf 18 _ rfl
  rw [c3, hf18] at f18
  obtain ⟨yf19, hf19⟩ := some_at hxs (i := 19) (by decide)
  have f19 : DataW.trod enc Try.prog W base (fun _ => true) held n 3 (([a0, a1, a2, a3, a4, a5, a6, a7, a8, a9, a10, a11, a12, a13, a14, a15, a16, a17, a18, a19, a20, a21, a22, a23, a24, a25, a26].drop 19).take (Try.prog.cellsOf 3)) = xs[19]? := hf 19 _ rfl
  rw [c3, hf19] at f19
  obtain ⟨yf20, hf20⟩ := some_at hxs (i := 20) (by decide)
  have f20 : DataW.trod enc Try.prog W base (fun _ => true) held n 3 (([a0, a1, a2, a3, a4, a5, a6, a7, a8, a9, a10, a11, a12, a13, a14, a15, a16, a17, a18, a19, a20, a21, a22, a23, a24, a25, a26].drop 20).take (Try.prog.cellsOf 3)) = xs[20]? := hf 20 _ rfl
  rw [c3, hf20] at f20
  obtain ⟨yf21, hf21⟩ := some_at hxs (i := 21) (by decide)
  have f21 : DataW.trod enc Try.prog W base (fun _ => true) held n 3 (([a0, a1, a2, a3, a4, a5, a6, a7, a8, a9, a10, a11, a12, a13, a14, a15, a16, a17, a18, a19, a20, a21, a22, a23, a24, a25, a26].drop 21).take (Try.prog.cellsOf 3)) = xs[21]? := hf 21 _ rfl
  rw [c3, hf21] at f21
  obtain ⟨yf22, hf22⟩ := some_at hxs (i := 22) (by decide)
  have f22 : DataW.trod enc Try.prog W base (fun _ => true) held n 3 (([a0, a1, a2, a3, a4, a5, a6, a7, a8, a9, a10, a11, a12, a13, a14, a15, a16, a17, a18, a19, a20, a21, a22, a23, a24, a25, a26].drop 22).take (Try.prog.cellsOf 3)) = xs[22]? := hf 22 _ rfl
  rw [c3, hf22] at f22
  obtain ⟨yf23, hf23⟩ := some_at hxs (i := 23) (by decide)
  have f23 : DataW.trod enc Try.prog W base (fun _ => true) held n 3 (([a0, a1, a2, a3, a4, a5, a6, a7, a8, a9, a10, a11, a12, a13, a14, a15, a16, a17, a18, a19, a20, a21, a22, a23, a24, a25, a26].drop 23).take (Try.prog.cellsOf 3)) = xs[23]? := hf 23 _ rfl
  rw [c3, hf23] at f23
  obtain ⟨yf24, hf24⟩ := some_at hxs (i := 24) (by decide)
  have f24 : DataW.trod enc Try.prog W base (fun _ => true) held n 3 (([a0, a1, a2, a3, a4, a5, a6, a7, a8, a9, a10, a11, a12, a13, a14, a15, a16, a17, a18, a19, a20, a21, a22, a23, a24, a25, a26].drop 24).take (Try.prog.cellsOf 3)) = xs[24]? := hf 24 _ rfl
  rw [c3, hf24] at f24
  obtain ⟨yf25, hf25⟩ := some_at hxs (i := 25) (by decide)
  have f25 : DataW.trod enc Try.prog W base (fun _ => true) held n 3 (([a0, a1, a2, a3, a4, a5, a6, a7, a8, a9, a10, a11, a12, a13, a14, a15, a16, a17, a18, a19, a20, a21, a22, a23, a24, a25, a26].drop 25).take (Try.prog.cellsOf 3)) = xs[25]? := hf 25 _ rfl
  rw [c3, hf25] at f25
  obtain ⟨yf26, hf26⟩ := some_at hxs (i := 26) (by decide)
  have f26 : DataW.trod enc Try.prog W base (fun _ => true) held n 3 (([a0, a1, a2, a3, a4, a5, a6, a7, a8, a9, a10, a11, a12, a13, a14, a15, a16, a17, a18, a19, a20, a21, a22, a23, a24, a25, a26].drop 26).take (Try.prog.cellsOf 3)) = xs[26]? := hf 26 _ rfl
  rw [c3, hf26] at f26
  obtain ⟨k0, rfl, g0⟩ := int_cell (c := a0) f0
  obtain ⟨k1, rfl, g1⟩ := int_cell (c := a1) f1
  obtain ⟨k2, rfl, g2⟩ := int_cell (c := a2) f2
  obtain ⟨k3, rfl, g3⟩ := int_cell (c := a3) f3
  obtain ⟨k4, rfl, g4⟩ := int_cell (c := a4) f4
  obtain ⟨k5, rfl, g5⟩ := int_cell (c := a5) f5
  obtain ⟨k6, rfl, g6⟩ := int_cell (c := a6) f6
  obtain ⟨k7, rfl, g7⟩ := int_cell (c := a7) f7
  obtain ⟨k8, rfl, g8⟩ := int_cell (c := a8) f8
  obtain ⟨k9, rfl, g9⟩ := int_cell (c := a9) f9
  obtain ⟨k10, rfl, g10⟩ := int_cell (c := a10) f10
  obtain ⟨k11, rfl, g11⟩ := int_cell (c := a11) f11
  obtain ⟨k12, rfl, g12⟩ := int_cell (c := a12) f12
  obtain ⟨k13, rfl, g13⟩ := int_cell (c := a13) f13
  obtain ⟨k14, rfl, g14⟩ := int_cell (c := a14) f14
  obtain ⟨k15, rfl, g15⟩ := int_cell (c := a15) f15
  obtain ⟨k16, rfl, g16⟩ := int_cell (c := a16) f16
  obtain ⟨k17, rfl, g17⟩ := int_cell (c := a17) f17
  obtain ⟨k18, rfl, g18⟩ := int_cell (c := a18) f18
  obtain ⟨k19, rfl, g19⟩ := int_cell (c := a19) f19
  obtain ⟨k20, rfl, g20⟩ := int_cell (c := a20) f20
  obtain ⟨k21, rfl, g21⟩ := int_cell (c := a21) f21
  obtain ⟨k22, rfl, g22⟩ := int_cell (c := a22) f22
  obtain ⟨k23, rfl, g23⟩ := int_cell (c := a23) f23
  obtain ⟨k24, rfl, g24⟩ := int_cell (c := a24) f24
  obtain ⟨k25, rfl, g25⟩ := int_cell (c := a25) f25
  obtain ⟨k26, rfl, g26⟩ := int_cell (c := a26) f26
  refine ⟨k0, k1, k2, k3, k4, k5, k6, k7, k8, k9, k10, k11, k12, k13, k14, k15, k16, k17, k18, k19, k20, k21, k22, k23, k24, k25, k26, rfl, fun x hx => ?_⟩
  simp only [List.mem_cons, List.not_mem_nil, or_false] at hx
  rcases hx with rfl | rfl | rfl | rfl | rfl | rfl | rfl | rfl | rfl | rfl | rfl | rfl | rfl | rfl | rfl | rfl | rfl | rfl | rfl | rfl | rfl | rfl | rfl | rfl | rfl | rfl | rfl
  all_goals assumption
theorem wb_arg {ts : List TypeId} {ds : List (DataW H)} (h : (DataW.weightsEach Try.prog ts ds).all (· ≤ reachBytes) = true) {j : Nat} {t : TypeId} {d : DataW H} (ht : ts[j]? = some t) (hd : ds[j]? = some d) : WB Try.prog t d := fun n hn => by
  have := List.all_eq_true.1 h _ (DataW.weights_mem_each ht hd n hn)
  simpa using this
end
end Go.Eng.Ytbjnlacacapjiaa
end
section
namespace Go.Eng
def bef (st : Bool) (sc : Nat → Int) (i j : Nat) : Prop := if st = true ∧ (i = 0 ∨ j = 0) ∧ i ≠ j then i < j else (sc j < sc i ∨ (sc i = sc j ∧ i < j))
def want (st : Bool) (sc : Nat → Int) (i : Nat) : Prop := 1000 ≤ sc i ∨ (i = 0 ∧ st = true)
theorem bef_asym {st : Bool} {sc : Nat → Int} {i j : Nat} (h : bef st sc i j) (k : bef st sc j i) : False := by
  unfold bef at h k
  by_cases c : st = true ∧ (i = 0 ∨ j = 0) ∧ i ≠ j
  · rw [if_pos c] at h
    rw [if_pos ⟨c.1, c.2.1.symm, fun e => c.2.2 e.symm⟩] at k
    omega
  · rw [if_neg c] at h
    rw [if_neg (fun d => c ⟨d.1, d.2.1.symm, fun e => d.2.2 e.symm⟩)] at k
    omega
structure IsOrder (n : Nat) (st : Bool) (sc : Nat → Int) (o : List Nat) : Prop where
  nd : o.Nodup
  mem : ∀ i, i ∈ o ↔ i < n ∧ want st sc i
  pw : o.Pairwise (bef st sc)
theorem pw_unique {R : Nat → Nat → Prop} (asy : ∀ i j, R i j → R j i → False) : ∀ {l m : List Nat}, l.Nodup → m.Nodup → (∀ i, i ∈ l ↔ i ∈ m) → l.Pairwise R → m.Pairwise R → l = m
  | [], [], _, _, _, _, _ => rfl
  | [], b :: m, _, _, h, _, _ => by have := (h b).2 List.mem_cons_self; cases this
  | a :: l, [], _, _, h, _, _ => by have := (h a).1 List.mem_cons_self; cases this
  | a :: l, b :: m, nl, nm, h, pl, pm => by
    obtain ⟨n1, n2⟩ := List.nodup_cons.1 nl
    obtain ⟨n3, n4⟩ := List.nodup_cons.1 nm
    obtain ⟨p1, p2⟩ := List.pairwise_cons.1 pl
    obtain ⟨p3, p4⟩ := List.pairwise_cons.1 pm
    have hab : a = b := by
      rcases List.mem_cons.1 ((h a).1 List.mem_cons_self) with e | e
      · exact e
      · rcases List.mem_cons.1 ((h b).2 List.mem_cons_self) with e' | e'
        · exact e'.symm
        · exact (asy _ _ (p1 b e') (p3 a e)).elim
    subst hab
    rw [pw_unique asy n2 n4 (fun i => ?_) p2 p4]
    constructor
    · intro hi
      rcases List.mem_cons.1 ((h i).1 (List.mem_cons_of_mem _ hi)) with e | e
      · subst e; exact absurd hi n1
      · exact e
    · intro hi
      rcases List.mem_cons.1 ((h i).2 (List.mem_cons_of_mem _ hi)) with e | e
      · subst e; exact absurd hi n3
      · exact e
theorem IsOrder.one {n : Nat} {st : Bool} {sc : Nat → Int} {o p : List Nat} (h : IsOrder n st sc o) (k : IsOrder n st sc p) : o = p :=
  pw_unique (fun _ _ => bef_asym) h.nd k.nd (fun i => by rw [h.mem, k.mem]) h.pw k.pw
structure Sel (n : Nat) (st : Bool) (sc z : Nat → Int) (o : List Nat) : Prop where
  nd : o.Nodup
  mem : ∀ i ∈ o, i < n ∧ want st sc i
  pw : o.Pairwise (bef st sc)
  z : ∀ i, i < n → z i = if i ∈ o then 0 else sc i
  s0 : st = true → 0 < n → 0 ∈ o
  lo : ∀ i ∈ o, ∀ j, j < n → j ∉ o → want st sc j → bef st sc i j
end Go.Eng
end
section
set_option maxRecDepth 100000
namespace Go.Eng.Ytbjnlacacapjiaa
def tabsI (xs : List (Sl × List Tab)) (n : Int) : List Tab := if n < 0 then [] else match xs[n.toNat]? with | some x => x.2 | none => []
theorem tabsI_nat (xs : List (Sl × List Tab)) {i : Nat} {x : Sl × List Tab} (hx : xs[i]? = some x) : tabsI xs (i : Int) = x.2 := by
  unfold tabsI
  rw [if_neg (by omega), Int.toNat_natCast, hx]
theorem tabsI_out (xs : List (Sl × List Tab)) {n : Int} (hn : n < 0 ∨ (xs.length : Int) ≤ n) : tabsI xs n = [] := by
  unfold tabsI
  split
  · rfl
  · rw [List.getElem?_eq_none (by omega)]
def overM (from_ to : ByteArray) (l : List Tab) : List Tab := l.filter fun t => !blB t.greatest from_ && !blB to t.least
def weightW (l : List Tab) : Int := l.foldl (fun n t => IntKind.wrap .i64 (n + t.weight)) 0
def nV3 (l : List Int) : List Value := l.map fun n => .int .i64 n
theorem nV3_len (l : List Int) : (nV3 l).length = l.length := List.length_map _
theorem tb_new {h : Hp} {r : Sl} {ts : List Tab} (B : TB h r ts) : r.n = ts.length := by have := B.len; rw [tabV_len] at this; omega
section
variable {g h h' : Hp} {vb : Nat} {ls : Sl} {xs : List (Sl × List Tab)} {Q : Value → Hp → Prop} {n n1 n2 n3 n4 n5 n6 n7 n8 n9 n10 n11 n12 n13 n14 n15 n16 n17 n18 n19 n20 n21 n22 n23 n24 n25 n26 : Int}
theorem tables_s (V : Ver g h vb ls xs) (hs : ∀ x ∈ xs, x.2.length ≤ 60000) {n : Int} (hQ : ∀ h' r, Keep h h' → TB h' r (tabsI xs n) → NewN h r → Q (.slice r.a r.n r.c) h') : F27.T (some ⟨vb, 0, none⟩) n h Q := by
  unfold F27.T F27.G
  have hl := V.L.len
  refine has_spec V.v (fun c0 c1 => ⟨true, rfl, fun _ => ?_, fun h0 => (by cases h0)⟩) (fun hc => ⟨false, rfl, fun h0 => (by cases h0), fun _ => ?_⟩)
  · obtain ⟨i, rfl⟩ := Int.eq_ofNat_of_zero_le c0
    have hi : i < xs.length := by omega
    have hx : xs[i]? = some xs[i] := List.getElem?_eq_getElem hi
    generalize xs[i] = x at hx
    rw [tabsI_nat xs hx] at hQ
    have hm := List.mem_of_getElem? hx
    have hxs := hs x hm
    obtain ⟨b, ha, hat⟩ := V.L.rd hx
    have T := V.L.t x hm
    refine ⟨vb, 0, rfl, ls, at_of V.v 0, b, 0, ha, ⟨c0, c1⟩, x.1, by rw [Nat.zero_add, Int.toNat_natCast]; exact hat, tabV x.2, Buf.row T, tab_one _, ?_⟩
    refine append_buf (Buf.nil h 6 47) rfl (by rw [tabV_len, T.n]) (by have := T.n; dsimp only; omega) fun r h2 B2 _ U2 => ?_
    obtain ⟨K2, N2⟩ := NewN.upd (Keep.refl h) (NewN.nil h) U2
    exact hQ h2 r K2 (by unfold TB; simpa using B2) N2
  · rw [tabsI_out xs (by omega)] at hQ
    exact hQ h ⟨none, 0, 0⟩ (Keep.refl h) (Buf.nil _ _ _) (NewN.nil _)
theorem weight_s (V : Ver g h vb ls xs) (hs : ∀ x ∈ xs, x.2.length ≤ 60000) {n : Int} (hl : (tabsI xs n).length ≤ 60000) (hQ : ∀ h', Keep h h' → Q (.int .i64 (weightW (tabsI xs n))) h') : F46.T (some ⟨vb, 0, none⟩) n h Q := by
  unfold F46.T F46.G
  refine tables_s V hs fun h1 l K1 B1 _ => ⟨l, rfl, ?_⟩
  have hn := tb_new B1
  refine ⟨fun w i h2 => h2 = h1 ∧ ∃ P R, tabsI xs n = P ++ R ∧ i = (P.length : Int) ∧ w = weightW P, fun _ i _ => (tabsI xs n).length - i.toNat, ⟨rfl, [], _, rfl, rfl, rfl⟩, ?_⟩
  rintro w i h2 ⟨rfl, P, R, e, rfl, rfl⟩
  have e2 := congrArg List.length e
  rw [List.length_append] at e2
  refine ⟨fun hlt => ?_, fun hge => ?_⟩
  · rcases R with _ | ⟨t, R⟩
    · exact absurd hlt (by simp at e2; omega)
    rw [List.length_cons] at e2
    have hr := B1.row
    rw [e] at hr
    refine tab_rd hr rfl fun b o => ?_
    rw [next_i (n := 70000) (by omega) (by omega)]
    refine ⟨⟨rfl, P ++ [t], R, by rw [e]; simp, by simp, ?_⟩, by dsimp only; omega⟩
    unfold weightW
    rw [List.foldl_append]; rfl
  · have hR : R = [] := List.eq_nil_of_length_eq_zero (by omega)
    subst hR
    rw [List.append_nil] at e
    rw [e] at hQ
    exact hQ h2 K1
theorem over_s (V : Ver g h vb ls xs) (hs : ∀ x ∈ xs, x.2.length ≤ 60000) {n : Int} {s s1 : ByteArray} (hl : (tabsI xs n).length ≤ 60000) (hQ : ∀ h' r, Keep h h' → TB h' r (overM s s1 (tabsI xs n)) → NewN h r → Q (.slice r.a r.n r.c) h') : F47.T (some ⟨vb, 0, none⟩) n s s1 h Q := by
  unfold F47.T F47.G
  refine tables_s V hs fun h1 l K1 B1 _ => ⟨l, rfl, ?_⟩
  have hn := tb_new B1
  refine ⟨fun l1 i h2 => ∃ P R, tabsI xs n = P ++ R ∧ i = (P.length : Int) ∧ Keep h1 h2 ∧ TB h2 l1 (overM s s1 P) ∧ NewN h1 l1, fun _ i _ => (tabsI xs n).length - i.toNat, ⟨[], _, rfl, rfl, Keep.refl _, Buf.nil _ _ _, NewN.nil _⟩, ?_⟩
  rintro l1 i h2 ⟨P, R, e, rfl, K2, B2, N2⟩
  have e2 := congrArg List.length e
  rw [List.length_append] at e2
  refine ⟨fun hlt => ?_, fun hge => ?_⟩
  · rcases R with _ | ⟨t, R⟩
    · exact absurd hlt (by simp at e2; omega)
    rw [List.length_cons] at e2
    have hr := (B1.keep K2).row
    rw [e] at hr
    have hn1 := tb_new B2
    have hfl : (overM s s1 P).length ≤ P.length := List.length_filter_le _ _
    refine tab_rd hr rfl fun b o => ?_
    rw [next_i (n := 70000) (by omega) (by omega)]
    have skip : (blB t.greatest s = true ∨ blB s1 t.least = true) → (∃ P_1 R_1, tabsI xs n = P_1 ++ R_1 ∧ ((P.length + 1 : Nat) : Int) = (P_1.length : Int) ∧ Keep h1 h2 ∧ TB h2 l1 (overM s s1 P_1) ∧ NewN h1 l1) := fun hc => by
      refine ⟨P ++ [t], R, by rw [e]; simp, by simp, K2, ?_, N2⟩
      have : overM s s1 (P ++ [t]) = overM s s1 P := by
        unfold overM
        rw [List.filter_append]
        have : ([t] : List Tab).filter (fun t => !blB t.greatest s && !blB s1 t.least) = [] := by
          rcases hc with hc | hc <;> simp [hc]
        rw [this, List.append_nil]
      rw [this]; exact B2
    refine ⟨fun hlt1 => ⟨skip (.inl (blB_t.2 ((sLt_bl _ _).1 hlt1))), by dsimp only; omega⟩, fun hge1 => ⟨fun hle => ?_, fun hgt => ⟨skip (.inr ?_), by dsimp only; omega⟩⟩⟩
    · refine append_buf (us := t.cells) B2 rfl rfl (by omega) fun l3 h3 B3 _ U3 => ?_
      obtain ⟨K3, N3⟩ := NewN.upd K2 N2 U3
      refine ⟨⟨P ++ [t], R, by rw [e]; simp, by simp, K3, ?_, N3⟩, by dsimp only; omega⟩
      have : overM s s1 (P ++ [t]) = overM s s1 P ++ [t] := by
        unfold overM
        rw [List.filter_append]
        have h1 : blB t.greatest s = false := by
          cases hb : blB t.greatest s with
          | false => rfl
          | true => exact absurd ((sLt_bl _ _).2 (blB_t.1 hb)) hge1
        have h2 : blB s1 t.least = false := by
          cases hb : blB s1 t.least with
          | false => rfl
          | true => exact absurd (blB_t.1 hb) (sle.1 hle)
        congr 1
        simp [h1, h2]
      rw [this]
      unfold TB
      rw [tabV_app]
      have : tabV [t] = t.cells := by unfold tabV; simp
      rw [this]
      exact B3
    · cases hb : blB s1 t.least with
      | true => rfl
      | false => exact absurd (sle.2 fun hbl => by rw [blB_t.2 hbl] at hb; cases hb) hgt
  · have hR : R = [] := List.eq_nil_of_length_eq_zero (by omega)
    subst hR
    rw [List.append_nil] at e
    rw [e] at hQ
    exact hQ h2 l1 (K1.trans K2) B2 (N2.mono K1.dom)
theorem last_s (V : Ver g h vb ls xs) (h1 : 1 ≤ xs.length) (h5 : xs.length ≤ 5) (hn : n8 = (xs.length : Int)) (hQ : Q (.int .i64 ((xs.length : Int) - 1)) h) : F58.T n n1 n2 n3 n4 n5 n6 n7 n8 n9 n10 n11 n12 n13 n14 n15 n16 n17 n18 n19 n20 n21 n22 n23 n24 n25 n26 (some ⟨vb, 0, none⟩) h Q := by
  unfold F58.T F58.G
  refine levels_spec V ⟨_, rfl, ?_⟩
  have : iMin n8 (xs.length : Int) = (xs.length : Int) := by unfold iMin; rw [hn]; split <;> rfl
  rw [this, wrap_i64 (by omega) (by omega)]
  exact hQ
theorem share_s {a b : Int} (ha : 0 ≤ a ∧ a ≤ 9000000000000000) (hb : b ≠ 0) (hQ : Q (.int .i64 (Int.tdiv (1000 * a) b)) h) : F59.T a b h Q := by
  refine ⟨fun h0 => absurd h0 hb, fun _ => ⟨hb, ?_⟩⟩
  rw [wrap_i64 (n := 1000 * a) (by omega) (by omega)]
  have h1 : (Int.tdiv (1000 * a) b).natAbs ≤ (1000 * a).natAbs := by
    rw [Int.natAbs_tdiv]; exact Nat.div_le_self _ _
  rw [wrap_i64 (by omega) (by omega)]
  exact hQ
structure CfOk (c5 c7 c8 c9 c10 c12 : Int) : Prop where
  trig : 1 ≤ c5 ∧ c5 ≤ 16
  stop : 2 ≤ c7 ∧ c5 ≤ c7 ∧ c7 ≤ 16
  lv : 3 ≤ c8 ∧ c8 ≤ 5
  base : 4096 ≤ c9 ∧ c9 ≤ 16777216
  mult : 2 ≤ c10 ∧ c10 ≤ 10
  fan : 1 ≤ c12 ∧ c12 ≤ 16
def limit (base mult : Int) : Nat → Int
  | 0 => base
  | i + 1 => limit base mult i * mult
theorem limit_bd {base mult : Int} (hb : 4096 ≤ base ∧ base ≤ 16777216) (hm : 2 ≤ mult ∧ mult ≤ 10) : ∀ i, i ≤ 4 → 4096 ≤ limit base mult i ∧ limit base mult i ≤ 16777216 * 10 ^ i
  | 0, _ => by unfold limit; omega
  | i + 1, hi => by
    obtain ⟨h1, h2⟩ := limit_bd hb hm i (by omega)
    unfold limit
    constructor
    · have := Int.mul_le_mul h1 hm.1 (by omega) (by omega); omega
    · have := Int.mul_le_mul h2 hm.2 (by omega) (by
        have : (0 : Int) ≤ 16777216 * 10 ^ i := by
          have : (0 : Int) ≤ 10 ^ i := Int.pow_nonneg (by decide)
          omega
        exact this)
      rw [Int.pow_succ]
      have e : 16777216 * (10 ^ i * 10) = 16777216 * 10 ^ i * (10 : Int) := by rw [Int.mul_assoc]
      rw [e]; exact this
def scoreM (trig base mult : Int) (xs : List (Sl × List Tab)) (i : Nat) : Int :=
  if i = 0 then Int.tdiv (1000 * ((tabsI xs 0).length : Int)) trig else Int.tdiv (1000 * weightW (tabsI xs (i : Int))) (limit base mult (i - 1))
structure PkOk (xs : List (Sl × List Tab)) : Prop where
  len : 3 ≤ xs.length ∧ xs.length ≤ 5
  sz : ∀ x ∈ xs, x.2.length ≤ 60000
  w : ∀ i, 0 ≤ weightW (tabsI xs i) ∧ weightW (tabsI xs i) ≤ 9000000000000000
theorem PkOk.tl {xs : List (Sl × List Tab)} (P : PkOk xs) (n : Int) : (tabsI xs n).length ≤ 60000 := by
  unfold tabsI
  split
  · simp
  · split
    · next x hx => exact P.sz x (List.mem_of_getElem? hx)
    · simp
theorem scores_s (V : Ver g h vb ls xs) (P : PkOk xs) (O : CfOk n5 n7 n8 n9 n10 n12) (h8 : n8 = (xs.length : Int)) (hQ : ∀ h' r, Keep h h' → Buf h' r 1 3 (nV3 ((List.range (xs.length - 1)).map (scoreM n5 n9 n10 xs))) → NewN h r → Q (.slice r.a r.n r.c) h') : F26.T n n1 n2 n3 n4 n5 n6 n7 n8 n9 n10 n11 n12 n13 n14 n15 n16 n17 n18 n19 n20 n21 n22 n23 n24 n25 n26 (some ⟨vb, 0, none⟩) h Q := by
  have hx := P.len
  unfold F26.T F26.G
  refine last_s V (by omega) (by omega) h8 ⟨_, rfl, ?_⟩
  have hmx : iMax ((xs.length : Int) - 1) 0 = (xs.length : Int) - 1 := by unfold iMax; rw [if_neg (by omega)]
  rw [hmx]
  refine ⟨fun l lim i h2 => ∃ k : Nat, i = (k : Int) ∧ k ≤ xs.length - 1 ∧ lim = limit n9 n10 (k - 1) ∧ Keep h h2 ∧ Buf h2 l 1 3 (nV3 ((List.range k).map (scoreM n5 n9 n10 xs))) ∧ NewN h l, fun _ _ i _ => xs.length - i.toNat, ⟨0, rfl, Nat.zero_le _, rfl, Keep.refl _, Buf.nil _ _ _, NewN.nil _⟩, ?_⟩
  rintro l lim i h2 ⟨k, rfl, hk, rfl, K2, B2, N2⟩
  have hln : l.n = k := by have := B2.len; rw [nV3_len, List.length_map, List.length_range] at this; omega
  have V2 := V.keep K2
  have snoc : nV3 ((List.range (k + 1)).map (scoreM n5 n9 n10 xs)) = nV3 ((List.range k).map (scoreM n5 n9 n10 xs)) ++ [.int .i64 (scoreM n5 n9 n10 xs k)] := by
    rw [List.range_succ, List.map_append]; unfold nV3; rw [List.map_append]; rfl
  refine ⟨fun hlt => ⟨fun h0 => ?_, fun h0 => ?_⟩, fun hge => ?_⟩
  · have hk0 : k = 0 := by omega
    subst hk0
    refine tables_s V2 P.sz fun h3 l1 K3 B3 _ => ⟨l1, rfl, ?_⟩
    have h0l := P.tl 0
    have hl1 := tb_new B3
    rw [hl1]
    refine share_s ⟨by omega, by omega⟩ (by have := O.trig; omega) ⟨_, rfl, ?_⟩
    refine append_buf (us := [.int .i64 (Int.tdiv (1000 * ((tabsI xs 0).length : Int)) n5)]) (B2.keep K3) rfl rfl (by omega) fun l2 h5 B5 _ U5 => ?_
    obtain ⟨K5, N5⟩ := NewN.upd (K2.trans K3) N2 U5
    rw [next_i (n := 100) (by omega) (by omega)]
    refine ⟨⟨1, rfl, by omega, rfl, K5, ?_, N5⟩, by dsimp only; omega⟩
    rw [snoc]; exact B5
  · have hk0 : k ≠ 0 := by omega
    have hL := limit_bd O.base O.mult (k - 1) (by omega)
    have hL2 := limit_bd O.base O.mult k (by omega)
    have hp : (10 : Int) ^ k ≤ 10000 := by
      have : k = 1 ∨ k = 2 ∨ k = 3 ∨ k = 4 := by omega
      rcases this with rfl | rfl | rfl | rfl <;> decide
    have hlk : limit n9 n10 (k - 1) * n10 = limit n9 n10 k := by
      obtain ⟨j, rfl⟩ : ∃ j, k = j + 1 := ⟨k - 1, by omega⟩
      rfl
    refine weight_s V2 P.sz (P.tl _) fun h3 K3 => ⟨_, rfl, ?_⟩
    refine share_s (P.w _) (by omega) ⟨_, rfl, ?_⟩
    refine append_buf (us := [.int .i64 (Int.tdiv (1000 * weightW (tabsI xs (k : Int))) (limit n9 n10 (k - 1)))]) (B2.keep K3) rfl rfl (by omega) fun l2 h5 B5 _ U5 => ?_
    obtain ⟨K5, N5⟩ := NewN.upd (K2.trans K3) N2 U5
    rw [next_i (n := 100) (by omega) (by omega), hlk, wrap_i64 (by omega) (by omega)]
    refine ⟨⟨k + 1, rfl, by omega, by rw [Nat.add_sub_cancel], K5, ?_, N5⟩, by dsimp only; omega⟩
    rw [snoc]
    have : scoreM n5 n9 n10 xs k = Int.tdiv (1000 * weightW (tabsI xs (k : Int))) (limit n9 n10 (k - 1)) := by unfold scoreM; rw [if_neg hk0]
    rw [this]; exact B5
  · have hk2 : k = xs.length - 1 := by omega
    subst hk2
    exact hQ h2 l K2 B2 N2
theorem stopped_s (V : Ver g h vb ls xs) (P : PkOk xs) (hQ : ∀ h', Keep h h' → Q (.bool (decide (n7 ≤ ((tabsI xs 0).length : Int)))) h') : F54.T n n1 n2 n3 n4 n5 n6 n7 n8 n9 n10 n11 n12 n13 n14 n15 n16 n17 n18 n19 n20 n21 n22 n23 n24 n25 n26 (some ⟨vb, 0, none⟩) h Q := by
  unfold F54.T F54.G
  refine tables_s V P.sz fun h1 l K1 B1 _ => ⟨l, rfl, ?_⟩
  rw [tb_new B1]
  refine ⟨fun hc => ?_, fun hc => ?_⟩
  · have := hQ h1 K1; rw [decide_eq_true hc] at this; exact this
  · have := hQ h1 K1; rw [decide_eq_false hc] at this; exact this
theorem cmp_s {a b : Int} (hQ : ∀ c : Int, (c < 0 ↔ a < b) → Q (.int .i64 c) h) : F57.T a b h Q := by
  unfold F57.T F57.G
  have hn : ∀ (x : Int) (K : Value → Hp → Prop), K (.bool false) h → F79.T x h K := fun x K hK => by
    unfold F79.T
    first
      | exact ⟨fun hne => absurd rfl hne, fun _ => hK⟩
      | exact ⟨fun _ => hK, fun hne => absurd rfl hne⟩
      | exact hK
  refine hn _ _ ⟨false, rfl, fun e => (by cases e), fun _ => hn _ _ ⟨false, rfl, fun e => (by cases e), fun _ => ⟨fun hlt => hQ _ ⟨fun _ => hlt, fun _ => by decide⟩, fun hge => ⟨fun hgt => hQ _ ⟨fun h => absurd h (by decide), fun h => by omega⟩, fun hle => hQ _ ⟨fun h => absurd h (by decide), fun h => by omega⟩⟩⟩⟩⟩
theorem cfg_rd {t b : Nat} (hb : h b = some (.cells ⟨[.int .i64 n, .int .i64 n1, .int .i64 n2, .int .i64 n3, .int .i64 n4, .int .i64 n5, .int .i64 n6, .int .i64 n7, .int .i64 n8, .int .i64 n9, .int .i64 n10, .int .i64 n11, .int .i64 n12, .int .i64 n13, .int .i64 n14, .int .i64 n15, .int .i64 n16, .int .i64 n17, .int .i64 n18, .int .i64 n19, .int .i64 n20, .int .i64 n21, .int .i64 n22, .int .i64 n23, .int .i64 n24, .int .i64 n25, .int .i64 n26]⟩ t (0, 0))) {K : Int → Int → Int → Int → Int → Int → Int → Int → Int → Int → Int → Int → Int → Int → Int → Int → Int → Int → Int → Int → Int → Int → Int → Int → Int → Int → Int → Prop} (hK : K n n1 n2 n3 n4 n5 n6 n7 n8 n9 n10 n11 n12 n13 n14 n15 n16 n17 n18 n19 n20 n21 n22 n23 n24 n25 n26) : ∃ m0 : Int, h.at b 0 = some (.int .i64 m0) ∧ ∃ m1 : Int, h.at b 1 = some (.int .i64 m1) ∧ ∃ m2 : Int, h.at b 2 = some (.int .i64 m2) ∧ ∃ m3 : Int, h.at b 3 = some (.int .i64 m3) ∧ ∃ m4 : Int, h.at b 4 = some (.int .i64 m4) ∧ ∃ m5 : Int, h.at b 5 = some (.int .i64 m5) ∧ ∃ m6 : Int, h.at b 6 = some (.int .i64 m6) ∧ ∃ m7 : Int, h.at b 7 = some (.int .i64 m7) ∧ ∃ m8 : Int, h.at b 8 = some (.int .i64 m8) ∧ ∃ m9 : Int, h.at b 9 = some (.int .i64 m9) ∧ ∃ m10 : Int, h.at b 10 = some (.int .i64 m10) ∧ ∃ m11 : Int, h.at b 11 = some (.int .i64 m11) ∧ ∃ m12 : Int, h.at b 12 = some (.int .i64 m12) ∧ ∃ m13 : Int, h.at b 13 = some (.int .i64 m13) ∧ ∃ m14 : Int, h.at b 14 = some (.int .i64 m14) ∧ ∃ m15 : Int, h.at b 15 = some (.int .i64 m15) ∧ ∃ m16 : Int, h.at b 16 = some (.int .i64 m16) ∧ ∃ m17 : Int, h.at b 17 = some (.int .i64 m17) ∧ ∃ m18 : Int, h.at b 18 = some (.int .i64 m18) ∧ ∃ m19 : Int, h.at b 19 = some (.int .i64 m19) ∧ ∃ m20 : Int, h.at b 20 = some (.int .i64 m20) ∧ ∃ m21 : Int, h.at b 21 = some (.int .i64 m21) ∧ ∃ m22 : Int, h.at b 22 = some (.int .i64 m22) ∧ ∃ m23 : Int, h.at b 23 = some (.int .i64 m23) ∧ ∃ m24 : Int, h.at b 24 = some (.int .i64 m24) ∧ ∃ m25 : Int, h.at b 25 = some (.int .i64 m25) ∧ ∃ m26 : Int, h.at b 26 = some (.int .i64 m26) ∧ K m0 m1 m2 m3 m4 m5 m6 m7 m8 m9 m10 m11 m12 m13 m14 m15 m16 m17 m18 m19 m20 m21 m22 m23 m24 m25 m26 :=
  ⟨n, at_of hb 0, n1, at_of hb 1, n2, at_of hb 2, n3, at_of hb 3, n4, at_of hb 4, n5, at_of hb 5, n6, at_of hb 6, n7, at_of hb 7, n8, at_of hb 8, n9, at_of hb 9, n10, at_of hb 10, n11, at_of hb 11, n12, at_of hb 12, n13, at_of hb 13, n14, at_of hb 14, n15, at_of hb 15, n16, at_of hb 16, n17, at_of hb 17, n18, at_of hb 18, n19, at_of hb 19, n20, at_of hb 20, n21, at_of hb 21, n22, at_of hb 22, n23, at_of hb 23, n24, at_of hb 24, n25, at_of hb 25, n26, at_of hb 26, hK⟩
end
end Go.Eng.Ytbjnlacacapjiaa
end
section
set_option maxRecDepth 100000
namespace Go.Eng.Ytbjnlacacapjiaa
def iV (w : List Nat) : List Value := w.map fun i : Nat => Value.int .i64 (i : Int)
theorem iV_len (w : List Nat) : (iV w).length = w.length := List.length_map _
def lessC (st : Bool) (sc : Nat → Int) (i j : Nat) : Prop := if st = true ∧ (i = 0 ∨ j = 0) ∧ i ≠ j then i < j else sc j < sc i
theorem lessC_bef {st : Bool} {sc : Nat → Int} {i j : Nat} (h : lessC st sc i j) : bef st sc i j := by
  unfold lessC at h
  unfold bef
  split
  · next c => rw [if_pos c] at h; exact h
  · next c => rw [if_neg c] at h; exact .inl h
theorem not_less_bef {st : Bool} {sc : Nat → Int} {i j : Nat} (hij : j < i) (h : ¬ lessC st sc i j) : bef st sc j i := by
  unfold lessC at h
  unfold bef
  by_cases c : st = true ∧ (i = 0 ∨ j = 0) ∧ i ≠ j
  · rw [if_pos c] at h
    rw [if_pos ⟨c.1, c.2.1.symm, fun e => c.2.2 e.symm⟩]
    exact hij
  · rw [if_neg c] at h
    rw [if_neg (fun d => c ⟨d.1, d.2.1.symm, fun e => d.2.2 e.symm⟩)]
    omega
theorem bef_trans {st : Bool} {sc : Nat → Int} {i j k : Nat} (h : bef st sc i j) (g : bef st sc j k) : bef st sc i k := by
  unfold bef at h g ⊢
  cases st with
  | false => simp at h g ⊢; omega
  | true =>
    simp only [true_and] at h g ⊢
    by_cases h0 : i = 0 <;> by_cases h1 : j = 0 <;> by_cases h2 : k = 0
    all_goals simp only [h0, h1, h2, true_or, or_true, or_self, ne_eq, not_true_eq_false, not_false_eq_true, and_true, and_false, true_and, false_and, if_true, if_false] at h g ⊢
    all_goals first | omega | (simp_all; done) | skip
    all_goals (repeat' split at h) <;> (repeat' split at g) <;> (repeat' split) <;> omega
section
variable {g h h' H0 : Hp} {vb b b1 b2 : Nat} {ls l sl : Sl} {xs : List (Sl × List Tab)} {Q : Value → Hp → Prop} {n n1 n2 n3 n4 n5 n6 n7 n8 n9 n10 n11 n12 n13 n14 n15 n16 n17 n18 n19 n20 n21 n22 n23 n24 n25 n26 : Int}
structure Env (g h : Hp) (vb b b1 b2 : Nat) (ls sl : Sl) (xs : List (Sl × List Tab)) (sc : List Int) (n n1 n2 n3 n4 n5 n6 n7 n8 n9 n10 n11 n12 n13 n14 n15 n16 n17 n18 n19 n20 n21 n22 n23 n24 n25 n26 : Int) : Prop where
  V : Ver g h vb ls xs
  c : h b = some (.cells ⟨[.int .i64 n, .int .i64 n1, .int .i64 n2, .int .i64 n3, .int .i64 n4, .int .i64 n5, .int .i64 n6, .int .i64 n7, .int .i64 n8, .int .i64 n9, .int .i64 n10, .int .i64 n11, .int .i64 n12, .int .i64 n13, .int .i64 n14, .int .i64 n15, .int .i64 n16, .int .i64 n17, .int .i64 n18, .int .i64 n19, .int .i64 n20, .int .i64 n21, .int .i64 n22, .int .i64 n23, .int .i64 n24, .int .i64 n25, .int .i64 n26]⟩ 58 (0, 0))
  p : h b1 = some (.cells ⟨[.pointer (some ⟨vb, 0, none⟩)]⟩ 31 (0, 0))
  s : h b2 = some (.cells ⟨[.slice sl.a sl.n sl.c]⟩ 64 (0, 0))
  r : Buf h sl 1 3 (nV3 sc)
theorem Env.keep {sc : List Int} (E : Env g h vb b b1 b2 ls sl xs sc n n1 n2 n3 n4 n5 n6 n7 n8 n9 n10 n11 n12 n13 n14 n15 n16 n17 n18 n19 n20 n21 n22 n23 n24 n25 n26) (K : Keep h h') : Env g h' vb b b1 b2 ls sl xs sc n n1 n2 n3 n4 n5 n6 n7 n8 n9 n10 n11 n12 n13 n14 n15 n16 n17 n18 n19 n20 n21 n22 n23 n24 n25 n26 := ⟨E.V.keep K, K _ _ E.c, K _ _ E.p, K _ _ E.s, E.r.keep K⟩
theorem sc_rd {sc : List Int} (B : Buf h sl 1 3 (nV3 sc)) {i : Nat} (hi : i < sc.length) : ∃ b, sl.a = some ⟨b, 0, none⟩ ∧ ((0 : Int) ≤ (i : Int) ∧ (i : Int) < (sl.n : Int)) ∧ h.at b (0 + ((i : Int)).toNat) = some (.int .i64 (sc[i]?.getD 0)) := by
  have hl := B.len
  rw [nV3_len] at hl
  obtain ⟨b, ha, hat, _⟩ := buf_set B (k := i) (by rw [nV3_len]; exact hi)
  refine ⟨b, ha, ⟨by omega, by omega⟩, ?_⟩
  rw [Int.toNat_natCast, Nat.zero_add, hat]
  unfold nV3
  rw [List.getElem?_map, List.getElem?_eq_getElem hi]
  rfl
theorem cmp56_s {sc : List Int} (P : PkOk xs) (E : Env g h vb b b1 b2 ls sl xs sc n n1 n2 n3 n4 n5 n6 n7 n8 n9 n10 n11 n12 n13 n14 n15 n16 n17 n18 n19 n20 n21 n22 n23 n24 n25 n26) {i j : Nat} (hi : i < sc.length) (hj : j < sc.length) (hQ : ∀ h' (c : Int), Keep h h' → (c < 0 ↔ lessC (decide (n7 ≤ ((tabsI xs 0).length : Int))) (fun k => sc[k]?.getD 0) i j) → Q (.int .i64 c) h') : F56.T (i : Int) (j : Int) b 0 b1 0 b2 0 h Q := by
  have key : ∀ h1, Keep h h1 → ¬ (decide (n7 ≤ ((tabsI xs 0).length : Int)) = true ∧ (i = 0 ∨ j = 0) ∧ i ≠ j) → ∃ l : Sl, h1.at b2 0 = some (.slice l.a l.n l.c) ∧ ∃ b3 o3, (l.a : Option Addr) = some ⟨b3, o3, none⟩ ∧ ((0 : Int) ≤ (j : Int) ∧ (j : Int) < (l.n : Int)) ∧ ∃ n2 : Int, h1.at b3 (o3 + (j : Int).toNat) = some (.int .i64 n2) ∧ ∃ l1 : Sl, h1.at b2 0 = some (.slice l1.a l1.n l1.c) ∧ ∃ b4 o4, (l1.a : Option Addr) = some ⟨b4, o4, none⟩ ∧ ((0 : Int) ≤ (i : Int) ∧ (i : Int) < (l1.n : Int)) ∧ ∃ n3 : Int, h1.at b4 (o4 + (i : Int).toNat) = some (.int .i64 n3) ∧ F57.T n2 n3 h1 fun r h2 => ∃ n4 : Int, r = .int .i64 n4 ∧ Q (.int .i64 n4) h2 := by
    intro h1 K1 hc
    have E1 := E.keep K1
    obtain ⟨b3, ha3, hr3, hat3⟩ := sc_rd E1.r hj
    obtain ⟨b4, ha4, hr4, hat4⟩ := sc_rd E1.r hi
    refine ⟨sl, at_of E1.s 0, b3, 0, ha3, hr3, _, hat3, sl, at_of E1.s 0, b4, 0, ha4, hr4, _, hat4, cmp_s fun c hcc => ⟨c, rfl, hQ h1 c K1 ?_⟩⟩
    unfold lessC
    rw [if_neg hc]
    exact hcc
  have special : ∀ (J : Hp → Prop), (∀ h1, Keep h h1 → ¬ (decide (n7 ≤ ((tabsI xs 0).length : Int)) = true ∧ (i = 0 ∨ j = 0) ∧ i ≠ j) → J h1) → (i = 0 ∨ j = 0) → (i : Int) ≠ (j : Int) → F54.T n n1 n2 n3 n4 n5 n6 n7 n8 n9 n10 n11 n12 n13 n14 n15 n16 n17 n18 n19 n20 n21 n22 n23 n24 n25 n26 (some ⟨vb, 0, none⟩) h fun r1 h3 => ∃ b5 : Bool, r1 = .bool b5 ∧ parB b5 (F57.T (i : Int) (j : Int) h3 fun r2 h4 => ∃ n32 : Int, r2 = .int .i64 n32 ∧ Q (.int .i64 n32) h4) (J h3) := by
    intro J hJ h0 hne
    refine stopped_s E.V P fun h1 K1 => ⟨_, rfl, fun hs => ?_, fun hs => hJ h1 K1 fun c => (by rw [c.1] at hs; cases hs)⟩
    refine cmp_s fun c hcc => ⟨c, rfl, hQ h1 c K1 ?_⟩
    unfold lessC
    rw [if_pos ⟨hs, h0, fun e => hne (by rw [e])⟩, hcc]
    omega
  unfold F56.T F56.G
  refine ⟨fun h1 => Keep h h1 ∧ ¬ (decide (n7 ≤ ((tabsI xs 0).length : Int)) = true ∧ (i = 0 ∨ j = 0) ∧ i ≠ j), fun h1 hJ => key h1 hJ.1 hJ.2, fun h0 => ⟨fun he => ⟨Keep.refl _, fun c => c.2.2 (by omega)⟩, fun he => ?_⟩, fun h0 => ⟨fun h1 => ⟨fun he => ⟨Keep.refl _, fun c => c.2.2 (by omega)⟩, fun he => ?_⟩, fun h1 => ⟨Keep.refl _, fun c => by omega⟩⟩⟩
  · exact cfg_rd E.c ⟨some ⟨vb, 0, none⟩, at_of E.p 0, special _ (fun h1 a c => ⟨a, c⟩) (.inl (by omega)) he⟩
  · exact cfg_rd E.c ⟨some ⟨vb, 0, none⟩, at_of E.p 0, special _ (fun h1 a c => ⟨a, c⟩) (.inr (by omega)) he⟩
theorem ib_rd {w : List Nat} {P R : List Nat} {a : Nat} (B : Buf h l 1 3 (iV w)) (e : w = P ++ a :: R) : ∃ b, l.a = some ⟨b, 0, none⟩ ∧ ((0 : Int) ≤ (P.length : Int) ∧ (P.length : Int) < (l.n : Int)) ∧ h.at b (0 + ((P.length : Int)).toNat) = some (.int .i64 (a : Int)) ∧ h.canW b (0 + ((P.length : Int)).toNat) 1 ∧ ∀ c : Nat, Upd h (h.wr b (0 + ((P.length : Int)).toNat) [.int .i64 (c : Int)]) l l ∧ Buf (h.wr b (0 + ((P.length : Int)).toNat) [.int .i64 (c : Int)]) l 1 3 (iV (P ++ c :: R)) := by
  subst e
  have hl := B.len
  rw [iV_len, List.length_append, List.length_cons] at hl
  obtain ⟨b, ha, hat, hc, hw⟩ := buf_set B (k := P.length) (by rw [iV_len, List.length_append, List.length_cons]; omega)
  rw [Int.toNat_natCast, Nat.zero_add]
  refine ⟨b, ha, ⟨by omega, by omega⟩, ?_, hc, fun c => ?_⟩
  · rw [hat]
    unfold iV
    rw [List.getElem?_map, List.getElem?_append_right (Nat.le_refl _), Nat.sub_self]
    rfl
  · obtain ⟨U, B'⟩ := hw (.int .i64 (c : Int))
    refine ⟨U, ?_⟩
    have : (iV (P ++ a :: R)).set P.length (.int .i64 (c : Int)) = iV (P ++ c :: R) := by
      unfold iV
      rw [List.map_append, List.map_append, List.set_append_right _ _ (by rw [List.length_map]; exact Nat.le_refl _), List.length_map, Nat.sub_self]
      rfl
    rw [← this]; exact B'
theorem pw_ins {R : Nat → Nat → Prop} (tr : ∀ {i j k}, R i j → R j k → R i k) {P S : List Nat} {x : Nat} (h : (P ++ S).Pairwise R) (h1 : P = [] ∨ ∃ P' y, P = P' ++ [y] ∧ R y x) (h2 : ∀ s ∈ S, R x s) : (P ++ x :: S).Pairwise R := by
  obtain ⟨p1, p2, p3⟩ := List.pairwise_append.1 h
  refine List.pairwise_append.2 ⟨p1, List.pairwise_cons.2 ⟨h2, p2⟩, fun a ha c hc => ?_⟩
  rcases List.mem_cons.1 hc with rfl | hc
  · rcases h1 with rfl | ⟨P', y, rfl, hy⟩
    · cases ha
    · rcases List.mem_append.1 ha with ha | ha
      · have := (List.pairwise_append.1 p1).2.2 a ha y (by simp)
        exact tr this hy
      · rw [List.mem_singleton.1 ha]; exact hy
  · exact p3 a ha c hc
theorem ins_s {sc : List Int} {w : List Nat} (Pk : PkOk xs) (E : Env g H0 vb b b1 b2 ls sl xs sc n n1 n2 n3 n4 n5 n6 n7 n8 n9 n10 n11 n12 n13 n14 n15 n16 n17 n18 n19 n20 n21 n22 n23 n24 n25 n26) (K : Keep H0 h) (N : NewN H0 l) (B : Buf h l 1 3 (iV w)) (hw : w.length ≤ 20) (hlt : ∀ a ∈ w, a < sc.length) (rise : w.Pairwise (· < ·))
    (hQ : ∀ h' w', Keep H0 h' → Buf h' l 1 3 (iV w') → w'.Perm w → w'.Pairwise (bef (decide (n7 ≤ ((tabsI xs 0).length : Int))) (fun k => sc[k]?.getD 0)) → Q (.tuple ⟨[]⟩) h') : F86.T l 0 (w.length : Int) b 0 b1 0 b2 0 h Q := by
  generalize hst : decide (n7 ≤ ((tabsI xs 0).length : Int)) = st at hQ
  unfold F86.T F86.G
  rw [show IntKind.wrap .i64 ((0 : Int) + 1) = 1 from rfl]
  rcases w with _ | ⟨m0, M0⟩
  · refine ⟨fun n g => n = 1 ∧ g = h, fun _ _ => 0, ⟨rfl, rfl⟩, ?_⟩
    rintro n g' ⟨rfl, rfl⟩
    exact ⟨fun hlt => absurd hlt (by simp), fun _ => hQ g' [] K B (List.Perm.refl _) List.Pairwise.nil⟩
  simp only [List.length_cons] at hw
  refine ⟨fun n h1 => ∃ D R, Keep H0 h1 ∧ Buf h1 l 1 3 (iV (D ++ R)) ∧ (D ++ R).Perm (m0 :: M0) ∧ D.Pairwise (bef st (fun k => sc[k]?.getD 0)) ∧ R.Pairwise (· < ·) ∧ (∀ d ∈ D, ∀ r ∈ R, d < r) ∧ n = (D.length : Int) ∧ D.length + R.length = M0.length + 1, fun n _ => ((M0.length + 1 : Nat) - n).toNat, ⟨[m0], M0, K, B, List.Perm.refl _, List.pairwise_singleton _ _, (List.pairwise_cons.1 rise).2, fun d hd r hr => by rw [List.mem_singleton.1 hd]; exact (List.pairwise_cons.1 rise).1 r hr, rfl, by simp; omega⟩, ?_⟩
  rintro n h1 ⟨D, R, K1, B1, hp, hs, hR, hDR, rfl, hlen⟩
  refine ⟨fun hlt1 => ?_, fun hge => ?_⟩
  · rcases R with _ | ⟨x, R⟩
    · simp at hlt1 hlen; omega
    simp only [List.length_cons] at hlen
    rw [wr64 (x := (D.length : Int) + 1) (by omega) (by omega)]
    have hxm : x ∈ m0 :: M0 := hp.subset (by simp)
    obtain ⟨r1, r2⟩ := List.pairwise_cons.1 hR
    have out : ∀ {h2 : Hp} {P S' : List Nat}, Keep H0 h2 → Buf h2 l 1 3 (iV (P ++ x :: (S' ++ R))) → P ++ S' = D → (P ++ x :: S').Pairwise (bef st (fun k => sc[k]?.getD 0)) → (∃ D_1 R, Keep H0 h2 ∧ Buf h2 l 1 3 (iV (D_1 ++ R)) ∧ (D_1 ++ R).Perm (m0 :: M0) ∧ D_1.Pairwise (bef st (fun k => sc[k]?.getD 0)) ∧ R.Pairwise (· < ·) ∧ (∀ d ∈ D_1, ∀ r ∈ R, d < r) ∧ ((D.length : Int) + 1) = (D_1.length : Int) ∧ D_1.length + R.length = M0.length + 1) := by
      intro h2 P S' K2 B2 hD hpw
      refine ⟨P ++ x :: S', R, K2, by simpa using B2, ?_, hpw, r2, fun d hd r hr => ?_, by rw [← hD]; simp; omega, by rw [← hD] at hlen; simp at hlen ⊢; omega⟩
      · refine List.Perm.trans ?_ hp
        rw [← hD]
        have e1 : (P ++ x :: S' ++ R) = P ++ ([x] ++ S' ++ R) := by simp
        have e2 : (P ++ S' ++ x :: R) = P ++ (S' ++ [x] ++ R) := by simp
        rw [e1, e2]
        exact ((List.perm_append_comm (l₁ := [x]) (l₂ := S')).append_right R).append_left P
      · rcases List.mem_append.1 hd with hd | hd
        · exact hDR d (by rw [← hD]; simp [hd]) r (List.mem_cons_of_mem _ hr)
        · rcases List.mem_cons.1 hd with rfl | hd
          · exact r1 r hr
          · exact hDR d (by rw [← hD]; simp [hd]) r (List.mem_cons_of_mem _ hr)
    refine ⟨fun n3 h2 => ∃ P S', Keep H0 h2 ∧ Buf h2 l 1 3 (iV (P ++ x :: (S' ++ R))) ∧ P ++ S' = D ∧ (∀ s ∈ S', bef st (fun k => sc[k]?.getD 0) x s) ∧ n3 = (P.length : Int), fun n3 _ => n3.toNat, ⟨D, [], K1, B1, by simp, fun s hs => (by cases hs), rfl⟩, ?_⟩
    rintro n3 h2 ⟨P, S', K2, B2, hD, hb, rfl⟩
    have hDl : P.length + S'.length = D.length := by rw [← hD]; simp
    refine ⟨fun hlt2 => ?_, fun hge2 => ?_⟩
    · have hP : P ≠ [] := fun e => by subst e; simp at hlt2
      obtain ⟨P', y, rfl⟩ := snoc_of hP
      have hyD : y ∈ D := by rw [← hD]; simp
      have hym : y ∈ m0 :: M0 := hp.subset (by simp [hyD])
      have hyx : y < x := hDR y hyD x (by simp)
      simp only [List.length_append, List.length_singleton] at hDl hlt2
      have hi1 : (((P' ++ [y]).length : Nat) : Int) = (P'.length : Int) + 1 := by simp
      have hw1 : IntKind.wrap .i64 ((((P' ++ [y]).length : Nat) : Int) - 1) = (P'.length : Int) := by rw [hi1, wr64 (by omega) (by omega)]; omega
      rw [hw1]
      obtain ⟨ba, a1, a2, a3, a4, a5⟩ := ib_rd B2 (P := P' ++ [y]) (a := x) (R := S' ++ R) rfl
      obtain ⟨bb, c1, c2, c3, c4, c5⟩ := ib_rd B2 (P := P') (a := y) (R := x :: (S' ++ R)) (by simp)
      have hbb : bb = ba := by rw [a1] at c1; simp only [Option.some.injEq, Addr.mk.injEq, and_true] at c1; exact c1.symm
      subst hbb
      refine ⟨_, 0, a1, a2, _, a3, _, 0, c1, c2, _, c3, ?_⟩
      refine cmp56_s Pk (E.keep K2) (hlt x hxm) (hlt y hym) fun h3 c K3 hc => ⟨c, rfl, fun hneg => ?_, fun hpos => ?_⟩
      · rw [hst] at hc
        have hl := hc.1 hneg
        have B3 := B2.keep K3
        have K03 := K2.trans K3
        obtain ⟨bd, d1, d2, d3, d4, d5⟩ := ib_rd B3 (P := P') (a := y) (R := x :: (S' ++ R)) (by simp)
        have hbd : bd = bb := by rw [a1] at d1; simp only [Option.some.injEq, Addr.mk.injEq, and_true] at d1; exact d1.symm
        subst hbd
        obtain ⟨be, e1, e2, e3, e4, e5⟩ := ib_rd B3 (P := P' ++ [y]) (a := x) (R := S' ++ R) rfl
        have hbe : be = bd := by rw [a1] at e1; simp only [Option.some.injEq, Addr.mk.injEq, and_true] at e1; exact e1.symm
        subst hbe
        obtain ⟨U4, B4⟩ := e5 y
        obtain ⟨K04, _⟩ := NewN.upd K03 N U4
        obtain ⟨bf, f1, f2, f3, f4, f5⟩ := ib_rd B4 (P := P') (a := y) (R := y :: (S' ++ R)) (by simp)
        have hbf : bf = be := by rw [a1] at f1; simp only [Option.some.injEq, Addr.mk.injEq, and_true] at f1; exact f1.symm
        subst hbf
        obtain ⟨U5, B5⟩ := f5 x
        obtain ⟨K05, _⟩ := NewN.upd K04 N U5
        refine ⟨_, 0, d1, d2, _, d3, _, 0, e1, e2, _, e3, _, 0, e1, e2, e4, _, 0, f1, f2, f4, ?_⟩
        refine ⟨⟨P', y :: S', K05, by simpa using B5, by rw [← hD]; simp, fun s hs => ?_, rfl⟩, by rw [hi1]; dsimp only; omega⟩
        rcases List.mem_cons.1 hs with rfl | hs
        · exact lessC_bef hl
        · exact hb s hs
      · rw [hst] at hc
        have hnl : ¬ lessC st (fun k => sc[k]?.getD 0) x y := fun h => hpos (hc.2 h)
        refine ⟨out (K2.trans K3) (B2.keep K3) hD (pw_ins (R := bef st (fun k => sc[k]?.getD 0)) bef_trans (by rw [hD]; exact hs) (.inr ⟨P', y, rfl, not_less_bef hyx hnl⟩) hb), by dsimp only; omega⟩
    · have hP : P = [] := List.eq_nil_of_length_eq_zero (by omega)
      subst hP
      exact ⟨out K2 B2 hD (pw_ins (R := bef st (fun k => sc[k]?.getD 0)) bef_trans (by rw [hD]; exact hs) (.inl rfl) hb), by dsimp only; omega⟩
  · have hR0 : R = [] := by
      have : R.length = 0 := by simp only [List.length_cons] at hge; omega
      exact List.eq_nil_of_length_eq_zero this
    subst hR0
    rw [List.append_nil] at hp B1
    exact hQ h1 D K1 B1 hp hs
theorem order_s (V : Ver g h vb ls xs) (P : PkOk xs) (O : CfOk n5 n7 n8 n9 n10 n12) (h8 : n8 = (xs.length : Int)) (hQ : ∀ h' r o, Keep h h' → Buf h' r 1 3 (iV o) → NewN h r → IsOrder (xs.length - 1) (decide (n7 ≤ ((tabsI xs 0).length : Int))) (scoreM n5 n9 n10 xs) o → Q (.slice r.a r.n r.c) h') : F25.T n n1 n2 n3 n4 n5 n6 n7 n8 n9 n10 n11 n12 n13 n14 n15 n16 n17 n18 n19 n20 n21 n22 n23 n24 n25 n26 (some ⟨vb, 0, none⟩) h Q := by
  have hx := P.len
  unfold F25.T F25.G
  intro b hb b1 hb1
  have K0 := Keep.new hb (.cells ⟨[.int .i64 n, .int .i64 n1, .int .i64 n2, .int .i64 n3, .int .i64 n4, .int .i64 n5, .int .i64 n6, .int .i64 n7, .int .i64 n8, .int .i64 n9, .int .i64 n10, .int .i64 n11, .int .i64 n12, .int .i64 n13, .int .i64 n14, .int .i64 n15, .int .i64 n16, .int .i64 n17, .int .i64 n18, .int .i64 n19, .int .i64 n20, .int .i64 n21, .int .i64 n22, .int .i64 n23, .int .i64 n24, .int .i64 n25, .int .i64 n26]⟩ 58 (0, 0))
  have x0 := new_at h b (.cells ⟨[.int .i64 n, .int .i64 n1, .int .i64 n2, .int .i64 n3, .int .i64 n4, .int .i64 n5, .int .i64 n6, .int .i64 n7, .int .i64 n8, .int .i64 n9, .int .i64 n10, .int .i64 n11, .int .i64 n12, .int .i64 n13, .int .i64 n14, .int .i64 n15, .int .i64 n16, .int .i64 n17, .int .i64 n18, .int .i64 n19, .int .i64 n20, .int .i64 n21, .int .i64 n22, .int .i64 n23, .int .i64 n24, .int .i64 n25, .int .i64 n26]⟩ 58 (0, 0))
  generalize h.new b (.cells ⟨[.int .i64 n, .int .i64 n1, .int .i64 n2, .int .i64 n3, .int .i64 n4, .int .i64 n5, .int .i64 n6, .int .i64 n7, .int .i64 n8, .int .i64 n9, .int .i64 n10, .int .i64 n11, .int .i64 n12, .int .i64 n13, .int .i64 n14, .int .i64 n15, .int .i64 n16, .int .i64 n17, .int .i64 n18, .int .i64 n19, .int .i64 n20, .int .i64 n21, .int .i64 n22, .int .i64 n23, .int .i64 n24, .int .i64 n25, .int .i64 n26]⟩ 58 (0, 0)) = k0 at K0 x0 hb1 ⊢
  have K1 := Keep.new hb1 (.cells ⟨[.pointer (some ⟨vb, 0, none⟩)]⟩ 31 (0, 0))
  have x1 := new_at k0 b1 (.cells ⟨[.pointer (some ⟨vb, 0, none⟩)]⟩ 31 (0, 0))
  generalize k0.new b1 (.cells ⟨[.pointer (some ⟨vb, 0, none⟩)]⟩ 31 (0, 0)) = k1 at K1 x1 ⊢
  have y0 := K1 _ _ x0
  have K01 := K0.trans K1
  refine cfg_rd y0 ⟨some ⟨vb, 0, none⟩, at_of x1 0, ?_⟩
  refine scores_s (V.keep K01) P O h8 fun h1 l K2 B2 N2 => ⟨l, rfl, fun b2 hb2 => ?_⟩
  rw [new_wr]
  have x3 := new_at h1 b2 (.cells ⟨[.slice none 0 0]⟩ 64 (0, 0))
  refine ⟨canW_new x3 (by simp), l, ?_⟩
  have e3 : (setL (⟨[.slice none 0 0]⟩ : Array Value).toList 0 [.slice l.a l.n l.c]).toArray = ⟨[.slice l.a l.n l.c]⟩ := rfl
  rw [e3]
  have K3 := Keep.new hb2 (.cells ⟨[.slice l.a l.n l.c]⟩ 64 (0, 0))
  have x4 := new_at h1 b2 (.cells ⟨[.slice l.a l.n l.c]⟩ 64 (0, 0))
  generalize h1.new b2 (.cells ⟨[.slice l.a l.n l.c]⟩ 64 (0, 0)) = H0 at K3 x4 ⊢
  clear x3 e3
  refine ⟨at_of x4 0, ?_⟩
  have K03 := K01.trans (K2.trans K3)
  have E : Env g H0 vb b b1 b2 ls l xs ((List.range (xs.length - 1)).map (scoreM n5 n9 n10 xs)) n n1 n2 n3 n4 n5 n6 n7 n8 n9 n10 n11 n12 n13 n14 n15 n16 n17 n18 n19 n20 n21 n22 n23 n24 n25 n26 := ⟨V.keep K03, (K2.trans K3) _ _ y0, (K2.trans K3) _ _ x1, x4, B2.keep K3⟩
  have hscl : ((List.range (xs.length - 1)).map (scoreM n5 n9 n10 xs)).length = xs.length - 1 := by simp
  have hln : l.n = xs.length - 1 := by have := B2.len; rw [nV3_len, hscl] at this; omega
  have hsc : ∀ i, i < xs.length - 1 → ((List.range (xs.length - 1)).map (scoreM n5 n9 n10 xs))[i]?.getD 0 = scoreM n5 n9 n10 xs i := fun i hi => by
    rw [List.getElem?_map, List.getElem?_range hi]; rfl
  generalize hst : decide (n7 ≤ ((tabsI xs 0).length : Int)) = st at hQ
  refine ⟨fun l2 n h2 => ∃ (k : Nat) (w : List Nat), n = (k : Int) ∧ k ≤ xs.length - 1 ∧ Keep H0 h2 ∧ NewN H0 l2 ∧ Buf h2 l2 1 3 (iV w) ∧ w.Pairwise (· < ·) ∧ ∀ i, i ∈ w ↔ i < k ∧ want st (scoreM n5 n9 n10 xs) i, fun _ n _ => xs.length - n.toNat, ⟨0, [], rfl, Nat.zero_le _, Keep.refl _, NewN.nil _, Buf.nil _ _ _, List.Pairwise.nil, fun i => ⟨fun hi => (by cases hi), fun hi => (by omega)⟩⟩, ?_⟩
  rintro l2 n h2 ⟨k, w, rfl, hk, Kh, Nh, Bh, hpw, hmem⟩
  have hwl : w.length ≤ k := by
    have : w.Nodup := hpw.imp fun h => Nat.ne_of_lt h
    have h2 := List.Nodup.length_le_of_subset this (l₂ := List.range k) (fun i hi => List.mem_range.2 ((hmem i).1 hi).1)
    rwa [List.length_range] at h2
  have hl2 : l2.n = w.length := by have := Bh.len; rw [iV_len] at this; omega
  refine ⟨fun hlt => ?_, fun hge => ?_⟩
  · have hk1 : k < xs.length - 1 := by omega
    obtain ⟨b3, a1, a2, a3⟩ := sc_rd (E.keep Kh).r (i := k) (by rw [hscl]; exact hk1)
    rw [hsc k hk1] at a3
    rw [next_i (n := 100) (by omega) (by omega)]
    have add : want st (scoreM n5 n9 n10 xs) k → ∀ {h3 : Hp} {l3 : Sl}, Keep H0 h3 → NewN H0 l3 → Buf h3 l3 1 3 (iV w ++ [.int .i64 (k : Int)]) → (∃ (k_1 : Nat) (w : List Nat), ((k + 1 : Nat) : Int) = (k_1 : Int) ∧ k_1 ≤ xs.length - 1 ∧ Keep H0 h3 ∧ NewN H0 l3 ∧ Buf h3 l3 1 3 (iV w) ∧ w.Pairwise (· < ·) ∧ ∀ i, i ∈ w ↔ i < k_1 ∧ want st (scoreM n5 n9 n10 xs) i) := fun hw {h3} {l3} K3 N3 B3 => by
      refine ⟨k + 1, w ++ [k], rfl, by omega, K3, N3, by unfold iV at B3 ⊢; rw [List.map_append]; exact B3, ?_, fun i => ?_⟩
      · refine List.pairwise_append.2 ⟨hpw, List.pairwise_singleton _ _, fun x hx y hy => ?_⟩
        rw [List.mem_singleton.1 hy]; exact ((hmem x).1 hx).1
      · rw [List.mem_append, List.mem_singleton, hmem]
        constructor
        · rintro (⟨h, h'⟩ | rfl)
          · exact ⟨by omega, h'⟩
          · exact ⟨by omega, hw⟩
        · rintro ⟨h, h'⟩
          by_cases hik : i = k
          · exact .inr hik
          · exact .inl ⟨by omega, h'⟩
    have skip : ¬ want st (scoreM n5 n9 n10 xs) k → ∀ {h3 : Hp}, Keep h2 h3 → (∃ (k_1 : Nat) (w : List Nat), ((k + 1 : Nat) : Int) = (k_1 : Int) ∧ k_1 ≤ xs.length - 1 ∧ Keep H0 h3 ∧ NewN H0 l2 ∧ Buf h3 l2 1 3 (iV w) ∧ w.Pairwise (· < ·) ∧ ∀ i, i ∈ w ↔ i < k_1 ∧ want st (scoreM n5 n9 n10 xs) i) := fun hw {h3} K3 => by
      refine ⟨k + 1, w, rfl, by omega, Kh.trans K3, Nh, Bh.keep K3, hpw, fun i => ?_⟩
      rw [hmem]
      constructor
      · rintro ⟨h, h'⟩; exact ⟨by omega, h'⟩
      · rintro ⟨h, h'⟩
        have hik : i ≠ k := by rintro rfl; exact hw h'
        exact ⟨by omega, h'⟩
    refine ⟨b3, 0, a1, a2, _, a3, fun hw => ?_, fun hw => ⟨fun h0 => ?_, fun h0 => ⟨skip (fun hh => hh.elim hw fun hh => h0 (by omega)) (Keep.refl _), by dsimp only; omega⟩⟩⟩
    · refine append_buf (us := [.int .i64 (k : Int)]) Bh rfl rfl (by omega) fun l3 h3 B3 _ U3 => ?_
      obtain ⟨K4, N4⟩ := NewN.upd Kh Nh U3
      exact ⟨add (.inl hw) K4 N4 B3, by dsimp only; omega⟩
    · refine cfg_rd (E.keep Kh).c ⟨some ⟨vb, 0, none⟩, at_of (E.keep Kh).p 0, ?_⟩
      refine stopped_s (E.keep Kh).V P fun h3 K4 => ⟨_, rfl, fun hs => ?_, fun hs => ?_⟩
      · rw [hst] at hs
        refine append_buf (us := [.int .i64 (k : Int)]) (Bh.keep K4) rfl rfl (by omega) fun l3 h5 B5 _ U5 => ?_
        obtain ⟨K5, N5⟩ := NewN.upd (Kh.trans K4) Nh U5
        exact ⟨add (.inr ⟨by omega, hs⟩) K5 N5 B5, by dsimp only; omega⟩
      · rw [hst] at hs
        exact ⟨skip (fun hh => hh.elim hw fun hh => by rw [hh.2] at hs; cases hs) K4, by dsimp only; omega⟩
  · have hk2 : k = xs.length - 1 := by omega
    subst hk2
    unfold F55.T F78.T F55.G F78.G
    rw [hl2]
    refine ⟨fun a c h3 => a = 0 ∧ c = 20 ∧ h3 = h2, fun _ _ _ => 0, ⟨rfl, rfl, rfl⟩, ?_⟩
    rintro a c h3 ⟨rfl, rfl, rfl⟩
    refine ⟨fun hle => absurd hle (by omega), fun _ => ?_⟩
    refine ins_s P E Kh Nh Bh (by omega) (fun i hi => by rw [hscl]; exact ((hmem i).1 hi).1) hpw fun h4 w' K4 B4 hperm hpw' => ?_
    refine ⟨fun a h5 => a = 20 ∧ h5 = h4, fun _ _ => 0, ⟨rfl, rfl⟩, ?_⟩
    rintro a h5 ⟨rfl, rfl⟩
    refine ⟨fun hlt => absurd hlt (by omega), fun _ => ?_⟩
    rw [hst] at hpw'
    show Q (.slice l2.a w.length l2.c) h5
    rw [← hl2]
    refine hQ h5 l2 w' (K03.trans K4) B4 (Nh.mono K03.dom) ⟨?_, fun i => ?_, ?_⟩
    · exact (hperm.nodup_iff).2 (hpw.imp fun h => Nat.ne_of_lt h)
    · rw [hperm.mem_iff, hmem]
    · refine hpw'.imp_of_mem fun {x y} hx hy hb => ?_
      have hx' := ((hmem x).1 (hperm.mem_iff.1 hx)).1
      have hy' := ((hmem y).1 (hperm.mem_iff.1 hy)).1
      unfold bef at hb ⊢
      dsimp only at hb
      rw [hsc x hx', hsc y hy'] at hb
      exact hb
end
end Go.Eng.Ytbjnlacacapjiaa
end
section
set_option maxRecDepth 100000
namespace Go.Eng.Ytbjnlacacapjiaa
def hullM (l : List Tab) : ByteArray × ByteArray := match l with
  | [] => (⟨#[]⟩, ⟨#[]⟩)
  | t :: _ => l.foldl (fun p u => (sMin p.1 u.least, sMax p.2 u.greatest)) (t.least, t.greatest)
def behindM (l : List Tab) (key : ByteArray) : Tab := match l.find? fun t => blB key t.least with
  | some t => t
  | none => l.head?.getD zT
structure Jb where
  lv : Int
  up : List Tab
  lo : List Tab
  cut : ByteArray
  mv : Bool
def inputsM (fan : Int) (xs : List (Sl × List Tab)) (ptrs : List ByteArray) (level : Int) : Option Jb :=
  if level < 0 ∨ (xs.length : Int) - 1 ≤ level then none else if tabsI xs level = [] then none else
  if level = 0 then some ⟨0, tabsI xs 0, overM (hullM (tabsI xs 0)).1 (hullM (tabsI xs 0)).2 (tabsI xs 1), ⟨#[]⟩, false⟩ else
  let t := behindM (tabsI xs level) (ptrs[level.toNat]?.getD ⟨#[]⟩)
  let lo := overM t.least t.greatest (tabsI xs (level + 1))
  let mv := decide (lo = [] ∧ level + 1 ≠ (xs.length : Int) - 1)
  match lo[fan.toNat]? with
  | some c => some ⟨level, [t], lo.take fan.toNat, c.least, mv⟩
  | none => some ⟨level, [t], lo, ⟨#[]⟩, mv⟩
theorem not_bl_nil (a : ByteArray) : ¬ Bl a ⟨#[]⟩ := by
  intro h
  have h1 := (sLt_bl _ _).2 h
  unfold sLt at h1
  have e : (ByteArray.mk #[]).toList = [] := by rw [ByteArray.toList, ByteArray.toList.loop]; rfl
  rw [e] at h1
  cases hl : a.toList with
  | nil => rw [hl] at h1; simp [Op.bytesLess] at h1
  | cons x l => rw [hl] at h1; simp [Op.bytesLess] at h1
theorem buf_cap {h : Hp} {s : Sl} {sz t k c : Nat} {A B : List Value} (Bf : Buf h s sz t (A ++ B)) (hA : A.length = k * sz) (hk : k ≤ s.n) (hc : k ≤ c) (hcc : c ≤ s.c) (h0 : s.a = none → c = 0) : Buf h ⟨s.a, k, c⟩ sz t A := by
  refine ⟨hA, hc, ?_⟩
  rcases Bf.own with ⟨h1, h2⟩ | ⟨b, cc, f, h1, h2, h3, h4, h5⟩
  · exact .inl ⟨h1, h0 h1⟩
  · refine .inr ⟨b, cc, f, h1, h2, Nat.le_trans (Nat.mul_le_mul_right _ hcc) h3, h4, ?_⟩
    have := congrArg (List.take A.length) h5
    rw [List.take_take, List.take_left' rfl, List.length_append, Nat.min_eq_left (Nat.le_add_right _ _)] at this
    exact this
theorem add_zero_a (a : Option Addr) : a.map (·.add 0) = a := by
  cases a with
  | none => rfl
  | some a => simp [Addr.add]
theorem cut0 (s : Sl) (sz : Nat) (k c : Int) : Sl.cut s sz 0 k c = ⟨s.a, k.toNat, c.toNat⟩ := by
  unfold Sl.cut
  have h0 : (0 : Int).toNat * sz = 0 := by simp
  rw [h0, add_zero_a]
  simp
section
variable {g h h' : Hp} {vb : Nat} {ls l : Sl} {xs : List (Sl × List Tab)} {Q : Value → Hp → Prop} {n n1 n2 n3 n4 n5 n6 n7 n8 n9 n10 n11 n12 n13 n14 n15 n16 n17 n18 n19 n20 n21 n22 n23 n24 n25 n26 : Int}
theorem hull_s {ts : List Tab} (B : h.row l.a (l.n * 6) (tabV ts)) (hl : ts.length ≤ 60000) (hne : ts ≠ []) (hQ : Q (.tuple ⟨[.string (hullM ts).1, .string (hullM ts).2]⟩) h) : F61.T l h Q := by
  have hn : l.n = ts.length := by have := B.1; rw [tabV_len] at this; omega
  rcases ts with _ | ⟨t, ts⟩
  · exact absurd rfl hne
  have e0 : (0 : Int) = ((([] : List Tab).length : Nat) : Int) := rfl
  unfold F61.T
  obtain ⟨b, o, ha, hr, _, g0, _, g1, _, g2, _, g3, s4, g4, s5, g5, hk⟩ := tab_rd (P := []) (R := ts) (t := t) (l := l) (h := h) B (i := 0) rfl (K := fun b o a c d e s s1 => s = t.least ∧ s1 = t.greatest) (fun _ _ => ⟨rfl, rfl⟩)
  obtain ⟨rfl, rfl⟩ := hk
  refine ⟨b, o, ha, hr, _, g4, b, o, ha, hr, _, g5, g5, ?_⟩
  refine ⟨fun s2 s3 n h1 => h1 = h ∧ ∃ P R, t :: ts = P ++ R ∧ n = (P.length : Int) ∧ (s2, s3) = P.foldl (fun p u => (sMin p.1 u.least, sMax p.2 u.greatest)) (t.least, t.greatest), fun _ _ n _ => (t :: ts).length - n.toNat, ⟨rfl, [], _, rfl, rfl, rfl⟩, ?_⟩
  rintro s2 s3 n h1 ⟨rfl, P, R, e, rfl, es⟩
  have e2 := congrArg List.length e
  rw [List.length_append] at e2
  refine ⟨fun hlt => ?_, fun hge => ?_⟩
  · rcases R with _ | ⟨u, R⟩
    · exact absurd hlt (by simp at e2 hn; omega)
    rw [List.length_cons] at e2
    have B' := B
    rw [e] at B'
    refine tab_rd B' rfl fun b o => ?_
    simp only [List.length_cons] at hl e2
    rw [next_i (n := 70000) (by omega) (by omega)]
    refine ⟨⟨rfl, P ++ [u], R, by rw [e]; simp, by simp, ?_⟩, by dsimp only; simp only [List.length_cons]; omega⟩
    rw [List.foldl_append, ← es]; rfl
  · have hR : R = [] := List.eq_nil_of_length_eq_zero (by omega)
    subst hR
    rw [List.append_nil] at e
    have : hullM (t :: ts) = (s2, s3) := by rw [es, ← e]; rfl
    rw [this] at hQ
    exact hQ
theorem behind_s {ts : List Tab} {key : ByteArray} (B : h.row l.a (l.n * 6) (tabV ts)) (hl : ts.length ≤ 60000) (hne : ts ≠ []) (hQ : Q (.agg ⟨(behindM ts key).cells⟩) h) : F62.T l key h Q := by
  have hn : l.n = ts.length := by have := B.1; rw [tabV_len] at this; omega
  unfold F62.T
  refine ⟨fun n n1 n2 n3 n4 s1 s2 h1 => h1 = h ∧ ∃ P R, ts = P ++ R ∧ n = (P.length : Int) ∧ ([.int .u64 n1, .int .i64 n2, .int .i64 n3, .int .i64 n4, .string s1, .string s2] : List Value) = (match P.find? fun t => blB key t.least with | some t => t.cells | none => zT.cells), fun n _ _ _ _ _ _ _ => ts.length - n.toNat, ⟨rfl, [], _, rfl, rfl, rfl⟩, ?_⟩
  rintro n n1 n2 n3 n4 s1 s2 h1 ⟨rfl, P, R, e, rfl, es⟩
  have e2 := congrArg List.length e
  rw [List.length_append] at e2
  have nz : ∀ t : Tab, blB key t.least = true → t.cells ≠ zT.cells := fun t ht hc => by
    have : t.least = ⟨#[]⟩ := by simp [Tab.cells, zT] at hc; exact hc.2.2.2.2.1
    rw [this] at ht
    exact not_bl_nil _ (blB_t.1 ht)
  refine ⟨fun hlt => ?_, fun hge => ?_⟩
  · rcases R with _ | ⟨u, R⟩
    · exact absurd hlt (by simp at e2; omega)
    rw [List.length_cons] at e2
    have B' := B
    rw [e] at B'
    refine tab_rd B' rfl fun b o => ?_
    rw [next_i (n := 70000) (by omega) (by omega)]
    refine ⟨fun hle => ⟨⟨rfl, P ++ [u], R, by rw [e]; simp, by simp, ?_⟩, by dsimp only; omega⟩, fun hgt => ⟨fun hz => ⟨⟨rfl, P ++ [u], R, by rw [e]; simp, by simp, ?_⟩, by dsimp only; omega⟩, fun hz => ⟨⟨rfl, P ++ [u], R, by rw [e]; simp, by simp, ?_⟩, by dsimp only; omega⟩⟩⟩
    · rw [List.find?_append]
      have hb : blB key u.least = false := by
        cases hb : blB key u.least with
        | false => rfl
        | true => exact absurd (blB_t.1 hb) (sle.1 hle)
      rw [es]
      cases hf : P.find? fun t => blB key t.least with
      | some t => rfl
      | none => simp [hb]
    · rw [List.find?_append]
      have hb : blB key u.least = true := by
        cases hb : blB key u.least with
        | true => rfl
        | false => exact absurd (sle.2 fun hbl => by rw [blB_t.2 hbl] at hb; cases hb) hgt
      cases hf : P.find? fun t => blB key t.least with
      | some t =>
        rw [hf] at es
        have ht : blB key t.least = true := by have := List.find?_some hf; simpa using this
        exact absurd (es.symm.trans hz) (nz t ht)
      | none => simp [hb, Tab.cells]
    · rw [List.find?_append, es]
      cases hf : P.find? fun t => blB key t.least with
      | some t => rfl
      | none => rw [hf] at es; exact absurd es hz
  · have hR : R = [] := List.eq_nil_of_length_eq_zero (by omega)
    subst hR
    rw [List.append_nil] at e
    subst e
    refine ⟨fun hz => ?_, fun hz => ?_⟩
    · rcases ts with _ | ⟨t, ts⟩
      · exact absurd rfl hne
      refine tab_rd (P := []) (R := ts) (t := t) B (i := 0) rfl fun b o => ?_
      have : behindM (t :: ts) key = t := by
        unfold behindM
        cases hf : (t :: ts).find? fun t => blB key t.least with
        | some u =>
          rw [hf] at es
          have hu : blB key u.least = true := by have := List.find?_some hf; simpa using this
          exact absurd (es.symm.trans hz) (nz u hu)
        | none => rfl
      rw [this] at hQ
      exact hQ
    · cases hf : ts.find? fun t => blB key t.least with
      | some u =>
        have : behindM ts key = u := by unfold behindM; rw [hf]
        rw [this] at hQ
        rw [hf] at es
        rw [es]; exact hQ
      | none => rw [hf] at es; exact absurd es hz
theorem pointer_s {ptrs : List ByteArray} {i : Nat} (B : h.row l.a l.n (ptrV ptrs)) (hQ : Q (.string (ptrs[i]?.getD ⟨#[]⟩)) h) : F63.T l (i : Int) h Q := by
  have hn : l.n = ptrs.length := by have := B.1; rw [ptrV_length] at this; omega
  refine ⟨fun hlt => ?_, fun hge => ?_⟩
  · obtain ⟨b, o, ha, hat⟩ := row_get B (i := i) (by omega)
    have hi : i < ptrs.length := by omega
    refine ⟨b, o, ha, ⟨by omega, hlt⟩, ptrs[i], ?_, ?_⟩
    · rw [Int.toNat_natCast, hat i (by omega)]
      unfold ptrV
      rw [List.getElem?_map, List.getElem?_eq_getElem hi]; rfl
    · rw [List.getElem?_eq_getElem hi] at hQ; exact hQ
  · rw [List.getElem?_eq_none (by omega)] at hQ; exact hQ
theorem tb_at {ts : List Tab} {k : Nat} {t : Tab} (B : TB h l ts) (hk : ts[k]? = some t) : ∃ b o, (l.a : Option Addr) = some ⟨b, o, none⟩ ∧ ((0 : Int) ≤ (k : Int) ∧ (k : Int) < (l.n : Int)) ∧ h.at b ((o + ((k : Int)).toNat * 6) + 4) = some (.string t.least) := by
  obtain ⟨P, R, rfl, rfl⟩ : ∃ P R, ts = P ++ t :: R ∧ P.length = k := by
    have hkl := (List.getElem?_eq_some_iff.1 hk)
    refine ⟨ts.take k, ts.drop (k + 1), ?_, by rw [List.length_take]; have := hkl.1; omega⟩
    have e := List.take_append_drop k ts
    rw [List.drop_eq_getElem_cons hkl.1, hkl.2] at e
    exact e.symm
  obtain ⟨b, o, h1, h2, _, _, _, _, _, _, _, _, s, h3, _, _, rfl⟩ := tab_rd B.row (i := (P.length : Int)) rfl (K := fun b o a c d e s s1 => s = t.least) (fun _ _ => rfl)
  exact ⟨b, o, h1, h2, h3⟩
theorem inputs_s {ptrs : List ByteArray} {level : Int} (V : Ver g h vb ls xs) (P : PkOk xs) (O : CfOk n5 n7 n8 n9 n10 n12) (h8 : n8 = (xs.length : Int)) (B : h.row l.a l.n (ptrV ptrs)) (hlv : level < 9223372036854775807)
    (hN : inputsM n12 xs ptrs level = none → ∀ h', Keep h h' → Q (.tuple ⟨[.agg ⟨[.int .i64 0, .slice none 0 0, .slice none 0 0, .string (ByteArray.mk #[]), .bool false]⟩, .bool false]⟩) h')
    (hS : ∀ j, inputsM n12 xs ptrs level = some j → ∀ h' l1 l2, Keep h h' → TB h' l1 j.up → NewN h l1 → TB h' l2 j.lo → NewN h l2 → Off l1 l2 → Off l2 l1 → Q (.tuple ⟨[.agg ⟨[.int .i64 j.lv, .slice l1.a l1.n l1.c, .slice l2.a l2.n l2.c, .string j.cut, .bool j.mv]⟩, .bool true]⟩) h') : F29.T n n1 n2 n3 n4 n5 n6 n7 n8 n9 n10 n11 n12 n13 n14 n15 n16 n17 n18 n19 n20 n21 n22 n23 n24 n25 n26 (some ⟨vb, 0, none⟩) l level h Q := by
  have hx := P.len
  have hmx : iMax n12 0 = n12 := by unfold iMax; rw [if_neg (by have := O.fan; omega)]
  obtain ⟨fan, rfl⟩ := Int.eq_ofNat_of_zero_le (show 0 ≤ n12 by have := O.fan; omega)
  have hf1 : 1 ≤ fan := by have := O.fan; omega
  unfold F29.T F29.G
  rw [hmx]
  refine ⟨fun hneg => hN (by unfold inputsM; rw [if_pos (.inl hneg)]) h (Keep.refl _), fun hpos => ?_⟩
  refine last_s V (by omega) (by omega) h8 ⟨_, rfl, fun hle => hN (by unfold inputsM; rw [if_pos (.inr hle)]) h (Keep.refl _), fun hlt => ?_⟩
  have c1 : ¬ (level < 0 ∨ (xs.length : Int) - 1 ≤ level) := fun h => h.elim hpos hlt
  refine tables_s V P.sz fun h2 l1 K2 B2 N2 => ⟨l1, rfl, ?_⟩
  have hl1 := tb_new B2
  have htl := P.tl level
  refine ⟨fun h0 => hN (by unfold inputsM; rw [if_neg c1, if_pos (List.eq_nil_of_length_eq_zero (by omega))]) h2 K2, fun h0 => ?_⟩
  have c2 : tabsI xs level ≠ [] := fun e => h0 (by rw [hl1, e]; rfl)
  refine ⟨fun hl0 => ?_, fun hl0 => ?_⟩
  · subst hl0
    refine hull_s B2.row htl c2 ⟨_, _, rfl, ?_⟩
    refine over_s (V.keep K2) P.sz (P.tl 1) fun h4 l2 K4 B4 N4 => ⟨l2, rfl, ?_⟩
    have hj : inputsM (fan : Int) xs ptrs 0 = some ⟨0, tabsI xs 0, overM (hullM (tabsI xs 0)).1 (hullM (tabsI xs 0)).2 (tabsI xs 1), ⟨#[]⟩, false⟩ := by
      unfold inputsM; rw [if_neg c1, if_neg c2, if_pos rfl]
    exact hS _ hj h4 l1 l2 (K2.trans K4) (Buf.keep K4 B2) N2 B4 (N4.mono K2.dom) (N4.off B2).1 (N4.off B2).2
  · obtain ⟨i, rfl⟩ := Int.eq_ofNat_of_zero_le (show 0 ≤ level by omega)
    refine pointer_s (K2.row B) ⟨_, rfl, ?_⟩
    refine behind_s B2.row htl c2 ⟨_, _, _, _, _, _, rfl, fun b hb => ?_⟩
    generalize ht : behindM (tabsI xs (i : Int)) (ptrs[i]?.getD ⟨#[]⟩) = t
    have K3 := Keep.new hb (.cells ⟨t.cells⟩ 47 (0, 0))
    have x3 := new_at h2 b (.cells ⟨t.cells⟩ 47 (0, 0))
    have B3 : TB (h2.new b (.cells ⟨t.cells⟩ 47 (0, 0))) ⟨some ⟨b, 0, none⟩, 1, 1⟩ [t] := by
      unfold TB
      have e : tabV [t] = t.cells := by unfold tabV; simp
      rw [e]
      refine ⟨rfl, Nat.le_refl _, .inr ⟨b, _, _, rfl, x3, Nat.le_refl 6, fun j hj => by omega, ?_⟩⟩
      exact List.take_length
    have N3 : NewN h2 ⟨some ⟨b, 0, none⟩, 1, 1⟩ := .inr ⟨b, rfl, hb⟩
    have hw1 : IntKind.wrap .i64 ((i : Int) + 1) = (i : Int) + 1 := wrap_i64 (by omega) (by omega)
    show F47.T (some ⟨vb, 0, none⟩) (IntKind.wrap .i64 ((i : Int) + 1)) t.least t.greatest (h2.new b (.cells ⟨t.cells⟩ 47 (0, 0))) _
    rw [hw1]
    generalize h2.new b (.cells ⟨t.cells⟩ 47 (0, 0)) = h3 at K3 B3 ⊢
    have K23 := K2.trans K3
    refine over_s (V.keep K23) P.sz (P.tl _) fun h7 l3 K7 B7 N7 => ⟨l3, rfl, ?_⟩
    have hl3 := tb_new B7
    generalize hlo : overM t.least t.greatest (tabsI xs ((i : Int) + 1)) = lo at B7 hl3
    have hcap := B7.cap
    have N7' : NewN h l3 := N7.mono K23.dom
    have B37 : TB h7 ⟨some ⟨b, 0, none⟩, 1, 1⟩ [t] := Buf.keep K7 B3
    have N3' : NewN h ⟨some ⟨b, 0, none⟩, 1, 1⟩ := N3.mono K2.dom
    have K27 := K23.trans K7
    have hLB : lo.length ≤ 60000 := by rw [← hlo]; exact Nat.le_trans (List.length_filter_le _ _) (P.tl _)
    have off3 := N7.off B3
    have hj : inputsM (fan : Int) xs ptrs (i : Int) = match lo[fan]? with
        | some c => some ⟨(i : Int), [t], lo.take fan, c.least, decide (lo = [] ∧ (i : Int) + 1 ≠ (xs.length : Int) - 1)⟩
        | none => some ⟨(i : Int), [t], lo, ⟨#[]⟩, decide (lo = [] ∧ (i : Int) + 1 ≠ (xs.length : Int) - 1)⟩ := by
      subst hlo; subst ht
      unfold inputsM
      rw [if_neg c1, if_neg c2, if_neg hl0]
      rfl
    have fin : ∀ mvb : Bool, decide (lo = [] ∧ (i : Int) + 1 ≠ (xs.length : Int) - 1) = mvb → par ((fan : Int) < (l3.n : Int)) (∃ b1 o, (l3.a : Option Addr) = some ⟨b1, o, none⟩ ∧ ((0 : Int) ≤ (fan : Int) ∧ (fan : Int) < (l3.n : Int)) ∧ ∃ s5 : ByteArray, h7.at b1 ((o + (fan : Int).toNat * 6) + 4) = some (.string s5) ∧ Sl.okCut l3 0 (fan : Int) (fan : Int) ∧ Q (.tuple ⟨[.agg ⟨[.int .i64 (i : Int), .slice (some ⟨b, 0, none⟩) 1 1, .slice (Sl.cut l3 6 0 (fan : Int) (fan : Int)).a (Sl.cut l3 6 0 (fan : Int) (fan : Int)).n (Sl.cut l3 6 0 (fan : Int) (fan : Int)).c, .string s5, .bool mvb]⟩, .bool true]⟩) h7) (Q (.tuple ⟨[.agg ⟨[.int .i64 (i : Int), .slice (some ⟨b, 0, none⟩) 1 1, .slice l3.a l3.n l3.c, .string (ByteArray.mk #[]), .bool mvb]⟩, .bool true]⟩) h7) := by
      intro mvb hmv
      rw [hmv] at hj
      refine ⟨fun hlt => ?_, fun hge => ?_⟩
      · have hk : fan < lo.length := by omega
        have hc : lo[fan]? = some lo[fan] := List.getElem?_eq_getElem hk
        rw [hc] at hj
        obtain ⟨b1, o, g1, g2, g3⟩ := tb_at B7 hc
        have hcap := B7.cap
        refine ⟨b1, o, g1, g2, _, g3, ⟨by omega, by omega, by omega⟩, ?_⟩
        rw [cut0]
        refine hS _ hj h7 ⟨some ⟨b, 0, none⟩, 1, 1⟩ ⟨l3.a, fan, fan⟩ K27 B37 N3' ?_ N7' off3.1 off3.2
        have e : tabV lo = tabV (lo.take fan) ++ tabV (lo.drop fan) := by rw [← tabV_app, List.take_append_drop]
        unfold TB at B7
        rw [e] at B7
        exact buf_cap B7 (by rw [tabV_len, List.length_take, Nat.min_eq_left (Nat.le_of_lt hk)]) (by omega) (Nat.le_refl _) (by omega) (fun h0 => by rw [h0] at g1; cases g1)
      · have hc : lo[fan]? = none := List.getElem?_eq_none (by omega)
        rw [hc] at hj
        exact hS _ hj h7 ⟨some ⟨b, 0, none⟩, 1, 1⟩ l3 K27 B37 N3' B7 N7' off3.1 off3.2
    refine ⟨fun h0 => ?_, fun h0 => fin false ?_⟩
    · have hlo0 : lo = [] := List.eq_nil_of_length_eq_zero (by omega)
      refine last_s (V.keep K27) (by omega) (by omega) h8 ⟨_, rfl, fun he => fin false ?_, fun he => fin true ?_⟩
      · exact decide_eq_false fun hc => hc.2 he
      · exact decide_eq_true ⟨hlo0, he⟩
    · exact decide_eq_false fun hc => h0 (by rw [hl3, hc.1]; rfl)
end
end Go.Eng.Ytbjnlacacapjiaa
end
section
set_option maxRecDepth 100000
set_option maxHeartbeats 1000000
namespace Go.Eng.Ytbjnlacacapjiaa
def hit (lk : List Int) (j : Jb) : Bool := (j.up ++ j.lo).any fun t => lk.contains t.num
def setR (R : Nat → Bool) (i : Nat) : Nat → Bool := fun k => if k = i ∨ k = i + 1 then true else R k
def nextL (fan : Int) (xs : List (Sl × List Tab)) (ptrs : List ByteArray) (lk : List Int) : (Nat → Bool) → List Nat → Option Jb
  | _, [] => none
  | R, i :: w => match inputsM fan xs ptrs (i : Int) with
    | none => nextL fan xs ptrs lk R w
    | some j => if R i = false ∧ R (i + 1) = false ∧ hit lk j = false then some j else nextL fan xs ptrs lk (setR R i) w
def bV (R : Nat → Bool) : List Value := [.bool (R 0), .bool (R 1), .bool (R 2), .bool (R 3), .bool (R 4), .bool (R 5)]
def isF (b : Bool) : Prop := b = false
theorem bV_get (R : Nat → Bool) {i : Nat} (hi : i < 6) : (⟨bV R⟩ : Array Value)[i]? = some (.bool (R i)) := by
  have : i = 0 ∨ i = 1 ∨ i = 2 ∨ i = 3 ∨ i = 4 ∨ i = 5 := by omega
  rcases this with rfl | rfl | rfl | rfl | rfl | rfl <;> rfl
theorem bV_set (R : Nat → Bool) {i : Nat} (hi : i < 5) : (bV R).set i (.bool true) = bV (fun k => if k = i then true else R k) ∧ ((bV R).set i (.bool true)).set (i + 1) (.bool true) = bV (setR R i) := by
  have : i = 0 ∨ i = 1 ∨ i = 2 ∨ i = 3 ∨ i = 4 := by omega
  rcases this with rfl | rfl | rfl | rfl | rfl <;> exact ⟨rfl, rfl⟩
theorem mark_l {h3 : Hp} {b i : Nat} {R : Nat → Bool} (hb : h3 b = some (.cells ⟨bV R⟩ 127 (0, 0))) (hi : i < 5) :
    h3.canW b (0 + ((i : Nat) : Int).toNat) 1 ∧ (h3.wr b (0 + ((i : Nat) : Int).toNat) [.bool true]).canW b (0 + ((i + 1 : Nat) : Int).toNat) 1 ∧ ((h3.wr b (0 + ((i : Nat) : Int).toNat) [.bool true]).wr b (0 + ((i + 1 : Nat) : Int).toNat) [.bool true]) b = some (.cells ⟨bV (setR R i)⟩ 127 (0, 0)) := by
  rw [Int.toNat_natCast, Int.toNat_natCast, Nat.zero_add, Nat.zero_add]
  obtain ⟨s1, s2⟩ := bV_set R hi
  have e1 : (h3.wr b i [.bool true]) b = some (.cells ⟨bV (fun k => if k = i then true else R k)⟩ 127 (0, 0)) := by
    unfold Hp.wr
    rw [if_pos rfl, hb]
    show some (Obj.cells ((bV R).set i (.bool true)).toArray 127 (0, 0)) = _
    rw [s1]
  refine ⟨canW_new hb (by show i + 1 ≤ 6; omega), canW_new e1 (by show i + 1 + 1 ≤ 6; omega), ?_⟩
  unfold Hp.wr at e1 ⊢
  rw [if_pos rfl, if_pos rfl, hb]
  show some (Obj.cells (((bV R).set i (.bool true)).set (i + 1) (.bool true)).toArray 127 (0, 0)) = _
  rw [s2]
section
variable {g h h' : Hp} {vb b : Nat} {ls l l1 l2 : Sl} {xs : List (Sl × List Tab)} {Q : Value → Hp → Prop} {n n1 n2 n3 n4 n5 n6 n7 n8 n9 n10 n11 n12 n13 n14 n15 n16 n17 n18 n19 n20 n21 n22 n23 n24 n25 n26 : Int}
theorem index_s {lk : List Int} {n : Int} (B : h.row l.a l.n (uvs lk)) (hl : l.n < 9223372036854775807) (hQ : Q (.bool (lk.contains n)) h) : F76.T l n h Q := by
  have hn : l.n = lk.length := by have := B.1; unfold uvs at this; rw [List.length_map] at this; omega
  unfold F76.T F85.T F76.G
  refine ⟨fun k h1 => h1 = h ∧ ∃ P R, lk = P ++ R ∧ k = (P.length : Int) ∧ n ∉ P, fun k _ => lk.length - k.toNat, ⟨rfl, [], _, rfl, rfl, by simp⟩, ?_⟩
  rintro k h1 ⟨rfl, P, R, e, rfl, hP⟩
  have e2 := congrArg List.length e
  rw [List.length_append] at e2
  refine ⟨fun hlt => ?_, fun hge => ?_⟩
  · rcases R with _ | ⟨u, R⟩
    · exact absurd hlt (by simp at e2; omega)
    rw [List.length_cons] at e2
    obtain ⟨b, o, ha, hat⟩ := row_get B (i := P.length) (by omega)
    refine ⟨b, o, ha, ⟨by omega, hlt⟩, u, ?_, fun hu => ?_, fun hu => ?_⟩
    · rw [Int.toNat_natCast, hat P.length (by omega), e]
      unfold uvs
      simp
    · refine ⟨_, rfl, fun _ => ?_, fun hh => absurd (by omega) hh⟩
      have : lk.contains n = true := by rw [e, hu]; simp
      rw [this] at hQ; exact hQ
    · rw [next_i (n := lk.length) (by omega) (by omega)]
      refine ⟨⟨rfl, P ++ [u], R, by rw [e]; simp, by simp, ?_⟩, by dsimp only; omega⟩
      rw [List.mem_append, List.mem_singleton]
      exact fun hh => hh.elim hP hu
  · have hR : R = [] := List.eq_nil_of_length_eq_zero (by omega)
    subst hR
    rw [List.append_nil] at e
    subst e
    refine ⟨_, rfl, fun hh => absurd hh (by decide), fun _ => ?_⟩
    have : lk.contains n = false := by simpa using hP
    rw [this] at hQ; exact hQ
theorem grow_s {n : Nat} (hn : n ≤ 120000) (hQ : ∀ h' r, Keep h h' → TB h' r [] → NewN h r → Q (.slice r.a r.n r.c) h') : F84.T ⟨none, 0, 0⟩ (n : Int) h Q := by
  have e0 : IntKind.wrap .i64 ((((⟨none, 0, 0⟩ : Sl).c : Int)) - ((⟨none, 0, 0⟩ : Sl).n : Int)) = 0 := rfl
  unfold F84.T
  rw [e0, Int.sub_zero, wrap_i64 (by omega) (by omega), Int.toNat_natCast]
  refine ⟨fun hh => absurd hh (by omega), fun _ => ⟨fun hpos => ⟨⟨Int.le_refl _, Int.le_refl _, Int.le_refl _, Int.le_refl _⟩, by omega, ?_⟩, fun h0 => hQ h ⟨none, 0, 0⟩ (Keep.refl h) (Buf.nil _ _ _) (NewN.nil _)⟩⟩
  have ec : Sl.cut ⟨none, 0, 0⟩ 6 0 (((⟨none, 0, 0⟩ : Sl).c : Int)) (((⟨none, 0, 0⟩ : Sl).c : Int)) = ⟨none, 0, 0⟩ := rfl
  rw [ec]
  refine append_buf (Buf.nil h 6 47) rfl (by rw [zerosV_length]; rfl) (by show (0 + n) * 64 ≤ _; omega) fun r h1 B1 hrn U1 => ?_
  obtain ⟨K1, N1⟩ := NewN.upd (Keep.refl h) (NewN.nil h) U1
  refine ⟨⟨Int.le_refl _, by show (0 : Int) ≤ ((0 : Nat) : Int); omega, by show ((0 : Nat) : Int) ≤ _; omega, Int.le_refl _⟩, ?_⟩
  rw [cut0]
  refine hQ h1 ⟨r.a, 0, r.c⟩ K1 ?_ N1
  have B2 : Buf h1 r 6 47 ([] ++ zerosV [.int .u64 0, .int .i64 0, .int .i64 0, .int .i64 0, .string (ByteArray.mk #[]), .string (ByteArray.mk #[])] n) := B1
  unfold TB
  refine buf_cap B2 rfl (Nat.zero_le _) (Nat.zero_le _) (Nat.le_refl _) (fun h0 => ?_)
  rcases B2.own with ⟨_, hc⟩ | ⟨b, c, f, hb, _⟩
  · exact hc
  · rw [h0] at hb; cases hb
theorem concat_s {A B : List Tab} (x : h b = some (.cells ⟨[.slice l1.a l1.n l1.c, .slice l2.a l2.n l2.c]⟩ 66 (0, 0))) (B1 : TB h l1 A) (B2 : TB h l2 B) (hA : A.length ≤ 60000) (hB : B.length ≤ 60000) (hQ : ∀ h' r, Keep h h' → TB h' r (A ++ B) → NewN h r → Q (.slice r.a r.n r.c) h') : F75.T ⟨some ⟨b, 0, none⟩, 2, 2⟩ h Q := by
  have n1 := tb_new B1
  have n2 := tb_new B2
  have tA := tabV_len A
  have tB := tabV_len B
  unfold F75.T F75.G
  refine ⟨fun n k h1 => h1 = h ∧ ((k = 0 ∧ n = 0) ∨ (k = 1 ∧ n = (A.length : Int)) ∨ (k = 2 ∧ n = ((A.length + B.length : Nat) : Int))), fun _ k _ => 2 - k.toNat, ⟨rfl, .inl ⟨rfl, rfl⟩⟩, ?_⟩
  rintro n k h1 ⟨rfl, hk⟩
  refine ⟨fun hlt => ?_, fun hge => ?_⟩
  · have hlt' : k < 2 := hlt
    rcases hk with ⟨rfl, rfl⟩ | ⟨rfl, rfl⟩ | ⟨rfl, rfl⟩
    · refine ⟨b, 0, rfl, ⟨by decide, hlt⟩, l1, at_of x 0, ?_⟩
      rw [Int.zero_add, wrap_i64 (by omega) (by omega)]
      refine ⟨fun hh => absurd hh (by omega), fun _ => ⟨⟨rfl, .inr (.inl ⟨rfl, by rw [n1]⟩)⟩, by show 2 - 1 < 2 - 0; decide⟩⟩
    · refine ⟨b, 0, rfl, ⟨by decide, hlt⟩, l2, at_of x 1, ?_⟩
      rw [wrap_i64 (by omega) (by omega)]
      refine ⟨fun hh => absurd hh (by omega), fun _ => ⟨⟨rfl, .inr (.inr ⟨rfl, by rw [n2]; omega⟩)⟩, by show 2 - 2 < 2 - 1; decide⟩⟩
    · exact absurd hlt' (by decide)
  · have hge' : ¬ k < 2 := hge
    rcases hk with ⟨rfl, rfl⟩ | ⟨rfl, rfl⟩ | ⟨rfl, rfl⟩
    · exact absurd (by decide) hge'
    · exact absurd (by decide) hge'
    refine grow_s (by omega) fun h2 r K2 B0 N0 => ⟨r, rfl, ?_⟩
    refine ⟨fun l3 k h3 => Keep h1 h3 ∧ NewN h1 l3 ∧ ((k = 0 ∧ TB h3 l3 []) ∨ (k = 1 ∧ TB h3 l3 A) ∨ (k = 2 ∧ TB h3 l3 (A ++ B))), fun _ k _ => 2 - k.toNat, ⟨K2, N0, .inl ⟨rfl, B0⟩⟩, ?_⟩
    rintro l3 k h3 ⟨K3, N3, hk⟩
    refine ⟨fun hlt => ?_, fun hge => ?_⟩
    · have hlt' : k < 2 := hlt
      rcases hk with ⟨rfl, B3⟩ | ⟨rfl, B3⟩ | ⟨rfl, B3⟩
      · refine ⟨b, 0, rfl, ⟨by decide, hlt⟩, l1, at_of (K3 _ _ x) 0, tabV A, Buf.row (Buf.keep K3 B1), tab_one _, ?_⟩
        have n3 := tb_new B3
        refine append_buf B3 rfl (by rw [tA, n1]) (by rw [n3]; show (0 + l1.n) * 64 ≤ _; omega) fun l5 h4 B4 _ U4 => ?_
        obtain ⟨K4, N4⟩ := NewN.upd K3 N3 U4
        exact ⟨⟨K4, N4, .inr (.inl ⟨rfl, B4⟩)⟩, by show 2 - 1 < 2 - 0; decide⟩
      · refine ⟨b, 0, rfl, ⟨by decide, hlt⟩, l2, at_of (K3 _ _ x) 1, tabV B, Buf.row (Buf.keep K3 B2), tab_one _, ?_⟩
        have n3 := tb_new B3
        refine append_buf B3 rfl (by rw [tB, n2]) (by omega) fun l5 h4 B4 _ U4 => ?_
        obtain ⟨K4, N4⟩ := NewN.upd K3 N3 U4
        refine ⟨⟨K4, N4, .inr (.inr ⟨rfl, ?_⟩)⟩, by show 2 - 2 < 2 - 1; decide⟩
        unfold TB
        rw [tabV_app]
        exact B4
      · exact absurd hlt' (by decide)
    · have hge' : ¬ k < 2 := hge
      rcases hk with ⟨rfl, B3⟩ | ⟨rfl, B3⟩ | ⟨rfl, B3⟩
      · exact absurd (by decide) hge'
      · exact absurd (by decide) hge'
      · exact hQ h3 l3 K3 B3 N3
theorem inputs_sz {fan level : Int} {ptrs : List ByteArray} {j : Jb} (P : PkOk xs) (e : inputsM fan xs ptrs level = some j) : j.up.length ≤ 60000 ∧ j.lo.length ≤ 60000 := by
  have ov : ∀ a c n, (overM a c (tabsI xs n)).length ≤ 60000 := fun a c n => Nat.le_trans (List.length_filter_le _ _) (P.tl n)
  unfold inputsM at e
  split at e
  · cases e
  split at e
  · cases e
  split at e
  · cases e; exact ⟨P.tl 0, ov _ _ _⟩
  dsimp only at e
  split at e
  · cases e
    exact ⟨by simp, by dsimp only; rw [List.length_take]; exact Nat.le_trans (Nat.min_le_right _ _) (ov _ _ _)⟩
  · cases e; exact ⟨by simp, ov _ _ _⟩
theorem next_s {ptrs : List ByteArray} {lk : List Int} (V : Ver g h vb ls xs) (P : PkOk xs) (O : CfOk n5 n7 n8 n9 n10 n12) (h8 : n8 = (xs.length : Int)) (B : h.row l.a l.n (ptrV ptrs)) (BL : h.row l1.a l1.n (uvs lk)) (hlk : l1.n < 9223372036854775807)
    (hN : ∀ o, IsOrder (xs.length - 1) (decide (n7 ≤ ((tabsI xs 0).length : Int))) (scoreM n5 n9 n10 xs) o → nextL n12 xs ptrs lk (fun _ => false) o = none → ∀ h', Keep h h' → Q (.tuple ⟨[.agg ⟨[.int .i64 0, .slice none 0 0, .slice none 0 0, .string (ByteArray.mk #[]), .bool false]⟩, .int .i64 (if o = [] then 0 else 1)]⟩) h')
    (hS : ∀ o j, IsOrder (xs.length - 1) (decide (n7 ≤ ((tabsI xs 0).length : Int))) (scoreM n5 n9 n10 xs) o → nextL n12 xs ptrs lk (fun _ => false) o = some j → ∀ h' u1 u2, Keep h h' → TB h' u1 j.up → NewN h u1 → TB h' u2 j.lo → NewN h u2 → Off u1 u2 → Off u2 u1 → Q (.tuple ⟨[.agg ⟨[.int .i64 j.lv, .slice u1.a u1.n u1.c, .slice u2.a u2.n u2.c, .string j.cut, .bool j.mv]⟩, .int .i64 2]⟩) h') : F50.T n n1 n2 n3 n4 n5 n6 n7 n8 n9 n10 n11 n12 n13 n14 n15 n16 n17 n18 n19 n20 n21 n22 n23 n24 n25 n26 (some ⟨vb, 0, none⟩) l l1 h Q := by
  have hx := P.len
  unfold F50.T F50.G
  refine order_s V P O h8 fun h1 r o K1 B1 N1 hO => ⟨r, rfl, fun b hb => ?_⟩
  have hol : ∀ i ∈ o, i < xs.length - 1 := fun i hi => ((hO.mem i).1 hi).1
  have hon : r.n = o.length := by have := B1.len; rw [iV_len] at this; omega
  have holn : o.length ≤ 4 := by
    have h2 := List.Nodup.length_le_of_subset hO.nd (l₂ := List.range (xs.length - 1)) (fun i hi => List.mem_range.2 (hol i hi))
    rw [List.length_range] at h2; omega
  have hN := hN o hO
  have hS := fun j => hS o j hO
  generalize hT : nextL n12 xs ptrs lk (fun _ => false) o = T at hN hS
  refine ⟨fun n _ _ _ _ f h2 => isF f ∧ ∃ A w R, o = A ++ w ∧ n = (A.length : Int) ∧ Keep h1 h2 ∧ h2 b = some (.cells ⟨bV R⟩ 127 (0, 0)) ∧ nextL n12 xs ptrs lk R w = T, fun n _ _ _ _ _ _ => o.length - n.toNat, ⟨rfl, [], o, fun _ => false, rfl, rfl, Keep.new hb _, new_at _ _ _, hT⟩, ?_⟩
  intro n28 n29 l3 l4 s
  refine ⟨fun h2 hh => (Bool.noConfusion (show true = false from hh.1)), ?_⟩
  rintro h2 ⟨-, A, w, R, e, rfl, K2, x2, hw⟩
  have e2 := congrArg List.length e
  rw [List.length_append] at e2
  refine ⟨fun hlt => ?_, fun hge => ?_⟩
  · rcases w with _ | ⟨i, w⟩
    · exact absurd hlt (by simp at e2; omega)
    rw [List.length_cons] at e2
    have hi : i < 4 := by
      have := hol i (by rw [e]; simp)
      omega
    obtain ⟨b2, ha, hat, _⟩ := buf_set (B1.keep K2) (k := A.length) (by rw [iV_len]; omega)
    have hat' : h2.at b2 (0 + ((A.length : Int)).toNat) = some (.int .i64 (i : Int)) := by
      rw [Int.toNat_natCast, Nat.zero_add, hat, e]
      unfold iV
      simp
    refine ⟨b2, 0, ha, ⟨by omega, hlt⟩, (i : Int), hat', ?_⟩
    have w1 : IntKind.wrap .i64 ((i : Int) + 1) = ((i + 1 : Nat) : Int) := next_i (n := 10) (by omega) (by omega)
    have w2 : IntKind.wrap .i64 ((A.length : Int) + 1) = ((A.length + 1 : Nat) : Int) := next_i (n := 10) (by omega) (by omega)
    have K12 := K1.trans K2
    have hb2 : h1 b = none := hb
    -- a level that is marked
    have mk : ∀ h3, Keep h2 h3 → nextL n12 xs ptrs lk (setR R i) w = T →
        h3.canW b (0 + ((i : Nat) : Int).toNat) 1 ∧ ((0 : Int) ≤ ((i + 1 : Nat) : Int) ∧ ((i + 1 : Nat) : Int) < ((6 : Nat) : Int)) ∧ (h3.wr b (0 + ((i : Nat) : Int).toNat) [.bool true]).canW b (0 + ((i + 1 : Nat) : Int).toNat) 1 ∧ (isF false ∧ ∃ A' w R, o = A' ++ w ∧ ((A.length + 1 : Nat) : Int) = (A'.length : Int) ∧ Keep h1 ((h3.wr b (0 + ((i : Nat) : Int).toNat) [.bool true]).wr b (0 + ((i + 1 : Nat) : Int).toNat) [.bool true]) ∧ ((h3.wr b (0 + ((i : Nat) : Int).toNat) [.bool true]).wr b (0 + ((i + 1 : Nat) : Int).toNat) [.bool true]) b = some (.cells ⟨bV R⟩ 127 (0, 0)) ∧ nextL n12 xs ptrs lk R w = T) ∧ o.length - ((A.length + 1 : Nat) : Int).toNat < o.length - ((A.length : Nat) : Int).toNat := fun h3 K3 ht => by
      obtain ⟨c1, c2, c3⟩ := mark_l (K3 _ _ x2) (i := i) (by omega)
      exact ⟨c1, ⟨by omega, by omega⟩, c2, ⟨rfl, A ++ [i], w, _, by rw [e]; simp, by simp, ((K2.trans K3).wr hb2 _ _).wr hb2 _ _, c3, ht⟩, by omega⟩
    unfold nextL at hw
    refine inputs_s (V.keep K12) P O h8 (K12.row B) (by omega) (fun hin h3 K3 => ?_) (fun j hin h3 u1 u2 K3 T1 N1' T2 N2' o1 o2 => ?_)
    · rw [hin] at hw
      refine ⟨0, ⟨none, 0, 0⟩, ⟨none, 0, 0⟩, _, false, fun hh => (Bool.noConfusion hh), fun _ => ⟨false, fun hh => (Bool.noConfusion hh), fun _ => ⟨rfl, ?_⟩⟩⟩
      rw [w2]
      exact ⟨⟨rfl, A ++ [i], w, R, by rw [e]; simp, by simp, K2.trans K3, K3 _ _ x2, hw⟩, by dsimp only; omega⟩
    · rw [hin] at hw
      dsimp only at hw
      obtain ⟨zu, zl⟩ := inputs_sz P hin
      have rd : ∀ k, k < 6 → h3.at b (0 + ((k : Nat) : Int).toNat) = some (.bool (R k)) := fun k hk => by
        rw [Int.toNat_natCast, Nat.zero_add, at_of (K3 _ _ x2) k, bV_get R hk]
      have K13 := K12.trans K3
      have fnd := hS j
      rw [w1, w2]
      refine ⟨j.lv, u1, u2, j.cut, j.mv, ?_⟩
      obtain ⟨lv, up, lo, cut, mv⟩ := j
      dsimp only at zu zl T1 T2 fnd hw ⊢
      cases mv
      all_goals
        first
          | refine ⟨fun hh => (Bool.noConfusion hh), fun _ => ⟨true, fun _ => ?_, fun hh => (Bool.noConfusion hh)⟩⟩
          | refine ⟨fun _ => ⟨true, fun _ => ?_, fun hh => (Bool.noConfusion hh)⟩, fun hh => (Bool.noConfusion hh)⟩
        refine ⟨rfl, ⟨by omega, by omega⟩, R i, rd i (by omega), fun hr => ?_, fun hr => ⟨⟨by omega, by omega⟩, R (i + 1), rd (i + 1) (by omega), fun hr1 => ?_, fun hr1 b7 hb7 => ?_⟩⟩
        · rw [if_neg (fun c => by rw [c.1] at hr; cases hr)] at hw
          exact ⟨⟨by omega, by omega⟩, mk h3 K3 hw⟩
        · rw [if_neg (fun c => by rw [c.2.1] at hr1; cases hr1)] at hw
          exact ⟨⟨by omega, by omega⟩, mk h3 K3 hw⟩
        · have K4 := Keep.new hb7 (.cells ⟨[.slice u1.a u1.n u1.c, .slice u2.a u2.n u2.c]⟩ 66 (0, 0))
          have x4 := new_at h3 b7 (.cells ⟨[.slice u1.a u1.n u1.c, .slice u2.a u2.n u2.c]⟩ 66 (0, 0))
          generalize h3.new b7 (.cells ⟨[.slice u1.a u1.n u1.c, .slice u2.a u2.n u2.c]⟩ 66 (0, 0)) = h4 at K4 x4 ⊢
          refine concat_s x4 (Buf.keep K4 T1) (Buf.keep K4 T2) zu zl fun h5 l7 K5 B7 _ => ⟨l7, rfl, ?_⟩
          have n7' := tb_new B7
          have K35 := K3.trans (K4.trans K5)
          have hll : (up ++ lo).length ≤ 120000 := by rw [List.length_append]; omega
          refine ⟨fun n h6 => h6 = h5 ∧ ∃ C D, up ++ lo = C ++ D ∧ n = (C.length : Int) ∧ ∀ t ∈ C, lk.contains t.num = false, fun n _ => (up ++ lo).length - n.toNat, ⟨rfl, [], _, rfl, rfl, fun t ht => (by cases ht)⟩, ?_⟩
          rintro n h6 ⟨rfl, C, D, eC, rfl, hC⟩
          have eC2 := congrArg List.length eC
          rw [List.length_append, List.length_append] at eC2
          have eL : (up ++ lo).length = up.length + lo.length := List.length_append
          refine ⟨fun hlt6 => ?_, fun hge6 => ?_⟩
          · rcases D with _ | ⟨t, D⟩
            · exact absurd hlt6 (by simp at eC2; omega)
            rw [List.length_cons] at eC2
            have r7 := Buf.row B7
            rw [eC] at r7
            refine tab_rd r7 rfl fun b8 o1 => ?_
            refine index_s (K12.trans K35 |>.row BL) hlk ⟨_, rfl, fun hc => ?_, fun hc => ?_⟩
            · rw [if_neg (fun c => by
                have := c.2.2
                unfold hit at this
                rw [List.any_eq_false] at this
                exact this t (by dsimp only; rw [eC]; simp) hc)] at hw
              exact ⟨⟨by omega, by omega⟩, mk h6 K35 hw⟩
            · rw [next_i (n := 130000) (by omega) (by omega)]
              refine ⟨⟨rfl, C ++ [t], D, by rw [eC]; simp, by simp, fun u hu => ?_⟩, by dsimp only; omega⟩
              rcases List.mem_append.1 hu with hu | hu
              · exact hC u hu
              · rw [List.mem_singleton.1 hu]; exact hc
          · have hD : D = [] := List.eq_nil_of_length_eq_zero (by omega)
            subst hD
            rw [List.append_nil] at eC
            rw [if_pos ⟨hr, hr1, by
              unfold hit
              rw [List.any_eq_false]
              dsimp only
              rw [eC]
              exact fun u hu hh => by rw [hC u hu] at hh; cases hh⟩] at hw
            have K45 := K4.trans K5
            exact fnd hw.symm h6 u1 u2 (K12.trans K35) (Buf.keep K45 T1) (N1'.mono K12.dom) (Buf.keep K45 T2) (N2'.mono K12.dom) o1 o2
  · have hw0 : w = [] := List.eq_nil_of_length_eq_zero (by omega)
    subst hw0
    have hTn : T = none := hw.symm
    refine ⟨fun hp => ?_, fun hp => ?_⟩
    · have hne : o ≠ [] := fun h0 => by rw [h0] at hon; rw [hon] at hp; exact absurd hp (by decide)
      have := hN hTn h2 (K1.trans K2)
      rw [if_neg hne] at this
      exact this
    · have h0 : o = [] := List.eq_nil_of_length_eq_zero (by omega)
      have := hN hTn h2 (K1.trans K2)
      rw [if_pos h0] at this
      exact this
end
end Go.Eng.Ytbjnlacacapjiaa
end
section
set_option maxRecDepth 100000
set_option maxHeartbeats 1000000
namespace Go.Eng.Ytbjnlacacapjiaa
theorem cells_inj {t u : Tab} (h : t.cells = u.cells) : t = u := by
  obtain ⟨a, b, c, d, e, f⟩ := t
  obtain ⟨a', b', c', d', e', f'⟩ := u
  simp only [Tab.cells, List.cons.injEq, Value.int.injEq, Value.string.injEq, true_and, and_true] at h
  obtain ⟨rfl, rfl, rfl, rfl, rfl, rfl⟩ := h
  rfl
theorem tmod_rng {a n : Int} (ha : 0 ≤ a) (hn : 0 < n) : 0 ≤ Int.tmod a n ∧ Int.tmod a n < n := ⟨Int.tmod_nonneg _ ha, Int.tmod_lt_of_pos _ hn⟩
section
variable {g h h' : Hp} {vb b : Nat} {ls l l1 l2 l3 : Sl} {xs : List (Sl × List Tab)} {Q : Value → Hp → Prop} {n n1 n2 n3 n4 n5 n6 n7 n8 n9 n10 n11 n12 n13 n14 n15 n16 n17 n18 n19 n20 n21 n22 n23 n24 n25 n26 : Int}
theorem sameT_s {A B : List Tab} (BA : h.row l.a (l.n * 6) (tabV A)) (BB : h.row l1.a (l1.n * 6) (tabV B)) (hA : A.length ≤ 60000) (hT : A = B → Q (.bool true) h) (hF : A ≠ B → Q (.bool false) h) : F77.T l l1 h Q := by
  have n1 : l.n = A.length := by have := BA.1; rw [tabV_len] at this; omega
  have n2 : l1.n = B.length := by have := BB.1; rw [tabV_len] at this; omega
  unfold F77.T
  refine ⟨fun hl => ?_, fun hl => hF fun e => hl (by rw [n1, n2, e])⟩
  have hAB : A.length = B.length := by omega
  refine ⟨fun k h1 => h1 = h ∧ ∃ P R S, A = P ++ R ∧ B = P ++ S ∧ k = (P.length : Int), fun k _ => A.length - k.toNat, ⟨rfl, [], _, _, rfl, rfl, rfl⟩, ?_⟩
  rintro k h1 ⟨rfl, P, R, S, e, e', rfl⟩
  have e2 := congrArg List.length e
  have e3 := congrArg List.length e'
  rw [List.length_append] at e2 e3
  refine ⟨fun hlt => ?_, fun hge => ?_⟩
  · rcases R with _ | ⟨t, R⟩
    · exact absurd hlt (by simp at e2; omega)
    rw [List.length_cons] at e2
    rcases S with _ | ⟨u, S⟩
    · simp at e3; omega
    rw [List.length_cons] at e3
    have BA' := BA
    have BB' := BB
    rw [e] at BA'
    rw [e'] at BB'
    refine tab_rd BA' rfl fun b o => ?_
    refine tab_rd BB' rfl fun b1 o1 => ⟨fun heq => ?_, fun hne => hF fun hAB' => hne ?_⟩
    · have htu : t = u := cells_inj heq
      subst htu
      rw [next_i (n := 70000) (by omega) (by omega)]
      exact ⟨⟨rfl, P ++ [t], R, S, by rw [e]; simp, by rw [e']; simp, by simp⟩, by dsimp only; omega⟩
    · rw [e, e'] at hAB'
      have := List.append_cancel_left hAB'
      cases this; rfl
  · have hR : R = [] := List.eq_nil_of_length_eq_zero (by omega)
    have hS : S = [] := List.eq_nil_of_length_eq_zero (by omega)
    subst hR hS
    exact hT (by rw [e, e'])
theorem sameI_s {A B : List Int} (BA : h.row l.a l.n (nV3 A)) (BB : h.row l1.a l1.n (nV3 B)) (hA : A.length ≤ 60000) (hT : A = B → Q (.bool true) h) (hF : A ≠ B → Q (.bool false) h) : F49.T l l1 h Q := by
  have n1 : l.n = A.length := by have := BA.1; rw [nV3_len] at this; omega
  have n2 : l1.n = B.length := by have := BB.1; rw [nV3_len] at this; omega
  unfold F49.T
  refine ⟨fun hl => ?_, fun hl => hF fun e => hl (by rw [n1, n2, e])⟩
  have hAB : A.length = B.length := by omega
  refine ⟨fun k h1 => h1 = h ∧ ∃ P R S, A = P ++ R ∧ B = P ++ S ∧ k = (P.length : Int), fun k _ => A.length - k.toNat, ⟨rfl, [], _, _, rfl, rfl, rfl⟩, ?_⟩
  rintro k h1 ⟨rfl, P, R, S, e, e', rfl⟩
  have e2 := congrArg List.length e
  have e3 := congrArg List.length e'
  rw [List.length_append] at e2 e3
  refine ⟨fun hlt => ?_, fun hge => ?_⟩
  · rcases R with _ | ⟨t, R⟩
    · exact absurd hlt (by simp at e2; omega)
    rw [List.length_cons] at e2
    rcases S with _ | ⟨u, S⟩
    · simp at e3; omega
    rw [List.length_cons] at e3
    obtain ⟨b, o, ha, hat⟩ := row_get BA (i := P.length) (by omega)
    obtain ⟨b1, o1, ha1, hat1⟩ := row_get BB (i := P.length) (by omega)
    refine ⟨b, o, ha, ⟨by omega, hlt⟩, t, ?_, b1, o1, ha1, ⟨by omega, by omega⟩, u, ?_, fun heq => ?_, fun hne => hF fun hAB' => hne ?_⟩
    · rw [Int.toNat_natCast, hat P.length (by omega), e]; unfold nV3; simp
    · rw [Int.toNat_natCast, hat1 P.length (by omega), e']; unfold nV3; simp
    · subst heq
      rw [next_i (n := 70000) (by omega) (by omega)]
      exact ⟨⟨rfl, P ++ [t], R, S, by rw [e]; simp, by rw [e']; simp, by simp⟩, by dsimp only; omega⟩
    · rw [e, e'] at hAB'
      have := List.append_cancel_left hAB'
      cases this; rfl
  · have hR : R = [] := List.eq_nil_of_length_eq_zero (by omega)
    have hS : S = [] := List.eq_nil_of_length_eq_zero (by omega)
    subst hR hS
    exact hT (by rw [e, e'])
theorem sameJ_s {i j : Jb} (U : h.row l.a (l.n * 6) (tabV i.up)) (L : h.row l1.a (l1.n * 6) (tabV i.lo)) (U' : h.row l2.a (l2.n * 6) (tabV j.up)) (L' : h.row l3.a (l3.n * 6) (tabV j.lo)) (hu : i.up.length ≤ 60000) (hl : i.lo.length ≤ 60000)
    (hT : i = j → Q (.bool true) h) (hF : i ≠ j → Q (.bool false) h) : F51.T i.lv l l1 i.cut i.mv j.lv l2 l3 j.cut j.mv h Q := by
  obtain ⟨a, b, c, d, e⟩ := i
  obtain ⟨a', b', c', d', e'⟩ := j
  dsimp only at U L U' L' hu hl
  unfold F51.T F51.G
  refine ⟨fun h1 => ?_, fun h1 => hF fun hh => h1 (by cases hh; rfl)⟩
  refine sameT_s U U' hu (fun h2 => ⟨_, rfl, fun _ => ?_, fun hh => Bool.noConfusion hh⟩) (fun h2 => ⟨_, rfl, fun hh => Bool.noConfusion hh, fun _ => hF fun hh => h2 (by cases hh; rfl)⟩)
  refine sameT_s L L' hl (fun h3 => ⟨_, rfl, fun _ => ?_, fun hh => Bool.noConfusion hh⟩) (fun h3 => ⟨_, rfl, fun hh => Bool.noConfusion hh, fun _ => hF fun hh => h3 (by cases hh; rfl)⟩)
  refine ⟨fun h4 => ⟨fun h5 => ?_, fun h5 => hF fun hh => h5 (by cases hh; rfl)⟩, fun h4 => hF fun hh => h4 (by cases hh; rfl)⟩
  dsimp only at h1 h4 h5
  subst h1 h2 h3 h4 h5
  exact hT rfl
theorem in_s {A : List Tab} {n : Int} (BA : h.row l.a (l.n * 6) (tabV A)) (hA : A.length ≤ 60000) (hT : n ∈ A.map Tab.num → Q (.bool true) h) (hF : n ∉ A.map Tab.num → Q (.bool false) h) : F33.T l n h Q := by
  have n1 : l.n = A.length := by have := BA.1; rw [tabV_len] at this; omega
  unfold F33.T
  refine ⟨fun k h1 => h1 = h ∧ ∃ P R, A = P ++ R ∧ k = (P.length : Int) ∧ n ∉ P.map Tab.num, fun k _ => A.length - k.toNat, ⟨rfl, [], _, rfl, rfl, by simp⟩, ?_⟩
  rintro k h1 ⟨rfl, P, R, e, rfl, hP⟩
  have e2 := congrArg List.length e
  rw [List.length_append] at e2
  refine ⟨fun hlt => ?_, fun hge => ?_⟩
  · rcases R with _ | ⟨t, R⟩
    · exact absurd hlt (by simp at e2; omega)
    rw [List.length_cons] at e2
    have BA' := BA
    rw [e] at BA'
    obtain ⟨b, o, a1, a2, n2, a3, _, _, _, _, _, _, _, _, _, _, rfl⟩ := tab_rd BA' (i := (P.length : Int)) rfl (K := fun b o a c d e s s1 => a = t.num) (fun _ _ => rfl)
    refine ⟨b, o, a1, a2, t.num, a3, fun heq => hT ?_, fun hne => ?_⟩
    · rw [← heq, e]; simp
    · rw [next_i (n := 70000) (by omega) (by omega)]
      refine ⟨⟨rfl, P ++ [t], R, by rw [e]; simp, by simp, ?_⟩, by dsimp only; omega⟩
      rw [List.map_append, List.mem_append]
      exact fun hh => hh.elim hP fun hh => hne (by simp at hh; exact hh.symm)
  · have hR : R = [] := List.eq_nil_of_length_eq_zero (by omega)
    subst hR
    rw [List.append_nil] at e
    exact hF (by rw [e]; exact hP)
theorem place_s {n n1 : Int} (hn : -9223372036854775808 ≤ n) (h1 : 0 < n1) (hQ : ∀ m, 0 ≤ m → m < n1 → Q (.int .i64 m) h) : F32.T n n1 h Q := by
  unfold F32.T
  refine ⟨fun hneg => ⟨by omega, ?_⟩, fun hpos => ⟨by omega, ?_⟩⟩
  · rw [wrap_i64 (n := n + 1) (by omega) (by omega), wrap_i64 (by omega) (by omega)]
    obtain ⟨a, b⟩ := tmod_rng (a := 0 - (n + 1)) (by omega) h1
    exact hQ _ a b
  · obtain ⟨a, b⟩ := tmod_rng (a := n) (by omega) h1
    exact hQ _ a b
theorem right_s (r5 : -9223372036854775808 ≤ n5) (r7 : -9223372036854775808 ≤ n7) (r8 : -9223372036854775808 ≤ n8) (r9 : -9223372036854775808 ≤ n9) (r10 : -9223372036854775808 ≤ n10) (r12 : -9223372036854775808 ≤ n12)
    (hQ : ∀ m5 m7 m8 m9 m10 m12, CfOk m5 m7 m8 m9 m10 m12 → Q (.agg ⟨[.int .i64 n, .int .i64 n1, .int .i64 n2, .int .i64 n3, .int .i64 n4, .int .i64 m5, .int .i64 n6, .int .i64 m7, .int .i64 m8, .int .i64 m9, .int .i64 m10, .int .i64 n11, .int .i64 m12, .int .i64 n13, .int .i64 n14, .int .i64 n15, .int .i64 n16, .int .i64 n17, .int .i64 n18, .int .i64 n19, .int .i64 n20, .int .i64 n21, .int .i64 n22, .int .i64 n23, .int .i64 n24, .int .i64 n25, .int .i64 n26]⟩) h) : F23.T n n1 n2 n3 n4 n5 n6 n7 n8 n9 n10 n11 n12 n13 n14 n15 n16 n17 n18 n19 n20 n21 n22 n23 n24 n25 n26 h Q := by
  unfold F23.T F23.G
  refine place_s r8 (by decide) fun a a1 a2 => ⟨a, rfl, ?_⟩
  refine place_s r9 (by decide) fun c c1 c2 => ⟨c, rfl, ?_⟩
  refine place_s r10 (by decide) fun d d1 d2 => ⟨d, rfl, ?_⟩
  refine place_s r5 (by decide) fun e e1 e2 => ⟨e, rfl, ?_⟩
  refine place_s r7 (by decide) fun f f1 f2 => ⟨f, rfl, ?_⟩
  refine place_s r12 (by decide) fun i i1 i2 => ⟨i, rfl, ?_⟩
  rw [wrap_i64 (n := 1 + e) (by omega) (by omega), wrap_i64 (n := 1 + f) (by omega) (by omega), wrap_i64 (n := 3 + a) (by omega) (by omega), wrap_i64 (n := 4096 + c) (by omega) (by omega), wrap_i64 (n := 2 + d) (by omega) (by omega), wrap_i64 (n := 1 + i) (by omega) (by omega)]
  refine hQ _ _ _ _ _ _ ⟨by omega, ?_, by omega, by omega, by omega, by omega⟩
  unfold iMax
  split <;> split <;> omega
def Cn (h : Hp) (b : Nat) : Prop := ∃ c : Int, h b = some (.cells ⟨[.int .i64 c]⟩ 117 (0, 0))
theorem cadd_s (C : Cn h b) {n : Int} (hQ : ∀ h' r, Cn h' b → (∀ k x, k ≠ b → h k = some x → h' k = some x) → Q (.bool r) h') : F52.T (some ⟨b, 0, none⟩) n h Q := by
  obtain ⟨c, x⟩ := C
  unfold F52.T
  have y : (h.wr b 0 [.int .i64 (IntKind.wrap .i64 (c - n))]) b = some (.cells ⟨[.int .i64 (IntKind.wrap .i64 (c - n))]⟩ 117 (0, 0)) := by
    unfold Hp.wr; rw [if_pos rfl, x]; rfl
  have keep : ∀ k x, k ≠ b → h k = some x → (h.wr b 0 [.int .i64 (IntKind.wrap .i64 (c - n))]) k = some x := fun k z hk e => by
    unfold Hp.wr; rw [if_neg hk]; exact e
  refine ⟨b, 0, rfl, c, at_of x 0, fun _ => ⟨b, 0, rfl, c, at_of x 0, b, 0, rfl, canW_new x (Nat.le_refl 1), b, 0, rfl, _, at_of y 0, fun _ => hQ _ _ ⟨_, y⟩ keep, fun _ => hQ _ _ ⟨_, y⟩ keep⟩, fun _ => ⟨b, 0, rfl, c, at_of x 0, fun _ => hQ _ _ ⟨_, x⟩ (fun _ _ _ e => e), fun _ => hQ _ _ ⟨_, x⟩ (fun _ _ _ e => e)⟩⟩
theorem cok_s (C : Cn h b) (hQ : ∀ r, Q (.bool r) h) : F39.T (some ⟨b, 0, none⟩) h Q := by
  obtain ⟨c, x⟩ := C
  exact ⟨b, 0, rfl, c, at_of x 0, fun _ => hQ _, fun _ => hQ _⟩
theorem ctext_s (C : Cn h b) {s : ByteArray} (hQ : ∀ h' r, Cn h' b → (∀ k x, k ≠ b → h k = some x → h' k = some x) → Q r h') : F53.T (some ⟨b, 0, none⟩) s h Q := by
  unfold F53.T F53.G
  refine cadd_s C fun h' r C' k' => ⟨r, rfl, fun _ => hQ _ _ C' k', fun _ => hQ _ _ C' k'⟩
theorem few_s {ptrs : List ByteArray} (B : h.row l1.a l1.n (ptrV ptrs)) (hl : l1.n < 9223372036854775807) (hQ : ∀ h' r, Keep h h' → Q (.bool r) h') : F22.T l l1 h Q := by
  have hn : l1.n = ptrs.length := by have := B.1; rw [ptrV_length] at this; omega
  unfold F22.T F37.T F22.G
  intro b hb
  have K1 := Keep.new hb (.cells ⟨[.int .i64 10000]⟩ 117 (0, 0))
  have C1 : Cn (h.new b (.cells ⟨[.int .i64 10000]⟩ 117 (0, 0))) b := ⟨_, new_at _ _ _⟩
  generalize h.new b (.cells ⟨[.int .i64 10000]⟩ 117 (0, 0)) = h1 at K1 C1 ⊢
  refine ⟨_, rfl, cadd_s C1 fun h2 r C2 k2 => ⟨r, rfl, ?_⟩⟩
  have K2 : Keep h h2 := fun k x e => k2 k x (ne_of e hb) (K1 k x e)
  have ok : ∀ h3, Cn h3 b → Keep h h3 → F39.T (some ⟨b, 0, none⟩) h3 fun r5 h7 => ∃ b4 : Bool, r5 = .bool b4 ∧ parB b4 (Q (.bool true) h7) (Q (.bool false) h7) := fun h3 C3 K3 => cok_s C3 fun r => ⟨r, rfl, fun _ => hQ _ _ K3, fun _ => hQ _ _ K3⟩
  have loop : ∃ (I : Int → Hp → Prop) (m : Int → Hp → Nat), I 0 h2 ∧ (∀ n : Int, ∀ h3 : Hp, I n h3 → par (n < (l1.n : Int)) (F39.T (some ⟨b, 0, none⟩) h3 fun r2 h4 => ∃ b1 : Bool, r2 = .bool b1 ∧ parB b1 (∃ b2 o, (l1.a : Option Addr) = some ⟨b2, o, none⟩ ∧ ((0 : Int) ≤ n ∧ n < (l1.n : Int)) ∧ ∃ s : ByteArray, h4.at b2 (o + n.toNat) = some (.string s) ∧ F53.T (some ⟨b, 0, none⟩) s h4 fun r3 h5 => I (IntKind.wrap .i64 (n + 1)) h5 ∧ m (IntKind.wrap .i64 (n + 1)) h5 < m n h3) (F39.T (some ⟨b, 0, none⟩) h4 fun r4 h6 => ∃ b3 : Bool, r4 = .bool b3 ∧ parB b3 (Q (.bool true) h6) (Q (.bool false) h6))) (F39.T (some ⟨b, 0, none⟩) h3 fun r5 h7 => ∃ b4 : Bool, r5 = .bool b4 ∧ parB b4 (Q (.bool true) h7) (Q (.bool false) h7))) := by
    refine ⟨fun n h3 => Cn h3 b ∧ Keep h h3 ∧ ∃ k : Nat, n = (k : Int) ∧ k ≤ ptrs.length, fun n _ => ptrs.length - n.toNat, ⟨C2, K2, 0, rfl, Nat.zero_le _⟩, ?_⟩
    rintro n h3 ⟨C3, K3, k, rfl, hk⟩
    refine ⟨fun hlt => ?_, fun hge => ok h3 C3 K3⟩
    refine cok_s C3 fun r => ⟨r, rfl, fun _ => ?_, fun _ => ok h3 C3 K3⟩
    have hk' : k < ptrs.length := by omega
    obtain ⟨b2, o, ha, hat⟩ := row_get (K3.row B) (i := k) (by omega)
    refine ⟨b2, o, ha, ⟨by omega, hlt⟩, ptrs[k], ?_, ?_⟩
    · rw [Int.toNat_natCast, hat k (by omega)]
      unfold ptrV
      rw [List.getElem?_map, List.getElem?_eq_getElem hk']; rfl
    · refine ctext_s C3 fun h5 r C5 k5 => ?_
      rw [next_i (n := ptrs.length) hk' (by omega)]
      exact ⟨⟨C5, fun k x e => k5 k x (ne_of e hb) (K3 k x e), k + 1, rfl, hk'⟩, by dsimp only; omega⟩
  exact ⟨fun _ => loop, fun _ => loop⟩
end
end Go.Eng.Ytbjnlacacapjiaa
end
section
set_option maxRecDepth 100000
set_option maxHeartbeats 1000000
namespace Go.Eng.Ytbjnlacacapjiaa
structure GoodL (lv : Lv) : Prop where
  hulls : Hulls lv
  nd : (nums lv).Nodup
  adj : ∀ i ts, 1 ≤ i → lv[i]? = some ts → Adj ts
  w : ∀ l ∈ lv, ∀ t ∈ l, 0 ≤ t.weight ∧ t.weight < 2147483648
theorem nums_cons (l : List Tab) (lv : Lv) : nums (l :: lv) = l.map Tab.num ++ nums lv := by unfold nums; simp
theorem nums_set : ∀ {lv : Lv} {k : Nat} {ts : List Tab} {t : Tab}, lv[k]? = some ts → (nums (lv.set k (ts ++ [t]))).Perm (t.num :: nums lv)
  | [], k, ts, t, h => by simp at h
  | l :: lv, 0, ts, t, h => by
    simp only [List.getElem?_cons_zero, Option.some.injEq] at h
    subst h
    rw [List.set_cons_zero, nums_cons, nums_cons, List.map_append, List.append_assoc]
    exact List.perm_middle
  | l :: lv, k + 1, ts, t, h => by
    rw [List.getElem?_cons_succ] at h
    rw [List.set_cons_succ, nums_cons, nums_cons]
    exact ((nums_set h).append_left _).trans List.perm_middle
theorem nums_perm : ∀ {lv lw : Lv}, lw.length = lv.length → (∀ (i : Nat) (a b : List Tab), lv[i]? = some a → lw[i]? = some b → List.Perm b a) → (nums lw).Perm (nums lv)
  | [], [], _, _ => List.Perm.refl _
  | [], _ :: _, h, _ => (by simp at h)
  | _ :: _, [], h, _ => (by simp at h)
  | a :: lv, b :: lw, h, hp => by
    rw [nums_cons, nums_cons]
    have h1 : List.Perm b a := hp 0 a b rfl rfl
    have h2 := nums_perm (lv := lv) (lw := lw) (by simpa using h) (fun i x y hx hy => hp (i + 1) x y (by simpa using hx) (by simpa using hy))
    exact (h1.map _).append h2
theorem Sorted.perm {lv lw : Lv} (h : Sorted lv lw) : ∀ (i : Nat) (a b : List Tab), lv[i]? = some a → lw[i]? = some b → List.Perm b a := fun i a b ha hb => by
  rcases Nat.eq_zero_or_pos i with rfl | h0
  · have := h.2.1
    rw [ha, hb] at this
    cases this
    exact List.Perm.refl _
  · exact (h.2.2 i a b h0 ha hb).1
theorem good_nil (k : Nat) : GoodL (List.replicate k []) := by
  have e : nums (List.replicate k []) = [] := by
    induction k with
    | zero => rfl
    | succ k ih => rw [List.replicate_succ, nums_cons, ih]; rfl
  refine ⟨fun l hl t ht => ?_, by rw [e]; exact List.nodup_nil, fun i ts _ hts => ?_, fun l hl t ht => ?_⟩
  · rw [(List.mem_replicate.1 hl).2] at ht; cases ht
  · have := (List.mem_replicate.1 (List.mem_of_getElem? hts)).2
    subst this
    intro j x y hx; simp at hx
  · rw [(List.mem_replicate.1 hl).2] at ht; cases ht
theorem good_step {lv lw : Lv} {e : Edit} {p : Placed} (G : GoodL lv) (ho : e.out = []) (hi : e.inn = [p]) (hw : 0 ≤ p.weight ∧ p.weight < 2147483648) (h : Res lv e 0 lw) : GoodL lw ∧ totL lw ≤ totL lv + 1 ∧ lw.length = lv.length := by
  unfold Res at h
  rw [ho, hi] at h
  split at h
  · next h1 =>
    have o0 : outM [] lv = (0, lv) := rfl
    rw [o0] at h
    dsimp only at h
    rw [if_pos rfl] at h
    have hs := inM_sum [p] lv
    split at h
    · next h3 =>
      rcases h with ⟨h, _⟩ | ⟨_, h⟩
      · exact absurd h (by decide)
      have H2 : Hulls (inM [p] lv).2 := hs.2.2 G.hulls
      have nd2 : (nums (inM [p] lv).2).Nodup ∧ ∀ l ∈ (inM [p] lv).2, ∀ t ∈ l, 0 ≤ t.weight ∧ t.weight < 2147483648 := by
        unfold inM at h3
        split at h3
        · exact absurd h3 (by simp)
        · next hp =>
          split at h3
          · exact absurd h3 (by simp)
          · next ts hts =>
            split at h3
            · exact absurd h3 (by simp)
            · next hn =>
              split at h3
              · exact absurd h3 (by simp)
              · next hb =>
                have hin : inM [p] lv = (0, lv.set p.lv.toNat (ts ++ [p.tab])) := by
                  unfold inM
                  rw [if_neg hp]
                  simp only [hts]
                  rw [if_neg hn, if_neg hb]
                  rfl
                rw [hin]
                refine ⟨(nums_set hts).nodup_iff.2 (List.nodup_cons.2 ⟨hn, G.nd⟩), fun l hl t ht => ?_⟩
                rcases List.mem_or_eq_of_mem_set hl with hl | hl
                · exact G.w l hl t ht
                · subst hl
                  rcases List.mem_append.1 ht with ht | ht
                  · exact G.w ts (List.mem_of_getElem? hts) t ht
                  · rw [List.mem_singleton.1 ht]; exact hw
      refine ⟨⟨h.hulls H2, ?_, fun i us h0 hu => ?_, fun l hl t ht => ?_⟩, ?_, ?_⟩
      · exact (nums_perm h.1 h.perm).nodup_iff.2 nd2.1
      · have hlt : i < (inM [p] lv).2.length := by rw [← h.1]; exact (List.getElem?_eq_some_iff.1 hu).1
        exact (h.2.2 i _ us h0 (List.getElem?_eq_getElem hlt) hu).2.2
      · obtain ⟨i, hi', hl'⟩ := List.mem_iff_getElem.1 hl
        have hlt : i < (inM [p] lv).2.length := by rw [← h.1]; exact hi'
        have := h.perm i _ l (List.getElem?_eq_getElem hlt) (by rw [← hl']; exact List.getElem?_eq_getElem hi')
        exact nd2.2 _ (List.getElem_mem hlt) t (this.mem_iff.1 ht)
      · have := h.totL
        have := hs.1
        simp only [List.length_singleton] at this
        omega
      · rw [h.1, hs.2.1]
    · next h3 => exact absurd h.symm h3
  · exact absurd h (by decide)
theorem zero_ptrs (n : Nat) : (Builtin.zeroCells (List.toArray [Value.string (ByteArray.mk #[])]) ((n : Nat) : Int).toNat) = ⟨ptrV (List.replicate n ⟨#[]⟩)⟩ := by
  rw [Int.toNat_natCast]
  unfold Builtin.zeroCells ptrV
  apply Array.ext
  · simp
  · intro i h1 h2
    simp [Nat.mod_one]
theorem NewN.grow {g h : Hp} {s : Sl} {sz t b : Nat} {o : Obj} {vs : List Value} (N : NewN g s) (B : Buf h s sz t vs) (hb : h b = none) : NewN (g.new b o) s := by
  rcases N with h0 | ⟨k, hk, hn⟩
  · exact .inl h0
  · refine .inr ⟨k, hk, ?_⟩
    rcases B.own with ⟨ha, _⟩ | ⟨c, _, _, ha, hc, _⟩
    · rw [hk] at ha; cases ha
    · rw [hk] at ha
      simp only [Option.some.injEq, Addr.mk.injEq] at ha
      rw [new_ne _ _ (by rw [ha.1]; exact ne_of hc hb)]; exact hn
section
variable {g h h' : Hp} {sb vb pm cm b : Nat} {ps ls l l1 l2 : Sl} {xs : List (Sl × List Tab)} {ptrs : List ByteArray} {Q : Value → Hp → Prop} {n n1 n2 n3 n4 n5 n6 n7 n8 n9 n10 n11 n12 n13 n14 n15 n16 n17 n18 n19 n20 n21 n22 n23 n24 n25 n26 : Int}
theorem SetA.grow (S : SetA g h sb vb pm cm ps ls xs ptrs) (hb : h b = none) (o : Obj) : SetA (g.new b o) (h.new b o) sb vb pm cm ps ls xs ptrs := by
  have K := Keep.new hb o
  have kk : Keep (g.new b o) (h.new b o) := fun k x e => by
    by_cases hk : k = b
    · subst hk; rw [new_at] at e ⊢; exact e
    · rw [new_ne _ _ hk] at e ⊢; exact S.V.L.k k x e
  obtain ⟨c, hc⟩ := S.m
  obtain ⟨es, c2, h2, h3⟩ := S.c
  refine ⟨⟨⟨kk, NewN.grow S.V.L.nl S.V.L.l hb, S.V.L.l.keep K, fun x hx => Buf.keep K (S.V.L.t x hx), fun x hx => NewN.grow (S.V.L.n x hx) (S.V.L.t x hx) hb, S.V.L.d⟩, ?_, K _ _ S.V.v⟩, ?_, K _ _ S.s, NewN.grow S.np S.p hb, S.p.keep K, ⟨c, K _ _ hc⟩, ?_, ⟨es, c2, K _ _ h2, h3⟩, S.ne⟩
  · rw [new_ne _ _ (ne_of S.V.v hb)]; exact S.V.nv
  · rw [new_ne _ _ (ne_of S.s hb)]; exact S.ns
  · rw [new_ne _ _ (ne_of h2 hb)]; exact S.nc
theorem SetA.base {g0 : Hp} (K : Keep g0 g) (S : SetA g h sb vb pm cm ps ls xs ptrs) : SetA g0 h sb vb pm cm ps ls xs ptrs :=
  ⟨Ver.base K S.V, K.dom _ S.ns, S.s, S.np.mono K.dom, S.p, S.m, K.dom _ S.nc, S.c, S.ne⟩
def LT (h : Hp) (r : Sl) (lv : Lv) : Prop := ∃ ys : List (Sl × List Tab), Buf h r 1 66 (slV (ys.map (·.1))) ∧ (∀ y ∈ ys, TB h y.1 y.2) ∧ ys.map (·.2) = lv
theorem totL_le {lv : Lv} {n : Nat} (h : totL lv ≤ n) : ∀ l ∈ lv, l.length ≤ n := fun l hl => Nat.le_trans (totL_mem hl) h
theorem built_s {inn : List Placed} (hin : h.row l.a (l.n * 7) (inV inn)) (hr : ∀ p ∈ inn, -9223372036854775808 ≤ p.lv ∧ -9223372036854775808 ≤ p.weight) (h8 : 3 ≤ n8 ∧ n8 ≤ 5)
    (hQ : ∀ h' vb ls xs r, Keep h h' → Ver h h' vb ls xs → GoodL (xs.map (·.2)) → totL (xs.map (·.2)) ≤ 400 → n8 = (xs.length : Int) → LT h' r (xs.map (·.2)) → Q (.tuple ⟨[.pointer (some ⟨vb, 0, none⟩), .slice r.a r.n r.c]⟩) h') : F24.T n n1 n2 n3 n4 n5 n6 n7 n8 n9 n10 n11 n12 n13 n14 n15 n16 n17 n18 n19 n20 n21 n22 n23 n24 n25 n26 l h Q := by
  obtain ⟨k, hk⟩ := Int.eq_ofNat_of_zero_le (show 0 ≤ n8 by omega)
  have hln : l.n = inn.length := by have := hin.1; rw [inV_len] at this; omega
  subst hk
  unfold F24.T F24.G
  refine new_spec (k := k) rfl (by omega) (by omega) fun h1 sb vb pm cm ps ls xs S0 ex0 => ⟨_, rfl, fun a b _ e => (by cases e), fun e => (by cases e), fun _ => ⟨⟨by omega, by omega, by omega⟩, fun b hb => ?_⟩⟩
  rw [zero_ptrs, Int.toNat_natCast]
  have S1 := S0.grow hb (.cells ⟨ptrV (List.replicate k ⟨#[]⟩)⟩ 9 (0, 0))
  have hgb := S0.V.L.k.dom b hb
  have KG := Keep.new hgb (.cells ⟨ptrV (List.replicate k ⟨#[]⟩)⟩ 9 (0, 0))
  have xG := new_at h b (.cells ⟨ptrV (List.replicate k ⟨#[]⟩)⟩ 9 (0, 0))
  generalize h1.new b (.cells ⟨ptrV (List.replicate k ⟨#[]⟩)⟩ 9 (0, 0)) = h2 at S1 ⊢
  generalize h.new b (.cells ⟨ptrV (List.replicate k ⟨#[]⟩)⟩ 9 (0, 0)) = G at S1 KG xG
  have hxl : xs.length = k := by have := congrArg List.length ex0; simpa using this
  refine ⟨fun h3 => ∃ vb ls xs ptrs, SetA G h3 sb vb pm cm ps ls xs ptrs ∧ GoodL (xs.map (·.2)) ∧ totL (xs.map (·.2)) ≤ 400 ∧ xs.length = k, ?_, ?_⟩
  · rintro h3 ⟨vb, ls, xs, ptrs, S, Gd, ht, hxk⟩
    have hK : Keep h h3 := KG.trans S.V.L.k
    have V : Ver h h3 vb ls xs := Ver.base KG S.V
    have hsz : ∀ x ∈ xs, x.2.length ≤ 60000 := fun x hx => by
      have := totL_le ht x.2 (List.mem_map.2 ⟨x, hx, rfl⟩); omega
    refine current_spec S ⟨_, rfl, ?_⟩
    refine ⟨fun l1 n h4 => ∃ i : Nat, n = (i : Int) ∧ i ≤ k ∧ Keep h3 h4 ∧ NewN h3 l1 ∧ ∃ ys : List (Sl × List Tab), Buf h4 l1 1 66 (slV (ys.map (·.1))) ∧ (∀ y ∈ ys, TB h4 y.1 y.2) ∧ ys.map (·.2) = (xs.map (·.2)).take i, fun _ n _ => k - n.toNat, ⟨0, rfl, Nat.zero_le _, Keep.refl _, NewN.nil _, [], Buf.nil _ _ _, fun y hy => (by cases hy), rfl⟩, ?_⟩
    rintro l1 n h4 ⟨i, rfl, hi, K4, N4, ys, B4, T4, ey⟩
    refine ⟨fun hlt => ?_, fun hge => ?_⟩
    · refine tables_s (V.keep K4) hsz fun h5 r K5 B5 N5 => ⟨r, rfl, ?_⟩
      have hyl : ys.length = i := by
        have := congrArg List.length ey
        rw [List.length_map, List.length_take, List.length_map, Nat.min_eq_left (by omega)] at this
        exact this
      have hl1 : l1.n = i := by have := B4.len; rw [slV_length, List.length_map] at this; omega
      have hi' : i < xs.length := by omega
      have B4' := B4.keep K5
      refine append_buf (us := [.slice r.a r.n r.c]) B4' rfl rfl (by omega) fun l3 h6 B6 _ U6 => ?_
      obtain ⟨K6, N6⟩ := NewN.upd (K4.trans K5) N4 U6
      have C6 := Ck.of_upd B4' U6
      rw [next_i (n := 100) (by omega) (by omega)]
      refine ⟨⟨i + 1, rfl, by omega, K6, N6, ys ++ [(r, (xs[i]).2)], ?_, fun y hy => ?_, ?_⟩, by dsimp only; omega⟩
      · have : slV ((ys ++ [(r, (xs[i]).2)]).map (·.1)) = slV (ys.map (·.1)) ++ [.slice r.a r.n r.c] := by unfold slV; simp
        rw [this]; exact B6
      · rcases List.mem_append.1 hy with hy | hy
        · exact C6.buf (by decide) (Buf.keep K5 (T4 y hy))
        · rw [List.mem_singleton.1 hy]
          have e := tabsI_nat xs (List.getElem?_eq_getElem hi')
          rw [e] at B5
          exact C6.buf (by decide) B5
      · rw [List.map_append, ey, List.take_add_one]
        congr 1
        simp [hi']
    · have : i = k := by omega
      subst this
      refine hQ h4 vb ls xs l1 (hK.trans K4) (V.keep K4) Gd ht (by rw [hxk]) ⟨ys, B4, T4, ?_⟩
      rw [ey, List.take_of_length_le (by rw [List.length_map]; omega)]
  · refine ⟨fun n h7 => ∃ i : Nat, n = (i : Int) ∧ i ≤ inn.length ∧ i ≤ 400 ∧ ∃ vb ls xs ptrs, SetA G h7 sb vb pm cm ps ls xs ptrs ∧ GoodL (xs.map (·.2)) ∧ totL (xs.map (·.2)) ≤ i ∧ xs.length = k ∧ ptrs.length = k, fun n _ => 400 - n.toNat, ⟨0, rfl, Nat.zero_le _, by omega, vb, ls, xs, _, S1, by rw [ex0]; exact good_nil k, ?_, hxl, by simp⟩, ?_⟩
    · rw [ex0]; unfold totL; simp
    rintro n h7 ⟨i, rfl, hi, hi4, vb, ls, xs, ptrs, S, Gd, ht, hxk, hpk⟩
    refine ⟨fun hlt => ⟨fun h4 => ?_, fun h4 => ⟨vb, ls, xs, ptrs, S, Gd, by omega, hxk⟩⟩, fun hge => ⟨vb, ls, xs, ptrs, S, Gd, by omega, hxk⟩⟩
    have hii : i < inn.length := by omega
    obtain ⟨A, p, R, rfl, hA⟩ : ∃ A p R, inn = A ++ p :: R ∧ A.length = i := by
      refine ⟨inn.take i, inn[i], inn.drop (i + 1), ?_, by rw [List.length_take]; omega⟩
      have e := List.take_append_drop i inn
      rw [List.drop_eq_getElem_cons hii] at e
      exact e.symm
    obtain ⟨r1, r2⟩ := hr p (by simp)
    have hKG : Keep h h7 := KG.trans S.V.L.k
    refine in_rd (hKG.row hin) (by rw [hA]) fun b1 o => ?_
    refine place_s r1 (by omega) fun m m1 m2 => ⟨m, rfl, ?_⟩
    refine place_s r2 (by decide) fun w w1 w2 => ⟨w, rfl, fun b2 hb2 => ?_⟩
    have S2 := S.grow hb2 (.cells ⟨[.int .i64 m, .int .u64 p.num, .int .i64 w, .int .i64 p.bytes, .int .i64 p.entries, .string p.least, .string p.greatest]⟩ 49 (0, 0))
    have hg2 := S.V.L.k.dom b2 hb2
    have K2 := Keep.new hg2 (.cells ⟨[.int .i64 m, .int .u64 p.num, .int .i64 w, .int .i64 p.bytes, .int .i64 p.entries, .string p.least, .string p.greatest]⟩ 49 (0, 0))
    have x2 := new_at G b2 (.cells ⟨[.int .i64 m, .int .u64 p.num, .int .i64 w, .int .i64 p.bytes, .int .i64 p.entries, .string p.least, .string p.greatest]⟩ 49 (0, 0))
    have xG2 := K2 _ _ xG
    generalize h7.new b2 (.cells ⟨[.int .i64 m, .int .u64 p.num, .int .i64 w, .int .i64 p.bytes, .int .i64 p.entries, .string p.least, .string p.greatest]⟩ 49 (0, 0)) = h8' at S2 ⊢
    generalize G.new b2 (.cells ⟨[.int .i64 m, .int .u64 p.num, .int .i64 w, .int .i64 p.bytes, .int .i64 p.entries, .string p.least, .string p.greatest]⟩ 49 (0, 0)) = G2 at S2 K2 x2 xG2
    have E : EdAt G2 ⟨0, 0, 0, [], [⟨m, p.num, w, p.bytes, p.entries, p.least, p.greatest⟩], List.replicate k ⟨#[]⟩⟩ ⟨none, 0, 0⟩ ⟨some ⟨b2, 0, none⟩, 1, 1⟩ ⟨some ⟨b, 0, none⟩, k, k⟩ := by
      refine ⟨⟨rfl, .inl rfl⟩, ⟨rfl, .inr ⟨b2, 0, rfl, fun j _ => ?_⟩⟩, ⟨by simp [ptrV], .inr ⟨b, 0, rfl, fun j _ => ?_⟩⟩⟩
      · rw [Nat.zero_add, at_of x2]
        simp [inV, Placed.cells]
      · rw [Nat.zero_add, at_of xG2]
        simp
    refine apply_spec S2 E (by rw [hpk, hxk]) (by omega) (by omega) (by show totL (xs.map (·.2)) + 1 ≤ 50000; omega) (by show 0 ≤ 50000; omega) fun h10 c r vb' ls' xs' ptrs' _ S' R e1 e2 => ?_
    have S3 := S'.base K2
    rw [next_i (n := 1000) (by omega) (by omega)]
    refine ⟨r, c, rfl, ⟨i + 1, rfl, hii, by omega, vb', ls', xs', ptrs', S3, ?_⟩, by dsimp only; omega⟩
    by_cases hc : c = 0
    · subst hc
      obtain ⟨g1, g2, g3⟩ := good_step Gd rfl rfl ⟨w1, w2⟩ R
      rw [List.length_map, List.length_map] at g3
      refine ⟨g1, by omega, by omega, ?_⟩
      rw [e1 rfl]; simp
    · obtain ⟨rfl, rfl⟩ := e2 hc
      exact ⟨Gd, by omega, hxk, hpk⟩
end
end Go.Eng.Ytbjnlacacapjiaa
end
section
set_option maxRecDepth 100000
set_option maxHeartbeats 1000000
namespace Go.Eng.Ytbjnlacacapjiaa
def tb (n w : Int) (a b : UInt8) : Tab := ⟨n, w, 0, 0, ⟨#[a]⟩, ⟨#[b]⟩⟩
def exLv : Lv := [[tb 9 500 98 100, tb 12 500 99 107], [tb 3 2000 97 99, tb 4 2000 101 112, tb 5 1000 113 122], [tb 6 3000 100 102, tb 7 3000 103 105, tb 8 2000 107 108, tb 10 1000 120 122], [tb 11 90000 97 122]]
def pl (l n w : Int) (a b : UInt8) : Placed := ⟨l, n, w, 0, 0, ⟨#[a]⟩, ⟨#[b]⟩⟩
def exIn : List Placed := [pl 0 9 500 98 100, pl 0 12 500 99 107, pl 1 3 2000 97 99, pl 1 4 2000 101 112, pl 1 5 1000 113 122, pl 2 6 3000 100 102, pl 2 7 3000 103 105, pl 2 8 2000 107 108, pl 2 10 1000 120 122, pl 3 11 90000 97 122]
def exEd : Edit := ⟨0, 0, 0, [], exIn, List.replicate 4 ⟨#[]⟩⟩
theorem ex_in : inM exIn (List.replicate 4 []) = (0, exLv) := by rfl
instance (a b : ByteArray) : Decidable (Bl a b) := inferInstanceAs (Decidable (cmpI a b < 0))
instance (a b : ByteArray) : Decidable (Le a b) := inferInstanceAs (Decidable (¬ Bl b a))
theorem fine_of {us : List Tab} (h1 : Srt us) (h2 : Adj us) : Fine us us := ⟨List.Perm.refl _, h1, h2⟩
theorem ex_fine : ∀ i ts, 1 ≤ i → exLv[i]? = some ts → Fine ts ts := fun i ts hi h => by
  match i, hi with
  | 1, _ => cases h; exact fine_of (by unfold Srt; decide) (fun i x y h1 h2 => by
      match i with
      | 0 => cases h1; cases h2; decide
      | 1 => cases h1; cases h2; decide
      | n + 2 => simp at h2)
  | 2, _ => cases h; exact fine_of (by unfold Srt; decide) (fun i x y h1 h2 => by
      match i with
      | 0 => cases h1; cases h2; decide
      | 1 => cases h1; cases h2; decide
      | 2 => cases h1; cases h2; decide
      | n + 3 => simp at h2)
  | 3, _ => cases h; exact fine_of (by unfold Srt; decide) (fun i x y h1 h2 => by simp at h2)
  | n + 4, _ => simp [exLv] at h
theorem ex_res : Res (List.replicate 4 []) exEd 0 exLv := by
  unfold Res
  rw [if_pos (by rfl)]
  have o : outM exEd.out (List.replicate 4 []) = (0, List.replicate 4 []) := rfl
  rw [o]
  dsimp only
  rw [if_pos rfl]
  have i : inM exEd.inn (List.replicate 4 []) = (0, exLv) := ex_in
  rw [i]
  dsimp only
  rw [if_pos rfl]
  refine .inr ⟨rfl, rfl, rfl, fun i ts us hi h1 h2 => ?_⟩
  rw [h1] at h2
  cases h2
  exact ex_fine i ts hi h1
theorem weight_bd (ts : List Tab) : ∀ (a : Int) (k : Nat), (∀ t ∈ ts, 0 ≤ t.weight ∧ t.weight < 2147483648) → k + ts.length ≤ 1000 → 0 ≤ a → a ≤ 2147483648 * (k : Int) → 0 ≤ ts.foldl (fun n t => IntKind.wrap .i64 (n + t.weight)) a ∧ ts.foldl (fun n t => IntKind.wrap .i64 (n + t.weight)) a ≤ 2147483648 * ((k + ts.length : Nat) : Int) := by
  induction ts with
  | nil => intro a k _ _ h0 h1; exact ⟨h0, h1⟩
  | cons t ts ih =>
    intro a k hw hl h0 h1
    obtain ⟨w0, w1⟩ := hw t List.mem_cons_self
    rw [List.length_cons] at hl ⊢
    rw [List.foldl_cons, wrap_i64 (n := a + t.weight) (by omega) (by omega)]
    have := ih (a + t.weight) (k + 1) (fun u hu => hw u (List.mem_cons_of_mem _ hu)) (by omega) (by omega) (by omega)
    rw [show k + (ts.length + 1) = k + 1 + ts.length by omega]
    exact this
theorem pk_ok {xs : List (Sl × List Tab)} (hl : 3 ≤ xs.length ∧ xs.length ≤ 5) (ht : totL (xs.map (·.2)) ≤ 400) (hw : ∀ l ∈ xs.map (·.2), ∀ t ∈ l, 0 ≤ t.weight ∧ t.weight < 2147483648) : PkOk xs := by
  have sz : ∀ x ∈ xs, x.2.length ≤ 400 := fun x hx => totL_le ht x.2 (List.mem_map.2 ⟨x, hx, rfl⟩)
  refine ⟨hl, fun x hx => Nat.le_trans (sz x hx) (by omega), fun i => ?_⟩
  have key : (tabsI xs i).length ≤ 400 ∧ ∀ t ∈ tabsI xs i, 0 ≤ t.weight ∧ t.weight < 2147483648 := by
    unfold tabsI
    split
    · exact ⟨by simp, fun t ht => by cases ht⟩
    · split
      · next x hx =>
        have := List.mem_of_getElem? hx
        exact ⟨sz x this, hw x.2 (List.mem_map.2 ⟨x, this, rfl⟩)⟩
      · exact ⟨by simp, fun t ht => by cases ht⟩
  have := weight_bd (tabsI xs i) 0 0 key.2 (by omega) (Int.le_refl _) (by omega)
  unfold weightW
  exact ⟨this.1, by omega⟩
theorem new_row (h : Hp) (b : Nat) (L : List Value) (t : Nat) : (h.new b (.cells ⟨L⟩ t (0, 0))).row (some ⟨b, 0, none⟩) L.length L :=
  ⟨rfl, .inr ⟨b, 0, rfl, fun j _ => by rw [Nat.zero_add, at_of (new_at _ _ _)]; simp⟩⟩
def exP : List ByteArray := [⟨#[]⟩, ⟨#[99]⟩]
def exJ : Jb := ⟨1, [tb 4 2000 101 112], [tb 6 3000 100 102, tb 7 3000 103 105], ⟨#[107]⟩, false⟩
section
variable {g h h' : Hp} {vb b : Nat} {ls l l1 l2 l3 : Sl} {xs : List (Sl × List Tab)} {Q : Value → Hp → Prop}
theorem ex_xs (e : xs.map (·.2) = exLv) : ∃ s0 s1 s2 s3, xs = [(s0, [tb 9 500 98 100, tb 12 500 99 107]), (s1, [tb 3 2000 97 99, tb 4 2000 101 112, tb 5 1000 113 122]), (s2, [tb 6 3000 100 102, tb 7 3000 103 105, tb 8 2000 107 108, tb 10 1000 120 122]), (s3, [tb 11 90000 97 122])] := by
  unfold exLv at e
  match xs, e with
  | [(s0, _), (s1, _), (s2, _), (s3, _)], e =>
    simp only [List.map_cons, List.map_nil, List.cons.injEq, and_true] at e
    obtain ⟨rfl, rfl, rfl, rfl⟩ := e
    exact ⟨s0, s1, s2, s3, rfl⟩
theorem ex_ok (e : xs.map (·.2) = exLv) : PkOk xs := by
  have hl : xs.length = 4 := by have := congrArg List.length e; simpa [exLv] using this
  refine pk_ok (by omega) (by rw [e]; decide) ?_
  rw [e]
  decide
theorem ex_sc (e : xs.map (·.2) = exLv) : scoreM 2 4096 2 xs 0 = 1000 ∧ scoreM 2 4096 2 xs 1 = 1220 ∧ scoreM 2 4096 2 xs 2 = 1098 ∧ decide ((4 : Int) ≤ ((tabsI xs 0).length : Int)) = false ∧ xs.length = 4 := by
  obtain ⟨s0, s1, s2, s3, rfl⟩ := ex_xs e
  have t0 : tabsI [(s0, [tb 9 500 98 100, tb 12 500 99 107]), (s1, [tb 3 2000 97 99, tb 4 2000 101 112, tb 5 1000 113 122]), (s2, [tb 6 3000 100 102, tb 7 3000 103 105, tb 8 2000 107 108, tb 10 1000 120 122]), (s3, [tb 11 90000 97 122])] 0 = [tb 9 500 98 100, tb 12 500 99 107] := rfl
  have t1 : tabsI [(s0, [tb 9 500 98 100, tb 12 500 99 107]), (s1, [tb 3 2000 97 99, tb 4 2000 101 112, tb 5 1000 113 122]), (s2, [tb 6 3000 100 102, tb 7 3000 103 105, tb 8 2000 107 108, tb 10 1000 120 122]), (s3, [tb 11 90000 97 122])] ((1 : Nat) : Int) = [tb 3 2000 97 99, tb 4 2000 101 112, tb 5 1000 113 122] := rfl
  have t2 : tabsI [(s0, [tb 9 500 98 100, tb 12 500 99 107]), (s1, [tb 3 2000 97 99, tb 4 2000 101 112, tb 5 1000 113 122]), (s2, [tb 6 3000 100 102, tb 7 3000 103 105, tb 8 2000 107 108, tb 10 1000 120 122]), (s3, [tb 11 90000 97 122])] ((2 : Nat) : Int) = [tb 6 3000 100 102, tb 7 3000 103 105, tb 8 2000 107 108, tb 10 1000 120 122] := rfl
  refine ⟨?_, ?_, ?_, ?_, rfl⟩
  · unfold scoreM; rw [if_pos rfl, t0]; decide
  · unfold scoreM; rw [if_neg (by decide), t1]; decide
  · unfold scoreM; rw [if_neg (by decide), t2]; decide
  · rw [t0]; decide
theorem ex_scores (e : xs.map (·.2) = exLv) : (List.range (xs.length - 1)).map (scoreM 2 4096 2 xs) = [1000, 1220, 1098] := by
  obtain ⟨c0, c1, c2, _, hl⟩ := ex_sc e
  rw [hl]
  show [scoreM 2 4096 2 xs 0, scoreM 2 4096 2 xs 1, scoreM 2 4096 2 xs 2] = _
  rw [c0, c1, c2]
theorem ex_order (e : xs.map (·.2) = exLv) : IsOrder (xs.length - 1) (decide ((4 : Int) ≤ ((tabsI xs 0).length : Int))) (scoreM 2 4096 2 xs) [1, 2, 0] := by
  obtain ⟨c0, c1, c2, cd, hl⟩ := ex_sc e
  rw [cd, hl]
  generalize scoreM 2 4096 2 xs = sc at c0 c1 c2 ⊢
  refine ⟨by decide, fun i => ?_, ?_⟩
  · constructor
    · intro hi
      have : i = 1 ∨ i = 2 ∨ i = 0 := by simpa using hi
      rcases this with rfl | rfl | rfl
      · exact ⟨by decide, .inl (by omega)⟩
      · exact ⟨by decide, .inl (by omega)⟩
      · exact ⟨by decide, .inl (by omega)⟩
    · rintro ⟨hi, _⟩
      have hi' : i < 3 := hi
      have : i = 0 ∨ i = 1 ∨ i = 2 := by omega
      rcases this with rfl | rfl | rfl <;> simp
  · unfold bef
    simp [c0, c1, c2]
theorem ex_inputs (e : xs.map (·.2) = exLv) : inputsM 2 xs exP 1 = some exJ := by
  obtain ⟨s0, s1, s2, s3, rfl⟩ := ex_xs e
  rfl
theorem ex_next9 (e : xs.map (·.2) = exLv) : nextL 2 xs exP [9] (fun _ => false) [1, 2, 0] = some exJ := by
  unfold nextL
  have : inputsM 2 xs exP ((1 : Nat) : Int) = some exJ := ex_inputs e
  rw [this]
  rfl
theorem ex_next7 (e : xs.map (·.2) = exLv) : nextL 2 xs exP [7] (fun _ => false) [1, 2, 0] = none := by
  obtain ⟨s0, s1, s2, s3, rfl⟩ := ex_xs e
  rfl
theorem ex_s (hQ : ∀ h' vb ls xs, Keep h h' → Ver h h' vb ls xs → xs.map (·.2) = exLv → Q (.tuple ⟨[.agg ⟨[.int .i64 0, .int .i64 0, .int .i64 0, .int .i64 0, .int .i64 0, .int .i64 2, .int .i64 0, .int .i64 4, .int .i64 4, .int .i64 4096, .int .i64 2, .int .i64 0, .int .i64 2, .int .i64 0, .int .i64 0, .int .i64 0, .int .i64 0, .int .i64 0, .int .i64 0, .int .i64 0, .int .i64 0, .int .i64 0, .int .i64 0, .int .i64 0, .int .i64 0, .int .i64 0, .int .i64 0]⟩, .pointer (some ⟨vb, 0, none⟩)]⟩) h') : F48.T h Q := by
  unfold F48.T F48.G
  refine new_spec (k := 4) rfl (by decide) (by decide) fun h1 sb vb pm cm ps ls xs S0 ex0 => ⟨_, rfl, fun a b _ e => (by cases e), fun e => (by cases e), fun _ => ?_⟩
  unfold F74.T
  refine ⟨_, _, _, _, _, _, rfl, ⟨_, _, _, _, _, _, rfl, ⟨_, _, _, _, _, _, rfl, ⟨_, _, _, _, _, _, rfl, ⟨_, _, _, _, _, _, rfl, ⟨_, _, _, _, _, _, rfl, ⟨_, _, _, _, _, _, rfl, ⟨_, _, _, _, _, _, rfl, ⟨_, _, _, _, _, _, rfl, ⟨_, _, _, _, _, _, rfl, fun b hb b1 hb1 => ?_⟩⟩⟩⟩⟩⟩⟩⟩⟩⟩
  have S1 := S0.grow hb (.cells ⟨inV exIn⟩ 49 (0, 0))
  have S2 := S1.grow hb1 (.cells ⟨ptrV (List.replicate 4 ⟨#[]⟩)⟩ 9 (0, 0))
  have hgb := S0.V.L.k.dom b hb
  have KG := Keep.new hgb (.cells ⟨inV exIn⟩ 49 (0, 0))
  have xG := new_at h b (.cells ⟨inV exIn⟩ 49 (0, 0))
  have rG := new_row h b (inV exIn) 49
  have hgb1 := S1.V.L.k.dom b1 hb1
  have KG1 := Keep.new hgb1 (.cells ⟨ptrV (List.replicate 4 ⟨#[]⟩)⟩ 9 (0, 0))
  have rG1 := new_row (h.new b (.cells ⟨inV exIn⟩ 49 (0, 0))) b1 (ptrV (List.replicate 4 ⟨#[]⟩)) 9
  have rG' := KG1.row rG
  have E : EdAt ((h.new b (.cells ⟨inV exIn⟩ 49 (0, 0))).new b1 (.cells ⟨ptrV (List.replicate 4 ⟨#[]⟩)⟩ 9 (0, 0))) exEd ⟨none, 0, 0⟩ ⟨some ⟨b, 0, none⟩, 10, 10⟩ ⟨some ⟨b1, 0, none⟩, 4, 4⟩ := ⟨⟨rfl, .inl rfl⟩, rG', rG1⟩
  have hxl : xs.length = 4 := by have := congrArg List.length ex0; simpa using this
  refine apply_spec S2 E (by rw [hxl]; rfl) (by omega) (by omega) (by rw [ex0]; decide) (by decide) fun h10 c r vb' ls' xs' ptrs' _ S' R e1 e2 => ?_
  rw [ex0] at R
  obtain ⟨hc, hx⟩ := Res.one (good_nil 4).hulls R ex_res
  refine ⟨r, c, rfl, fun _ => ?_, fun h0 => absurd hc h0⟩
  have S3 := (S'.base KG1).base KG
  exact current_spec S3 ⟨_, rfl, hQ h10 vb' ls' xs' S3.V.L.k S3.V (hx hc)⟩
theorem known_s (hQ : ∀ h', Keep h h' → Q (.bool true) h') : F21.T h Q := by
  have O : CfOk 2 4 4 4096 2 2 := ⟨by decide, by decide, by decide, by decide, by decide, by decide⟩
  unfold F21.T F21.G
  refine ex_s fun h1 vb ls xs K1 V e => ⟨_, _, _, _, _, _, _, _, _, _, _, _, _, _, _, _, _, _, _, _, _, _, _, _, _, _, _, _, rfl, fun a b _ e => (by cases e), fun e => (by cases e), fun _ => ?_⟩
  have P := ex_ok e
  have h8 : (4 : Int) = (xs.length : Int) := by have := congrArg List.length e; simp [exLv] at this; omega
  refine scores_s V P O h8 fun h2 l K2 B2 N2 => ⟨l, rfl, fun b hb => ?_⟩
  rw [ex_scores e] at B2
  have K3 := Keep.new hb (.cells ⟨[.int .i64 1000, .int .i64 1220, .int .i64 1098]⟩ 3 (0, 0))
  have r3 := new_row h2 b [.int .i64 1000, .int .i64 1220, .int .i64 1098] 3
  generalize h2.new b (.cells ⟨[.int .i64 1000, .int .i64 1220, .int .i64 1098]⟩ 3 (0, 0)) = h3 at K3 r3 ⊢
  refine sameI_s (A := [1000, 1220, 1098]) (B := [1000, 1220, 1098]) (row_one (B2.keep K3)) r3 (by decide) (fun _ => ⟨_, rfl, fun _ => ?_, fun hh => Bool.noConfusion hh⟩) (fun hh => absurd rfl hh)
  have K13 := K2.trans K3
  refine order_s (V.keep K13) P O h8 fun h4 l1 o K4 B4 N4 hO => ⟨l1, rfl, fun b2 hb2 => ?_⟩
  obtain rfl := hO.one (ex_order e)
  have K5 := Keep.new hb2 (.cells ⟨[.int .i64 1, .int .i64 2, .int .i64 0]⟩ 3 (0, 0))
  have r5 := new_row h4 b2 [.int .i64 1, .int .i64 2, .int .i64 0] 3
  generalize h4.new b2 (.cells ⟨[.int .i64 1, .int .i64 2, .int .i64 0]⟩ 3 (0, 0)) = h5 at K5 r5 ⊢
  refine sameI_s (A := [1, 2, 0]) (B := [1, 2, 0]) (row_one (B4.keep K5)) r5 (by decide) (fun _ => ⟨_, rfl, fun _ => fun b4 hb4 => ?_, fun hh => Bool.noConfusion hh⟩) (fun hh => absurd rfl hh)
  have K6 := Keep.new hb4 (.cells ⟨ptrV exP⟩ 9 (0, 0))
  have r6 := new_row h5 b4 (ptrV exP) 9
  show F29.T 0 0 0 0 0 2 0 4 4 4096 2 0 2 0 0 0 0 0 0 0 0 0 0 0 0 0 0 _ _ _ (h5.new b4 (.cells ⟨ptrV exP⟩ 9 (0, 0))) _
  generalize h5.new b4 (.cells ⟨ptrV exP⟩ 9 (0, 0)) = h6 at K6 r6 ⊢
  have K16 := K13.trans (K4.trans (K5.trans K6))
  refine inputs_s (ptrs := exP) (V.keep K16) P O h8 r6 (by decide) (fun hin => absurd ((ex_inputs e).symm.trans hin) (by simp)) (fun j hin h7 u1 u2 K7 T1 N1 T2 N2 o1 o2 => ?_)
  obtain rfl : exJ = j := Option.some.inj ((ex_inputs e).symm.trans hin)
  refine ⟨_, u1, u2, _, false, fun hh => Bool.noConfusion hh, fun _ => ⟨true, fun _ => ⟨rfl, fun b7 hb7 b8 hb8 => ?_⟩, fun hh => Bool.noConfusion hh⟩⟩
  have K8 := Keep.new hb7 (.cells ⟨ptrV exP⟩ 9 (0, 0))
  have r8 := new_row h7 b7 (ptrV exP) 9
  have K9 : Keep (h7.new b7 (.cells ⟨ptrV exP⟩ 9 (0, 0))) ((h7.new b7 (.cells ⟨ptrV exP⟩ 9 (0, 0))).new b8 (.cells ⟨uvs [9]⟩ 33 (0, 0))) := Keep.new hb8 (.cells ⟨uvs [9]⟩ 33 (0, 0))
  have r9 := new_row (h7.new b7 (.cells ⟨ptrV exP⟩ 9 (0, 0))) b8 (uvs [9]) 33
  have r8' := K9.row r8
  show F50.T 0 0 0 0 0 2 0 4 4 4096 2 0 2 0 0 0 0 0 0 0 0 0 0 0 0 0 0 _ _ _ ((h7.new b7 (.cells ⟨ptrV exP⟩ 9 (0, 0))).new b8 (.cells ⟨uvs [9]⟩ 33 (0, 0))) _
  have K89 := K8.trans K9
  generalize (h7.new b7 (.cells ⟨ptrV exP⟩ 9 (0, 0))).new b8 (.cells ⟨uvs [9]⟩ 33 (0, 0)) = h9 at K89 r8' r9 ⊢
  have K19 := K16.trans (K7.trans K89)
  refine next_s (ptrs := exP) (lk := [9]) (V.keep K19) P O h8 r8' r9 (show (1 : Nat) < 9223372036854775807 by decide) (fun o hO hn => ?_) (fun o j hO hn h10 v1 v2 K10 T3 N3 T4 N4 _ _ => ?_)
  · obtain rfl := hO.one (ex_order e)
    exact absurd ((ex_next9 e).symm.trans hn) (by simp)
  obtain rfl := hO.one (ex_order e)
  obtain rfl : exJ = j := Option.some.inj ((ex_next9 e).symm.trans hn)
  refine ⟨_, v1, v2, _, false, fun hh => Bool.noConfusion hh, fun _ => ⟨_, rfl, fun b10 hb10 b11 hb11 => ?_⟩⟩
  have K11 := Keep.new hb10 (.cells ⟨ptrV exP⟩ 9 (0, 0))
  have r11 := new_row h10 b10 (ptrV exP) 9
  have K12 : Keep (h10.new b10 (.cells ⟨ptrV exP⟩ 9 (0, 0))) ((h10.new b10 (.cells ⟨ptrV exP⟩ 9 (0, 0))).new b11 (.cells ⟨uvs [7]⟩ 33 (0, 0))) := Keep.new hb11 (.cells ⟨uvs [7]⟩ 33 (0, 0))
  have r12 := new_row (h10.new b10 (.cells ⟨ptrV exP⟩ 9 (0, 0))) b11 (uvs [7]) 33
  have r11' := K12.row r11
  show F50.T 0 0 0 0 0 2 0 4 4 4096 2 0 2 0 0 0 0 0 0 0 0 0 0 0 0 0 0 _ _ _ ((h10.new b10 (.cells ⟨ptrV exP⟩ 9 (0, 0))).new b11 (.cells ⟨uvs [7]⟩ 33 (0, 0))) _
  have K112 := K11.trans K12
  generalize (h10.new b10 (.cells ⟨ptrV exP⟩ 9 (0, 0))).new b11 (.cells ⟨uvs [7]⟩ 33 (0, 0)) = h12 at K112 r11' r12 ⊢
  have K1_12 := K19.trans (K10.trans K112)
  refine next_s (ptrs := exP) (lk := [7]) (V.keep K1_12) P O h8 r11' r12 (show (1 : Nat) < 9223372036854775807 by decide) (fun o hO hn h13 K13 => ?_) (fun o j hO hn => by
    obtain rfl := hO.one (ex_order e)
    exact absurd ((ex_next7 e).symm.trans hn) (by simp))
  obtain rfl := hO.one (ex_order e)
  have Ku : Keep h7 h13 := K89.trans (K10.trans (K112.trans K13))
  have Kv : Keep h10 h13 := K112.trans K13
  have T1' : TB h13 u1 [tb 4 2000 101 112] := Buf.keep Ku T1
  have T2' : TB h13 u2 [tb 6 3000 100 102, tb 7 3000 103 105] := Buf.keep Ku T2
  have T3' : TB h13 v1 [tb 4 2000 101 112] := Buf.keep Kv T3
  have T4' : TB h13 v2 [tb 6 3000 100 102, tb 7 3000 103 105] := Buf.keep Kv T4
  have m1 := tb_new T1'
  have m2 := tb_new T2'
  refine ⟨0, ⟨none, 0, 0⟩, ⟨none, 0, 0⟩, _, false, fun hh => Bool.noConfusion hh, fun _ => ⟨1, rfl, fun _ => ?_, fun hh => absurd (by rw [m1]; rfl) hh⟩⟩
  obtain ⟨b50, o50, a1, a2, n, a3, _, _, _, _, _, _, _, _, _, _, rfl⟩ := tab_rd (P := []) (R := []) (t := tb 4 2000 101 112) (Buf.row T1') (i := 0) rfl (K := fun b o a c d e s s1 => a = 4) (fun _ _ => rfl)
  refine ⟨b50, o50, a1, a2, 4, a3, fun _ => ⟨fun _ => ?_, fun hh => absurd (by rw [m2]; rfl) hh⟩, fun hh => absurd rfl hh⟩
  obtain ⟨b51, o51, a4, a5, n', a6, _, _, _, _, _, _, _, _, _, _, rfl⟩ := tab_rd (P := [tb 6 3000 100 102]) (R := []) (t := tb 7 3000 103 105) (Buf.row T2') (i := 1) rfl (K := fun b o a c d e s s1 => a = 7) (fun _ _ => rfl)
  refine ⟨b51, o51, a4, a5, 7, a6, fun _ => ⟨fun _ => ⟨fun _ => ?_, fun hh => absurd rfl hh⟩, fun hh => absurd rfl hh⟩, fun hh => absurd rfl hh⟩
  refine sameJ_s (i := exJ) (j := exJ) (Buf.row T3') (Buf.row T4') (Buf.row T1') (Buf.row T2') (by decide) (by decide) (fun _ => ⟨_, rfl, fun _ => ⟨fun _ => ?_, fun hh => absurd rfl hh⟩, fun hh => Bool.noConfusion hh⟩) (fun hh => absurd rfl hh)
  exact hQ h13 (K1.trans (K1_12.trans K13))
end
end Go.Eng.Ytbjnlacacapjiaa
end
section
set_option maxRecDepth 100000
set_option maxHeartbeats 1000000
namespace Go.Eng.Ytbjnlacacapjiaa
theorem overM_mem {a b : ByteArray} {t : Tab} {l : List Tab} : t ∈ overM a b l ↔ t ∈ l ∧ ¬ Bl t.greatest a ∧ ¬ Bl b t.least := by
  unfold overM
  rw [List.mem_filter]
  have e : ∀ x y : ByteArray, (!blB x y) = true ↔ ¬ Bl x y := fun x y => by
    rw [Bool.not_eq_true', ← Bool.not_eq_true]
    exact not_congr blB_t
  rw [Bool.and_eq_true, e, e]
theorem sMin_self (a : ByteArray) : sMin a a = a := by unfold sMin; split <;> rfl
theorem sMax_self (a : ByteArray) : sMax a a = a := by unfold sMax; split <;> rfl
theorem hull_one (t : Tab) : hullM [t] = (t.least, t.greatest) := by
  unfold hullM
  simp only [List.foldl_cons, List.foldl_nil, sMin_self, sMax_self]
theorem behind_any' (ts : List Tab) (hn : ts ≠ []) (key : ByteArray) : ∃ k, ∃ hk : k < ts.length, behindM ts key = ts[k] := by
  have hm : behindM ts key ∈ ts := by
    unfold behindM
    cases hf : ts.find? fun t => blB key t.least with
    | some t => exact List.mem_of_find?_eq_some hf
    | none =>
      cases ts with
      | nil => exact absurd rfl hn
      | cons t ts => exact List.mem_cons_self
  obtain ⟨k, hk, e⟩ := List.mem_iff_getElem.1 hm
  exact ⟨k, hk, e.symm⟩
structure FairJ (xs : List (Sl × List Tab)) (fan n : Int) (j : Jb) : Prop where
  ne : j.up ≠ []
  lv : j.lv = n
  r0 : 0 ≤ n
  r1 : n < (xs.length : Int) - 1
  upm : ∀ t ∈ j.up, t ∈ tabsI xs n
  lom : ∀ t ∈ j.lo, t ∈ overM (hullM j.up).1 (hullM j.up).2 (tabsI xs (n + 1))
  nxt : ∀ t ∈ overM (hullM j.up).1 (hullM j.up).2 (tabsI xs (n + 1)), t ∈ j.lo ∨ (j.cut ≠ ⟨#[]⟩ ∧ ¬ Bl t.least j.cut)
  z : n = 0 → j.up = tabsI xs 0 ∧ j.cut = ⟨#[]⟩ ∧ j.mv = false
  mv : n ≠ 0 → j.mv = decide (j.lo = [] ∧ n + 2 < (xs.length : Int))
  cut : n ≠ 0 → j.cut ≠ ⟨#[]⟩ → Bl (hullM j.up).1 j.cut ∧ ¬ Bl (hullM j.up).2 j.cut ∧ (j.lo.length : Int) = fan
  one : n ≠ 0 → j.up.length = 1 ∧ (j.lo.length : Int) ≤ fan
section
variable {xs : List (Sl × List Tab)}
theorem tabs_in {m : Int} (h : tabsI xs m ≠ []) : ∃ i : Nat, m = (i : Int) ∧ (xs.map (·.2))[i]? = some (tabsI xs m) := by
  unfold tabsI at h ⊢
  by_cases hm : m < 0
  · rw [if_pos hm] at h; exact absurd rfl h
  · rw [if_neg hm] at h ⊢
    obtain ⟨i, rfl⟩ := Int.eq_ofNat_of_zero_le (show 0 ≤ m by omega)
    rw [Int.toNat_natCast] at h ⊢
    cases hx : xs[i]? with
    | none => rw [hx] at h; exact absurd rfl h
    | some x => exact ⟨i, rfl, by rw [List.getElem?_map, hx]; rfl⟩
theorem tabs_hull (G : GoodL (xs.map (·.2))) (m : Int) : ∀ t ∈ tabsI xs m, Le t.least t.greatest := fun t ht => by
  obtain ⟨i, _, hi⟩ := tabs_in (m := m) (fun h => by rw [h] at ht; cases ht)
  exact G.hulls _ (List.mem_of_getElem? hi) t ht
theorem tabs_adj (G : GoodL (xs.map (·.2))) {m : Int} (h1 : 1 ≤ m) : Adj (tabsI xs m) := by
  by_cases hn : tabsI xs m = []
  · rw [hn]; intro i x y h; simp at h
  · obtain ⟨i, rfl, hi⟩ := tabs_in hn
    exact G.adj i _ (by omega) hi
theorem adj_pw {us : List Tab} (A : Adj us) (H : ∀ t ∈ us, Le t.least t.greatest) : us.Pairwise fun x y => Bl x.greatest y.least := by
  rw [List.pairwise_iff_getElem]
  intro i j hi hj hij
  have h1 : Bl us[i].greatest us[i + 1].least := A i _ _ (List.getElem?_eq_getElem hi) (List.getElem?_eq_getElem (by omega))
  by_cases he : i + 1 = j
  · subst he; exact h1
  · exact h1.trans ((List.pairwise_iff_getElem.1 (adj_strict A H)) (i + 1) j (by omega) hj (by omega))
theorem fairJ {fan n : Int} {ptrs : List ByteArray} {j : Jb} (G : GoodL (xs.map (·.2))) (hf : 1 ≤ fan) (e : inputsM fan xs ptrs n = some j) : FairJ xs fan n j := by
  unfold inputsM at e
  by_cases c1 : n < 0 ∨ (xs.length : Int) - 1 ≤ n
  · rw [if_pos c1] at e; cases e
  rw [if_neg c1] at e
  by_cases c2 : tabsI xs n = []
  · rw [if_pos c2] at e; cases e
  rw [if_neg c2] at e
  by_cases c3 : n = 0
  · subst c3
    rw [if_pos rfl] at e
    cases e
    exact ⟨c2, rfl, Int.le_refl _, by omega, fun t ht => ht, fun t ht => ht, fun t ht => .inl ht, fun _ => ⟨rfl, rfl, rfl⟩, fun h => absurd rfl h, fun h => absurd rfl h, fun h => absurd rfl h⟩
  rw [if_neg c3] at e
  dsimp only at e
  have hup : ∀ t ∈ [behindM (tabsI xs n) (ptrs[n.toNat]?.getD ⟨#[]⟩)], t ∈ tabsI xs n := fun t ht => by
    rw [List.mem_singleton.1 ht]
    obtain ⟨k, hk, ek⟩ := behind_any' (tabsI xs n) c2 (ptrs[n.toNat]?.getD ⟨#[]⟩)
    rw [ek]; exact List.getElem_mem hk
  generalize behindM (tabsI xs n) (ptrs[n.toNat]?.getD ⟨#[]⟩) = t at e hup
  have h1 : (hullM [t]).1 = t.least := by rw [hull_one]
  have h2 : (hullM [t]).2 = t.greatest := by rw [hull_one]
  have A := tabs_adj G (m := n + 1) (by omega)
  have H := tabs_hull G (n + 1)
  have pw : (overM t.least t.greatest (tabsI xs (n + 1))).Pairwise fun x y => Bl x.greatest y.least := (adj_pw A H).filter _
  have hm : ∀ u ∈ overM t.least t.greatest (tabsI xs (n + 1)), u ∈ tabsI xs (n + 1) ∧ ¬ Bl u.greatest t.least ∧ ¬ Bl t.greatest u.least := fun u hu => overM_mem.1 hu
  have emv : decide (overM t.least t.greatest (tabsI xs (n + 1)) = [] ∧ n + 1 ≠ (xs.length : Int) - 1) = decide (overM t.least t.greatest (tabsI xs (n + 1)) = [] ∧ n + 2 < (xs.length : Int)) := by
    apply decide_eq_decide.2
    constructor
    · rintro ⟨a, b⟩; exact ⟨a, by omega⟩
    · rintro ⟨a, b⟩; exact ⟨a, by omega⟩
  obtain ⟨f, rfl⟩ := Int.eq_ofNat_of_zero_le (show 0 ≤ fan by omega)
  rw [Int.toNat_natCast] at e
  rw [emv] at e
  generalize hlo : overM t.least t.greatest (tabsI xs (n + 1)) = lo at e pw hm
  cases hc : lo[f]? with
  | none =>
    rw [hc] at e
    cases e
    refine ⟨by simp, rfl, by omega, by omega, hup, fun u hu => by rw [h1, h2, hlo]; exact hu, fun u hu => by rw [h1, h2, hlo] at hu; exact .inl hu, fun h => absurd h c3, fun _ => rfl, fun _ h => absurd rfl h, fun _ => ⟨rfl, ?_⟩⟩
    have := List.getElem?_eq_none_iff.1 hc
    show ((lo.length : Nat) : Int) ≤ f
    omega
  | some c =>
    rw [hc] at e
    cases e
    obtain ⟨hfl, rfl⟩ := List.getElem?_eq_some_iff.1 hc
    have pg := List.pairwise_iff_getElem.1 pw
    have h0 : Bl (lo[0]'(by omega)).greatest lo[f].least := pg 0 f (by omega) hfl (by omega)
    have m0 := hm (lo[0]'(by omega)) (List.getElem_mem _)
    have mf := hm lo[f] (List.getElem_mem _)
    refine ⟨by simp, rfl, by omega, by omega, hup, fun u hu => by rw [h1, h2, hlo]; exact List.mem_of_mem_take hu, fun u hu => ?_, fun h => absurd h c3, fun _ => ?_, fun _ _ => ⟨?_, ?_, ?_⟩, fun _ => ⟨rfl, ?_⟩⟩
    · rw [h1, h2, hlo] at hu
      obtain ⟨k, hk, rfl⟩ := List.mem_iff_getElem.1 hu
      by_cases hkf : k < f
      · exact .inl (List.mem_iff_getElem.2 ⟨k, by rw [List.length_take]; omega, by rw [List.getElem_take]⟩)
      · refine .inr ⟨fun h => ?_, ?_⟩
        · dsimp only at h
          rw [h] at h0
          exact not_bl_nil _ h0
        · dsimp only
          by_cases hke : k = f
          · subst hke; exact Bl.irr
          · have := pg f k hfl hk (by omega)
            exact ((H lo[f] mf.1).bl this).asym
    · dsimp only
      apply decide_eq_decide.2
      have hl0 : lo ≠ [] := fun h => by rw [h] at hfl; simp at hfl
      have ht0 : lo.take f ≠ [] := fun h => by
        have := congrArg List.length h
        rw [List.length_take] at this
        have : min f lo.length = 0 := this
        omega
      exact ⟨fun h => absurd h.1 hl0, fun h => absurd h.1 ht0⟩
    · rw [h1]
      have : Le t.least (lo[0]'(by omega)).greatest := m0.2.1
      exact this.bl h0
    · rw [h2]; exact mf.2.2
    · show ((lo.take f).length : Int) = f
      rw [List.length_take]; omega
    · show ((lo.take f).length : Int) ≤ f
      rw [List.length_take]; omega
theorem next_facts {fan : Int} {ptrs : List ByteArray} {lk : List Int} {j : Jb} : ∀ (o : List Nat) (R : Nat → Bool), nextL fan xs ptrs lk R o = some j → ∃ (A : List Nat) (i : Nat) (B : List Nat), o = A ++ i :: B ∧ inputsM fan xs ptrs (i : Int) = some j ∧ hit lk j = false ∧ R i = false ∧ R (i + 1) = false ∧ ∀ a ∈ A, inputsM fan xs ptrs (a : Int) ≠ none → a ≠ i ∧ a ≠ i + 1 ∧ a + 1 ≠ i
  | [], R, h => by unfold nextL at h; cases h
  | i :: w, R, h => by
    unfold nextL at h
    cases hin : inputsM fan xs ptrs (i : Int) with
    | none =>
      rw [hin] at h
      obtain ⟨A, k, B, e, h1, h2, h3, h4, h5⟩ := next_facts w R h
      refine ⟨i :: A, k, B, by rw [e]; rfl, h1, h2, h3, h4, fun a ha hn => ?_⟩
      rcases List.mem_cons.1 ha with rfl | ha
      · exact absurd hin hn
      · exact h5 a ha hn
    | some w' =>
      rw [hin] at h
      dsimp only at h
      by_cases hc : R i = false ∧ R (i + 1) = false ∧ hit lk w' = false
      · rw [if_pos hc] at h
        cases h
        exact ⟨[], i, w, rfl, hin, hc.2.2, hc.1, hc.2.1, fun a ha => by cases ha⟩
      · rw [if_neg hc] at h
        obtain ⟨A, k, B, e, h1, h2, h3, h4, h5⟩ := next_facts w _ h
        unfold setR at h3 h4
        have n3 : ¬ (k = i ∨ k = i + 1) := fun c => by rw [if_pos c] at h3; cases h3
        have n4 : ¬ (k + 1 = i ∨ k + 1 = i + 1) := fun c => by rw [if_pos c] at h4; cases h4
        rw [if_neg n3] at h3
        rw [if_neg n4] at h4
        refine ⟨i :: A, k, B, by rw [e]; rfl, h1, h2, h3, h4, fun a ha hn => ?_⟩
        rcases List.mem_cons.1 ha with rfl | ha
        · omega
        · exact h5 a ha hn
theorem inputs_lv {fan n : Int} {ptrs : List ByteArray} {j : Jb} (e : inputsM fan xs ptrs n = some j) : j.lv = n := by
  unfold inputsM at e
  split at e
  · cases e
  split at e
  · cases e
  split at e
  · next h => cases e; exact h.symm
  dsimp only at e
  split at e <;> (cases e; rfl)
theorem next_first {fan : Int} {ptrs : List ByteArray} {lk : List Int} {i : Nat} {w : List Nat} {v : Jb} (hn : (i :: w).Nodup) (hin : inputsM fan xs ptrs (i : Int) = some v) : hit lk v = false ↔ ∃ j, nextL fan xs ptrs lk (fun _ => false) (i :: w) = some j ∧ j.lv = (i : Int) := by
  constructor
  · intro h
    refine ⟨v, ?_, inputs_lv hin⟩
    unfold nextL
    rw [hin]
    dsimp only
    rw [if_pos ⟨rfl, rfl, h⟩]
  · rintro ⟨j, hj, hl⟩
    unfold nextL at hj
    rw [hin] at hj
    dsimp only at hj
    by_cases hc : hit lk v = false
    · exact hc
    · exfalso
      rw [if_neg (fun c => hc c.2.2)] at hj
      obtain ⟨A, k, B, e, h1, _⟩ := next_facts w _ hj
      have := inputs_lv h1
      have hk : k = i := by omega
      subst hk
      exact (List.nodup_cons.1 hn).1 (by rw [e]; simp)
theorem want_tabs {trig base mult stop : Int} {i : Nat} (ht : 1 ≤ trig) (hs : 1 ≤ stop) (h : want (decide (stop ≤ ((tabsI xs 0).length : Int))) (scoreM trig base mult xs) i) : tabsI xs (i : Int) ≠ [] := fun e => by
  rcases h with h | ⟨rfl, h⟩
  · unfold scoreM at h
    split at h
    · next h0 =>
      subst h0
      have : tabsI xs 0 = [] := e
      rw [this] at h
      simp at h
    · rw [e] at h
      unfold weightW at h
      simp at h
  · have : tabsI xs 0 = [] := e
    rw [this] at h
    simp at h
    omega
theorem inputs_some {fan : Int} {ptrs : List ByteArray} {n : Int} (h0 : 0 ≤ n) (h1 : n < (xs.length : Int) - 1) : (∃ j, inputsM fan xs ptrs n = some j) ↔ tabsI xs n ≠ [] := by
  unfold inputsM
  rw [if_neg (by omega)]
  by_cases c2 : tabsI xs n = []
  · rw [if_pos c2]
    exact ⟨fun ⟨j, h⟩ => (by cases h), fun h => absurd c2 h⟩
  · rw [if_neg c2]
    refine ⟨fun _ => c2, fun _ => ?_⟩
    split
    · exact ⟨_, rfl⟩
    · dsimp only
      split <;> exact ⟨_, rfl⟩
end
end Go.Eng.Ytbjnlacacapjiaa
end
section
set_option maxRecDepth 100000
set_option maxHeartbeats 1000000
namespace Go.Eng.Ytbjnlacacapjiaa
def frB (lk : List Int) (A : List Tab) : Bool := lk.all fun n => !(A.map Tab.num).contains n
theorem frB_hit (lk : List Int) (j : Jb) : (frB lk j.up && frB lk j.lo) = !hit lk j := by
  have key : ∀ A : List Tab, frB lk A = !(A.any fun t => lk.contains t.num) := fun A => by
    unfold frB
    rw [Bool.eq_iff_iff]
    simp only [List.all_eq_true, Bool.not_eq_true', List.any_eq_false, List.contains_eq_mem, decide_eq_false_iff_not, List.mem_map, decide_eq_true_eq, not_exists, not_and]
    exact ⟨fun h t ht hm => h _ hm t ht rfl, fun h n hn t ht e => h t ht (by rw [e]; exact hn)⟩
  rw [key, key]
  unfold hit
  rw [List.any_append, Bool.not_or]
section
variable {g h h' : Hp} {vb b : Nat} {ls l l1 l2 l3 : Sl} {xs : List (Sl × List Tab)} {Q : Value → Hp → Prop} {n n1 n2 n3 n4 n5 n6 n7 n8 n9 n10 n11 n12 n13 n14 n15 n16 n17 n18 n19 n20 n21 n22 n23 n24 n25 n26 : Int}
theorem free_s {A : List Tab} {lk : List Int} (BA : h.row l.a (l.n * 6) (tabV A)) (BL : h.row l1.a l1.n (uvs lk)) (hA : A.length ≤ 60000) (hl : l1.n < 9223372036854775807) (hQ : Q (.bool (frB lk A)) h) : F65.T l l1 h Q := by
  have hn : l1.n = lk.length := by have := BL.1; unfold uvs at this; rw [List.length_map] at this; omega
  unfold F65.T F65.G
  refine ⟨fun k h1 => h1 = h ∧ ∃ P R, lk = P ++ R ∧ k = (P.length : Int) ∧ ∀ n ∈ P, n ∉ A.map Tab.num, fun k _ => lk.length - k.toNat, ⟨rfl, [], _, rfl, rfl, fun n hn => (by cases hn)⟩, ?_⟩
  rintro k h1 ⟨rfl, P, R, e, rfl, hP⟩
  have e2 := congrArg List.length e
  rw [List.length_append] at e2
  refine ⟨fun hlt => ?_, fun hge => ?_⟩
  · rcases R with _ | ⟨u, R⟩
    · exact absurd hlt (by simp at e2; omega)
    rw [List.length_cons] at e2
    obtain ⟨b, o, ha, hat⟩ := row_get BL (i := P.length) (by omega)
    refine ⟨b, o, ha, ⟨by omega, hlt⟩, u, ?_, ?_⟩
    · rw [Int.toNat_natCast, hat P.length (by omega), e]; unfold uvs; simp
    · refine in_s BA hA (fun hm => ⟨_, rfl, fun _ => ?_, fun hh => Bool.noConfusion hh⟩) (fun hm => ⟨_, rfl, fun hh => Bool.noConfusion hh, fun _ => ?_⟩)
      · have : frB lk A = false := by
          unfold frB
          rw [List.all_eq_false]
          exact ⟨u, by rw [e]; simp, by simpa using hm⟩
        rw [this] at hQ; exact hQ
      · rw [next_i (n := lk.length) (by omega) (by omega)]
        refine ⟨⟨rfl, P ++ [u], R, by rw [e]; simp, by simp, fun n hn => ?_⟩, by dsimp only; omega⟩
        rcases List.mem_append.1 hn with hn | hn
        · exact hP n hn
        · rw [List.mem_singleton.1 hn]; exact hm
  · have hR : R = [] := List.eq_nil_of_length_eq_zero (by omega)
    subst hR
    rw [List.append_nil] at e
    have : frB lk A = true := by
      unfold frB
      rw [List.all_eq_true]
      intro n hn
      have := hP n (by rw [← e]; exact hn)
      simpa using this
    rw [this] at hQ; exact hQ
theorem level_s {o : List Nat} {n : Int} (B : h.row l.a l.n (iV o)) (hl : o.length ≤ 60000) (hT : ∀ k : Nat, o[k]?.map (fun i : Nat => (i : Int)) = some n → (∀ i ∈ o.take k, (i : Int) ≠ n) → Q (.int .i64 (k : Int)) h) (hF : (∀ i ∈ o, (i : Int) ≠ n) → Q (.int .i64 (-1)) h) : F28.T l n h Q := by
  have hn : l.n = o.length := by have := B.1; rw [iV_len] at this; omega
  unfold F28.T
  refine ⟨fun k h1 => h1 = h ∧ ∃ i : Nat, k = (i : Int) ∧ i ≤ o.length ∧ ∀ x ∈ o.take i, (x : Int) ≠ n, fun k _ => o.length - k.toNat, ⟨rfl, 0, rfl, Nat.zero_le _, fun x hx => (by cases hx)⟩, ?_⟩
  rintro k h1 ⟨rfl, i, rfl, hi, hP⟩
  refine ⟨fun hlt => ?_, fun hge => ?_⟩
  · have hio : i < o.length := by omega
    obtain ⟨b, o', ha, hat⟩ := row_get B (i := i) (by omega)
    refine ⟨b, o', ha, ⟨by omega, hlt⟩, (o[i] : Int), ?_, fun he => ?_, fun hne => ?_⟩
    · rw [Int.toNat_natCast, hat i (by omega)]; unfold iV; rw [List.getElem?_map, List.getElem?_eq_getElem hio]; rfl
    · exact hT i (by rw [List.getElem?_eq_getElem hio, ← he]; rfl) hP
    · rw [next_i (n := 70000) (by omega) (by omega)]
      refine ⟨⟨rfl, i + 1, rfl, hio, fun x hx => ?_⟩, by dsimp only; omega⟩
      rw [List.take_add_one, List.getElem?_eq_getElem hio] at hx
      rcases List.mem_append.1 hx with hx | hx
      · exact hP x hx
      · have : x = o[i] := by simpa using hx
        rw [this]; exact hne
  · have : o.take i = o := List.take_of_length_le (by omega)
    rw [this] at hP
    exact hF hP
theorem over_t {n n1 n2 n3 n4 n5 n6 n7 : Int} {s s1 s2 s3 : ByteArray} (h1 : ¬ Bl s1 s2) (h2 : ¬ Bl s3 s) (hQ : Q (.bool true) h) : F64.T n n1 n2 n3 s s1 n4 n5 n6 n7 s2 s3 h Q :=
  ⟨fun c => absurd ((sLt_bl _ _).1 c) h1, fun _ => ⟨fun c => absurd ((sLt_bl _ _).1 c) h2, fun _ => hQ⟩⟩
theorem over_f {n n1 n2 n3 n4 n5 n6 n7 : Int} {s s1 s2 s3 : ByteArray} (h1 : Bl s1 s2 ∨ Bl s3 s) (hQ : Q (.bool false) h) : F64.T n n1 n2 n3 s s1 n4 n5 n6 n7 s2 s3 h Q :=
  ⟨fun c => hQ, fun c => ⟨fun c' => hQ, fun c' => absurd h1 (by rw [sLt_bl] at c c'; exact fun h => h.elim c c')⟩⟩
theorem fair_s {j : Jb} {q0 : Int} (V : Ver g h vb ls xs) (P : PkOk xs) (F : FairJ xs n12 q0 j) (h8 : n8 = (xs.length : Int)) (U : TB h l j.up) (L : TB h l1 j.lo) (zu : j.up.length ≤ 60000) (zl : j.lo.length ≤ 60000)
    (hQ : ∀ h', Keep h h' → Q (.bool true) h') : F30.T n n1 n2 n3 n4 n5 n6 n7 n8 n9 n10 n11 n12 n13 n14 n15 n16 n17 n18 n19 n20 n21 n22 n23 n24 n25 n26 (some ⟨vb, 0, none⟩) q0 l l1 j.cut j.mv h Q := by
  have hx := P.len
  have r0 := F.r0
  have r1 := F.r1
  have un := tb_new U
  have ln := tb_new L
  obtain ⟨t0, rest, eup⟩ : ∃ t rest, j.up = t :: rest := by
    cases hu : j.up with
    | nil => exact absurd hu F.ne
    | cons t rest => exact ⟨t, rest, rfl⟩
  have ul : 0 < j.up.length := by rw [eup]; simp
  unfold F30.T F30.G
  subst h8
  rw [wrap_i64 (n := (xs.length : Int) - 1) (by omega) (by omega), wrap_i64 (n := q0 + 1) (by omega) (by omega), wrap_i64 (n := q0 + 2) (by omega) (by omega)]
  refine ⟨fun c => absurd c (by omega), fun _ => ⟨fun c => absurd c (by omega), fun _ => ⟨fun c => absurd c (by omega), fun _ => ?_⟩⟩⟩
  have U0 := Buf.row U
  rw [eup] at U0
  refine tab_rd (P := []) U0 rfl fun b o => ?_
  refine ⟨fun k _ _ _ _ s3 s4 h1 => Keep h h1 ∧ ∃ A B, j.up = A ++ B ∧ k = (A.length : Int) ∧ (s3, s4) = A.foldl (fun p u => (sMin p.1 u.least, sMax p.2 u.greatest)) (t0.least, t0.greatest), fun k _ _ _ _ _ _ _ => j.up.length - k.toNat, ⟨Keep.refl _, [], _, rfl, rfl, rfl⟩, ?_⟩
  rintro k q1 q2 q3 q4 s3 s4 h1 ⟨K1, A, B, e, rfl, es⟩
  have e2 := congrArg List.length e
  rw [List.length_append] at e2
  refine ⟨fun hlt => ?_, fun hge => ?_⟩
  · rcases B with _ | ⟨u, B⟩
    · exact absurd hlt (by simp at e2; omega)
    rw [List.length_cons] at e2
    have U1 := Buf.row (Buf.keep K1 U)
    rw [e] at U1
    obtain ⟨b2, o1, a1, a2, m, a3, _, _, _, _, _, _, s5, a4, s6, a5, rfl, rfl, rfl⟩ := tab_rd U1 (i := (A.length : Int)) rfl (K := fun b o a c d e s s1 => a = u.num ∧ s = u.least ∧ s1 = u.greatest) (fun _ _ => ⟨rfl, rfl, rfl⟩)
    refine ⟨b2, o1, a1, a2, u.num, a3, ?_⟩
    refine tables_s (V.keep K1) P.sz fun h2 l2 K2 B2 _ => ⟨l2, rfl, K2.at a3, ?_⟩
    refine in_s (Buf.row B2) (P.tl q0) (fun _ => ⟨_, rfl, fun _ => ?_, fun hh => Bool.noConfusion hh⟩) (fun hh => absurd (List.mem_map.2 ⟨u, F.upm u (by rw [e]; simp), rfl⟩) hh)
    refine ⟨b2, o1, a1, a2, u.least, K2.at a4, b2, o1, a1, a2, u.greatest, K2.at a5, K2.at a5, ?_⟩
    rw [next_i (n := 70000) (by omega) (by omega)]
    refine ⟨⟨K1.trans K2, A ++ [u], B, by rw [e]; simp, by simp, ?_⟩, by dsimp only; omega⟩
    rw [List.foldl_append, ← es]; rfl
  have hB : B = [] := List.eq_nil_of_length_eq_zero (by omega)
  subst hB
  rw [List.append_nil] at e
  have hull : hullM j.up = (s3, s4) := by
    rw [es, ← e, eup]; rfl
  have lom := F.lom
  have nxt := F.nxt
  have fcut := F.cut
  rw [hull] at lom nxt fcut
  dsimp only at lom nxt fcut
  refine tables_s (V.keep K1) P.sz fun h4 l3 K4 B4 _ => ⟨l3, rfl, ?_⟩
  have n3 := tb_new B4
  have z3 := P.tl (q0 + 1)
  have K14 := K1.trans K4
  refine ⟨fun k h5 => Keep h4 h5 ∧ ∃ i : Nat, k = (i : Int) ∧ i ≤ j.lo.length, fun k _ => j.lo.length - k.toNat, ⟨Keep.refl _, 0, rfl, Nat.zero_le _⟩, ?_⟩
  rintro k h5 ⟨K5, i, rfl, hi⟩
  have L5 : TB h5 l1 j.lo := Buf.keep (K14.trans K5) L
  have B5 : TB h5 l3 (tabsI xs (q0 + 1)) := Buf.keep K5 B4
  refine ⟨fun hlt => ?_, fun hge => ?_⟩
  · have hil : i < j.lo.length := by omega
    obtain ⟨C, u, D, e5, rfl⟩ : ∃ C u D, j.lo = C ++ u :: D ∧ C.length = i := by
      refine ⟨j.lo.take i, j.lo[i], j.lo.drop (i + 1), ?_, by rw [List.length_take]; omega⟩
      have e := List.take_append_drop i j.lo
      rw [List.drop_eq_getElem_cons hil] at e
      exact e.symm
    have r5 := Buf.row L5
    rw [e5] at r5
    have hu := overM_mem.1 (lom u (by rw [e5]; simp))
    obtain ⟨b6, o4, a1, a2, m, a3, _, _, _, _, _, _, _, _, _, _, rfl⟩ := tab_rd r5 (i := (C.length : Int)) rfl (K := fun b o a c d e s s1 => a = u.num) (fun _ _ => rfl)
    refine ⟨b6, o4, a1, a2, u.num, a3, ?_⟩
    refine in_s (Buf.row B5) z3 (fun _ => ⟨_, rfl, fun _ => ?_, fun hh => Bool.noConfusion hh⟩) (fun hh => absurd (List.mem_map.2 ⟨u, hu.1, rfl⟩) hh)
    refine tab_rd r5 rfl fun b8 o5 => ?_
    refine over_t hu.2.1 hu.2.2 ⟨_, rfl, fun _ => ?_, fun hh => Bool.noConfusion hh⟩
    rw [next_i (n := 70000) (by omega) (by omega)]
    exact ⟨⟨K5, C.length + 1, rfl, hil⟩, by dsimp only; omega⟩
  refine ⟨fun k h8 => Keep h4 h8 ∧ ∃ i : Nat, k = (i : Int) ∧ i ≤ (tabsI xs (q0 + 1)).length, fun k _ => (tabsI xs (q0 + 1)).length - k.toNat, ⟨K5, 0, rfl, Nat.zero_le _⟩, ?_⟩
  rintro k h8 ⟨K8, i, rfl, hi⟩
  have L8 : TB h8 l1 j.lo := Buf.keep (K14.trans K8) L
  have B8 : TB h8 l3 (tabsI xs (q0 + 1)) := Buf.keep K8 B4
  have K18 := K14.trans K8
  refine ⟨fun hlt => ?_, fun hge => ?_⟩
  · generalize hts : tabsI xs (q0 + 1) = ts at B8 n3 z3 nxt hi
    have hil : i < ts.length := by omega
    obtain ⟨C, u, D, rfl, rfl⟩ : ∃ C u D, ts = C ++ u :: D ∧ C.length = i := by
      refine ⟨ts.take i, ts[i], ts.drop (i + 1), ?_, by rw [List.length_take]; omega⟩
      have e := List.take_append_drop i ts
      rw [List.drop_eq_getElem_cons hil] at e
      exact e.symm
    have r8 := Buf.row B8
    have step : ∀ {M : Nat}, M = (C ++ u :: D).length → ((Keep h4 h8 ∧ ∃ i : Nat, IntKind.wrap .i64 ((C.length : Int) + 1) = (i : Int) ∧ i ≤ (C ++ u :: D).length) ∧ M - (IntKind.wrap .i64 ((C.length : Int) + 1)).toNat < M - ((C.length : Nat) : Int).toNat) := fun {M} hM => by
      rw [next_i (n := 70000) (by omega) (by omega)]
      exact ⟨⟨K8, C.length + 1, rfl, hil⟩, by omega⟩
    obtain ⟨b12, o7, a1, a2, m, a3, _, _, _, _, _, _, s11, a4, _, _, rfl, rfl⟩ := tab_rd r8 (i := (C.length : Int)) rfl (K := fun b o a c d e s s1 => a = u.num ∧ s = u.least) (fun _ _ => ⟨rfl, rfl⟩)
    refine tab_rd r8 rfl fun b10 o6 => ?_
    by_cases ho : Bl u.greatest s3 ∨ Bl s4 u.least
    · exact over_f ho ⟨_, rfl, fun hh => Bool.noConfusion hh, fun _ => step rfl⟩
    · refine over_t (fun c => ho (.inl c)) (fun c => ho (.inr c)) ⟨_, rfl, fun _ => ?_, fun hh => Bool.noConfusion hh⟩
      refine ⟨b12, o7, a1, a2, u.num, a3, ?_⟩
      refine in_s (Buf.row L8) zl (fun _ => ⟨_, rfl, fun _ => step rfl, fun hh => Bool.noConfusion hh⟩) (fun hm => ⟨_, rfl, fun hh => Bool.noConfusion hh, fun _ => ?_⟩)
      rcases nxt u (overM_mem.2 ⟨by simp, fun c => ho (.inl c), fun c => ho (.inr c)⟩) with hl | ⟨c1, c2⟩
      · exact absurd (List.mem_map.2 ⟨u, hl, rfl⟩) hm
      · exact ⟨fun c => absurd c c1, fun _ => ⟨b12, o7, a1, a2, u.least, a4, fun c => absurd ((sLt_bl _ _).1 c) c2, fun _ => step rfl⟩⟩
  refine ⟨fun hn0 => ?_, fun hn0 => ?_⟩
  · obtain ⟨z1, z2, z3'⟩ := F.z hn0
    refine tables_s (V.keep K18) P.sz fun h11 l4 K11 B11 _ => ⟨l4, rfl, fun _ => ⟨fun _ => ?_, fun c => absurd z2 c⟩, fun c => absurd (by rw [un, tb_new B11, z1]) c⟩
    rw [z3']
    exact hQ h11 (K18.trans K11)
  · obtain ⟨o1, o2⟩ := F.one hn0
    have fmv := F.mv hn0
    refine ⟨fun h12 => Keep h h12, fun h12 K12 => ⟨fun _ => ⟨fun _ => hQ h12 K12, fun c => absurd (by omega) c⟩, fun c => absurd (by omega) c⟩, ?_⟩
    have X : par (j.cut = ⟨#[]⟩) (Keep h h8) (par (sLt j.cut s3 ∨ j.cut = s3) (Q (.bool false) h8) (par (sLt j.cut s4 ∨ j.cut = s4) (par ((l1.n : Int) = n12) (Keep h h8) (Q (.bool false) h8)) (Q (.bool false) h8))) := by
      refine ⟨fun _ => K18, fun hc => ?_⟩
      obtain ⟨f1, f2, f3⟩ := fcut hn0 hc
      exact ⟨fun c => absurd f1 (sle.1 c), fun _ => ⟨fun _ => ⟨fun _ => K18, fun c => absurd (by omega) c⟩, fun c => absurd (sle.2 f2) c⟩⟩
    have hl0 : (l1.n : Int) = 0 ↔ j.lo = [] := by
      rw [ln]
      constructor
      · intro h; exact List.eq_nil_of_length_eq_zero (by omega)
      · intro h; rw [h]; rfl
    refine ⟨fun c0 => ⟨fun c1 => ⟨fun _ => X, fun c => absurd ?_ c⟩, fun c1 => ⟨fun _ => X, fun c => absurd ?_ c⟩⟩, fun c0 => ⟨fun _ => X, fun c => absurd ?_ c⟩⟩
    · rw [fmv]; exact decide_eq_true ⟨hl0.1 c0, c1⟩
    · rw [fmv]; exact decide_eq_false fun d => c1 d.2
    · rw [fmv]; exact decide_eq_false fun d => c0 (hl0.2 d.1)
end
end Go.Eng.Ytbjnlacacapjiaa
end
section
set_option maxRecDepth 100000
set_option maxHeartbeats 2000000
namespace Go.Eng.Ytbjnlacacapjiaa
theorem wnewC {h : Hp} {b : Nat} (hb : h b = none) (zero : List Value) (t : Nat) (hl : zero.length = 5) : (h.new b (.cells ⟨zero⟩ t (0, 0))).canW b 0 5 := canW_new (new_at _ _ _) (by show 0 + 5 ≤ zero.length; omega)
theorem wnew {h : Hp} {b : Nat} (hb : h b = none) (vals zero : List Value) (t : Nat) (hl : setL zero 0 vals = vals) : Keep h ((h.new b (.cells ⟨zero⟩ t (0, 0))).wr b 0 vals) ∧ ∀ o, ((h.new b (.cells ⟨zero⟩ t (0, 0))).wr b 0 vals).at b o = vals[o]? := by
  rw [new_wr]
  have e : (setL (⟨zero⟩ : Array Value).toList 0 vals).toArray = ⟨vals⟩ := by rw [hl]
  rw [e]
  exact ⟨Keep.new hb _, fun o => by rw [at_of (new_at _ _ _)]; simp⟩
def zJ : Jb := ⟨0, [], [], ⟨#[]⟩, false⟩
section
variable {g h h' : Hp} {vb b : Nat} {ls l l1 l2 l3 : Sl} {xs : List (Sl × List Tab)} {Q : Value → Hp → Prop} {n n1 n2 n3 n4 n5 n6 n7 n8 n9 n10 n11 n12 n13 n14 n15 n16 n17 n18 n19 n20 n21 n22 n23 n24 n25 n26 : Int}
theorem nil_row (h : Hp) : h.row none (0 * 6) (tabV []) := ⟨rfl, .inl rfl⟩
theorem found_s {ptrs : List ByteArray} {lk : List Int} {o : List Nat} (V : Ver g h vb ls xs) (P : PkOk xs) (G : GoodL (xs.map (·.2))) (O : CfOk n5 n7 n8 n9 n10 n12) (h8 : n8 = (xs.length : Int)) (B : h.row l.a l.n (ptrV ptrs)) (BL : h.row l1.a l1.n (uvs lk)) (hlk : l1.n < 9223372036854775807)
    (RO : h.row l2.a l2.n (iV o)) (hO : IsOrder (xs.length - 1) (decide (n7 ≤ ((tabsI xs 0).length : Int))) (scoreM n5 n9 n10 xs) o) (hQ : ∀ h', Keep h h' → Q (.bool true) h') : F31.T n n1 n2 n3 n4 n5 n6 n7 n8 n9 n10 n11 n12 n13 n14 n15 n16 n17 n18 n19 n20 n21 n22 n23 n24 n25 n26 (some ⟨vb, 0, none⟩) l l1 l2 h Q := by
  have hx := P.len
  have hl2 : l2.n = o.length := by have := RO.1; rw [iV_len] at this; omega
  have hol : ∀ i ∈ o, i < xs.length - 1 := fun i hi => ((hO.mem i).1 hi).1
  have holn : o.length ≤ 4 := by
    have h2 := List.Nodup.length_le_of_subset hO.nd (l₂ := List.range (xs.length - 1)) (fun i hi => List.mem_range.2 (hol i hi))
    rw [List.length_range] at h2; omega
  have hin : ∀ i ∈ o, inputsM n12 xs ptrs (i : Int) ≠ none := fun i hi => by
    have h1 := hol i hi
    have := want_tabs O.trig.1 (by have := O.stop; omega) ((hO.mem i).1 hi).2
    obtain ⟨j, hj⟩ := (inputs_some (fan := n12) (ptrs := ptrs) (by omega) (by omega)).2 this
    rw [hj]; simp
  unfold F31.T F31.G
  refine next_s V P O h8 B BL hlk (fun o' hO' hT h1 K1 => ?_) (fun o' j hO' hT h1 u3 u4 K1 T3 N3 T4 N4 _ _ => ?_)
  · obtain rfl := hO'.one hO
    have RO1 := K1.row RO
    refine ⟨0, ⟨none, 0, 0⟩, ⟨none, 0, 0⟩, _, false, fun hh => Bool.noConfusion hh, fun _ => ⟨_, rfl, fun h2 => Keep h h2, fun h2 K2 => ?_, ?_⟩⟩
    · have same : ∀ (K : Value → Hp → Prop), K (.bool true) h2 → F51.T 0 ⟨none, 0, 0⟩ ⟨none, 0, 0⟩ (ByteArray.mk #[]) false 0 ⟨none, 0, 0⟩ ⟨none, 0, 0⟩ (ByteArray.mk #[]) false h2 K := fun K hK => sameJ_s (i := zJ) (j := zJ) (nil_row h2) (nil_row h2) (nil_row h2) (nil_row h2) (by decide) (by decide) (fun _ => hK) (fun hh => absurd rfl hh)
      rcases o' with _ | ⟨i0, w⟩
      · refine ⟨fun c => absurd c (by decide), fun _ => ⟨fun _ => ⟨fun _ => ⟨fun _ => ⟨fun _ => same _ ⟨_, rfl, fun _ => hQ h2 K2, fun hh => Bool.noConfusion hh⟩, fun c => absurd rfl c⟩, fun c => absurd rfl c⟩, fun c => absurd (by rw [hl2]; rfl) c⟩, fun c => absurd rfl c⟩⟩
      · refine ⟨fun c => absurd c (by simp), fun _ => ⟨fun c => absurd c (by simp), fun _ => ⟨fun c => absurd c (by rw [hl2]; simp; omega), fun _ => ⟨fun _ => ⟨fun c => absurd c (by simp), fun _ => ⟨fun _ => same _ ⟨_, rfl, fun _ => hQ h2 K2, fun hh => Bool.noConfusion hh⟩, fun c => absurd (by simp) c⟩⟩, fun c => absurd rfl c⟩⟩⟩⟩
    refine ⟨fun hlt => ?_, fun _ => K1⟩
    rcases o' with _ | ⟨i0, w⟩
    · exact absurd hlt (by rw [hl2]; decide)
    have hin0 := hin i0 List.mem_cons_self
    have hi0 := hol i0 List.mem_cons_self
    rw [if_neg (by simp)]
    obtain ⟨b20, o2, a1, a2⟩ := row_get RO1 (i := 0) (by rw [hl2]; simp)
    have a2' : h1.at b20 (o2 + (0 : Int).toNat) = some (.int .i64 (i0 : Int)) := by
      have := a2 0 (by rw [hl2]; simp)
      exact this
    refine ⟨b20, o2, a1, ⟨by decide, hlt⟩, (i0 : Int), a2', ?_⟩
    refine inputs_s (V.keep K1) P O h8 (K1.row B) (by omega) (fun hn => absurd hin0 (by rw [hn]; simp)) (fun v hv h21 u1 u2 K2 T1 N1 T2 N2 _ _ => ?_)
    obtain ⟨zu, zl⟩ := inputs_sz P hv
    have ff := frB_hit lk v
    have fact : hit lk v = true := by
      cases hh : hit lk v with
      | true => rfl
      | false =>
        obtain ⟨j', e1, _⟩ := (next_first hO.nd hv).1 hh
        rw [hT] at e1; cases e1
    obtain ⟨lv', up', lo', cut', mv'⟩ := v
    dsimp only at zu zl T1 T2 ff fact ⊢
    refine ⟨lv', u1, u2, cut', mv', ?_⟩
    have R21 := (K1.trans K2).row BL
    cases mv'
    all_goals
      first
        | refine ⟨fun hh => (Bool.noConfusion hh), fun _ => ⟨true, fun _ => ⟨rfl, fun b23 hb23 => ⟨wnewC hb23 _ 70 rfl, u1, (wnew hb23 _ _ 70 (by rfl)).2 1, ?_⟩⟩, fun hh => (Bool.noConfusion hh)⟩⟩
        | refine ⟨fun _ => ⟨true, fun _ => ⟨rfl, fun b23 hb23 => ⟨wnewC hb23 _ 70 rfl, u1, (wnew hb23 _ _ 70 (by rfl)).2 1, ?_⟩⟩, fun hh => (Bool.noConfusion hh)⟩, fun hh => (Bool.noConfusion hh)⟩
      refine ⟨fun c => absurd c (by decide), fun _ => ?_⟩
      refine free_s (Buf.row (Buf.keep (wnew hb23 _ _ 70 (by rfl)).1 T1)) (Keep.row (wnew hb23 _ _ 70 (by rfl)).1 R21) zu hlk ⟨_, rfl, fun f1 => ⟨u2, (wnew hb23 _ _ 70 (by rfl)).2 2, ?_⟩, fun f1 => ?_⟩
      · refine free_s (Buf.row (Buf.keep (wnew hb23 _ _ 70 (by rfl)).1 T2)) (Keep.row (wnew hb23 _ _ 70 (by rfl)).1 R21) zl hlk ⟨_, rfl, fun f2 => ?_, fun f2 => ?_⟩
        · exact absurd fact (by rw [f1, f2] at ff; cases hh : hit lk _ with | false => simp | true => rw [hh] at ff; cases ff)
        · exact ⟨fun _ => K1.trans (K2.trans (wnew hb23 _ _ 70 (by rfl)).1), fun c => absurd rfl c⟩
      · exact ⟨fun _ => K1.trans (K2.trans (wnew hb23 _ _ 70 (by rfl)).1), fun c => absurd rfl c⟩
  obtain rfl := hO'.one hO
  have RO1 := K1.row RO
  obtain ⟨A, i, C, eo, hj, hh, _, _, far⟩ := next_facts _ _ hT
  have jlv := inputs_lv hj
  have ff := frB_hit lk j
  rw [hh] at ff
  have ff1 : frB lk j.up = true := by cases e : frB lk j.up with | true => rfl | false => rw [e] at ff; cases ff
  have ff2 : frB lk j.lo = true := by cases e : frB lk j.lo with | true => rfl | false => rw [e, Bool.and_false] at ff; cases ff
  obtain ⟨zu3, zl3⟩ := inputs_sz P hj
  have hi4 : i < 4 := by
    have := hol i (by rw [eo]; simp)
    omega
  refine ⟨j.lv, u3, u4, j.cut, j.mv, ?_⟩
  have jmv : j.mv = true ∨ j.mv = false := by cases j.mv <;> simp
  rcases jmv with jmv | jmv
  all_goals
    rw [jmv]
    first
      | refine ⟨fun hh => (Bool.noConfusion hh), fun _ => ⟨_, rfl, fun h2 => Keep h1 h2, fun h2 K2 => ⟨fun _ => ?_, fun c => absurd rfl c⟩, ⟨fun hlt => ?_, fun _ => Keep.refl _⟩⟩⟩
      | refine ⟨fun _ => ⟨_, rfl, fun h2 => Keep h1 h2, fun h2 K2 => ⟨fun _ => ?_, fun c => absurd rfl c⟩, ⟨fun hlt => ?_, fun _ => Keep.refl _⟩⟩, fun hh => (Bool.noConfusion hh)⟩
    · have K12 := K1.trans K2
      have T3' : TB h2 u3 j.up := Buf.keep K2 T3
      have T4' : TB h2 u4 j.lo := Buf.keep K2 T4
      refine level_s (K12.row RO) (by omega) (fun k hk hpre => ⟨_, rfl, ?_⟩) (fun hno => absurd jlv.symm (hno i (by rw [eo]; simp)))
      have hki : o'[k]? = some i := by
        cases ho : o'[k]? with
        | none => rw [ho] at hk; cases hk
        | some x =>
          rw [ho, jlv] at hk
          have : (x : Int) = (i : Int) := by simpa using hk
          congr 1; omega
      have hko : k < o'.length := (List.getElem?_eq_some_iff.1 hki).1
      have hAk : k ≤ A.length := Nat.le_of_not_lt fun hlt => hpre i (List.mem_of_getElem? (i := A.length) (by rw [List.getElem?_take, if_pos hlt, eo]; simp)) jlv.symm
      have hj' : inputsM n12 xs ptrs j.lv = some j := by rw [jlv]; exact hj
      refine inputs_s (V.keep K12) P O h8 (K12.row B) (by rw [jlv]; omega) (fun hn => absurd (hj'.symm.trans hn) (by simp)) (fun j' hj'' h4 u1 u2 K4 T1 N1 T2 N2 _ _ => ?_)
      obtain rfl : j = j' := Option.some.inj (hj'.symm.trans hj'')
      have T3'' : TB h4 u3 j.up := Buf.keep K4 T3'
      have T4'' : TB h4 u4 j.lo := Buf.keep K4 T4'
      have K14 := K12.trans K4
      have sj : ∀ (K : Value → Hp → Prop), K (.bool true) h4 → F51.T j.lv u3 u4 j.cut j.mv j.lv u1 u2 j.cut j.mv h4 K := fun K hK => sameJ_s (i := j) (j := j) (Buf.row T3'') (Buf.row T4'') (Buf.row T1) (Buf.row T2) zu3 zl3 (fun _ => hK) (fun hh => absurd rfl hh)
      refine ⟨j.lv, u1, u2, j.cut, j.mv, ?_⟩
      rw [jmv] at sj ⊢
      first
        | refine ⟨fun hh => (Bool.noConfusion hh), fun _ => ⟨true, fun _ => ⟨rfl, fun c => absurd c (by omega), fun _ => sj _ ⟨_, rfl, fun _ => ?_, fun hh => (Bool.noConfusion hh)⟩⟩, fun hh => (Bool.noConfusion hh)⟩⟩
        | refine ⟨fun _ => ⟨true, fun _ => ⟨rfl, fun c => absurd c (by omega), fun _ => sj _ ⟨_, rfl, fun _ => ?_, fun hh => (Bool.noConfusion hh)⟩⟩, fun hh => (Bool.noConfusion hh)⟩, fun hh => (Bool.noConfusion hh)⟩
      refine free_s (Buf.row T3'') (K14.row BL) zu3 hlk ⟨_, rfl, fun _ => ?_, fun c => (by rw [ff1] at c; cases c)⟩
      refine free_s (Buf.row T4'') (K14.row BL) zl3 hlk ⟨_, rfl, fun _ => ?_, fun c => (by rw [ff2] at c; cases c)⟩
      refine ⟨fun n h8 => h8 = h4 ∧ ∃ m : Nat, n = (m : Int) ∧ m ≤ k, fun n _ => k - n.toNat, ⟨rfl, 0, rfl, Nat.zero_le _⟩, ?_⟩
      rintro n h5 ⟨rfl, m, rfl, hm⟩
      refine ⟨fun hlt2 => ?_, fun _ => hQ _ K14⟩
      have hmk : m < k := by omega
      have hmo : m < o'.length := by omega
      obtain ⟨b6, o6, c1, c2⟩ := row_get (K14.row RO) (i := m) (by omega)
      have c3 : h5.at b6 (o6 + ((m : Nat) : Int).toNat) = some (.int .i64 (o'[m] : Int)) := by
        rw [Int.toNat_natCast, c2 m (by omega)]; unfold iV; rw [List.getElem?_map, List.getElem?_eq_getElem hmo]; rfl
      have hmA : o'[m] ∈ A := by
        have e1 : o'[m]? = A[m]? := by rw [eo, List.getElem?_append_left (by omega)]
        rw [List.getElem?_eq_getElem hmo] at e1
        exact List.mem_of_getElem? e1.symm
      obtain ⟨f1, f2, f3⟩ := far o'[m] hmA (hin o'[m] (List.getElem_mem _))
      rw [jlv, wrap_i64 (n := (i : Int) + 1) (by omega) (by omega), wrap_i64 (n := (i : Int) - 1) (by omega) (by omega), next_i (n := 100) (by omega) (by omega)]
      exact ⟨b6, o6, c1, ⟨by omega, by omega⟩, _, c3, fun c => absurd c (by omega), fun _ => ⟨fun c => absurd c (by omega), fun _ => ⟨fun c => absurd c (by omega), fun _ => ⟨⟨rfl, m + 1, rfl, by omega⟩, by dsimp only; omega⟩⟩⟩⟩
    · rcases o' with _ | ⟨i0, w⟩
      · exact absurd hlt (by rw [hl2]; decide)
      have hin0 := hin i0 List.mem_cons_self
      have hi0 := hol i0 List.mem_cons_self
      obtain ⟨b20, o2, a1, a2⟩ := row_get RO1 (i := 0) (by rw [hl2]; simp)
      have a2' : h1.at b20 (o2 + (0 : Int).toNat) = some (.int .i64 (i0 : Int)) := by
        have := a2 0 (by rw [hl2]; simp)
        exact this
      refine ⟨b20, o2, a1, ⟨by decide, hlt⟩, (i0 : Int), a2', ?_⟩
      refine inputs_s (V.keep K1) P O h8 (K1.row B) (by omega) (fun hn => absurd hin0 (by rw [hn]; simp)) (fun v hv h21 u1 u2 K2 T1 N1 T2 N2 _ _ => ?_)
      obtain ⟨zu, zl⟩ := inputs_sz P hv
      have ff := frB_hit lk v
      have fact : hit lk v = false ↔ j.lv = (i0 : Int) := by
        rw [next_first hO.nd hv, hT]
        exact ⟨fun ⟨j', e1, e2⟩ => (by cases e1; exact e2), fun hh => ⟨j, rfl, hh⟩⟩
      obtain ⟨lv', up', lo', cut', mv'⟩ := v
      dsimp only at zu zl T1 T2 ff fact ⊢
      refine ⟨lv', u1, u2, cut', mv', ?_⟩
      have R21 := (K1.trans K2).row BL
      cases mv'
      all_goals
        first
          | refine ⟨fun hh => (Bool.noConfusion hh), fun _ => ⟨true, fun _ => ⟨rfl, fun b23 hb23 => ⟨wnewC hb23 _ 70 rfl, u1, (wnew hb23 _ _ 70 (by rfl)).2 1, ?_⟩⟩, fun hh => (Bool.noConfusion hh)⟩⟩
          | refine ⟨fun _ => ⟨true, fun _ => ⟨rfl, fun b23 hb23 => ⟨wnewC hb23 _ 70 rfl, u1, (wnew hb23 _ _ 70 (by rfl)).2 1, ?_⟩⟩, fun hh => (Bool.noConfusion hh)⟩, fun hh => (Bool.noConfusion hh)⟩
        refine ⟨fun _ => ?_, fun c => absurd rfl c⟩
        refine free_s (Buf.row (Buf.keep (wnew hb23 _ _ 70 (by rfl)).1 T1)) (Keep.row (wnew hb23 _ _ 70 (by rfl)).1 R21) zu hlk ⟨_, rfl, fun f1 => ⟨u2, (wnew hb23 _ _ 70 (by rfl)).2 2, ?_⟩, fun f1 => ?_⟩
        · refine free_s (Buf.row (Buf.keep (wnew hb23 _ _ 70 (by rfl)).1 T2)) (Keep.row (wnew hb23 _ _ 70 (by rfl)).1 R21) zl hlk ⟨_, rfl, fun f2 => ?_, fun f2 => ?_⟩
          · exact ⟨b20, o2, a1, ⟨by decide, hlt⟩, (i0 : Int), (wnew hb23 _ _ 70 (by rfl)).1.at (K2.at a2'), fun he => ⟨fun _ => K2.trans (wnew hb23 _ _ 70 (by rfl)).1, fun c => absurd rfl c⟩, fun hne => absurd (fact.1 (by rw [f1, f2] at ff; cases hh : hit lk _ with | false => rfl | true => rw [hh] at ff; cases ff)) hne⟩
          · exact ⟨b20, o2, a1, ⟨by decide, hlt⟩, (i0 : Int), (wnew hb23 _ _ 70 (by rfl)).1.at (K2.at a2'), fun he => absurd (fact.2 he) (fun hh => by rw [f1, f2, hh] at ff; cases ff), fun hne => ⟨fun _ => K2.trans (wnew hb23 _ _ 70 (by rfl)).1, fun c => absurd rfl c⟩⟩
        · exact ⟨b20, o2, a1, ⟨by decide, hlt⟩, (i0 : Int), (wnew hb23 _ _ 70 (by rfl)).1.at (K2.at a2'), fun he => absurd (fact.2 he) (fun hh => by rw [f1, hh] at ff; cases ff), fun hne => ⟨fun _ => K2.trans (wnew hb23 _ _ 70 (by rfl)).1, fun c => absurd rfl c⟩⟩
end
end Go.Eng.Ytbjnlacacapjiaa
end
