
/-
  Proved: the law PickAll answers true, whatever it is handed, and what it was handed reads behind the call as it read before. No condition.
-/
import Derived.Test.YtbjnlacacapjiaaGreatK7
import Derived.ChangeSlices
import Derived.SizedLaws
import Derived.Below
import Derived.Test.YtbjnlacacapjiaaGreatRows
import Derived.WalkKit
import Derived.ProofKit
import Derived.OpenShut
import Derived.ShutString
import Derived.ChangeMaps5
import Derived.ChangeOld
set_option linter.unusedSimpArgs false
set_option linter.unusedVariables false
section
open Go.Proofs
namespace Go.Eng.YtbjnlacacapjiaaGreat
open Go.ChangeShapes Go.WideShapes Go.RowKit
def wh (W : World) : Hp := fun b => W.heap[b]?
theorem own_wh (W : World) : Own (fun _ => none) (wh W) W := ⟨fun _ _ h => h, fun _ _ h => (by cases h), fun _ => .inr rfl⟩
theorem below_of {W W' : World} {h' : Hp} (hw : Wr W W') (ho : Own (fun _ => none) h' W') (K : Keep (wh W) h') : Below W.heap.size W W' := by
  refine ⟨hw.os, hw.tape, hw.output, hw.size, fun k hk => ?_⟩
  have h1 : wh W k = some W.heap[k] := by unfold wh; exact Array.getElem?_eq_getElem hk
  have h2 := ho.hh k _ (K k _ h1)
  rw [h2, Array.getElem?_eq_getElem hk]
theorem cell_at {W : World} {b o : Nat} {v : Value} (h : W.cell? ⟨b, o, none⟩ = some v) : (wh W).at b o = some v := by
  unfold World.cell? at h
  unfold Hp.at wh
  cases hb : W.heap[b]? with
  | none => rw [hb] at h; cases h
  | some x =>
    rw [hb] at h
    cases x with
    | cells c t f => simpa using h
    | _ => cases h
theorem spot_none {W : World} {a : Addr} {v : Value} (h : W.cell? (a.add 0) = some v) : a = ⟨a.block, a.off, none⟩ := by
  obtain ⟨b, o, p⟩ := a
  cases p with
  | none => rfl
  | some p =>
    exfalso
    unfold World.cell? at h
    simp only [Addr.add, if_pos] at h
    cases hb : W.heap[b]? with
    | none => rw [hb] at h; cases h
    | some x =>
      rw [hb] at h
      cases x with
      | cells c t f => simp at h
      | _ => cases h
theorem row_of_cells {W : World} {a : Addr} {n : Nat} {vs : List Value} (hl : vs.length = n) (h : ∀ i, (hi : i < n) → W.cell? (a.add i) = vs[i]?) : (wh W).row (some a) n vs := by
  refine ⟨hl, ?_⟩
  by_cases h0 : n = 0
  · exact .inl h0
  right
  have hz := h 0 (by omega)
  rw [List.getElem?_eq_getElem (by omega)] at hz
  have ha := spot_none hz
  refine ⟨a.block, a.off, by rw [← ha], fun j hj => ?_⟩
  have hj' := h j hj
  rw [List.getElem?_eq_getElem (by omega)] at hj' ⊢
  rw [ha, addr_add] at hj'
  exact cell_at hj'
theorem add_add' (a : Addr) (m n : Nat) : (a.add m).add n = a.add (m + n) := by
  unfold Addr.add
  by_cases h1 : m = 0
  · subst h1; simp
  · by_cases h2 : n = 0
    · subst h2; simp [h1]
    · simp [h1, h2, Nat.add_assoc]
theorem wf_i64 {n : Int} (h : (Lit.int .i64 n).wf = true) : iI n := by
  simp [Lit.wf, IntKind.min, IntKind.max, IntKind.signed, IntKind.bits] at h
  exact ⟨by omega, by omega⟩
theorem weights_mem_all {H : Type} {P : Program} {e : TypeId} : ∀ {E : List (DataW H)} {d : DataW H}, d ∈ E → ∀ n ∈ d.weights P e, n ∈ DataW.weightsAll P e E
  | x :: E, d, hd, n, hn => by
    simp only [DataW.weightsAll, List.mem_append]
    rcases List.mem_cons.1 hd with rfl | hd
    · exact .inl hn
    · exact .inr (weights_mem_all hd n hn)
def WB {H : Type} (P : Program) (t : TypeId) (d : DataW H) : Prop := ∀ n ∈ d.weights P t, n ≤ reachBytes
theorem reach_le {n : Nat} (h : n ≤ reachBytes) : n ≤ 140737488355328 := by have := reachBytes_lt; omega
section
variable {H : Type} {enc : TypeId × Value → H} {P : Program} {W : World} {base : Nat} {held : Bool}
theorem slice_rowsW {α : Type} {t e : TypeId} {fuel : Nat} {s : Sl} {y : DataW H × List MemPlace} (sz : Nat) (f : α → List Value) (ok : α → Prop) (hsz : 0 < sz) (ht : P.underlying t = some (.slice e)) (hc : P.cellsOf e = sz) (hf : ∀ x, (f x).length = sz)
    (each : ∀ (fuel : Nat) (cs : List Value) (z : DataW H × List MemPlace), cs.length = sz → DataW.trod enc P W base (fun _ => true) held fuel e cs = some z → WB P e z.1 → ∃ a, cs = f a ∧ ok a)
    (h : DataW.trod enc P W base (fun _ => true) held fuel t [.slice s.a s.n s.c] = some y) (hw : WB P t y.1) : ∃ l : List α, (wh W).row s.a (s.n * sz) (l.flatMap f) ∧ s.n ≤ s.c ∧ (s.a = none → s.n = 0) ∧ l.length = s.n ∧ (s.n * P.bytesOf e ≤ reachBytes) ∧ ∀ a ∈ l, ok a := by
  rcases DataW.trod_slice ht h with ⟨hcs, _⟩ | ⟨x, len, cap, elems, rest, n, _, hcs, hyy, hb, hl, hm, hlen, hel, _, _⟩
  · simp only [List.cons.injEq, Value.slice.injEq, and_true] at hcs
    obtain ⟨h1, h2, h3⟩ := hcs
    exact ⟨[], by rw [h1, h2]; exact ⟨by simp, .inl (by simp)⟩, by omega, fun _ => h2, by rw [h2]; rfl, by rw [h2]; omega, fun a ha => (by cases ha)⟩
  · simp only [List.cons.injEq, Value.slice.injEq, and_true] at hcs
    obtain ⟨h1, h2, h3⟩ := hcs
    have hwl : ∀ n ∈ (DataW.slice (elems.map (·.1)) (rest.map (·.1))).weights P t, n ≤ reachBytes := by rw [hyy] at hw; exact hw
    have hws : (DataW.slice (elems.map (·.1)) (rest.map (·.1))).weights P t = ((elems.map (·.1)).length + (rest.map (·.1)).length) * P.bytesOf e :: (DataW.weightsAll P e (elems.map (·.1)) ++ DataW.weightsAll P e (rest.map (·.1))) := by simp [DataW.weights, ht]
    have ea : ∀ i : Fin len, ∃ a : α, (∀ j, j < sz → W.cell? (x.add (i.1 * sz + j)) = (f a)[j]?) ∧ ok a := by
      rintro ⟨i, hi⟩
      have q := hel i hi
      rw [hc, List.getElem?_eq_getElem (by omega), Option.bind_eq_some_iff] at q
      obtain ⟨cs', hcs', hy⟩ := q
      obtain ⟨_, hcl, hcell⟩ := World.cells?_some hcs'
      obtain ⟨a, rfl, hok⟩ := each _ _ _ hcl hy (fun m hm => hwl m (by
        rw [hws]
        refine List.mem_cons_of_mem _ (List.mem_append_left _ (weights_mem_all (List.mem_map_of_mem (List.getElem_mem (l := elems) (n := i) (by omega))) m hm))))
      refine ⟨a, fun j hj => ?_, hok⟩
      rw [← hcell j hj, add_add']
    obtain ⟨g, hg⟩ := Classical.axiomOfChoice ea
    refine ⟨List.ofFn g, ?_, by omega, fun hn => (by rw [h1] at hn; cases hn), by rw [List.length_ofFn]; omega, ?_, fun a ha => ?_⟩
    · rw [h1, h2]
      have hll : ((List.ofFn g).flatMap f).length = len * sz := by rw [flat_length f sz hf, List.length_ofFn]
      refine row_of_cells hll fun k hk => ?_
      have hi : k / sz < len := Nat.div_lt_of_lt_mul (by rw [Nat.mul_comm]; exact hk)
      have hj : k % sz < sz := Nat.mod_lt _ hsz
      have hkk : k = k / sz * sz + k % sz := by rw [Nat.mul_comm]; exact (Nat.div_add_mod k sz).symm
      have q := (hg ⟨k / sz, hi⟩).1 (k % sz) hj
      have q2 := flat_get f sz hf (List.ofFn g) (k / sz) (k % sz) (by rw [List.length_ofFn]; exact hi) hj
      simp only at q
      rw [← hkk] at q q2
      rw [q, q2]
      simp
    · have := hwl _ (by rw [hws]; exact List.mem_cons_self)
      rw [List.length_map, List.length_map] at this
      exact Nat.le_trans (Nat.mul_le_mul_right _ (by omega)) this
    · obtain ⟨i, rfl⟩ := (List.mem_ofFn ..).1 ha
      exact (hg i).2
theorem some_at {xs : List (DataW H × List MemPlace)} {n i : Nat} (h : xs.length = n) (hi : i < n) : ∃ y, xs[i]? = some y := ⟨_, List.getElem?_eq_getElem (by omega)⟩
end
section
variable {H : Type} {enc : TypeId × Value → H} {W : World} {base : Nat} {held : Bool}
theorem flat_one {α : Type} (g : α → Value) : ∀ l : List α, l.flatMap (fun x => [g x]) = l.map g
  | [] => rfl
  | a :: l => by rw [List.flatMap_cons, flat_one g l]; rfl
theorem c3 : Tryz.prog.cellsOf 3 = 1 := by kernel_rfl
theorem c9 : Tryz.prog.cellsOf 9 = 1 := by kernel_rfl
theorem c33 : Tryz.prog.cellsOf 55 = 1 := by kernel_rfl
theorem c47 : Tryz.prog.cellsOf 65 = 6 := by kernel_rfl
theorem c49 : Tryz.prog.cellsOf 67 = 7 := by kernel_rfl
theorem c58 : Tryz.prog.cellsOf 23 = 27 := by kernel_rfl
theorem b9 : Tryz.prog.bytesOf 9 = 16 := by kernel_rfl
theorem b33 : Tryz.prog.bytesOf 55 = 8 := by kernel_rfl
theorem b49 : Tryz.prog.bytesOf 67 = 72 := by kernel_rfl
theorem wf_u64 {n : Int} (h : (Lit.int .u64 n).wf = true) : okU n := by
  simp [Lit.wf, IntKind.min, IntKind.max, IntKind.signed, IntKind.bits] at h
  exact ⟨by omega, by omega⟩
theorem int_cell {fuel : Nat} {c : Value} {y : DataW H × List MemPlace} (h : DataW.trod enc Tryz.prog W base (fun _ => true) held fuel 3 [c] = some y) : ∃ n, c = .int .i64 n ∧ iI n := by
  obtain ⟨n, hn, _, hw⟩ := DataW.trod_int Tryz.underlying3 h
  exact ⟨n, by simpa using hn, wf_i64 hw⟩
theorem num_cell {fuel : Nat} {c : Value} {y : DataW H × List MemPlace} (h : DataW.trod enc Tryz.prog W base (fun _ => true) held fuel 55 [c] = some y) : ∃ n, c = .int .u64 n ∧ okU n := by
  obtain ⟨n, hn, _, hw⟩ := DataW.trod_int Tryz.underlying55 h
  exact ⟨n, by simpa using hn, wf_u64 hw⟩
theorem str_cell {fuel : Nat} {c : Value} {y : DataW H × List MemPlace} (h : DataW.trod enc Tryz.prog W base (fun _ => true) held fuel 9 [c] = some y) : ∃ s : ByteArray, c = .string s ∧ s.size ≤ 9223372036854775807 := by
  obtain ⟨s, hn, _, hw⟩ := DataW.trod_string Tryz.underlying9 h
  exact ⟨s, by simpa using hn, by have : maxLen = 9223372036854775807 := by decide
                                  omega⟩
def okP (p : Placed) : Prop := iI p.lv ∧ okU p.num ∧ iI p.weight ∧ iI p.bytes ∧ iI p.entries ∧ p.least.size ≤ 9223372036854775807 ∧ p.greatest.size ≤ 9223372036854775807
theorem placed_each (fuel : Nat) (cs : List Value) (z : DataW H × List MemPlace) (hl : cs.length = 7) (h : DataW.trod enc Tryz.prog W base (fun _ => true) held fuel 67 cs = some z) (hw : WB Tryz.prog 67 z.1) : ∃ p : Placed, cs = p.cells ∧ okP p := by
  obtain ⟨xs, n, _, rfl, _, hxs, hf⟩ := DataW.trod_struct Tryz.underlying67 h
  rcases cs with _ | ⟨a0, _ | ⟨a1, _ | ⟨a2, _ | ⟨a3, _ | ⟨a4, _ | ⟨a5, _ | ⟨a6, _ | ⟨a7, cs⟩⟩⟩⟩⟩⟩⟩⟩
  case cons.cons.cons.cons.cons.cons.cons.nil =>
    obtain ⟨y0, h0⟩ := some_at hxs (i := 0) (by decide)
    obtain ⟨y1, h1⟩ := some_at hxs (i := 1) (by decide)
    have f0 : DataW.trod enc Tryz.prog W base (fun _ => true) held n 3 (([a0, a1, a2, a3, a4, a5, a6].drop 0).take (Tryz.prog.cellsOf 3)) = xs[0]? := hf 0 _ rfl
    have f1 : DataW.trod enc Tryz.prog W base (fun _ => true) held n 65 (([a0, a1, a2, a3, a4, a5, a6].drop 1).take (Tryz.prog.cellsOf 65)) = xs[1]? := hf 1 _ rfl
    rw [c3, h0] at f0
    rw [c47, h1] at f1
    have f1 : DataW.trod enc Tryz.prog W base (fun _ => true) held n 65 [a1, a2, a3, a4, a5, a6] = some y1 := f1
    obtain ⟨ys, m, _, _, _, hys, hg⟩ := DataW.trod_struct Tryz.underlying65 f1
    obtain ⟨ye0, he0⟩ := some_at hys (i := 0) (by decide)
    have e0 : DataW.trod enc Tryz.prog W base (fun _ => true) held m 55 (([a1, a2, a3, a4, a5, a6].drop 0).take (Tryz.prog.cellsOf 55)) = ys[0]? := hg 0 _ rfl
    rw [c33, he0] at e0
    obtain ⟨ye1, he1⟩ := some_at hys (i := 1) (by decide)
    have e1 : DataW.trod enc Tryz.prog W base (fun _ => true) held m 3 (([a1, a2, a3, a4, a5, a6].drop 1).take (Tryz.prog.cellsOf 3)) = ys[1]? := hg 1 _ rfl
    rw [c3, he1] at e1
    obtain ⟨ye2, he2⟩ := some_at hys (i := 2) (by decide)
    have e2 : DataW.trod enc Tryz.prog W base (fun _ => true) held m 3 (([a1, a2, a3, a4, a5, a6].drop 2).take (Tryz.prog.cellsOf 3)) = ys[2]? := hg 2 _ rfl
    rw [c3, he2] at e2
    obtain ⟨ye3, he3⟩ := some_at hys (i := 3) (by decide)
    have e3 : DataW.trod enc Tryz.prog W base (fun _ => true) held m 3 (([a1, a2, a3, a4, a5, a6].drop 3).take (Tryz.prog.cellsOf 3)) = ys[3]? := hg 3 _ rfl
    rw [c3, he3] at e3
    obtain ⟨ye4, he4⟩ := some_at hys (i := 4) (by decide)
    have e4 : DataW.trod enc Tryz.prog W base (fun _ => true) held m 9 (([a1, a2, a3, a4, a5, a6].drop 4).take (Tryz.prog.cellsOf 9)) = ys[4]? := hg 4 _ rfl
    rw [c9, he4] at e4
    obtain ⟨ye5, he5⟩ := some_at hys (i := 5) (by decide)
    have e5 : DataW.trod enc Tryz.prog W base (fun _ => true) held m 9 (([a1, a2, a3, a4, a5, a6].drop 5).take (Tryz.prog.cellsOf 9)) = ys[5]? := hg 5 _ rfl
    rw [c9, he5] at e5
    obtain ⟨n0, rfl, g0⟩ := int_cell (c := a0) f0
    obtain ⟨n1, rfl, g1⟩ := num_cell (c := a1) e0
    obtain ⟨n2, rfl, g2⟩ := int_cell (c := a2) e1
    obtain ⟨n3, rfl, g3⟩ := int_cell (c := a3) e2
    obtain ⟨n4, rfl, g4⟩ := int_cell (c := a4) e3
    obtain ⟨s5, rfl, g5⟩ := str_cell (c := a5) e4
    obtain ⟨s6, rfl, g6⟩ := str_cell (c := a6) e5
    exact ⟨⟨n0, n1, n2, n3, n4, s5, s6⟩, rfl, g0, g1, g2, g3, g4, g5, g6⟩
  all_goals simp at hl
theorem open_placed {fuel : Nat} {a : Option Addr} {len cap : Nat} {y : DataW H × List MemPlace} (h : DataW.trod enc Tryz.prog W base (fun _ => true) held fuel 24 [.slice a len cap] = some y) (hw : WB Tryz.prog 24 y.1) : ∃ L : List Placed, (wh W).row a (len * 7) (inV L) ∧ len ≤ 140737488355328 ∧ L.length = len ∧ ∀ p ∈ L, okP p := by
  obtain ⟨L, r, _, _, hl, hb, k⟩ := slice_rowsW (s := ⟨a, len, cap⟩) 7 Placed.cells okP (by decide) Tryz.underlying24 c49 (fun _ => rfl) placed_each h hw
  rw [b49] at hb
  dsimp only at hb hl r
  exact ⟨L, r, by have := reach_le hb; omega, hl, k⟩
theorem str_cellW {fuel : Nat} {c : Value} {y : DataW H × List MemPlace} (h : DataW.trod enc Tryz.prog W base (fun _ => true) held fuel 9 [c] = some y) (hw : WB Tryz.prog 9 y.1) : ∃ s : ByteArray, c = .string s ∧ s.size ≤ 140737488355328 := by
  obtain ⟨s, hn, rfl, _⟩ := DataW.trod_string Tryz.underlying9 h
  refine ⟨s, by simpa using hn, reach_le ?_⟩
  have := hw s.data.toList.length (by simp [DataW.weights])
  simpa using this
theorem open_texts {fuel : Nat} {a : Option Addr} {len cap : Nat} {y : DataW H × List MemPlace} (h : DataW.trod enc Tryz.prog W base (fun _ => true) held fuel 25 [.slice a len cap] = some y) (hw : WB Tryz.prog 25 y.1) : ∃ L : List ByteArray, (wh W).row a len (ptrV L) ∧ (len + 40) * 16 ≤ 140737488355328 ∧ L.length = len ∧ ∀ s ∈ L, s.size ≤ 140737488355328 := by
  obtain ⟨L, r, _, _, hl, hb, k⟩ := slice_rowsW (s := ⟨a, len, cap⟩) 1 (fun s : ByteArray => [Value.string s]) (fun s => s.size ≤ 140737488355328) (by decide) Tryz.underlying25 c9 (fun _ => rfl) (fun fuel cs z hl h hw => by
    rcases cs with _ | ⟨a, _ | ⟨a1, cs⟩⟩
    · cases hl
    · obtain ⟨s, rfl, hs⟩ := str_cellW h hw
      exact ⟨s, rfl, hs⟩
    · simp at hl) h hw
  rw [b9] at hb
  dsimp only at hb hl r
  rw [flat_one, Nat.mul_one] at r
  have e : reachBytes = 140737488351232 := by decide
  exact ⟨L, r, by omega, hl, k⟩
theorem open_nums {fuel : Nat} {a : Option Addr} {len cap : Nat} {y : DataW H × List MemPlace} (h : DataW.trod enc Tryz.prog W base (fun _ => true) held fuel 26 [.slice a len cap] = some y) (hw : WB Tryz.prog 26 y.1) : ∃ L : List Int, (wh W).row a len (uvs L) ∧ (len + 40) * 8 ≤ 140737488355328 ∧ L.length = len ∧ ∀ n ∈ L, okU n := by
  obtain ⟨L, r, _, _, hl, hb, k⟩ := slice_rowsW (s := ⟨a, len, cap⟩) 1 (fun n : Int => [Value.int .u64 n]) okU (by decide) Tryz.underlying26 c33 (fun _ => rfl) (fun fuel cs z hl h _ => by
    rcases cs with _ | ⟨a, _ | ⟨a1, cs⟩⟩
    · cases hl
    · obtain ⟨s, rfl, hs⟩ := num_cell h
      exact ⟨s, rfl, hs⟩
    · simp at hl) h hw
  rw [b33] at hb
  dsimp only at hb hl r
  rw [flat_one, Nat.mul_one] at r
  have e : reachBytes = 140737488351232 := by decide
  exact ⟨L, r, by omega, hl, k⟩
theorem list27 : ∀ {cs : List Value}, cs.length = 27 → ∃ a0 a1 a2 a3 a4 a5 a6 a7 a8 a9 a10 a11 a12 a13 a14 a15 a16 a17 a18 a19 a20 a21 a22 a23 a24 a25 a26, cs = [a0, a1, a2, a3, a4, a5, a6, a7, a8, a9, a10, a11, a12, a13, a14, a15, a16, a17, a18, a19, a20, a21, a22, a23, a24, a25, a26]
  | [a0, a1, a2, a3, a4, a5, a6, a7, a8, a9, a10, a11, a12, a13, a14, a15, a16, a17, a18, a19, a20, a21, a22, a23, a24, a25, a26], _ => ⟨_, _, _, _, _, _, _, _, _, _, _, _, _, _, _, _, _, _, _, _, _, _, _, _, _, _, _, rfl⟩
set_option maxHeartbeats 2000000 in
theorem open_config {fuel : Nat} {cs : List Value} {y : DataW H × List MemPlace} (hl : cs.length = 27) (h : DataW.trod enc Tryz.prog W base (fun _ => true) held fuel 23 cs = some y) : ∃ m0 m1 m2 m3 m4 m5 m6 m7 m8 m9 m10 m11 m12 m13 m14 m15 m16 m17 m18 m19 m20 m21 m22 m23 m24 m25 m26 : Int, cs = [.int .i64 m0, .int .i64 m1, .int .i64 m2, .int .i64 m3, .int .i64 m4, .int .i64 m5, .int .i64 m6, .int .i64 m7, .int .i64 m8, .int .i64 m9, .int .i64 m10, .int .i64 m11, .int .i64 m12, .int .i64 m13, .int .i64 m14, .int .i64 m15, .int .i64 m16, .int .i64 m17, .int .i64 m18, .int .i64 m19, .int .i64 m20, .int .i64 m21, .int .i64 m22, .int .i64 m23, .int .i64 m24, .int .i64 m25, .int .i64 m26] ∧ (∀ x ∈ [m0, m1, m2, m3, m4, m5, m6, m7, m8, m9, m10, m11, m12, m13, m14, m15, m16, m17, m18, m19, m20, m21, m22, m23, m24, m25, m26], iI x) := by
  obtain ⟨xs, n, _, rfl, _, hxs, hf⟩ := DataW.trod_struct Tryz.underlying23 h
  obtain ⟨a0, a1, a2, a3, a4, a5, a6, a7, a8, a9, a10, a11, a12, a13, a14, a15, a16, a17, a18, a19, a20, a21, a22, a23, a24, a25, a26, rfl⟩ := list27 hl
  obtain ⟨yf0, hf0⟩ := some_at hxs (i := 0) (by decide)
  have f0 : DataW.trod enc Tryz.prog W base (fun _ => true) held n 3 (([a0, a1, a2, a3, a4, a5, a6, a7, a8, a9, a10, a11, a12, a13, a14, a15, a16, a17, a18, a19, a20, a21, a22, a23, a24, a25, a26].drop 0).take (Tryz.prog.cellsOf 3)) = xs[0]? := hf 0 _ rfl
  rw [c3, hf0] at f0
  obtain ⟨yf1, hf1⟩ := some_at hxs (i := 1) (by decide)
  have f1 : DataW.trod enc Tryz.prog W base (fun _ => true) held n 3 (([a0, a1, a2, a3, a4, a5, a6, a7, a8, a9, a10, a11, a12, a13, a14, a15, a16, a17, a18, a19, a20, a21, a22, a23, a24, a25, a26].drop 1).take (Tryz.prog.cellsOf 3)) = xs[1]? := hf 1 _ rfl
  rw [c3, hf1] at f1
  obtain ⟨yf2, hf2⟩ := some_at hxs (i := 2) (by decide)
  have f2 : DataW.trod enc Tryz.prog W base (fun _ => true) held n 3 (([a0, a1, a2, a3, a4, a5, a6, a7, a8, a9, a10, a11, a12, a13, a14, a15, a16, a17, a18, a19, a20, a21, a22, a23, a24, a25, a26].drop 2).take (Tryz.prog.cellsOf 3)) = xs[2]? := hf 2 _ rfl
  rw [c3, hf2] at f2
  obtain ⟨yf3, hf3⟩ := some_at hxs (i := 3) (by decide)
  have f3 : DataW.trod enc Tryz.prog W base (fun _ => true) held n 3 (([a0, a1, a2, a3, a4, a5, a6, a7, a8, a9, a10, a11, a12, a13, a14, a15, a16, a17, a18, a19, a20, a21, a22, a23, a24, a25, a26].drop 3).take (Tryz.prog.cellsOf 3)) = xs[3]? := hf 3 _ rfl
  rw [c3, hf3] at f3
  obtain ⟨yf4, hf4⟩ := some_at hxs (i := 4) (by decide)
  have f4 : DataW.trod enc Tryz.prog W base (fun _ => true) held n 3 (([a0, a1, a2, a3, a4, a5, a6, a7, a8, a9, a10, a11, a12, a13, a14, a15, a16, a17, a18, a19, a20, a21, a22, a23, a24, a25, a26].drop 4).take (Tryz.prog.cellsOf 3)) = xs[4]? := hf 4 _ rfl
  rw [c3, hf4] at f4
  obtain ⟨yf5, hf5⟩ := some_at hxs (i := 5) (by decide)
  have f5 : DataW.trod enc Tryz.prog W base (fun _ => true) held n 3 (([a0, a1, a2, a3, a4, a5, a6, a7, a8, a9, a10, a11, a12, a13, a14, a15, a16, a17, a18, a19, a20, a21, a22, a23, a24, a25, a26].drop 5).take (Tryz.prog.cellsOf 3)) = xs[5]? := hf 5 _ rfl
  rw [c3, hf5] at f5
  obtain ⟨yf6, hf6⟩ := some_at hxs (i := 6) (by decide)
  have f6 : DataW.trod enc Tryz.prog W base (fun _ => true) held n 3 (([a0, a1, a2, a3, a4, a5, a6, a7, a8, a9, a10, a11, a12, a13, a14, a15, a16, a17, a18, a19, a20, a21, a22, a23, a24, a25, a26].drop 6).take (Tryz.prog.cellsOf 3)) = xs[6]? := hf 6 _ rfl
  rw [c3, hf6] at f6
  obtain ⟨yf7, hf7⟩ := some_at hxs (i := 7) (by decide)
  have f7 : DataW.trod enc Tryz.prog W base (fun _ => true) held n 3 (([a0, a1, a2, a3, a4, a5, a6, a7, a8, a9, a10, a11, a12, a13, a14, a15, a16, a17, a18, a19, a20, a21, a22, a23, a24, a25, a26].drop 7).take (Tryz.prog.cellsOf 3)) = xs[7]? := hf 7 _ rfl
  rw [c3, hf7] at f7
  obtain ⟨yf8, hf8⟩ := some_at hxs (i := 8) (by decide)
  have f8 : DataW.trod enc Tryz.prog W base (fun _ => true) held n 3 (([a0, a1, a2, a3, a4, a5, a6, a7, a8, a9, a10, a11, a12, a13, a14, a15, a16, a17, a18, a19, a20, a21, a22, a23, a24, a25, a26].drop 8).take (Tryz.prog.cellsOf 3)) = xs[8]? := hf 8 _ rfl
  rw [c3, hf8] at f8
  obtain ⟨yf9, hf9⟩ := some_at hxs (i := 9) (by decide)
  have f9 : DataW.trod enc Tryz.prog W base (fun _ => true) held n 3 (([a0, a1, a2, a3, a4, a5, a6, a7, a8, a9, a10, a11, a12, a13, a14, a15, a16, a17, a18, a19, a20, a21, a22, a23, a24, a25, a26].drop 9).take (Tryz.prog.cellsOf 3)) = xs[9]? := hf 9 _ rfl
  rw [c3, hf9] at f9
  obtain ⟨yf10, hf10⟩ := some_at hxs (i := 10) (by decide)
  have f10 : DataW.trod enc Tryz.prog W base (fun _ => true) held n 3 (([a0, a1, a2, a3, a4, a5, a6, a7, a8, a9, a10, a11, a12, a13, a14, a15, a16, a17, a18, a19, a20, a21, a22, a23, a24, a25, a26].drop 10).take (Tryz.prog.cellsOf 3)) = xs[10]? := hf 10 _ rfl
  rw [c3, hf10] at f10
  obtain ⟨yf11, hf11⟩ := some_at hxs (i := 11) (by decide)
  have f11 : DataW.trod enc Tryz.prog W base (fun _ => true) held n 3 (([a0, a1, a2, a3, a4, a5, a6, a7, a8, a9, a10, a11, a12, a13, a14, a15, a16, a17, a18, a19, a20, a21, a22, a23, a24, a25, a26].drop 11).take (Tryz.prog.cellsOf 3)) = xs[11]? := hf 11 _ rfl
  rw [c3, hf11] at f11
  obtain ⟨yf12, hf12⟩ := some_at hxs (i := 12) (by decide)
  have f12 : DataW.trod enc Tryz.prog W base (fun _ => true) held n 3 (([a0, a1, a2, a3, a4, a5, a6, a7, a8, a9, a10, a11, a12, a13, a14, a15, a16, a17, a18, a19, a20, a21, a22, a23, a24, a25, a26].drop 12).take (Tryz.prog.cellsOf 3)) = xs[12]? := hf 12 _ rfl
  rw [c3, hf12] at f12
  obtain ⟨yf13, hf13⟩ := some_at hxs (i := 13) (by decide)
  have f13 : DataW.trod enc Tryz.prog W base (fun _ => true) held n 3 (([a0, a1, a2, a3, a4, a5, a6, a7, a8, a9, a10, a11, a12, a13, a14, a15, a16, a17, a18, a19, a20, a21, a22, a23, a24, a25, a26].drop 13).take (Tryz.prog.cellsOf 3)) = xs[13]? := hf 13 _ rfl
  rw [c3, hf13] at f13
  obtain ⟨yf14, hf14⟩ := some_at hxs (i := 14) (by decide)
  have f14 : DataW.trod enc Tryz.prog W base (fun _ => true) held n 3 (([a0, a1, a2, a3, a4, a5, a6, a7, a8, a9, a10, a11, a12, a13, a14, a15, a16, a17, a18, a19, a20, a21, a22, a23, a24, a25, a26].drop 14).take (Tryz.prog.cellsOf 3)) = xs[14]? := hf 14 _ rfl
  rw [c3, hf14] at f14
  obtain ⟨yf15, hf15⟩ := some_at hxs (i := 15) (by decide)
  have f15 : DataW.trod enc Tryz.prog W base (fun _ => true) held n 3 (([a0, a1, a2, a3, a4, a5, a6, a7, a8, a9, a10, a11, a12, a13, a14, a15, a16, a17, a18, a19, a20, a21, a22, a23, a24, a25, a26].drop 15).take (Tryz.prog.cellsOf 3)) = xs[15]? := hf 15 _ rfl
  rw [c3, hf15] at f15
  obtain ⟨yf16, hf16⟩ := some_at hxs (i := 16) (by decide)
  have f16 : DataW.trod enc Tryz.prog W base (fun _ => true) held n 3 (([a0, a1, a2, a3, a4, a5, a6, a7, a8, a9, a10, a11, a12, a13, a14, a15, a16, a17, a18, a19, a20, a21, a22, a23, a24, a25, a26].drop 16).take (Tryz.prog.cellsOf 3)) = xs[16]? := hf 16 _ rfl
  rw [c3, hf16] at f16
  obtain ⟨yf17, hf17⟩ := some_at hxs (i := 17) (by decide)
  have f17 : DataW.trod enc Tryz.prog W base (fun _ => true) held n 3 (([a0, a1, a2, a3, a4, a5, a6, a7, a8, a9, a10, a11, a12, a13, a14, a15, a16, a17, a18, a19, a20, a21, a22, a23, a24, a25, a26].drop 17).take (Tryz.prog.cellsOf 3)) = xs[17]? := hf 17 _ rfl
  rw [c3, hf17] at f17
  obtain ⟨yf18, hf18⟩ := some_at hxs (i := 18) (by decide)
  have f18 : DataW.trod enc Tryz.prog W base (fun _ => true) held n 3 (([a0, a1, a2, a3, a4, a5, a6, a7, a8, a9, a10, a11, a12, a13, a14, a15, a16, a17, a18, a19, a20, a21, a22, a23, a24, a25, a26].drop 18).take (Tryz.prog.cellsOf 3)) = xs[18]? := hf 18 _ rfl
  rw [c3, hf18] at f18
  obtain ⟨yf19, hf19⟩ := some_at hxs (i := 19) (by decide)
  have f19 : DataW.trod enc Tryz.prog W base (fun _ => true) held n 3 (([a0, a1, a2, a3, a4, a5, a6, a7, a8, a9, a10, a11, a12, a13, a14, a15, a16, a17, a18, a19, a20, a21, a22, a23, a24, a25, a26].drop 19).take (Tryz.prog.cellsOf 3)) = xs[19]? := hf 19 _ rfl
  rw [c3, hf19] at f19
  obtain ⟨yf20, hf20⟩ := some_at hxs (i := 20) (by decide)
  have f20 : DataW.trod enc Tryz.prog W base (fun _ => true) held n 3 (([a0, a1, a2, a3, a4, a5, a6, a7, a8, a9, a10, a11, a12, a13, a14, a15, a16, a17, a18, a19, a20, a21, a22, a23, a24, a25, a26].drop 20).take (Tryz.prog.cellsOf 3)) = xs[20]? := hf 20 _ rfl
  rw [c3, hf20] at f20
  obtain ⟨yf21, hf21⟩ := some_at hxs (i := 21) (by decide)
  have f21 : DataW.trod enc Tryz.prog W base (fun _ => true) held n 3 (([a0, a1, a2, a3, a4, a5, a6, a7, a8, a9, a10, a11, a12, a13, a14, a15, a16, a17, a18, a19, a20, a21, a22, a23, a24, a25, a26].drop 21).take (Tryz.prog.cellsOf 3)) = xs[21]? := hf 21 _ rfl
  rw [c3, hf21] at f21
  obtain ⟨yf22, hf22⟩ := some_at hxs (i := 22) (by decide)
  have f22 : DataW.trod enc Tryz.prog W base (fun _ => true) held n 3 (([a0, a1, a2, a3, a4, a5, a6, a7, a8, a9, a10, a11, a12, a13, a14, a15, a16, a17, a18, a19, a20, a21, a22, a23, a24, a25, a26].drop 22).take (Tryz.prog.cellsOf 3)) = xs[22]? := hf 22 _ rfl
  rw [c3, hf22] at f22
  obtain ⟨yf23, hf23⟩ := some_at hxs (i := 23) (by decide)
  have f23 : DataW.trod enc Tryz.prog W base (fun _ => true) held n 3 (([a0, a1, a2, a3, a4, a5, a6, a7, a8, a9, a10, a11, a12, a13, a14, a15, a16, a17, a18, a19, a20, a21, a22, a23, a24, a25, a26].drop 23).take (Tryz.prog.cellsOf 3)) = xs[23]? := hf 23 _ rfl
  rw [c3, hf23] at f23
  obtain ⟨yf24, hf24⟩ := some_at hxs (i := 24) (by decide)
  have f24 : DataW.trod enc Tryz.prog W base (fun _ => true) held n 3 (([a0, a1, a2, a3, a4, a5, a6, a7, a8, a9, a10, a11, a12, a13, a14, a15, a16, a17, a18, a19, a20, a21, a22, a23, a24, a25, a26].drop 24).take (Tryz.prog.cellsOf 3)) = xs[24]? := hf 24 _ rfl
  rw [c3, hf24] at f24
  obtain ⟨yf25, hf25⟩ := some_at hxs (i := 25) (by decide)
  have f25 : DataW.trod enc Tryz.prog W base (fun _ => true) held n 3 (([a0, a1, a2, a3, a4, a5, a6, a7, a8, a9, a10, a11, a12, a13, a14, a15, a16, a17, a18, a19, a20, a21, a22, a23, a24, a25, a26].drop 25).take (Tryz.prog.cellsOf 3)) = xs[25]? := hf 25 _ rfl
  rw [c3, hf25] at f25
  obtain ⟨yf26, hf26⟩ := some_at hxs (i := 26) (by decide)
  have f26 : DataW.trod enc Tryz.prog W base (fun _ => true) held n 3 (([a0, a1, a2, a3, a4, a5, a6, a7, a8, a9, a10, a11, a12, a13, a14, a15, a16, a17, a18, a19, a20, a21, a22, a23, a24, a25, a26].drop 26).take (Tryz.prog.cellsOf 3)) = xs[26]? := hf 26 _ rfl
  rw [c3, hf26] at f26
  obtain ⟨k0, rfl, g0⟩ := int_cell (c := a0) f0
  obtain ⟨k1, rfl, g1⟩ := int_cell (c := a1) f1
  obtain ⟨k2, rfl, g2⟩ := int_cell (c := a2) f2
  obtain ⟨k3, rfl, g3⟩ := int_cell (c := a3) f3
  obtain ⟨k4, rfl, g4⟩ := int_cell (c := a4) f4
  obtain ⟨k5, rfl, g5⟩ := int_cell (c := a5) f5
  obtain ⟨k6, rfl, g6⟩ := int_cell (c := a6) f6
  obtain ⟨k7, rfl, g7⟩ := int_cell (c := a7) f7
  obtain ⟨k8, rfl, g8⟩ := int_cell (c := a8) f8
  obtain ⟨k9, rfl, g9⟩ := int_cell (c := a9) f9
  obtain ⟨k10, rfl, g10⟩ := int_cell (c := a10) f10
  obtain ⟨k11, rfl, g11⟩ := int_cell (c := a11) f11
  obtain ⟨k12, rfl, g12⟩ := int_cell (c := a12) f12
  obtain ⟨k13, rfl, g13⟩ := int_cell (c := a13) f13
  obtain ⟨k14, rfl, g14⟩ := int_cell (c := a14) f14
  obtain ⟨k15, rfl, g15⟩ := int_cell (c := a15) f15
  obtain ⟨k16, rfl, g16⟩ := int_cell (c := a16) f16
  obtain ⟨k17, rfl, g17⟩ := int_cell (c := a17) f17
  obtain ⟨k18, rfl, g18⟩ := int_cell (c := a18) f18
  obtain ⟨k19, rfl, g19⟩ := int_cell (c := a19) f19
  obtain ⟨k20, rfl, g20⟩ := int_cell (c := a20) f20
  obtain ⟨k21, rfl, g21⟩ := int_cell (c := a21) f21
  obtain ⟨k22, rfl, g22⟩ := int_cell (c := a22) f22
  obtain ⟨k23, rfl, g23⟩ := int_cell (c := a23) f23
  obtain ⟨k24, rfl, g24⟩ := int_cell (c := a24) f24
  obtain ⟨k25, rfl, g25⟩ := int_cell (c := a25) f25
  obtain ⟨k26, rfl, g26⟩ := int_cell (c := a26) f26
  refine ⟨k0, k1, k2, k3, k4, k5, k6, k7, k8, k9, k10, k11, k12, k13, k14, k15, k16, k17, k18, k19, k20, k21, k22, k23, k24, k25, k26, rfl, fun x hx => ?_⟩
  simp only [List.mem_cons, List.not_mem_nil, or_false] at hx
  rcases hx with rfl | rfl | rfl | rfl | rfl | rfl | rfl | rfl | rfl | rfl | rfl | rfl | rfl | rfl | rfl | rfl | rfl | rfl | rfl | rfl | rfl | rfl | rfl | rfl | rfl | rfl | rfl
  all_goals assumption
theorem wb_arg {ts : List TypeId} {ds : List (DataW H)} (h : (DataW.weightsEach Tryz.prog ts ds).all (· ≤ reachBytes) = true) {j : Nat} {t : TypeId} {d : DataW H} (ht : ts[j]? = some t) (hd : ds[j]? = some d) : WB Tryz.prog t d := fun n hn => by
  have := List.all_eq_true.1 h _ (DataW.weights_mem_each ht hd n hn)
  simpa using this
end
end Go.Eng.YtbjnlacacapjiaaGreat
end
section
namespace Go.Proofs.YtbjnlacacapjiaaGreat.pickAll
open Go.ChangeShapes Go.WideShapes Go.ChangeAt Go.RowKit Go.Eng Go.Eng.YtbjnlacacapjiaaGreat
theorem own : ownKnob Tryz.prog.godebug = none := by kernel_rfl
theorem laidOut : laidOutB Tryz.prog = true := by kernel_rfl
theorem walk {m0 m1 m2 m3 m4 m5 m6 m7 m8 m9 m10 m11 m12 m13 m14 m15 m16 m17 m18 m19 m20 m21 m22 m23 m24 m25 m26 : Int} {a1 : Option Addr} {len1 cap1 : Nat} {L1 : List Placed} {a2 : Option Addr} {len2 cap2 : Nat} {L2 : List ByteArray} {a3 : Option Addr} {len3 cap3 : Nat} {L3 : List Int} {i4 : Int} {W : World} (hC : ∀ x ∈ [m0, m1, m2, m3, m4, m5, m6, m7, m8, m9, m10, m11, m12, m13, m14, m15, m16, m17, m18, m19, m20, m21, m22, m23, m24, m25, m26], iI x) (R1 : (wh W).row a1 (len1 * 7) (inV L1)) (z1 : len1 ≤ 140737488355328) (e1 : L1.length = len1) (P1 : ∀ x ∈ L1, okP x) (R2 : (wh W).row a2 len2 (ptrV L2)) (z2 : (len2 + 40) * 16 ≤ 140737488355328) (e2 : L2.length = len2) (P2 : ∀ x ∈ L2, x.size ≤ 140737488355328) (R3 : (wh W).row a3 len3 (uvs L3)) (z3 : (len3 + 40) * 8 ≤ 140737488355328) (e3 : L3.length = len3) (P3 : ∀ x ∈ L3, okU x) (w4 : iI i4) :
    Calls Tryz.prog 3 #[.agg ⟨[.int .i64 m0, .int .i64 m1, .int .i64 m2, .int .i64 m3, .int .i64 m4, .int .i64 m5, .int .i64 m6, .int .i64 m7, .int .i64 m8, .int .i64 m9, .int .i64 m10, .int .i64 m11, .int .i64 m12, .int .i64 m13, .int .i64 m14, .int .i64 m15, .int .i64 m16, .int .i64 m17, .int .i64 m18, .int .i64 m19, .int .i64 m20, .int .i64 m21, .int .i64 m22, .int .i64 m23, .int .i64 m24, .int .i64 m25, .int .i64 m26]⟩, .slice a1 len1 cap1, .slice a2 len2 cap2, .slice a3 len3 cap3, .int .i64 i4] W fun e W' => e = .returned (.bool true) ∧ Below W.heap.size W W' := by
  have hT : F3.T m0 m1 m2 m3 m4 m5 m6 m7 m8 m9 m10 m11 m12 m13 m14 m15 m16 m17 m18 m19 m20 m21 m22 m23 m24 m25 m26 ⟨a1, len1, cap1⟩ ⟨a2, len2, cap2⟩ ⟨a3, len3, cap3⟩ i4 (wh W) (fun v h' => v = .bool true ∧ Keep (wh W) h') := pall_s (inn := L1) (ptrs := L2) (lk := L3) R1 (fun p hp => ⟨(P1 p hp).1.1, (P1 p hp).2.2.1.1⟩) R2 P2 (by omega) R3 (by omega) (hC m5 (by simp)).1 (hC m7 (by simp)).1 (hC m8 (by simp)).1 (hC m9 (by simp)).1 (hC m10 (by simp)).1 (hC m12 (by simp)).1 w4.2 (by omega) fun h' K => ⟨rfl, K⟩
  have hV : F3.V [.agg ⟨[.int .i64 m0, .int .i64 m1, .int .i64 m2, .int .i64 m3, .int .i64 m4, .int .i64 m5, .int .i64 m6, .int .i64 m7, .int .i64 m8, .int .i64 m9, .int .i64 m10, .int .i64 m11, .int .i64 m12, .int .i64 m13, .int .i64 m14, .int .i64 m15, .int .i64 m16, .int .i64 m17, .int .i64 m18, .int .i64 m19, .int .i64 m20, .int .i64 m21, .int .i64 m22, .int .i64 m23, .int .i64 m24, .int .i64 m25, .int .i64 m26]⟩, .slice a1 len1 cap1, .slice a2 len2 cap2, .slice a3 len3 cap3, .int .i64 i4] (wh W) (fun v h' => v = .bool true ∧ Keep (wh W) h') := hT
  refine (F3.ok.2 _ (wh W) _ hV (fun _ => none) W (own_wh W)).mono fun e W' ⟨v, h', he, ho, hw, hv, K⟩ => ?_
  subst hv
  exact ⟨he, below_of hw ho K⟩
set_option maxRecDepth 100000 in
set_option maxHeartbeats 1000000 in
theorem lifted (os : Os) (started : os.Started) (H : Type) (enc : TypeId × Value → H) :
    ReturnsInHanded {} Tryz.checked os 3 .any (Rows.pickAllSpec.pre6 enc Tryz.prog Tryz.f3 Rows.pickAllRow.domain false) (Rows.pickAllSpec.post enc Tryz.prog Tryz.f3 false true false false) := by
  refine returnsInHanded_of_change_sized (C := Tryz.checked) own started (by kernel_rfl) Tryz.func3
    (ChangeSpec.witness6 (enc := enc) (C := Tryz.checked) false ⟨#[], #[.agg ⟨[.int .i64 0, .int .i64 0, .int .i64 0, .int .i64 0, .int .i64 0, .int .i64 0, .int .i64 0, .int .i64 0, .int .i64 0, .int .i64 0, .int .i64 0, .int .i64 0, .int .i64 0, .int .i64 0, .int .i64 0, .int .i64 0, .int .i64 0, .int .i64 0, .int .i64 0, .int .i64 0, .int .i64 0, .int .i64 0, .int .i64 0, .int .i64 0, .int .i64 0, .int .i64 0, .int .i64 0]⟩, .slice none 0 0, .slice none 0 0, .slice none 0 0, .int .i64 0], []⟩ 8 (by kernel_rfl) (by kernel_rfl) (by kernel_rfl) (by kernel_rfl)) ?_
  intro W base args ds gs before hval0 hW hcnd hsz0 _
  have hval : ∀ (j : Nat) t v, Tryz.f3.params[j]? = some t → args[j]? = some v → Value.okWide Tryz.prog W .any base t v := hval0
  have hsz : (DataW.weightsEach Tryz.prog (Tryz.f3.params.toList ++ Rows.pickAllSpec.plain.varTypes Tryz.prog) (ds ++ gs)).all (· ≤ reachBytes) = true := hsz0
  have hW' := hW
  obtain ⟨p, q, hA0, hV, rfl, hfz, hnd⟩ := hW
  have hA : DataW.TrodAll enc Tryz.prog W 0 (fun _ => true) true Tryz.f3.params.toList args.toList ds p := hA0
  rw [Tryz.params3] at hA hval
  obtain ⟨v0, vs0, d0, ds0, p0, q0, hargs, rfl, rfl, h0, r0⟩ := trodAll_cons hA
  obtain ⟨v1, vs1, d1, ds1, p1, q1, rfl, rfl, rfl, h1, r1⟩ := trodAll_cons r0
  obtain ⟨v2, vs2, d2, ds2, p2, q2, rfl, rfl, rfl, h2, r2⟩ := trodAll_cons r1
  obtain ⟨v3, vs3, d3, ds3, p3, q3, rfl, rfl, rfl, h3, r3⟩ := trodAll_cons r2
  obtain ⟨v4, vs4, d4, ds4, p4, q4, rfl, rfl, rfl, h4, r4⟩ := trodAll_cons r3
  obtain ⟨rfl, rfl, rfl⟩ := trodAll_nil r4
  obtain rfl : args = #[v0, v1, v2, v3, v4] := by cases args; simp_all
  obtain ⟨rfl, rfl⟩ := trodVars_none hV
  obtain ⟨cs, rfl, hcs⟩ := okWide_struct Tryz.underlying23 (hval 0 23 v0 rfl rfl)
  have k0 := h0
  have lt0 : ∀ x ∈ p0, x.block < W.heap.size := by obtain ⟨m, hm⟩ := k0; exact DataW.trod_lt m _ _ _ hm
  obtain ⟨m0, m1, m2, m3, m4, m5, m6, m7, m8, m9, m10, m11, m12, m13, m14, m15, m16, m17, m18, m19, m20, m21, m22, m23, m24, m25, m26, hcs2, hC⟩ := (by obtain ⟨m, hm⟩ := h0; exact open_config (by show cs.toList.length = 27; rw [Array.length_toList, hcs, c58]) hm : ∃ m0 m1 m2 m3 m4 m5 m6 m7 m8 m9 m10 m11 m12 m13 m14 m15 m16 m17 m18 m19 m20 m21 m22 m23 m24 m25 m26 : Int, cs.toList = [.int .i64 m0, .int .i64 m1, .int .i64 m2, .int .i64 m3, .int .i64 m4, .int .i64 m5, .int .i64 m6, .int .i64 m7, .int .i64 m8, .int .i64 m9, .int .i64 m10, .int .i64 m11, .int .i64 m12, .int .i64 m13, .int .i64 m14, .int .i64 m15, .int .i64 m16, .int .i64 m17, .int .i64 m18, .int .i64 m19, .int .i64 m20, .int .i64 m21, .int .i64 m22, .int .i64 m23, .int .i64 m24, .int .i64 m25, .int .i64 m26] ∧ (∀ x ∈ [m0, m1, m2, m3, m4, m5, m6, m7, m8, m9, m10, m11, m12, m13, m14, m15, m16, m17, m18, m19, m20, m21, m22, m23, m24, m25, m26], iI x))
  obtain rfl : cs = ⟨[.int .i64 m0, .int .i64 m1, .int .i64 m2, .int .i64 m3, .int .i64 m4, .int .i64 m5, .int .i64 m6, .int .i64 m7, .int .i64 m8, .int .i64 m9, .int .i64 m10, .int .i64 m11, .int .i64 m12, .int .i64 m13, .int .i64 m14, .int .i64 m15, .int .i64 m16, .int .i64 m17, .int .i64 m18, .int .i64 m19, .int .i64 m20, .int .i64 m21, .int .i64 m22, .int .i64 m23, .int .i64 m24, .int .i64 m25, .int .i64 m26]⟩ := Array.ext' hcs2
  obtain ⟨a1, len1, cap1, rfl⟩ := okWide_slice Tryz.underlying24 (hval 1 24 v1 rfl rfl)
  have k1 := h1
  have lt1 : ∀ x ∈ p1, x.block < W.heap.size := by obtain ⟨m, hm⟩ := k1; exact DataW.trod_lt m _ _ _ hm
  have wb1 : WB Tryz.prog 24 d1 := wb_arg (j := 1) hsz rfl rfl
  obtain ⟨L1, R1, z1, e1, P1⟩ := (by obtain ⟨m, hm⟩ := k1; exact open_placed hm wb1 : ∃ L : List Placed, (wh W).row a1 (len1 * 7) (inV L) ∧ len1 ≤ 140737488355328 ∧ L.length = len1 ∧ ∀ p ∈ L, okP p)
  obtain ⟨a2, len2, cap2, rfl⟩ := okWide_slice Tryz.underlying25 (hval 2 25 v2 rfl rfl)
  have k2 := h2
  have lt2 : ∀ x ∈ p2, x.block < W.heap.size := by obtain ⟨m, hm⟩ := k2; exact DataW.trod_lt m _ _ _ hm
  have wb2 : WB Tryz.prog 25 d2 := wb_arg (j := 2) hsz rfl rfl
  obtain ⟨L2, R2, z2, e2, P2⟩ := (by obtain ⟨m, hm⟩ := k2; exact open_texts hm wb2 : ∃ L : List ByteArray, (wh W).row a2 len2 (ptrV L) ∧ (len2 + 40) * 16 ≤ 140737488355328 ∧ L.length = len2 ∧ ∀ s ∈ L, s.size ≤ 140737488355328)
  obtain ⟨a3, len3, cap3, rfl⟩ := okWide_slice Tryz.underlying26 (hval 3 26 v3 rfl rfl)
  have k3 := h3
  have lt3 : ∀ x ∈ p3, x.block < W.heap.size := by obtain ⟨m, hm⟩ := k3; exact DataW.trod_lt m _ _ _ hm
  have wb3 : WB Tryz.prog 26 d3 := wb_arg (j := 3) hsz rfl rfl
  obtain ⟨L3, R3, z3, e3, P3⟩ := (by obtain ⟨m, hm⟩ := k3; exact open_nums hm wb3 : ∃ L : List Int, (wh W).row a3 len3 (uvs L) ∧ (len3 + 40) * 8 ≤ 140737488355328 ∧ L.length = len3 ∧ ∀ n ∈ L, okU n)
  obtain ⟨a4, rfl, rfl, rfl, w4⟩ := open_int Tryz.underlying3 (hval 4 3 v4 rfl rfl) h4
  clear hA0 hval0 hsz0
  refine (walk hC R1 z1 e1 P1 R2 z2 e2 P2 R3 z3 e3 P3 (wf_i64 w4)).mono fun e W' ⟨he, bel⟩ => ?_
  subst he
  exact ⟨_, rfl, _, _, _, [], _, [], hW', trodAll_mk1 (shut_bool Tryz.underlying4 _), (trodAll_cons_mk (Below.trod laidOut (by kernel_rfl) (of_decide_eq_true (by kernel_rfl)) k0 bel lt0) (trodAll_cons_mk (Below.trod laidOut (by kernel_rfl) (of_decide_eq_true (by kernel_rfl)) k1 bel lt1) (trodAll_cons_mk (Below.trod laidOut (by kernel_rfl) (of_decide_eq_true (by kernel_rfl)) k2 bel lt2) (trodAll_cons_mk (Below.trod laidOut (by kernel_rfl) (of_decide_eq_true (by kernel_rfl)) k3 bel lt3) (trodAll_cons_mk (shut_int Tryz.underlying3 w4) ( trodAll_mk0)))))), rfl, bel.frame _, fun h => by cases h⟩
theorem over : Rows.pickAllRow.holds Tryz.pinned (OpenSpec.ofChange Rows.pickAllSpec) :=
  OpenClaim.holds_of_wide 3 Tryz.f3 rfl rfl rfl rfl rfl rfl rfl ⟨rfl, rfl, rfl, rfl, rfl⟩ rfl rfl rfl rfl rfl (by kernel_rfl) Tryz.func3 (by kernel_rfl)
    (of_decide_eq_true (by kernel_rfl)) (by unfold Func.isWrapper; first | (rw [if_pos (by decide +kernel)]; kernel_rfl) | (rw [if_neg (by decide +kernel)]; exact ⟨rfl, rfl⟩))
    (fun os started H enc _ => lifted os started H enc)
theorem proved : Rows.PickAllSaid := over
#print axioms proved
end Go.Proofs.YtbjnlacacapjiaaGreat.pickAll
end
