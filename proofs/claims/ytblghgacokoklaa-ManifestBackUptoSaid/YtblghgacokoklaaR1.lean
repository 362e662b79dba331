/-
  ROWS, 1: an argument that is a list of edits.
-/
import Derived.Test.YtblghgacokoklaaS15
import Derived.Test.YtblghgacokoklaaR0
set_option linter.unusedSimpArgs false
set_option linter.unusedVariables false
namespace Go.Eng.Ytblghgacokoklaa
open Go.ChangeShapes Go.WideShapes Go.RowKit Go.Proofs
theorem add_add' (a : Addr) (m n : Nat) : (a.add m).add n = a.add (m + n) := by
  unfold Addr.add
  by_cases h1 : m = 0
  · subst h1; simp
  · by_cases h2 : n = 0
    · subst h2; simp [h1]
    · simp [h1, h2, Nat.add_assoc]
theorem wf_u64 {n : Int} (h : (Lit.int .u64 n).wf = true) : okU n := by
  simp [Lit.wf, IntKind.min, IntKind.max, IntKind.signed, IntKind.bits] at h
  exact ⟨by omega, by omega⟩
theorem wf_i64 {n : Int} (h : (Lit.int .i64 n).wf = true) : iI n := by
  simp [Lit.wf, IntKind.min, IntKind.max, IntKind.signed, IntKind.bits] at h
  exact ⟨by omega, by omega⟩
section
variable {H : Type} {enc : TypeId × Value → H} {P : Program} {W : World} {base : Nat} {held : Bool}
theorem slice_rows {α : Type} {t e : TypeId} {fuel : Nat} {s : Sl} {y : DataW H × List MemPlace} (sz : Nat) (f : α → List Value) (ok : α → Prop) (hsz : 0 < sz) (ht : P.underlying t = some (.slice e)) (hc : P.cellsOf e = sz) (hf : ∀ x, (f x).length = sz)
    (each : ∀ (fuel : Nat) (cs : List Value) (z : DataW H × List MemPlace), cs.length = sz → DataW.trod enc P W base (fun _ => true) held fuel e cs = some z → ∃ a, cs = f a ∧ ok a)
    (h : DataW.trod enc P W base (fun _ => true) held fuel t [.slice s.a s.n s.c] = some y) : ∃ l : List α, (wh W).row s.a (s.n * sz) (l.flatMap f) ∧ s.n ≤ s.c ∧ s.c ≤ maxLen ∧ l.length = s.n ∧ ∀ a ∈ l, ok a := by
  rcases DataW.trod_slice ht h with ⟨hcs, _⟩ | ⟨x, len, cap, elems, rest, n, _, hcs, _, hb, hl, hm, hlen, hel, _, _⟩
  · simp only [List.cons.injEq, Value.slice.injEq, and_true] at hcs
    obtain ⟨h1, h2, h3⟩ := hcs
    exact ⟨[], by rw [h1, h2]; exact ⟨by simp, .inl (by simp)⟩, by omega, by omega, by rw [h2]; rfl, fun a ha => (by cases ha)⟩
  · simp only [List.cons.injEq, Value.slice.injEq, and_true] at hcs
    obtain ⟨h1, h2, h3⟩ := hcs
    have ea : ∀ i : Fin len, ∃ a : α, (∀ j, j < sz → W.cell? (x.add (i.1 * sz + j)) = (f a)[j]?) ∧ ok a := by
      rintro ⟨i, hi⟩
      have q := hel i hi
      rw [hc, List.getElem?_eq_getElem (by omega), Option.bind_eq_some_iff] at q
      obtain ⟨cs', hcs', hy⟩ := q
      obtain ⟨_, hcl, hcell⟩ := World.cells?_some hcs'
      obtain ⟨a, rfl, hok⟩ := each _ _ _ hcl hy
      refine ⟨a, fun j hj => ?_, hok⟩
      rw [← hcell j hj, add_add']
    obtain ⟨g, hg⟩ := Classical.axiomOfChoice ea
    refine ⟨List.ofFn g, ?_, by omega, by omega, by rw [List.length_ofFn]; omega, fun a ha => ?_⟩
    · rw [h1, h2]
      have hll : ((List.ofFn g).flatMap f).length = len * sz := by
        have : ∀ l : List α, (l.flatMap f).length = l.length * sz := fun l => flat_length f sz hf l
        rw [this, List.length_ofFn]
      refine row_of_cells hll fun k hk => ?_
      have hi : k / sz < len := Nat.div_lt_of_lt_mul (by rw [Nat.mul_comm]; exact hk)
      have hj : k % sz < sz := Nat.mod_lt _ hsz
      have hkk : k = k / sz * sz + k % sz := by rw [Nat.mul_comm]; exact (Nat.div_add_mod k sz).symm
      have q := (hg ⟨k / sz, hi⟩).1 (k % sz) hj
      have q2 := flat_get f sz hf (List.ofFn g) (k / sz) (k % sz) (by rw [List.length_ofFn]; exact hi) hj
      simp only at q
      rw [← hkk] at q q2
      rw [q, q2]
      simp
    · obtain ⟨i, rfl⟩ := (List.mem_ofFn ..).1 ha
      exact (hg i).2
end
section
variable {H : Type} {enc : TypeId × Value → H} {W : World} {base : Nat} {held : Bool}
theorem c3 : Try.prog.cellsOf 3 = 1 := by kernel_rfl
theorem c55 : Try.prog.cellsOf 55 = 1 := by kernel_rfl
theorem c9 : Try.prog.cellsOf 9 = 1 := by kernel_rfl
theorem c85 : Try.prog.cellsOf 85 = 6 := by kernel_rfl
theorem c87 : Try.prog.cellsOf 87 = 7 := by kernel_rfl
theorem c89 : Try.prog.cellsOf 89 = 2 := by kernel_rfl
theorem c60 : Try.prog.cellsOf 60 = 6 := by kernel_rfl
theorem c56 : Try.prog.cellsOf 56 = 1 := by kernel_rfl
theorem c57 : Try.prog.cellsOf 57 = 1 := by kernel_rfl
theorem c58 : Try.prog.cellsOf 58 = 1 := by kernel_rfl
theorem int_cell {fuel : Nat} {c : Value} {x : Option (DataW H × List MemPlace)} (h : DataW.trod enc Try.prog W base (fun _ => true) held fuel 3 [c] = x) (hx : x.isSome) : ∃ n, c = .int .i64 n ∧ iI n := by
  obtain ⟨y, rfl⟩ := Option.isSome_iff_exists.1 hx
  obtain ⟨n, hn, _, hw⟩ := DataW.trod_int Try.underlying3 h
  exact ⟨n, by simpa using hn, wf_i64 hw⟩
theorem num_cell {fuel : Nat} {c : Value} {x : Option (DataW H × List MemPlace)} (h : DataW.trod enc Try.prog W base (fun _ => true) held fuel 55 [c] = x) (hx : x.isSome) : ∃ n, c = .int .u64 n ∧ okU n := by
  obtain ⟨y, rfl⟩ := Option.isSome_iff_exists.1 hx
  obtain ⟨n, hn, _, hw⟩ := DataW.trod_int Try.underlying55 h
  exact ⟨n, by simpa using hn, wf_u64 hw⟩
theorem str_cell {fuel : Nat} {c : Value} {x : Option (DataW H × List MemPlace)} (h : DataW.trod enc Try.prog W base (fun _ => true) held fuel 9 [c] = x) (hx : x.isSome) : ∃ s : ByteArray, c = .string s ∧ s.size ≤ 9223372036854775807 := by
  obtain ⟨y, rfl⟩ := Option.isSome_iff_exists.1 hx
  obtain ⟨s, hn, _, hw⟩ := DataW.trod_string Try.underlying9 h
  exact ⟨s, by simpa using hn, by have : maxLen = 9223372036854775807 := by decide
                                  omega⟩
theorem some_at {xs : List (DataW H × List MemPlace)} {n i : Nat} (h : xs.length = n) (hi : i < n) : (xs[i]?).isSome := by
  rw [List.getElem?_eq_getElem (by omega)]; rfl
theorem place_each (fuel : Nat) (cs : List Value) (z : DataW H × List MemPlace) (hl : cs.length = 2) (h : DataW.trod enc Try.prog W base (fun _ => true) held fuel 89 cs = some z) : ∃ p : Place, cs = p.cells ∧ iI p.lv ∧ okU p.num := by
  obtain ⟨xs, n, _, _, _, hxs, hf⟩ := DataW.trod_struct Try.underlying89 h
  rcases cs with _ | ⟨a0, _ | ⟨a1, _ | ⟨a2, cs⟩⟩⟩
  · cases hl
  · cases hl
  · have f0 : DataW.trod enc Try.prog W base (fun _ => true) held n 3 (([a0, a1].drop 0).take (Try.prog.cellsOf 3)) = xs[0]? := hf 0 _ rfl
    rw [c3] at f0
    have f1 : DataW.trod enc Try.prog W base (fun _ => true) held n 55 (([a0, a1].drop 1).take (Try.prog.cellsOf 55)) = xs[1]? := hf 1 _ rfl
    rw [c55] at f1
    obtain ⟨n0, rfl, g0⟩ := int_cell (c := a0) f0 (some_at hxs (by decide))
    obtain ⟨n1, rfl, g1⟩ := num_cell (c := a1) f1 (some_at hxs (by decide))
    exact ⟨⟨n0, n1⟩, rfl, g0, g1⟩
  · simp at hl
theorem placed_each (fuel : Nat) (cs : List Value) (z : DataW H × List MemPlace) (hl : cs.length = 7) (h : DataW.trod enc Try.prog W base (fun _ => true) held fuel 87 cs = some z) : ∃ p : Placed, cs = p.cells ∧ iI p.lv ∧ okU p.num ∧ iI p.weight ∧ iI p.bytes ∧ iI p.entries ∧ p.least.size ≤ 9223372036854775807 ∧ p.greatest.size ≤ 9223372036854775807 := by
  obtain ⟨xs, n, _, _, _, hxs, hf⟩ := DataW.trod_struct Try.underlying87 h
  rcases cs with _ | ⟨a0, _ | ⟨a1, _ | ⟨a2, _ | ⟨a3, _ | ⟨a4, _ | ⟨a5, _ | ⟨a6, _ | ⟨a7, cs⟩⟩⟩⟩⟩⟩⟩⟩
  case cons.cons.cons.cons.cons.cons.cons.nil =>
    have f0 : DataW.trod enc Try.prog W base (fun _ => true) held n 3 (([a0, a1, a2, a3, a4, a5, a6].drop 0).take (Try.prog.cellsOf 3)) = xs[0]? := hf 0 _ rfl
    rw [c3] at f0
    have f1 : DataW.trod enc Try.prog W base (fun _ => true) held n 85 (([a0, a1, a2, a3, a4, a5, a6].drop 1).take (Try.prog.cellsOf 85)) = xs[1]? := hf 1 _ rfl
    rw [c85] at f1
    obtain ⟨n0, rfl, g0⟩ := int_cell (c := a0) f0 (some_at hxs (by decide))
    obtain ⟨y, hy⟩ := Option.isSome_iff_exists.1 (some_at hxs (i := 1) (by decide))
    rw [hy] at f1
    have f1 : DataW.trod enc Try.prog W base (fun _ => true) held n 85 [a1, a2, a3, a4, a5, a6] = some y := f1
    obtain ⟨ys, m, _, _, _, hys, hg⟩ := DataW.trod_struct Try.underlying85 f1
    have e0 : DataW.trod enc Try.prog W base (fun _ => true) held m 55 (([a1, a2, a3, a4, a5, a6].drop 0).take (Try.prog.cellsOf 55)) = ys[0]? := hg 0 _ rfl
    rw [c55] at e0
    have e1 : DataW.trod enc Try.prog W base (fun _ => true) held m 3 (([a1, a2, a3, a4, a5, a6].drop 1).take (Try.prog.cellsOf 3)) = ys[1]? := hg 1 _ rfl
    rw [c3] at e1
    have e2 : DataW.trod enc Try.prog W base (fun _ => true) held m 3 (([a1, a2, a3, a4, a5, a6].drop 2).take (Try.prog.cellsOf 3)) = ys[2]? := hg 2 _ rfl
    rw [c3] at e2
    have e3 : DataW.trod enc Try.prog W base (fun _ => true) held m 3 (([a1, a2, a3, a4, a5, a6].drop 3).take (Try.prog.cellsOf 3)) = ys[3]? := hg 3 _ rfl
    rw [c3] at e3
    have e4 : DataW.trod enc Try.prog W base (fun _ => true) held m 9 (([a1, a2, a3, a4, a5, a6].drop 4).take (Try.prog.cellsOf 9)) = ys[4]? := hg 4 _ rfl
    rw [c9] at e4
    have e5 : DataW.trod enc Try.prog W base (fun _ => true) held m 9 (([a1, a2, a3, a4, a5, a6].drop 5).take (Try.prog.cellsOf 9)) = ys[5]? := hg 5 _ rfl
    rw [c9] at e5
    obtain ⟨n1, rfl, g1⟩ := num_cell (c := a1) e0 (some_at hys (by decide))
    obtain ⟨n2, rfl, g2⟩ := int_cell (c := a2) e1 (some_at hys (by decide))
    obtain ⟨n3, rfl, g3⟩ := int_cell (c := a3) e2 (some_at hys (by decide))
    obtain ⟨n4, rfl, g4⟩ := int_cell (c := a4) e3 (some_at hys (by decide))
    obtain ⟨s5, rfl, g5⟩ := str_cell (c := a5) e4 (some_at hys (by decide))
    obtain ⟨s6, rfl, g6⟩ := str_cell (c := a6) e5 (some_at hys (by decide))
    exact ⟨⟨n0, n1, n2, n3, n4, s5, s6⟩, rfl, g0, g1, g2, g3, g4, g5, g6⟩
  all_goals simp at hl
theorem text_each (fuel : Nat) (cs : List Value) (z : DataW H × List MemPlace) (hl : cs.length = 1) (h : DataW.trod enc Try.prog W base (fun _ => true) held fuel 9 cs = some z) : ∃ s : ByteArray, cs = [Value.string s] ∧ s.size ≤ 9223372036854775807 := by
  rcases cs with _ | ⟨a0, _ | ⟨a1, cs⟩⟩
  · cases hl
  · obtain ⟨s, rfl, hs⟩ := str_cell h rfl
    exact ⟨s, rfl, hs⟩
  · simp at hl
theorem slice_cell {t e : TypeId} {fuel : Nat} {c : Value} {x : Option (DataW H × List MemPlace)} (ht : Try.prog.underlying t = some (.slice e)) (h : DataW.trod enc Try.prog W base (fun _ => true) held fuel t [c] = x) (hx : x.isSome) : ∃ s : Sl, c = .slice s.a s.n s.c ∧ ∃ y, DataW.trod enc Try.prog W base (fun _ => true) held fuel t [.slice s.a s.n s.c] = some y := by
  obtain ⟨y, rfl⟩ := Option.isSome_iff_exists.1 hx
  rcases DataW.trod_slice ht h with ⟨hcs, _⟩ | ⟨a, len, cap, _, _, _, _, hcs, _, _, _, _, _, _, _, _⟩
  · simp only [List.cons.injEq, and_true] at hcs
    subst hcs
    exact ⟨⟨none, 0, 0⟩, rfl, y, h⟩
  · simp only [List.cons.injEq, and_true] at hcs
    subst hcs
    exact ⟨⟨some a, len, cap⟩, rfl, y, h⟩
theorem flat_one : ∀ p : List ByteArray, p.flatMap (fun s : ByteArray => [Value.string s]) = ptrV p
  | [] => rfl
  | a :: l => by
    rw [List.flatMap_cons, flat_one l]
    rfl
theorem edit_each (fuel : Nat) (cs : List Value) (z : DataW H × List MemPlace) (hl : cs.length = 6) (h : DataW.trod enc Try.prog W base (fun _ => true) held fuel 60 cs = some z) :
    ∃ x : EdS, cs = x.cells ∧ EdAt (wh W) x.e x.a x.b x.c ∧ Raw x.e ∧ x.e.out.length ≤ 9223372036854775807 ∧ x.e.inn.length ≤ 9223372036854775807 ∧ x.e.ptr.length ≤ 9223372036854775807 := by
  obtain ⟨xs, n, _, _, _, hxs, hf⟩ := DataW.trod_struct Try.underlying60 h
  rcases cs with _ | ⟨a0, _ | ⟨a1, _ | ⟨a2, _ | ⟨a3, _ | ⟨a4, _ | ⟨a5, _ | ⟨a6, cs⟩⟩⟩⟩⟩⟩⟩
  case cons.cons.cons.cons.cons.cons.nil =>
    have f0 : DataW.trod enc Try.prog W base (fun _ => true) held n 55 (([a0, a1, a2, a3, a4, a5].drop 0).take (Try.prog.cellsOf 55)) = xs[0]? := hf 0 _ rfl
    rw [c55] at f0
    have f1 : DataW.trod enc Try.prog W base (fun _ => true) held n 55 (([a0, a1, a2, a3, a4, a5].drop 1).take (Try.prog.cellsOf 55)) = xs[1]? := hf 1 _ rfl
    rw [c55] at f1
    have f2 : DataW.trod enc Try.prog W base (fun _ => true) held n 55 (([a0, a1, a2, a3, a4, a5].drop 2).take (Try.prog.cellsOf 55)) = xs[2]? := hf 2 _ rfl
    rw [c55] at f2
    have f3 : DataW.trod enc Try.prog W base (fun _ => true) held n 56 (([a0, a1, a2, a3, a4, a5].drop 3).take (Try.prog.cellsOf 56)) = xs[3]? := hf 3 _ rfl
    rw [c56] at f3
    have f4 : DataW.trod enc Try.prog W base (fun _ => true) held n 57 (([a0, a1, a2, a3, a4, a5].drop 4).take (Try.prog.cellsOf 57)) = xs[4]? := hf 4 _ rfl
    rw [c57] at f4
    have f5 : DataW.trod enc Try.prog W base (fun _ => true) held n 58 (([a0, a1, a2, a3, a4, a5].drop 5).take (Try.prog.cellsOf 58)) = xs[5]? := hf 5 _ rfl
    rw [c58] at f5
    obtain ⟨n0, rfl, g0⟩ := num_cell (c := a0) f0 (some_at hxs (by decide))
    obtain ⟨n1, rfl, g1⟩ := num_cell (c := a1) f1 (some_at hxs (by decide))
    obtain ⟨n2, rfl, g2⟩ := num_cell (c := a2) f2 (some_at hxs (by decide))
    obtain ⟨s3, rfl, y3, h3⟩ := slice_cell (c := a3) Try.underlying56 f3 (some_at hxs (by decide))
    obtain ⟨s4, rfl, y4, h4⟩ := slice_cell (c := a4) Try.underlying57 f4 (some_at hxs (by decide))
    obtain ⟨s5, rfl, y5, h5⟩ := slice_cell (c := a5) Try.underlying58 f5 (some_at hxs (by decide))
    obtain ⟨o, r3, _, m3, l3, k3⟩ := slice_rows 2 Place.cells (fun p => iI p.lv ∧ okU p.num) (by decide) Try.underlying56 c89 (fun _ => rfl) place_each h3
    obtain ⟨i, r4, _, m4, l4, k4⟩ := slice_rows 7 Placed.cells (fun p => iI p.lv ∧ okU p.num ∧ iI p.weight ∧ iI p.bytes ∧ iI p.entries ∧ p.least.size ≤ 9223372036854775807 ∧ p.greatest.size ≤ 9223372036854775807) (by decide) Try.underlying57 c87 (fun _ => rfl) placed_each h4
    obtain ⟨p, r5, _, m5, l5, k5⟩ := slice_rows 1 (fun s : ByteArray => [Value.string s]) (fun s => s.size ≤ 9223372036854775807) (by decide) Try.underlying58 c9 (fun _ => rfl) text_each h5
    have hmax : maxLen = 9223372036854775807 := by decide
    have e5 : p.flatMap (fun s : ByteArray => [Value.string s]) = ptrV p := flat_one p
    rw [e5, Nat.mul_one] at r5
    exact ⟨⟨⟨n0, n1, n2, o, i, p⟩, s3, s4, s5⟩, rfl, ⟨r3, r4, r5⟩, ⟨g0, g1, g2, k3, k4, k5⟩, by show o.length ≤ _; omega, by show i.length ≤ _; omega, by show p.length ≤ _; omega⟩
  all_goals simp at hl
theorem open_edits {a : Option Addr} {len cap : Nat} {d : DataW H} {ps : List MemPlace} (h : DataW.Trod enc Try.prog W base (fun _ => true) held 44 (.slice a len cap) d ps) : ∃ L, Args (wh W) ⟨a, len, cap⟩ L := by
  obtain ⟨fuel, hf0⟩ := h
  have hf1 : DataW.trod enc Try.prog W base (fun _ => true) held fuel 44 [.slice (⟨a, len, cap⟩ : Sl).a (⟨a, len, cap⟩ : Sl).n (⟨a, len, cap⟩ : Sl).c] = some (d, ps) := hf0
  obtain ⟨L, r, _, _, _, k⟩ := slice_rows 6 EdS.cells (fun x => EdAt (wh W) x.e x.a x.b x.c ∧ Raw x.e ∧ x.e.out.length ≤ 9223372036854775807 ∧ x.e.inn.length ≤ 9223372036854775807 ∧ x.e.ptr.length ≤ 9223372036854775807) (by decide) Try.underlying44 c60 (fun _ => rfl) edit_each hf1
  exact ⟨L, r, fun x hx => (k x hx).1, fun x hx => (k x hx).2.1, fun x hx => (k x hx).2.2⟩
end
end Go.Eng.Ytblghgacokoklaa
