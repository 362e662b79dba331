/-
  TEXTS OF MINE, JOINED: Q1 P0 P1 P2 PG PA PH P3 Q2.
-/
import Derived.Test.YtekflkpnpibneaaK2
import Derived.Test.YtekflkpnpibneaaProg
import Derived.WalkKit
import Derived.MapKept
import Derived.Laws.Externs
import Derived.Shelf.SlIter.Nil
import Derived.Shelf.SortM.Plain
import Derived.Shelf.SortM.SortNone
import Derived.Ground.GgzProg
import Derived.Ground.SlgmProg
section

/-
  THE DISK, PLAINLY: what each call answers and leaves.
-/
set_option linter.unusedSimpArgs false
set_option linter.unusedVariables false
namespace Go.Eng
structure Fil where
  data : List UInt8
  sure : Nat
/-- A change of the directory: 0 a file made, 1 a name changed, 2 a name taken away. -/
structure Cg where
  kind : Int
  nm : ByteArray
  to : ByteArray
  id : Nat
structure FileR where
  nm : ByteArray
  data : List UInt8
  sure : Nat
structure Dk where
  room : Int
  fl : List Fil
  now : Dir
  sure : Dir
  chg : List Cg
  left : Int
  well : Int
  fails : Int
  part : Int
  down : Bool
def dlay (d : Dir) (c : Cg) : Dir :=
  if c.kind = 0 then dins d c.nm c.id
  else if c.kind = 1 then (match dget d c.nm with | some i => dins (ddel d c.nm) c.to i | none => d)
  else ddel d c.nm
def byteOk (b : UInt8) : Bool := (97 ≤ b.toNat && b.toNat ≤ 122) || (48 ≤ b.toNat && b.toNat ≤ 57) || b.toNat == 45
def nameOk (s : ByteArray) : Bool := decide (1 ≤ s.size) && decide (s.size ≤ 24) && s.data.toList.all byteOk
def dbegin (S : Dk) (ok : Bool) : Int × Dk :=
  if S.down = true then (30, S) else if ok = false then (33, S) else if 0 < S.well then (0, { S with well := S.well - 1 }) else if 0 < S.fails then (31, { S with fails := S.fails - 1 }) else (0, S)
def dfalls (S : Dk) (cost : Int) : Option Int × Dk :=
  if S.left = 0 then (none, S) else if cost < S.left then (none, { S with left := S.left - cost }) else (some (S.left - 1), { S with left := 0, well := 0, fails := 0, part := 0, down := true })
def dlen (S : Dk) (i : Nat) : Nat := match S.fl[i]? with | some f => f.data.length | none => 0
def dtot (S : Dk) : Nat := (S.now.map fun x => dlen S x.2).sum
def dfull (S : Dk) (i : Nat) (n : Int) : Bool := decide (2147483648 < (dlen S i : Int) + n) || (decide (S.room ≠ 0) && decide (S.room < n + (dtot S : Int)))
def addTo (S : Dk) (i : Nat) (b : List UInt8) : Dk := match S.fl[i]? with | some f => { S with fl := S.fl.set i ⟨f.data ++ b, f.sure⟩ } | none => S
/-- What a call does, if what begins it lets it. -/
def kThen (x : Int × Dk) (f : Dk → Int × Dk) : Int × Dk := if x.1 = 0 then f x.2 else x
def kFalls (S : Dk) (cost : Int) (f : Dk → Int × Dk) : Int × Dk := match (dfalls S cost).1 with
  | some _ => (30, (dfalls S cost).2)
  | none => f (dfalls S cost).2
def kDo (S : Dk) (c : Cg) : Dk := { S with now := dlay S.now c, chg := S.chg ++ [c] }
def kNew (S : Dk) : Dk := { S with fl := S.fl ++ [⟨[], 0⟩] }
def kCreate2 (s : ByteArray) (S : Dk) : Int × Dk := if (dget S.now s).isSome = true then (35, S) else if 8388608 ≤ (S.now.length : Int) then (32, S) else kFalls S 1 fun S2 => (0, kDo (kNew S2) ⟨0, s, ⟨#[]⟩, S2.fl.length⟩)
def kCreate (S : Dk) (s : ByteArray) : Int × Dk := kThen (dbegin S (nameOk s)) (kCreate2 s)
def kAppend3 (i : Nat) (b : List UInt8) (S : Dk) : Int × Dk := if dfull S i (b.length : Int) = true then (32, S) else match (dfalls S (1 + (b.length : Int))).1 with
  | some n => (30, addTo (dfalls S (1 + (b.length : Int))).2 i (b.take n.toNat))
  | none => (0, addTo (dfalls S (1 + (b.length : Int))).2 i b)
def kAppend2 (s : ByteArray) (b : List UInt8) (S : Dk) : Int × Dk := match dget S.now s with
  | none => (34, S)
  | some i => kAppend3 i b S
def kPart (s : ByteArray) (b : List UInt8) (n : Int) (S : Dk) : Int × Dk := match dget S.now s with
  | none => (31, S)
  | some i => if dfull S i n = true then (31, S) else (31, addTo S i (b.take n.toNat))
def kAppend (S : Dk) (s : ByteArray) (b : List UInt8) : Int × Dk :=
  if (dbegin S (nameOk s)).1 = 31 then kPart s b (iMin S.part (b.length : Int)) (dbegin S (nameOk s)).2 else kThen (dbegin S (nameOk s)) (kAppend2 s b)
def sureAll (S : Dk) (i : Nat) : Dk := match S.fl[i]? with | some f => { S with fl := S.fl.set i ⟨f.data, f.data.length⟩ } | none => S
def kSync2 (s : ByteArray) (S : Dk) : Int × Dk := match dget S.now s with
  | none => (34, S)
  | some i => kFalls S 1 fun S2 => (0, sureAll S2 i)
def kSync (S : Dk) (s : ByteArray) : Int × Dk := kThen (dbegin S (nameOk s)) (kSync2 s)
def kRename2 (s t : ByteArray) (S : Dk) : Int × Dk := match dget S.now s with
  | none => (34, S)
  | some _ => kFalls S 1 fun S2 => if s = t then (0, S2) else (0, kDo S2 ⟨1, s, t, 0⟩)
def kRename (S : Dk) (s t : ByteArray) : Int × Dk := kThen (dbegin S (nameOk s && nameOk t)) (kRename2 s t)
def kDelete2 (s : ByteArray) (S : Dk) : Int × Dk := match dget S.now s with
  | none => (34, S)
  | some _ => kFalls S 1 fun S2 => (0, kDo S2 ⟨2, s, ⟨#[]⟩, 0⟩)
def kDelete (S : Dk) (s : ByteArray) : Int × Dk := kThen (dbegin S (nameOk s)) (kDelete2 s)
def kSyncDir (S : Dk) : Int × Dk := kThen (dbegin S true) fun S => kFalls S 1 fun S2 => (0, { S2 with sure := S2.now, chg := [] })
def kRead (S : Dk) (s : ByteArray) : Int × List UInt8 :=
  if S.down = true then (30, []) else if nameOk s = false then (33, []) else match dget S.now s with
    | none => (34, [])
    | some i => (0, match S.fl[i]? with | some f => f.data | none => [])
def fileR (S : Dk) (x : ByteArray × Nat) : FileR := match S.fl[x.2]? with | some f => ⟨x.1, f.data, f.sure⟩ | none => ⟨x.1, [], 0⟩
def dtold (S : Dk) (d : Dir) : List FileR := d.map (fileR S)
def drest (S : Dk) (dir : Int) : Dir := (S.chg.take dir.toNat).foldl dlay S.sure
/-- What a fall leaves of a file that stands at place i. -/
def leftOf (keep : List Int) (i : Nat) (f : FileR) : FileR :=
  let n := f.sure + (match keep[i % keep.length]? with | some k => (iMin (iMax k 0) ((f.data.length : Int) - f.sure)).toNat | none => 0)
  ⟨f.nm, f.data.take n, n⟩
def leftAll (keep : List Int) : Nat → List FileR → List FileR
  | _, [] => []
  | i, f :: l => leftOf keep i f :: leftAll keep (i + 1) l
def kImage (S : Dk) (dir : Int) (keep : List Int) : List FileR := leftAll keep 0 (dtold S (drest S dir))
/-- Names, each with its place in the list. -/
def putAll : Nat → Dir → List FileR → Dir
  | _, d, [] => d
  | i, d, f :: l => putAll (i + 1) (dins d f.nm i) l
/-- A disk that begins with these files. -/
def fresh (room : Int) (l : List FileR) : Dk := ⟨room, l.map fun f => ⟨f.data, f.sure⟩, putAll 0 [] l, putAll 0 [] l, [], 0, 0, 0, 0, false⟩
structure RawF where
  nm : ByteArray
  data : List UInt8
  sure : Int
def RawF.ok (f : RawF) (d : Dir) : Bool := nameOk f.nm && (dget d f.nm).isNone && decide ((f.data.length : Int) ≤ 2147483648) && decide (0 ≤ f.sure) && decide (f.sure ≤ (f.data.length : Int))
def RawF.f (f : RawF) : FileR := ⟨f.nm, f.data, f.sure.toNat⟩
def rawOk : Nat → Dir → List RawF → Bool
  | _, _, [] => true
  | i, d, f :: l => f.ok d && rawOk (i + 1) (dins d f.nm i) l
def rawSum (l : List RawF) : Int := (l.map fun f => (f.data.length : Int)).sum
def newOk (room : Int) (l : List RawF) : Bool := decide (0 ≤ room) && decide ((l.length : Int) ≤ 8388608) && rawOk 0 [] l && (decide (room = 0) || decide (rawSum l ≤ room))
def kFall (S : Dk) (dir : Int) (keep : List Int) : Dk := fresh S.room (kImage S dir keep)
def kArm (S : Dk) (u : Int) : Dk := if S.down = true then S else { S with left := iMax u 0 }
def kFail (S : Dk) (a b c : Int) : Dk := if S.down = true then S else { S with well := iMax a 0, fails := iMax b 0, part := iMax c 0 }
/-! What stays true. -/
def CgOk (d : Dir) (c : Cg) : Prop := c.kind = 0 ∨ (c.kind = 1 ∧ (dget d c.nm).isSome ∧ c.nm ≠ c.to) ∨ c.kind = 2
def Lays : Dir → List Cg → Dir → Prop
  | d, [], e => d = e
  | d, c :: cs, e => CgOk d c ∧ Lays (dlay d c) cs e
/-- A directory over that many files. -/
structure DirOk (n : Nat) (d : Dir) : Prop where
  s : DSrt d
  i : ∀ x ∈ d, x.2 < n
  k : ∀ x ∈ d, x.1.size ≤ 24
def CgNm (n : Nat) (c : Cg) : Prop := c.nm.size ≤ 24 ∧ c.to.size ≤ 24 ∧ (c.kind = 0 → c.id < n)
structure DOk (S : Dk) : Prop where
  now : DirOk S.fl.length S.now
  sure : DirOk S.fl.length S.sure
  fl : ∀ f ∈ S.fl, f.data.length ≤ 2147483648 ∧ f.sure ≤ f.data.length
  chg : ∀ c ∈ S.chg, CgNm S.fl.length c
  len : S.now.length ≤ 8388608
  pre : ∀ k, ((S.chg.take k).foldl dlay S.sure).length ≤ 8388608
  lays : Lays S.sure S.chg S.now
  room : 0 ≤ S.room ∧ S.room ≤ 9223372036854775807
  pos : 0 ≤ S.left ∧ 0 ≤ S.well ∧ 0 ≤ S.fails ∧ 0 ≤ S.part
  top : S.left ≤ 9223372036854775807 ∧ S.well ≤ 9223372036854775807 ∧ S.fails ≤ 9223372036854775807 ∧ S.part ≤ 9223372036854775807
theorem DirOk.ins {n : Nat} {d : Dir} (D : DirOk n d) {s : ByteArray} {i : Nat} (hs : s.size ≤ 24) (hi : i < n) : DirOk n (dins d s i) := ⟨dins_srt D.s s i, fun x hx => by
  rcases dins_mem hx with rfl | hx
  · exact hi
  · exact D.i x hx, fun x hx => by
  rcases dins_mem hx with rfl | hx
  · exact hs
  · exact D.k x hx⟩
theorem DirOk.del {n : Nat} {d : Dir} (D : DirOk n d) (s : ByteArray) : DirOk n (ddel d s) := ⟨ddel_srt D.s s, fun x hx => D.i x (ddel_sub hx), fun x hx => D.k x (ddel_sub hx)⟩
theorem DirOk.mono {n m : Nat} {d : Dir} (D : DirOk n d) (h : n ≤ m) : DirOk m d := ⟨D.s, fun x hx => Nat.lt_of_lt_of_le (D.i x hx) h, D.k⟩
theorem DirOk.lay {n : Nat} {d : Dir} (D : DirOk n d) {c : Cg} (hc : CgNm n c) : DirOk n (dlay d c) := by
  unfold dlay
  split
  · next h => exact D.ins hc.1 (hc.2.2 h)
  · split
    · split
      · next i hi => exact (D.del _).ins hc.2.1 (D.i _ (dget_mem hi))
      · exact D
    · exact D.del _
theorem DirOk.nil (n : Nat) : DirOk n [] := ⟨List.Pairwise.nil, fun x hx => (by cases hx), fun x hx => (by cases hx)⟩
theorem DirOk.fold {n : Nat} : ∀ (cs : List Cg) {d : Dir}, DirOk n d → (∀ c ∈ cs, CgNm n c) → DirOk n (cs.foldl dlay d)
  | [], d, D, _ => D
  | c :: cs, d, D, h => DirOk.fold cs (D.lay (h c List.mem_cons_self)) fun c hc => h c (List.mem_cons_of_mem _ hc)
theorem DOk.rest {S : Dk} (D : DOk S) (dir : Int) : DirOk S.fl.length (drest S dir) := DirOk.fold _ D.sure fun c hc => D.chg c (List.mem_of_mem_take hc)
theorem Lays.snoc : ∀ {cs : List Cg} {d e : Dir} {c : Cg}, Lays d cs e → CgOk e c → Lays d (cs ++ [c]) (dlay e c)
  | [], d, e, c, h, hc => by
    have h : d = e := h
    subst h
    exact ⟨hc, rfl⟩
  | x :: cs, d, e, c, h, hc => ⟨h.1, Lays.snoc h.2 hc⟩
theorem Lays.fold : ∀ {cs : List Cg} {d e : Dir}, Lays d cs e → cs.foldl dlay d = e
  | [], d, e, h => h
  | x :: cs, d, e, h => Lays.fold (cs := cs) h.2
/-- A change at a place: it may be done there. -/
theorem Lays.nth : ∀ {cs : List Cg} {d e : Dir} {k : Nat} {c : Cg}, Lays d cs e → cs[k]? = some c → CgOk ((cs.take k).foldl dlay d) c
  | [], d, e, k, c, _, hk => by simp at hk
  | x :: cs, d, e, 0, c, h, hk => by
    simp only [List.getElem?_cons_zero, Option.some.injEq] at hk
    subst hk
    exact h.1
  | x :: cs, d, e, k + 1, c, h, hk => by
    simp only [List.getElem?_cons_succ] at hk
    exact Lays.nth (cs := cs) h.2 hk
section
variable {S : Dk}
theorem DOk.begin (D : DOk S) (ok : Bool) : DOk (dbegin S ok).2 := by
  have p := D.pos
  have t := D.top
  unfold dbegin
  split
  · exact D
  · split
    · exact D
    · split
      · exact ⟨D.now, D.sure, D.fl, D.chg, D.len, D.pre, D.lays, D.room, ⟨p.1, by dsimp only; omega, p.2.2⟩, ⟨t.1, by dsimp only; omega, t.2.2⟩⟩
      · split
        · exact ⟨D.now, D.sure, D.fl, D.chg, D.len, D.pre, D.lays, D.room, ⟨p.1, p.2.1, by dsimp only; omega, p.2.2.2⟩, ⟨t.1, t.2.1, by dsimp only; omega, t.2.2.2⟩⟩
        · exact D
theorem begin_same (S : Dk) (ok : Bool) : (dbegin S ok).2.fl = S.fl ∧ (dbegin S ok).2.now = S.now ∧ (dbegin S ok).2.sure = S.sure ∧ (dbegin S ok).2.chg = S.chg ∧ (dbegin S ok).2.room = S.room ∧ (dbegin S ok).2.part = S.part ∧ (dbegin S ok).2.left = S.left ∧ (dbegin S ok).2.down = S.down := by
  unfold dbegin
  split
  · exact ⟨rfl, rfl, rfl, rfl, rfl, rfl, rfl, rfl⟩
  · split
    · exact ⟨rfl, rfl, rfl, rfl, rfl, rfl, rfl, rfl⟩
    · split
      · exact ⟨rfl, rfl, rfl, rfl, rfl, rfl, rfl, rfl⟩
      · split <;> exact ⟨rfl, rfl, rfl, rfl, rfl, rfl, rfl, rfl⟩
theorem DOk.falls (D : DOk S) {cost : Int} (hc : 0 ≤ cost) : DOk (dfalls S cost).2 := by
  have p := D.pos
  have t := D.top
  unfold dfalls
  split
  · exact D
  · split
    · exact ⟨D.now, D.sure, D.fl, D.chg, D.len, D.pre, D.lays, D.room, ⟨by dsimp only; omega, p.2⟩, ⟨by dsimp only; omega, t.2⟩⟩
    · exact ⟨D.now, D.sure, D.fl, D.chg, D.len, D.pre, D.lays, D.room, ⟨Int.le_refl _, Int.le_refl _, Int.le_refl _, Int.le_refl _⟩, ⟨by dsimp only; omega, by dsimp only; omega, by dsimp only; omega, by dsimp only; omega⟩⟩
theorem falls_same (S : Dk) (cost : Int) : (dfalls S cost).2.fl = S.fl ∧ (dfalls S cost).2.now = S.now ∧ (dfalls S cost).2.sure = S.sure ∧ (dfalls S cost).2.chg = S.chg ∧ (dfalls S cost).2.room = S.room := by
  unfold dfalls
  split
  · exact ⟨rfl, rfl, rfl, rfl, rfl⟩
  · split <;> exact ⟨rfl, rfl, rfl, rfl, rfl⟩
theorem DOk.setFl (D : DOk S) {i : Nat} {f g : Fil} (hg : g.data.length ≤ 2147483648 ∧ g.sure ≤ g.data.length) : DOk { S with fl := S.fl.set i g } := by
  have hl : (S.fl.set i g).length = S.fl.length := List.length_set
  exact ⟨by dsimp only; rw [hl]; exact D.now, by dsimp only; rw [hl]; exact D.sure, fun x hx => by
    rcases List.mem_or_eq_of_mem_set hx with h | rfl
    · exact D.fl x h
    · exact hg, by dsimp only; rw [hl]; exact D.chg, D.len, D.pre, D.lays, D.room, D.pos, D.top⟩
theorem full_len {S : Dk} {i : Nat} {n : Int} (h : dfull S i n = false) : (dlen S i : Int) + n ≤ 2147483648 := by
  unfold dfull at h
  simp only [Bool.or_eq_false_iff, decide_eq_false_iff_not] at h
  omega
theorem DOk.addTo (D : DOk S) {i : Nat} {b : List UInt8} (h : dlen S i + b.length ≤ 2147483648) : DOk (addTo S i b) := by
  unfold Go.Eng.addTo
  unfold dlen at h
  split
  · next f hf =>
    rw [hf] at h
    have := D.fl f (List.mem_of_getElem? hf)
    exact D.setFl (f := f) ⟨by rw [List.length_append]; exact h, by dsimp only; rw [List.length_append]; omega⟩
  · exact D
theorem DOk.sureAll (D : DOk S) (i : Nat) : DOk (sureAll S i) := by
  unfold Go.Eng.sureAll
  split
  · next f hf => exact D.setFl (f := f) ⟨(D.fl f (List.mem_of_getElem? hf)).1, Nat.le_refl _⟩
  · exact D
theorem kThen_0 {x : Int × Dk} {f : Dk → Int × Dk} (e : x.1 = 0) : kThen x f = f x.2 := by unfold kThen; rw [if_pos e]
theorem kThen_1 {x : Int × Dk} {f : Dk → Int × Dk} (e : ¬ x.1 = 0) : kThen x f = x := by unfold kThen; rw [if_neg e]
theorem kFalls_n {cost : Int} {f : Dk → Int × Dk} (e : (dfalls S cost).1 = none) : kFalls S cost f = f (dfalls S cost).2 := by unfold kFalls; rw [e]
theorem kFalls_s {cost n : Int} {f : Dk → Int × Dk} (e : (dfalls S cost).1 = some n) : kFalls S cost f = (30, (dfalls S cost).2) := by unfold kFalls; rw [e]
theorem kThen_ind {x : Int × Dk} {f : Dk → Int × Dk} {M : Dk → Prop} (h0 : ¬ x.1 = 0 → M x.2) (h1 : x.1 = 0 → M (f x.2).2) : M (kThen x f).2 := by
  by_cases e : x.1 = 0
  · rw [kThen_0 e]; exact h1 e
  · rw [kThen_1 e]; exact h0 e
theorem kFalls_ind {cost : Int} {f : Dk → Int × Dk} {M : Dk → Prop} (h0 : M (dfalls S cost).2) (h1 : M (f (dfalls S cost).2).2) : M (kFalls S cost f).2 := by
  cases e : (dfalls S cost).1 with
  | none => rw [kFalls_n e]; exact h1
  | some n => rw [kFalls_s e]; exact h0
theorem begin_up {ok : Bool} (e : (dbegin S ok).1 = 0) : S.down = false ∧ ok = true ∧ (dbegin S ok).2.down = false := by
  have hd := (begin_same S ok).2.2.2.2.2.2.2
  unfold dbegin at e
  split at e
  · cases e
  · next h =>
    have h : S.down = false := by simpa using h
    split at e
    · cases e
    · next h2 => exact ⟨h, by simpa using h2, hd.trans h⟩
theorem begin_31 {ok : Bool} (e : (dbegin S ok).1 = 31) : S.down = false ∧ ok = true ∧ (dbegin S ok).2.down = false := by
  have hd := (begin_same S ok).2.2.2.2.2.2.2
  unfold dbegin at e
  split at e
  · cases e
  · next h =>
    have h : S.down = false := by simpa using h
    split at e
    · cases e
    · next h2 => exact ⟨h, by simpa using h2, hd.trans h⟩
theorem name_size {s : ByteArray} (h : nameOk s = true) : s.size ≤ 24 := by
  unfold nameOk at h
  simp only [Bool.and_eq_true, decide_eq_true_eq] at h
  exact h.1.2
theorem CgNm.mono {n m : Nat} {c : Cg} (h : CgNm n c) (hm : n ≤ m) : CgNm m c := ⟨h.1, h.2.1, fun k => Nat.lt_of_lt_of_le (h.2.2 k) hm⟩
theorem DOk.new (D : DOk S) : DOk (kNew S) := by
  have hl : S.fl.length ≤ (S.fl ++ [(⟨[], 0⟩ : Fil)]).length := by rw [List.length_append]; exact Nat.le_add_right _ _
  exact ⟨D.now.mono hl, D.sure.mono hl, fun f hf => by
    rcases List.mem_append.1 hf with hf | hf
    · exact D.fl f hf
    · rw [List.mem_singleton.1 hf]; exact ⟨Nat.zero_le _, Nat.le_refl _⟩, fun c hc => (D.chg c hc).mono hl, D.len, D.pre, D.lays, D.room, D.pos, D.top⟩
theorem DOk.do (D : DOk S) {c : Cg} (hc : CgOk S.now c) (hn : CgNm S.fl.length c) (hl : (dlay S.now c).length ≤ 8388608) : DOk (kDo S c) :=
  ⟨D.now.lay hn, D.sure, D.fl, fun x hx => by
    rcases List.mem_append.1 hx with hx | hx
    · exact D.chg x hx
    · rw [List.mem_singleton.1 hx]; exact hn, hl, fun k => by
    show (((S.chg ++ [c]).take k).foldl dlay S.sure).length ≤ _
    rw [List.take_append]
    by_cases hk : k ≤ S.chg.length
    · rw [Nat.sub_eq_zero_of_le hk, List.take_zero, List.append_nil]; exact D.pre k
    · rw [List.take_of_length_le (by omega), List.take_of_length_le (l := [c]) (by simp; omega), List.foldl_append, Lays.fold D.lays]; exact hl, D.lays.snoc hc, D.room, D.pos, D.top⟩
/-- A disk of some calls: its lists have bounds. -/
structure DN (n : Nat) (S : Dk) : Prop where
  ok : DOk S
  c : S.chg.length ≤ n
  f : S.fl.length ≤ 8388608 + n
variable {n : Nat}
theorem DN.mono {m : Nat} (D : DN n S) (h : n ≤ m) : DN m S := ⟨D.ok, Nat.le_trans D.c h, Nat.le_trans D.f (Nat.add_le_add_left h _)⟩
theorem DN.begin (D : DN n S) (ok : Bool) : DN n (dbegin S ok).2 := ⟨D.ok.begin ok, by rw [(begin_same S ok).2.2.2.1]; exact D.c, by rw [(begin_same S ok).1]; exact D.f⟩
theorem DN.falls (D : DN n S) {cost : Int} (hc : 0 ≤ cost) : DN n (dfalls S cost).2 := ⟨D.ok.falls hc, by rw [(falls_same S cost).2.2.2.1]; exact D.c, by rw [(falls_same S cost).1]; exact D.f⟩
theorem DN.do (D : DN n S) {c : Cg} (hc : CgOk S.now c) (hn : CgNm S.fl.length c) (hl : (dlay S.now c).length ≤ 8388608) : DN (n + 1) (kDo S c) := ⟨D.ok.do hc hn hl, by show (S.chg ++ [c]).length ≤ _; rw [List.length_append]; have := D.c; simp; omega, Nat.le_trans D.f (by omega)⟩
theorem addTo_len (S : Dk) (i : Nat) (b : List UInt8) : (addTo S i b).fl.length = S.fl.length ∧ (addTo S i b).chg = S.chg := by
  unfold addTo
  split
  · exact ⟨List.length_set, rfl⟩
  · exact ⟨rfl, rfl⟩
theorem sureAll_len (S : Dk) (i : Nat) : (sureAll S i).fl.length = S.fl.length ∧ (sureAll S i).chg = S.chg := by
  unfold sureAll
  split
  · exact ⟨List.length_set, rfl⟩
  · exact ⟨rfl, rfl⟩
theorem DN.addTo (D : DN n S) {i : Nat} {b : List UInt8} (h : dlen S i + b.length ≤ 2147483648) : DN n (addTo S i b) := ⟨D.ok.addTo h, by rw [(addTo_len S i b).2]; exact D.c, by rw [(addTo_len S i b).1]; exact D.f⟩
theorem DN.sureAll (D : DN n S) (i : Nat) : DN n (sureAll S i) := ⟨D.ok.sureAll i, by rw [(sureAll_len S i).2]; exact D.c, by rw [(sureAll_len S i).1]; exact D.f⟩
theorem falls_len (S : Dk) (cost : Int) (i : Nat) : dlen (dfalls S cost).2 i = dlen S i := by unfold dlen; rw [(falls_same S cost).1]
theorem DN.create (D : DN n S) (s : ByteArray) : DN (n + 1) (kCreate S s).2 := by
  refine kThen_ind (fun _ => (D.begin _).mono (Nat.le_succ n)) fun e => ?_
  have hs := name_size (begin_up e).2.1
  have D1 := D.begin (nameOk s)
  generalize (dbegin S (nameOk s)).2 = S1 at D1 ⊢
  unfold kCreate2
  split
  · exact D1.mono (Nat.le_succ n)
  · next hg =>
    split
    · exact D1.mono (Nat.le_succ n)
    · next hl =>
      have hlay : ∀ i, dlay S1.now ⟨0, s, ⟨#[]⟩, i⟩ = dins S1.now s i := fun i => by unfold dlay; rw [if_pos rfl]
      have D2 := D1.falls (cost := 1) (by decide)
      refine kFalls_ind (D2.mono (Nat.le_succ n)) ?_
      have hnow := (falls_same S1 1).2.1
      generalize (dfalls S1 1).2 = S2 at D2 hnow ⊢
      have hl2 := dins_len (d := S1.now) s S2.fl.length
      have D3 := (D2.ok.new).do (c := ⟨0, s, ⟨#[]⟩, S2.fl.length⟩) (.inl rfl) ⟨hs, Nat.zero_le _, fun _ => by show _ < (S2.fl ++ [_]).length; simp⟩ (by show (dlay S2.now _).length ≤ _; rw [hnow, hlay]; omega)
      exact ⟨D3, by show (S2.chg ++ [_]).length ≤ _; have := D2.c; simp; omega, by show (S2.fl ++ [_]).length ≤ _; have := D2.f; simp; omega⟩
theorem iMin_le (a b : Int) : iMin a b ≤ a ∧ iMin a b ≤ b := by unfold iMin; split <;> omega
theorem dlen_min {b : List UInt8} {k : Nat} {n : Int} (h : dfull S k n = false) (h0 : 0 ≤ n) : dlen S k + (b.take n.toNat).length ≤ 2147483648 := by
  have := full_len h
  rw [List.length_take]
  omega
theorem DN.append (D : DN n S) (s : ByteArray) (b : List UInt8) : DN n (kAppend S s b).2 := by
  have D1 := D.begin (nameOk s)
  have hp : 0 ≤ iMin S.part (b.length : Int) := by unfold iMin; have := D.ok.pos; split <;> omega
  unfold kAppend
  split
  · generalize (dbegin S (nameOk s)).2 = S1 at D1 ⊢
    unfold kPart
    split
    · exact D1
    · split
      · exact D1
      · next hf => exact D1.addTo (dlen_min (by simpa using hf) hp)
  · refine kThen_ind (fun _ => D1) fun _ => ?_
    generalize (dbegin S (nameOk s)).2 = S1 at D1 ⊢
    unfold kAppend2
    split
    · exact D1
    · next i hi =>
      unfold kAppend3
      split
      · exact D1
      · next hf =>
        have hf : dfull S1 i (b.length : Int) = false := by simpa using hf
        have := full_len hf
        have D2 := D1.falls (cost := 1 + (b.length : Int)) (by omega)
        have hl := falls_len S1 (1 + (b.length : Int)) i
        split
        · exact D2.addTo (by rw [hl, List.length_take]; omega)
        · exact D2.addTo (by rw [hl]; omega)
theorem DN.sync (D : DN n S) (s : ByteArray) : DN n (kSync S s).2 := by
  have D1 := D.begin (nameOk s)
  refine kThen_ind (fun _ => D1) fun _ => ?_
  generalize (dbegin S (nameOk s)).2 = S1 at D1 ⊢
  unfold kSync2
  split
  · exact D1
  · exact kFalls_ind (D1.falls (by decide)) ((D1.falls (by decide)).sureAll _)
theorem DN.rename (D : DN n S) (s t : ByteArray) : DN (n + 1) (kRename S s t).2 := by
  have D1 := D.begin (nameOk s && nameOk t)
  refine kThen_ind (fun _ => D1.mono (Nat.le_succ n)) fun e => ?_
  have hst := (begin_up e).2.1
  rw [Bool.and_eq_true] at hst
  generalize (dbegin S (nameOk s && nameOk t)).2 = S1 at D1 ⊢
  unfold kRename2
  split
  · exact D1.mono (Nat.le_succ n)
  · next i hi =>
    have D2 := D1.falls (cost := 1) (by decide)
    refine kFalls_ind (D2.mono (Nat.le_succ n)) ?_
    have hnow := (falls_same S1 1).2.1
    generalize (dfalls S1 1).2 = S2 at D2 hnow ⊢
    split
    · exact D2.mono (Nat.le_succ n)
    · next hne =>
      have h1 : dlay S2.now ⟨1, s, t, 0⟩ = dins (ddel S2.now s) t i := by unfold dlay; rw [if_neg (by simp), if_pos rfl, hnow, hi]
      refine D2.do (.inr (.inl ⟨rfl, by rw [hnow, hi]; rfl, hne⟩)) ⟨name_size hst.1, name_size hst.2, fun h => (by cases h)⟩ ?_
      rw [h1]
      have h2 := dins_len (d := ddel S2.now s) t i
      have h3 := ddel_len1 (d := S2.now) (s := s) (i := i) (by rw [hnow]; exact hi)
      have := D2.ok.len
      omega
theorem DN.delete (D : DN n S) (s : ByteArray) : DN (n + 1) (kDelete S s).2 := by
  have D1 := D.begin (nameOk s)
  refine kThen_ind (fun _ => D1.mono (Nat.le_succ n)) fun e => ?_
  have hs := (begin_up e).2.1
  generalize (dbegin S (nameOk s)).2 = S1 at D1 ⊢
  unfold kDelete2
  split
  · exact D1.mono (Nat.le_succ n)
  · next i hi =>
    have D2 := D1.falls (cost := 1) (by decide)
    refine kFalls_ind (D2.mono (Nat.le_succ n)) ?_
    generalize (dfalls S1 1).2 = S2 at D2 ⊢
    refine D2.do (.inr (.inr rfl)) ⟨name_size hs, Nat.zero_le _, fun h => (by cases h)⟩ ?_
    have h1 : dlay S2.now ⟨2, s, ⟨#[]⟩, 0⟩ = ddel S2.now s := by unfold dlay; rw [if_neg (by simp), if_neg (by simp)]
    rw [h1]
    exact Nat.le_trans (ddel_len _) D2.ok.len
theorem DN.syncdir (D : DN n S) : DN n (kSyncDir S).2 := by
  have D1 := D.begin true
  refine kThen_ind (fun _ => D1) fun _ => ?_
  generalize (dbegin S true).2 = S1 at D1 ⊢
  have D2 := D1.falls (cost := 1) (by decide)
  refine kFalls_ind D2 ?_
  generalize (dfalls S1 1).2 = S2 at D2 ⊢
  exact ⟨⟨D2.ok.now, D2.ok.now, D2.ok.fl, fun c hc => (by cases hc), D2.ok.len, fun k => by show ((List.take k []).foldl dlay S2.now).length ≤ _; rw [List.take_nil]; exact D2.ok.len, rfl, D2.ok.room, D2.ok.pos, D2.ok.top⟩, Nat.zero_le _, D2.f⟩
theorem iMax_0 (a : Int) : 0 ≤ iMax a 0 := by unfold iMax; split <;> omega
theorem iMax_top {a : Int} (h : a ≤ 9223372036854775807) : iMax a 0 ≤ 9223372036854775807 := by unfold iMax; split <;> omega
theorem DN.fail (D : DN n S) {a b c : Int} (ha : a ≤ 9223372036854775807) (hb : b ≤ 9223372036854775807) (hc : c ≤ 9223372036854775807) : DN n (kFail S a b c) := by
  unfold kFail
  split
  · exact D
  · exact ⟨⟨D.ok.now, D.ok.sure, D.ok.fl, D.ok.chg, D.ok.len, D.ok.pre, D.ok.lays, D.ok.room, ⟨D.ok.pos.1, iMax_0 a, iMax_0 b, iMax_0 c⟩, ⟨D.ok.top.1, iMax_top ha, iMax_top hb, iMax_top hc⟩⟩, D.c, D.f⟩
end
end Go.Eng
end
section

set_option maxRecDepth 100000
set_option linter.unusedVariables false
open Go.Proofs
namespace Go.Eng.Ytekflkpnpibneaa
def F47.an : List (Nat × Ann) := [(26, .loop [(8, .int .i64)] [])]
def F47.T (s : ByteArray) : PT := fun h Q =>
  ∀ b c, h b = none → s.size ≤ c → ∃ (I : Int → Hp → Prop) (m : Int → Hp → Nat), I 0 (h.new b (.cells ⟨bytesV s ++ List.replicate (c - s.size) (.int .u8 0)⟩ 5 (c, c + 1))) ∧ (∀ n : Int, ∀ h1 : Hp, I n h1 → par (n < (s.size : Int)) (∃ b1 o, ((some ⟨b, 0, none⟩) : Option Addr) = some ⟨b1, o, none⟩ ∧ ((0 : Int) ≤ n ∧ n < (s.size : Int)) ∧ ∃ n1 : Int, h1.at b1 (o + n.toNat) = some (.int .u8 n1) ∧ par (n1 < 97) (par (n1 < 48) (par (n1 = 45) (I (IntKind.wrap .i64 (n + 1)) h1 ∧ m (IntKind.wrap .i64 (n + 1)) h1 < m n h1) (Q (.bool false) h1)) (par ((57 : Int) < n1) (par (n1 = 45) (I (IntKind.wrap .i64 (n + 1)) h1 ∧ m (IntKind.wrap .i64 (n + 1)) h1 < m n h1) (Q (.bool false) h1)) (I (IntKind.wrap .i64 (n + 1)) h1 ∧ m (IntKind.wrap .i64 (n + 1)) h1 < m n h1))) (par ((122 : Int) < n1) (par (n1 < 48) (par (n1 = 45) (I (IntKind.wrap .i64 (n + 1)) h1 ∧ m (IntKind.wrap .i64 (n + 1)) h1 < m n h1) (Q (.bool false) h1)) (par ((57 : Int) < n1) (par (n1 = 45) (I (IntKind.wrap .i64 (n + 1)) h1 ∧ m (IntKind.wrap .i64 (n + 1)) h1 < m n h1) (Q (.bool false) h1)) (I (IntKind.wrap .i64 (n + 1)) h1 ∧ m (IntKind.wrap .i64 (n + 1)) h1 < m n h1))) (I (IntKind.wrap .i64 (n + 1)) h1 ∧ m (IntKind.wrap .i64 (n + 1)) h1 < m n h1))) (par (s = (ByteArray.mk #[])) (Q (.bool false) h1) (par ((s.size : Int) ≤ 24) (Q (.bool true) h1) (Q (.bool false) h1))))
theorem F47.den (V : Value → List Value → PT) (s : ByteArray) : denF Try.prog [] [] V F47.an Try.f47 [.v (.string s)] = F47.T s := by kernel_rfl
def F47.W (T47 : ByteArray → PT) (args : List Value) : PT := match args with
  | [.string s] => T47 s
  | _ => fun _ _ => False
def F47.V : List Value → PT := F47.W F47.T
theorem F47.ok : FOk Try.prog 47 F47.V := by
  refine ⟨⟨_, Try.func47, rfl, rfl⟩, fun args => ?_⟩
  have hG : GOk Try.prog [] := GOk.nil
  have hV : VOk Try.prog noV := noV_ok
  unfold F47.V F47.W
  split
  · exact denF_okV hG hV Try.func47 (fun h Q hq => (F47.den _ _) ▸ hq)
  · exact fun h Q hq => hq.elim
def F49.an : List (Nat × Ann) := [(58, .loop [(13, .int .i64)] [])]
def F49.G (T47 : ByteArray → PT) (p : Option Addr) (l : Sl) : PT := fun h Q =>
  ∃ b o, (p : Option Addr) = some ⟨b, o, none⟩ ∧ ∃ b1 : Bool, h.at b (o + 8) = some (.bool b1) ∧ parB b1 (Q (.int .i64 30) h) (∃ (I : Int → Hp → Prop) (m : Int → Hp → Nat), I 0 h ∧ (∀ n : Int, ∀ h1 : Hp, I n h1 → par (n < (l.n : Int)) (∃ b2 o1, (l.a : Option Addr) = some ⟨b2, o1, none⟩ ∧ ((0 : Int) ≤ n ∧ n < (l.n : Int)) ∧ ∃ s : ByteArray, h1.at b2 (o1 + n.toNat) = some (.string s) ∧ T47 s h1 fun r h2 => ∃ b3 : Bool, r = .bool b3 ∧ parB b3 (I (IntKind.wrap .i64 (n + 1)) h2 ∧ m (IntKind.wrap .i64 (n + 1)) h2 < m n h1) (Q (.int .i64 33) h2)) (∃ b4 o2, (p : Option Addr) = some ⟨b4, o2, none⟩ ∧ ∃ n1 : Int, h1.at b4 ((o2 + 4) + 1) = some (.int .i64 n1) ∧ par ((0 : Int) < n1) (∃ b5 o3, (p : Option Addr) = some ⟨b5, o3, none⟩ ∧ ∃ n2 : Int, h1.at b5 ((o3 + 4) + 1) = some (.int .i64 n2) ∧ ∃ b6 o4, (p : Option Addr) = some ⟨b6, o4, none⟩ ∧ h1.canW b6 ((o4 + 4) + 1) 1 ∧ Q (.int .i64 0) (h1.wr b6 ((o4 + 4) + 1) [.int .i64 (IntKind.wrap .i64 (n2 - 1))])) (∃ b7 o5, (p : Option Addr) = some ⟨b7, o5, none⟩ ∧ ∃ n3 : Int, h1.at b7 ((o5 + 4) + 2) = some (.int .i64 n3) ∧ par ((0 : Int) < n3) (∃ b8 o6, (p : Option Addr) = some ⟨b8, o6, none⟩ ∧ ∃ n4 : Int, h1.at b8 ((o6 + 4) + 2) = some (.int .i64 n4) ∧ ∃ b9 o7, (p : Option Addr) = some ⟨b9, o7, none⟩ ∧ h1.canW b9 ((o7 + 4) + 2) 1 ∧ Q (.int .i64 31) (h1.wr b9 ((o7 + 4) + 2) [.int .i64 (IntKind.wrap .i64 (n4 - 1))])) (Q (.int .i64 0) h1)))))
def F49.T (p : Option Addr) (l : Sl) : PT := F49.G F47.T p l
theorem F49.gen (V : Value → List Value → PT) (T47 : ByteArray → PT) (p : Option Addr) (l : Sl) : denF Try.prog [] [(47, F47.W T47)] V F49.an Try.f49 [.v (.pointer p), .v (.slice l.a l.n l.c)] = F49.G T47 p l := by kernel_rfl
theorem F49.den (V : Value → List Value → PT) (p : Option Addr) (l : Sl) : denF Try.prog [] [(47, F47.V)] V F49.an Try.f49 [.v (.pointer p), .v (.slice l.a l.n l.c)] = F49.T p l := F49.gen V F47.T p l
def F49.W (T49 : Option Addr → Sl → PT) (args : List Value) : PT := match args with
  | [.pointer p, .slice l_a l_n l_c] => T49 p ⟨l_a, l_n, l_c⟩
  | _ => fun _ _ => False
def F49.V : List Value → PT := F49.W F49.T
theorem F49.ok : FOk Try.prog 49 F49.V := by
  refine ⟨⟨_, Try.func49, rfl, rfl⟩, fun args => ?_⟩
  have hG : GOk Try.prog [(47, F47.V)] := GOk.cons F47.ok (GOk.nil)
  have hV : VOk Try.prog noV := noV_ok
  unfold F49.V F49.W
  split
  · exact denF_okV hG hV Try.func49 (fun h Q hq => (F49.den _ _ _) ▸ hq)
  · exact fun h Q hq => hq.elim
def F52.an : List (Nat × Ann) := []
def F52.T (p : Option Addr) (n : Int) : PT := fun h Q =>
  ∃ b o, (p : Option Addr) = some ⟨b, o, none⟩ ∧ ∃ n1 : Int, h.at b (o + 4) = some (.int .i64 n1) ∧ par (n1 = 0) (Q (.tuple ⟨[.int .i64 0, .bool false]⟩) h) (par (n < n1) (∃ b1 o1, (p : Option Addr) = some ⟨b1, o1, none⟩ ∧ ∃ n2 : Int, h.at b1 (o1 + 4) = some (.int .i64 n2) ∧ ∃ b2 o2, (p : Option Addr) = some ⟨b2, o2, none⟩ ∧ h.canW b2 (o2 + 4) 1 ∧ Q (.tuple ⟨[.int .i64 0, .bool false]⟩) (h.wr b2 (o2 + 4) [.int .i64 (IntKind.wrap .i64 (n2 - n))])) (∃ b3 o3, (p : Option Addr) = some ⟨b3, o3, none⟩ ∧ h.canW b3 (o3 + 8) 1 ∧ ∃ b4 o4, (p : Option Addr) = some ⟨b4, o4, none⟩ ∧ (h.wr b3 (o3 + 8) [.bool true]).canW b4 (o4 + 4) 4 ∧ Q (.tuple ⟨[.int .i64 (IntKind.wrap .i64 (n1 - 1)), .bool true]⟩) ((h.wr b3 (o3 + 8) [.bool true]).wr b4 (o4 + 4) [.int .i64 0, .int .i64 0, .int .i64 0, .int .i64 0])))
theorem F52.den (V : Value → List Value → PT) (p : Option Addr) (n : Int) : denF Try.prog [] [] V F52.an Try.f52 [.v (.pointer p), .v (.int .i64 n)] = F52.T p n := by kernel_rfl
def F52.W (T52 : Option Addr → Int → PT) (args : List Value) : PT := match args with
  | [.pointer p, .int .i64 n] => T52 p n
  | _ => fun _ _ => False
def F52.V : List Value → PT := F52.W F52.T
theorem F52.ok : FOk Try.prog 52 F52.V := by
  refine ⟨⟨_, Try.func52, rfl, rfl⟩, fun args => ?_⟩
  have hG : GOk Try.prog [] := GOk.nil
  have hV : VOk Try.prog noV := noV_ok
  unfold F52.V F52.W
  split
  · exact denF_okV hG hV Try.func52 (fun h Q hq => (F52.den _ _ _) ▸ hq)
  · exact fun h Q hq => hq.elim
def F18.an : List (Nat × Ann) := []
def F18.T (p : Option Addr) : PT := fun h Q =>
  ∃ b o, (p : Option Addr) = some ⟨b, o, none⟩ ∧ ∃ b1 : Bool, h.at b (o + 8) = some (.bool b1) ∧ parB b1 (Q (.bool true) h) (Q (.bool false) h)
theorem F18.den (V : Value → List Value → PT) (p : Option Addr) : denF Try.prog [] [] V F18.an Try.f18 [.v (.pointer p)] = F18.T p := by kernel_rfl
def F18.W (T18 : Option Addr → PT) (args : List Value) : PT := match args with
  | [.pointer p] => T18 p
  | _ => fun _ _ => False
def F18.V : List Value → PT := F18.W F18.T
theorem F18.ok : FOk Try.prog 18 F18.V := by
  refine ⟨⟨_, Try.func18, rfl, rfl⟩, fun args => ?_⟩
  have hG : GOk Try.prog [] := GOk.nil
  have hV : VOk Try.prog noV := noV_ok
  unfold F18.V F18.W
  split
  · exact denF_okV hG hV Try.func18 (fun h Q hq => (F18.den _ _) ▸ hq)
  · exact fun h Q hq => hq.elim
def F39.an : List (Nat × Ann) := []
def F39.T (p : Option Addr) (n : Int) (n1 : Int) (n2 : Int) : PT := fun h Q =>
  ∃ b o, (p : Option Addr) = some ⟨b, o, none⟩ ∧ h.canW b ((o + 4) + 1) 1 ∧ ∃ b1 o1, (p : Option Addr) = some ⟨b1, o1, none⟩ ∧ (h.wr b ((o + 4) + 1) [.int .i64 (iMax n 0)]).canW b1 ((o1 + 4) + 2) 1 ∧ ∃ b2 o2, (p : Option Addr) = some ⟨b2, o2, none⟩ ∧ ((h.wr b ((o + 4) + 1) [.int .i64 (iMax n 0)]).wr b1 ((o1 + 4) + 2) [.int .i64 (iMax n1 0)]).canW b2 ((o2 + 4) + 3) 1 ∧ Q (.tuple ⟨[]⟩) (((h.wr b ((o + 4) + 1) [.int .i64 (iMax n 0)]).wr b1 ((o1 + 4) + 2) [.int .i64 (iMax n1 0)]).wr b2 ((o2 + 4) + 3) [.int .i64 (iMax n2 0)])
theorem F39.den (V : Value → List Value → PT) (p : Option Addr) (n : Int) (n1 : Int) (n2 : Int) : denF Try.prog [] [] V F39.an Try.f39 [.v (.pointer p), .v (.int .i64 n), .v (.int .i64 n1), .v (.int .i64 n2)] = F39.T p n n1 n2 := by kernel_rfl
def F39.W (T39 : Option Addr → Int → Int → Int → PT) (args : List Value) : PT := match args with
  | [.pointer p, .int .i64 n, .int .i64 n1, .int .i64 n2] => T39 p n n1 n2
  | _ => fun _ _ => False
def F39.V : List Value → PT := F39.W F39.T
theorem F39.ok : FOk Try.prog 39 F39.V := by
  refine ⟨⟨_, Try.func39, rfl, rfl⟩, fun args => ?_⟩
  have hG : GOk Try.prog [] := GOk.nil
  have hV : VOk Try.prog noV := noV_ok
  unfold F39.V F39.W
  split
  · exact denF_okV hG hV Try.func39 (fun h Q hq => (F39.den _ _ _ _ _) ▸ hq)
  · exact fun h Q hq => hq.elim
def F11.an : List (Nat × Ann) := [(58, .loop [(5, .int .i64), (6, .int .i64)] []), (122, .loop [(5, .int .i64), (7, .int .i64)] []), (3912, .order [0, 1, 2, 3, 4, 5, 6, 7, 8, 9, 10, 11, 12, 13, 14, 15])]
def F11.T (l : Sl) (l1 : Sl) : PT := fun h Q =>
  ∃ (I : Int → Int → Hp → Prop) (m : Int → Int → Hp → Nat), I 0 0 h ∧ (∀ n : Int, ∀ n1 : Int, ∀ h1 : Hp, I n n1 h1 → par (n1 < (l.n : Int)) (∃ b o, (l.a : Option Addr) = some ⟨b, o, none⟩ ∧ ((0 : Int) ≤ n1 ∧ n1 < (l.n : Int)) ∧ ∃ l2 : Sl, h1.at b ((o + n1.toNat * 3) + 1) = some (.slice l2.a l2.n l2.c) ∧ par ((1048576 : Int) < (IntKind.wrap .i64 (n + (l2.n : Int)))) (Q (.bool false) h1) (I (IntKind.wrap .i64 (n + (l2.n : Int))) (IntKind.wrap .i64 (n1 + 1)) h1 ∧ m (IntKind.wrap .i64 (n + (l2.n : Int))) (IntKind.wrap .i64 (n1 + 1)) h1 < m n n1 h1)) (∃ (I1 : Int → Int → Hp → Prop) (m1 : Int → Int → Hp → Nat), I1 n 0 h1 ∧ (∀ n2 : Int, ∀ n3 : Int, ∀ h2 : Hp, I1 n2 n3 h2 → par (n3 < (l1.n : Int)) (∃ b1 o1, (l1.a : Option Addr) = some ⟨b1, o1, none⟩ ∧ ((0 : Int) ≤ n3 ∧ n3 < (l1.n : Int)) ∧ ∃ l3 : Sl, h2.at b1 ((o1 + n3.toNat * 8) + 3) = some (.slice l3.a l3.n l3.c) ∧ ∃ b2 o2, (l1.a : Option Addr) = some ⟨b2, o2, none⟩ ∧ ((0 : Int) ≤ n3 ∧ n3 < (l1.n : Int)) ∧ ∃ l4 : Sl, h2.at b2 ((o2 + n3.toNat * 8) + 7) = some (.slice l4.a l4.n l4.c) ∧ par ((1048576 : Int) < (IntKind.wrap .i64 ((IntKind.wrap .i64 (n2 + (l3.n : Int))) + (l4.n : Int)))) (Q (.bool false) h2) (I1 (IntKind.wrap .i64 ((IntKind.wrap .i64 (n2 + (l3.n : Int))) + (l4.n : Int))) (IntKind.wrap .i64 (n3 + 1)) h2 ∧ m1 (IntKind.wrap .i64 ((IntKind.wrap .i64 (n2 + (l3.n : Int))) + (l4.n : Int))) (IntKind.wrap .i64 (n3 + 1)) h2 < m1 n2 n3 h2)) (par ((l1.n : Int) ≤ 400) (Q (.bool true) h2) (Q (.bool false) h2)))))
theorem F11.den (V : Value → List Value → PT) (l : Sl) (l1 : Sl) : denF Try.prog [] [] V F11.an Try.f11 [.v (.slice l.a l.n l.c), .v (.slice l1.a l1.n l1.c)] = F11.T l l1 := by kernel_rfl
def F11.W (T11 : Sl → Sl → PT) (args : List Value) : PT := match args with
  | [.slice l_a l_n l_c, .slice l1_a l1_n l1_c] => T11 ⟨l_a, l_n, l_c⟩ ⟨l1_a, l1_n, l1_c⟩
  | _ => fun _ _ => False
def F11.V : List Value → PT := F11.W F11.T
theorem F11.ok : FOk Try.prog 11 F11.V := by
  refine ⟨⟨_, Try.func11, rfl, rfl⟩, fun args => ?_⟩
  have hG : GOk Try.prog [] := GOk.nil
  have hV : VOk Try.prog noV := noV_ok
  unfold F11.V F11.W
  split
  · exact denF_okV hG hV Try.func11 (fun h Q hq => (F11.den _ _ _) ▸ hq)
  · exact fun h Q hq => hq.elim
def F62.an : List (Nat × Ann) := [(58, .loop [(3, .int .i64)] [])]
def F62.T (s : ByteArray) : PT := fun h Q =>
  par ((s.size : Int) < 1) (Q (.bool false) h) (par ((24 : Int) < (s.size : Int)) (Q (.bool false) h) (∃ (I : Int → Hp → Prop) (m : Int → Hp → Nat), I 0 h ∧ (∀ n : Int, ∀ h1 : Hp, I n h1 → par (n < (s.size : Int)) (((0 : Int) ≤ n ∧ n < (s.size : Int)) ∧ par ((97 : Int) ≤ (bt s n)) (par ((bt s n) ≤ 122) (I (IntKind.wrap .i64 (n + 1)) h1 ∧ m (IntKind.wrap .i64 (n + 1)) h1 < m n h1) (par ((48 : Int) ≤ (bt s n)) (par ((bt s n) ≤ 57) (I (IntKind.wrap .i64 (n + 1)) h1 ∧ m (IntKind.wrap .i64 (n + 1)) h1 < m n h1) (par ((bt s n) = 45) (I (IntKind.wrap .i64 (n + 1)) h1 ∧ m (IntKind.wrap .i64 (n + 1)) h1 < m n h1) (Q (.bool false) h1))) (par ((bt s n) = 45) (I (IntKind.wrap .i64 (n + 1)) h1 ∧ m (IntKind.wrap .i64 (n + 1)) h1 < m n h1) (Q (.bool false) h1)))) (par ((48 : Int) ≤ (bt s n)) (par ((bt s n) ≤ 57) (I (IntKind.wrap .i64 (n + 1)) h1 ∧ m (IntKind.wrap .i64 (n + 1)) h1 < m n h1) (par ((bt s n) = 45) (I (IntKind.wrap .i64 (n + 1)) h1 ∧ m (IntKind.wrap .i64 (n + 1)) h1 < m n h1) (Q (.bool false) h1))) (par ((bt s n) = 45) (I (IntKind.wrap .i64 (n + 1)) h1 ∧ m (IntKind.wrap .i64 (n + 1)) h1 < m n h1) (Q (.bool false) h1)))) (Q (.bool true) h1))))
def F62.W (T62 : ByteArray → PT) (args : List Value) : PT := match args with
  | [.string s] => T62 s
  | _ => fun _ _ => False
def F62.V : List Value → PT := F62.W F62.T
def F67.an : List (Nat × Ann) := [(28, .loop [(6, .int .i64), (7, .int .i64)] []), (30, .order [0, 1, 2, 3, 4, 5, 6, 7, 8, 9, 10, 11, 12, 13, 14, 15])]
def F67.T (l : Sl) (s : ByteArray) : PT := fun h Q =>
  ∃ (I : Int → Int → Hp → Prop) (m : Int → Int → Hp → Nat), I 0 (l.n : Int) h ∧ (∀ n : Int, ∀ n1 : Int, ∀ h1 : Hp, I n n1 h1 → par (n < n1) ((2 : Int) ≠ 0 ∧ ∃ b o, (l.a : Option Addr) = some ⟨b, o, none⟩ ∧ ((0 : Int) ≤ (IntKind.wrap .i64 (Int.tdiv (IntKind.wrap .i64 (n + n1)) 2)) ∧ (IntKind.wrap .i64 (Int.tdiv (IntKind.wrap .i64 (n + n1)) 2)) < (l.n : Int)) ∧ ∃ s1 : ByteArray, h1.at b (o + ((IntKind.wrap .i64 (Int.tdiv (IntKind.wrap .i64 (n + n1)) 2))).toNat * 2) = some (.string s1) ∧ par (sLt s1 s) (I (IntKind.wrap .i64 ((IntKind.wrap .i64 (Int.tdiv (IntKind.wrap .i64 (n + n1)) 2)) + 1)) n1 h1 ∧ m (IntKind.wrap .i64 ((IntKind.wrap .i64 (Int.tdiv (IntKind.wrap .i64 (n + n1)) 2)) + 1)) n1 h1 < m n n1 h1) (I n (IntKind.wrap .i64 (Int.tdiv (IntKind.wrap .i64 (n + n1)) 2)) h1 ∧ m n (IntKind.wrap .i64 (Int.tdiv (IntKind.wrap .i64 (n + n1)) 2)) h1 < m n n1 h1)) (par (n < (l.n : Int)) (∃ b1 o1, (l.a : Option Addr) = some ⟨b1, o1, none⟩ ∧ ((0 : Int) ≤ n ∧ n < (l.n : Int)) ∧ ∃ s2 : ByteArray, h1.at b1 (o1 + n.toNat * 2) = some (.string s2) ∧ par (s2 = s) (h1.at b1 (o1 + n.toNat * 2) = some (.string s2) ∧ Q (.tuple ⟨[.int .i64 n, .bool true]⟩) h1) (h1.at b1 (o1 + n.toNat * 2) = some (.string s2) ∧ Q (.tuple ⟨[.int .i64 n, .bool false]⟩) h1)) (Q (.tuple ⟨[.int .i64 n, .bool false]⟩) h1)))
def F67.W (T67 : Sl → ByteArray → PT) (args : List Value) : PT := match args with
  | [.slice l_a l_n l_c, .string s] => T67 ⟨l_a, l_n, l_c⟩ s
  | _ => fun _ _ => False
def F67.V : List Value → PT := F67.W F67.T
def F66.an : List (Nat × Ann) := [(62, .order [0, 1, 2, 3, 4, 5, 6, 7])]
def F66.G (T67 : Sl → ByteArray → PT) (l : Sl) (s : ByteArray) (n : Int) : PT := fun h Q =>
  T67 l s h fun r h1 => ∃ n1 : Int, ∃ b : Bool, parB b (r = .tuple ⟨[.int .i64 n1, .bool true]⟩ ∧ ∃ b1 o, (l.a : Option Addr) = some ⟨b1, o, none⟩ ∧ ((0 : Int) ≤ n1 ∧ n1 < (l.n : Int)) ∧ h1.canW b1 ((o + n1.toNat * 2) + 1) 1 ∧ Q (.slice l.a l.n l.c) (h1.wr b1 ((o + n1.toNat * 2) + 1) [.int .i64 n])) (r = .tuple ⟨[.int .i64 n1, .bool false]⟩ ∧ appendD l 88 2 24 [.string (ByteArray.mk #[]), .int .i64 0] 1 [.string (ByteArray.mk #[]), .int .i64 0] h1 fun l1 h2 => Sl.okCut l1 (IntKind.wrap .i64 (n1 + 1)) (l1.n : Int) (l1.c : Int) ∧ Sl.okCut l1 n1 (l1.n : Int) (l1.c : Int) ∧ ∃ vs, h2.row ((Sl.cut l1 2 n1 (l1.n : Int) (l1.c : Int)).a) ((Nat.min ((Sl.cut l1 2 n1 (l1.n : Int) (l1.c : Int)).n) ((Sl.cut l1 2 (IntKind.wrap .i64 (n1 + 1)) (l1.n : Int) (l1.c : Int)).n)) * 2) vs ∧ (∀ v ∈ vs, Value.oneCell' v = true) ∧ h2.canWA ((Sl.cut l1 2 (IntKind.wrap .i64 (n1 + 1)) (l1.n : Int) (l1.c : Int)).a) vs.length ∧ ∃ b2 o1, (l1.a : Option Addr) = some ⟨b2, o1, none⟩ ∧ ((0 : Int) ≤ n1 ∧ n1 < (l1.n : Int)) ∧ (h2.wrA ((Sl.cut l1 2 (IntKind.wrap .i64 (n1 + 1)) (l1.n : Int) (l1.c : Int)).a) vs).canW b2 (o1 + n1.toNat * 2) 2 ∧ Q (.slice l1.a l1.n l1.c) ((h2.wrA ((Sl.cut l1 2 (IntKind.wrap .i64 (n1 + 1)) (l1.n : Int) (l1.c : Int)).a) vs).wr b2 (o1 + n1.toNat * 2) [.string s, .int .i64 n]))
def F66.T (l : Sl) (s : ByteArray) (n : Int) : PT := F66.G F67.T l s n
def F66.W (T66 : Sl → ByteArray → Int → PT) (args : List Value) : PT := match args with
  | [.slice l_a l_n l_c, .string s, .int .i64 n] => T66 ⟨l_a, l_n, l_c⟩ s n
  | _ => fun _ _ => False
def F66.V : List Value → PT := F66.W F66.T
def F61.an : List (Nat × Ann) := []
def F61.T (l : Sl) : PT := fun h Q =>
  ∃ vs, h.row l.a (l.n * 2) vs ∧ (∀ v ∈ vs, Value.oneCell' v = true) ∧ appendD ⟨none, 0, 0⟩ 88 2 24 [.string (ByteArray.mk #[]), .int .i64 0] l.n vs h fun l1 h1 => Q (.slice l1.a l1.n l1.c) h1
def F61.W (T61 : Sl → PT) (args : List Value) : PT := match args with
  | [.slice l_a l_n l_c] => T61 ⟨l_a, l_n, l_c⟩
  | _ => fun _ _ => False
def F61.V : List Value → PT := F61.W F61.T
def F40.an : List (Nat × Ann) := [(58, .loop [(3, .sl), (4, .int .i64)] []), (932, .order [0, 1, 2, 3, 4, 5, 6, 7, 8, 9, 10, 12, 13, 14, 15, 16, 11, 17, 18, 19, 20])]
def F40.T (l : Sl) : PT := fun h Q =>
  ∃ (I : Sl → Int → Hp → Prop) (m : Sl → Int → Hp → Nat), I ⟨none, 0, 0⟩ 0 h ∧ (∀ l1 : Sl, ∀ n : Int, ∀ h1 : Hp, I l1 n h1 → par (n < (l.n : Int)) (∃ b o, (l.a : Option Addr) = some ⟨b, o, none⟩ ∧ ((0 : Int) ≤ n ∧ n < (l.n : Int)) ∧ ∃ s : ByteArray, h1.at b (o + n.toNat * 3) = some (.string s) ∧ ∃ b1 o1, (l.a : Option Addr) = some ⟨b1, o1, none⟩ ∧ ((0 : Int) ≤ n ∧ n < (l.n : Int)) ∧ ∃ l2 : Sl, h1.at b1 ((o1 + n.toNat * 3) + 1) = some (.slice l2.a l2.n l2.c) ∧ ∃ b2 o2, (l.a : Option Addr) = some ⟨b2, o2, none⟩ ∧ ((0 : Int) ≤ n ∧ n < (l.n : Int)) ∧ ∃ n1 : Int, h1.at b2 ((o2 + n.toNat * 3) + 2) = some (.int .i64 n1) ∧ ∃ vs, h1.row l2.a (l2.n * 1) vs ∧ (∀ v ∈ vs, Value.oneCell' v = true) ∧ appendD ⟨none, 0, 0⟩ 5 1 1 [.int .u8 0] l2.n vs h1 fun l3 h2 => h2.at b (o + n.toNat * 3) = some (.string s) ∧ h2.at b2 ((o2 + n.toNat * 3) + 2) = some (.int .i64 n1) ∧ appendD l1 60 3 48 [.string (ByteArray.mk #[]), .slice none 0 0, .int .i64 0] 1 [.string s, .slice l3.a l3.n l3.c, .int .i64 n1] h2 fun l4 h3 => I l4 (IntKind.wrap .i64 (n + 1)) h3 ∧ m l4 (IntKind.wrap .i64 (n + 1)) h3 < m l1 n h1) (Q (.slice l1.a l1.n l1.c) h1))
def F40.W (T40 : Sl → PT) (args : List Value) : PT := match args with
  | [.slice l_a l_n l_c] => T40 ⟨l_a, l_n, l_c⟩
  | _ => fun _ _ => False
def F40.V : List Value → PT := F40.W F40.T
def F42.an : List (Nat × Ann) := []
def F42.T (l : Sl) (l1 : Sl) : PT := fun h Q =>
  ∃ s : ByteArray, h.row l.a l.n (bytesV s) ∧ ∃ s1 : ByteArray, h.row l1.a l1.n (bytesV s1) ∧ par (s = s1) (Q (.bool true) h) (Q (.bool false) h)
theorem F42.den (V : Value → List Value → PT) (l : Sl) (l1 : Sl) : denF Try.prog [] [] V F42.an Try.f42 [.v (.slice l.a l.n l.c), .v (.slice l1.a l1.n l1.c)] = F42.T l l1 := by kernel_rfl
def F42.W (T42 : Sl → Sl → PT) (args : List Value) : PT := match args with
  | [.slice l_a l_n l_c, .slice l1_a l1_n l1_c] => T42 ⟨l_a, l_n, l_c⟩ ⟨l1_a, l1_n, l1_c⟩
  | _ => fun _ _ => False
def F42.V : List Value → PT := F42.W F42.T
theorem F42.ok : FOk Try.prog 42 F42.V := by
  refine ⟨⟨_, Try.func42, rfl, rfl⟩, fun args => ?_⟩
  have hG : GOk Try.prog [] := GOk.nil
  have hV : VOk Try.prog noV := noV_ok
  unfold F42.V F42.W
  split
  · exact denF_okV hG hV Try.func42 (fun h Q hq => (F42.den _ _ _) ▸ hq)
  · exact fun h Q hq => hq.elim
def F13.an : List (Nat × Ann) := [(58, .loop [(5, .int .i64)] []), (1864, .order [0, 1, 2, 3, 4, 5, 6, 7, 8, 9, 10, 11, 12, 13, 14, 15, 16, 17, 18, 19, 20, 21, 22, 23, 24, 25, 26, 27, 28, 29, 30, 31, 32, 33, 34, 35, 36, 37])]
def F13.G (T42 : Sl → Sl → PT) (l : Sl) (l1 : Sl) : PT := fun h Q =>
  par ((l.n : Int) = (l1.n : Int)) (∃ (I : Int → Hp → Prop) (m : Int → Hp → Nat), I 0 h ∧ (∀ n : Int, ∀ h1 : Hp, I n h1 → par (n < (l.n : Int)) (∃ b o, (l.a : Option Addr) = some ⟨b, o, none⟩ ∧ ((0 : Int) ≤ n ∧ n < (l.n : Int)) ∧ ∃ s : ByteArray, h1.at b (o + n.toNat * 3) = some (.string s) ∧ ∃ b1 o1, (l1.a : Option Addr) = some ⟨b1, o1, none⟩ ∧ ((0 : Int) ≤ n ∧ n < (l1.n : Int)) ∧ ∃ s1 : ByteArray, h1.at b1 (o1 + n.toNat * 3) = some (.string s1) ∧ par (s = s1) (∃ b2 o2, (l.a : Option Addr) = some ⟨b2, o2, none⟩ ∧ ((0 : Int) ≤ n ∧ n < (l.n : Int)) ∧ ∃ n1 : Int, h1.at b2 ((o2 + n.toNat * 3) + 2) = some (.int .i64 n1) ∧ ∃ b3 o3, (l1.a : Option Addr) = some ⟨b3, o3, none⟩ ∧ ((0 : Int) ≤ n ∧ n < (l1.n : Int)) ∧ ∃ n2 : Int, h1.at b3 ((o3 + n.toNat * 3) + 2) = some (.int .i64 n2) ∧ par (n1 = n2) (∃ b4 o4, (l.a : Option Addr) = some ⟨b4, o4, none⟩ ∧ ((0 : Int) ≤ n ∧ n < (l.n : Int)) ∧ ∃ l2 : Sl, h1.at b4 ((o4 + n.toNat * 3) + 1) = some (.slice l2.a l2.n l2.c) ∧ ∃ b5 o5, (l1.a : Option Addr) = some ⟨b5, o5, none⟩ ∧ ((0 : Int) ≤ n ∧ n < (l1.n : Int)) ∧ ∃ l3 : Sl, h1.at b5 ((o5 + n.toNat * 3) + 1) = some (.slice l3.a l3.n l3.c) ∧ T42 l2 l3 h1 fun r h2 => ∃ b6 : Bool, r = .bool b6 ∧ parB b6 (I (IntKind.wrap .i64 (n + 1)) h2 ∧ m (IntKind.wrap .i64 (n + 1)) h2 < m n h1) (Q (.bool false) h2)) (Q (.bool false) h1)) (Q (.bool false) h1)) (Q (.bool true) h1))) (Q (.bool false) h)
def F13.T (l : Sl) (l1 : Sl) : PT := F13.G F42.T l l1
theorem F13.gen (V : Value → List Value → PT) (T42 : Sl → Sl → PT) (l : Sl) (l1 : Sl) : denF Try.prog [] [(42, F42.W T42)] V F13.an Try.f13 [.v (.slice l.a l.n l.c), .v (.slice l1.a l1.n l1.c)] = F13.G T42 l l1 := by kernel_rfl
theorem F13.den (V : Value → List Value → PT) (l : Sl) (l1 : Sl) : denF Try.prog [] [(42, F42.V)] V F13.an Try.f13 [.v (.slice l.a l.n l.c), .v (.slice l1.a l1.n l1.c)] = F13.T l l1 := F13.gen V F42.T l l1
def F13.W (T13 : Sl → Sl → PT) (args : List Value) : PT := match args with
  | [.slice l_a l_n l_c, .slice l1_a l1_n l1_c] => T13 ⟨l_a, l_n, l_c⟩ ⟨l1_a, l1_n, l1_c⟩
  | _ => fun _ _ => False
def F13.V : List Value → PT := F13.W F13.T
theorem F13.ok : FOk Try.prog 13 F13.V := by
  refine ⟨⟨_, Try.func13, rfl, rfl⟩, fun args => ?_⟩
  have hG : GOk Try.prog [(42, F42.V)] := GOk.cons F42.ok (GOk.nil)
  have hV : VOk Try.prog noV := noV_ok
  unfold F13.V F13.W
  split
  · exact denF_okV hG hV Try.func13 (fun h Q hq => (F13.den _ _ _) ▸ hq)
  · exact fun h Q hq => hq.elim
def F71.an : List (Nat × Ann) := [(30, .order [0, 1, 2, 3, 4, 5, 6, 7])]
def F71.G (T67 : Sl → ByteArray → PT) (l : Sl) (s : ByteArray) : PT := fun h Q =>
  T67 l s h fun r h1 => ∃ n : Int, ∃ b : Bool, parB b (r = .tuple ⟨[.int .i64 n, .bool true]⟩ ∧ Sl.okCut l n (l.n : Int) (l.c : Int) ∧ Sl.okCut l (IntKind.wrap .i64 (n + 1)) (l.n : Int) (l.c : Int) ∧ ∃ vs, h1.row ((Sl.cut l 2 (IntKind.wrap .i64 (n + 1)) (l.n : Int) (l.c : Int)).a) ((Nat.min ((Sl.cut l 2 (IntKind.wrap .i64 (n + 1)) (l.n : Int) (l.c : Int)).n) ((Sl.cut l 2 n (l.n : Int) (l.c : Int)).n)) * 2) vs ∧ (∀ v ∈ vs, Value.oneCell' v = true) ∧ h1.canWA ((Sl.cut l 2 n (l.n : Int) (l.c : Int)).a) vs.length ∧ Sl.okCut l 0 (IntKind.wrap .i64 ((l.n : Int) - 1)) (l.c : Int) ∧ Q (.slice (Sl.cut l 2 0 (IntKind.wrap .i64 ((l.n : Int) - 1)) (l.c : Int)).a (Sl.cut l 2 0 (IntKind.wrap .i64 ((l.n : Int) - 1)) (l.c : Int)).n (Sl.cut l 2 0 (IntKind.wrap .i64 ((l.n : Int) - 1)) (l.c : Int)).c) (h1.wrA ((Sl.cut l 2 n (l.n : Int) (l.c : Int)).a) vs)) (r = .tuple ⟨[.int .i64 n, .bool false]⟩ ∧ Q (.slice l.a l.n l.c) h1)
def F71.T (l : Sl) (s : ByteArray) : PT := F71.G F67.T l s
def F71.W (T71 : Sl → ByteArray → PT) (args : List Value) : PT := match args with
  | [.slice l_a l_n l_c, .string s] => T71 ⟨l_a, l_n, l_c⟩ s
  | _ => fun _ _ => False
def F71.V : List Value → PT := F71.W F71.T
def F48.an : List (Nat × Ann) := []
def F48.T (l : Sl) : PT := fun h Q =>
  par ((l.a : Option Addr) = none) (Q (.slice none 0 0) h) (∀ b, h b = none → ∃ vs, (h.new b (.cells ⟨[]⟩ 5 (0, 0))).row l.a (l.n * 1) vs ∧ (∀ v ∈ vs, Value.oneCell' v = true) ∧ appendD ⟨(some ⟨b, 0, none⟩), 0, 0⟩ 5 1 1 [.int .u8 0] l.n vs (h.new b (.cells ⟨[]⟩ 5 (0, 0))) fun l1 h1 => Q (.slice l1.a l1.n l1.c) h1)
theorem F48.den (V : Value → List Value → PT) (l : Sl) : denF Try.prog [] [] V F48.an Try.f48 [.v (.slice l.a l.n l.c)] = F48.T l := by kernel_rfl
def F48.W (T48 : Sl → PT) (args : List Value) : PT := match args with
  | [.slice l_a l_n l_c] => T48 ⟨l_a, l_n, l_c⟩
  | _ => fun _ _ => False
def F48.V : List Value → PT := F48.W F48.T
theorem F48.ok : FOk Try.prog 48 F48.V := by
  refine ⟨⟨_, Try.func48, rfl, rfl⟩, fun args => ?_⟩
  have hG : GOk Try.prog [] := GOk.nil
  have hV : VOk Try.prog noV := noV_ok
  unfold F48.V F48.W
  split
  · exact denF_okV hG hV Try.func48 (fun h Q hq => (F48.den _ _) ▸ hq)
  · exact fun h Q hq => hq.elim
def F45.an : List (Nat × Ann) := []
def F45.T (n : Int) (s : ByteArray) (s1 : ByteArray) (p : Option Addr) (m : Option Nat) : PT := fun h Q =>
  par (n = 0) (∃ b es c, (m : Option Nat) = some b ∧ h b = some (.map es c) ∧ keysFit (.string s) es ∧ Q (.tuple ⟨[]⟩) (h.new b (mPut es c (.string s) (.pointer p)))) (par (n = 1) (∃ es1 c1, h.mp m es1 c1 ∧ keysFit (.string s) es1 ∧ ∃ p1 : Option Addr, (mget es1 (.string s) (.pointer none)) = .pointer p1 ∧ ∃ b1 es2 c2, (m : Option Nat) = some b1 ∧ h b1 = some (.map es2 c2) ∧ keysFit (.string s1) es2 ∧ ∃ es3 c3, (h.new b1 (mPut es2 c2 (.string s1) (.pointer p1))).mp m es3 c3 ∧ keysFit (.string s) es3 ∧ Q (.tuple ⟨[]⟩) ((h.new b1 (mPut es2 c2 (.string s1) (.pointer p1))).setM m (.map (mDel es3 (.string s)) c3))) (par (n = 2) (∃ es4 c4, h.mp m es4 c4 ∧ keysFit (.string s) es4 ∧ Q (.tuple ⟨[]⟩) (h.setM m (.map (mDel es4 (.string s)) c4))) (Q (.tuple ⟨[]⟩) h)))
theorem F45.den (V : Value → List Value → PT) (n : Int) (s : ByteArray) (s1 : ByteArray) (p : Option Addr) (m : Option Nat) : denF Try.prog [2] [] V F45.an Try.f45 [.v (.agg ⟨[.int .i64 n, .string s, .string s1, .pointer p]⟩), .v (.map m)] = F45.T n s s1 p m := by kernel_rfl
def F45.W (T45 : Int → ByteArray → ByteArray → Option Addr → Option Nat → PT) (args : List Value) : PT := match args with
  | [.agg ⟨[.int .i64 n, .string s, .string s1, .pointer p]⟩, .map m] => T45 n s s1 p m
  | _ => fun _ _ => False
def F45.V : List Value → PT := F45.W F45.T
theorem F45.ok : FOk Try.prog 45 F45.V := by
  refine ⟨⟨_, Try.func45, rfl, rfl⟩, fun args => ?_⟩
  have hG : GOk Try.prog [] := GOk.nil
  have hV : VOk Try.prog noV := noV_ok
  unfold F45.V F45.W
  split
  · exact denF_okV hG hV Try.func45 (fun h Q hq => (F45.den _ _ _ _ _ _) ▸ hq)
  · exact fun h Q hq => hq.elim
end Go.Eng.Ytekflkpnpibneaa
end
section

set_option maxRecDepth 100000
set_option linter.unusedVariables false
open Go.Proofs
namespace Go.Eng.Ytekflkpnpibneaa
def F50.an : List (Nat × Ann) := [(30, .order [0, 1, 2, 3, 4, 5]), (62, .order [0, 1, 2, 3, 4, 5, 6, 7, 8, 9, 10])]
def F50.G (T45 : Int → ByteArray → ByteArray → Option Addr → Option Nat → PT) (T52 : Option Addr → Int → PT) (p : Option Addr) (n : Int) (s : ByteArray) (s1 : ByteArray) (p1 : Option Addr) : PT := fun h Q =>
  T52 p 1 h fun r h1 => ∃ n1 : Int, ∃ b : Bool, parB b (r = .tuple ⟨[.int .i64 n1, .bool true]⟩ ∧ Q (.int .i64 30) h1) (r = .tuple ⟨[.int .i64 n1, .bool false]⟩ ∧ par (n = 1) (par (s = s1) (Q (.int .i64 0) h1) (∃ b1 o, (p : Option Addr) = some ⟨b1, o, none⟩ ∧ ∃ m : Option Nat, h1.at b1 (o + 1) = some (.map m) ∧ T45 n s s1 p1 m h1 fun r1 h2 => ∃ b2 o1, (p : Option Addr) = some ⟨b2, o1, none⟩ ∧ ∃ l : Sl, h2.at b2 (o1 + 3) = some (.slice l.a l.n l.c) ∧ h2.at b2 (o1 + 3) = some (.slice l.a l.n l.c) ∧ appendD l 94 4 48 [.int .i64 0, .string (ByteArray.mk #[]), .string (ByteArray.mk #[]), .pointer none] 1 [.int .i64 n, .string s, .string s1, .pointer p1] h2 fun l1 h3 => ∃ b3 o2, (p : Option Addr) = some ⟨b3, o2, none⟩ ∧ h3.canW b3 (o2 + 3) 1 ∧ Q (.int .i64 0) (h3.wr b3 (o2 + 3) [.slice l1.a l1.n l1.c]))) (∃ b4 o3, (p : Option Addr) = some ⟨b4, o3, none⟩ ∧ ∃ m1 : Option Nat, h1.at b4 (o3 + 1) = some (.map m1) ∧ T45 n s s1 p1 m1 h1 fun r2 h4 => ∃ b5 o4, (p : Option Addr) = some ⟨b5, o4, none⟩ ∧ ∃ l2 : Sl, h4.at b5 (o4 + 3) = some (.slice l2.a l2.n l2.c) ∧ h4.at b5 (o4 + 3) = some (.slice l2.a l2.n l2.c) ∧ appendD l2 94 4 48 [.int .i64 0, .string (ByteArray.mk #[]), .string (ByteArray.mk #[]), .pointer none] 1 [.int .i64 n, .string s, .string s1, .pointer p1] h4 fun l3 h5 => ∃ b6 o5, (p : Option Addr) = some ⟨b6, o5, none⟩ ∧ h5.canW b6 (o5 + 3) 1 ∧ Q (.int .i64 0) (h5.wr b6 (o5 + 3) [.slice l3.a l3.n l3.c])))
def F50.T (p : Option Addr) (n : Int) (s : ByteArray) (s1 : ByteArray) (p1 : Option Addr) : PT := F50.G F45.T F52.T p n s s1 p1
theorem F50.gen (V : Value → List Value → PT) (T45 : Int → ByteArray → ByteArray → Option Addr → Option Nat → PT) (T52 : Option Addr → Int → PT) (p : Option Addr) (n : Int) (s : ByteArray) (s1 : ByteArray) (p1 : Option Addr) : denF Try.prog [3, 35] [(45, F45.W T45), (52, F52.W T52)] V F50.an Try.f50 [.v (.pointer p), .v (.agg ⟨[.int .i64 n, .string s, .string s1, .pointer p1]⟩)] = F50.G T45 T52 p n s s1 p1 := by kernel_rfl
theorem F50.den (V : Value → List Value → PT) (p : Option Addr) (n : Int) (s : ByteArray) (s1 : ByteArray) (p1 : Option Addr) : denF Try.prog [3, 35] [(45, F45.V), (52, F52.V)] V F50.an Try.f50 [.v (.pointer p), .v (.agg ⟨[.int .i64 n, .string s, .string s1, .pointer p1]⟩)] = F50.T p n s s1 p1 := F50.gen V F45.T F52.T p n s s1 p1
def F50.W (T50 : Option Addr → Int → ByteArray → ByteArray → Option Addr → PT) (args : List Value) : PT := match args with
  | [.pointer p, .agg ⟨[.int .i64 n, .string s, .string s1, .pointer p1]⟩] => T50 p n s s1 p1
  | _ => fun _ _ => False
def F50.V : List Value → PT := F50.W F50.T
theorem F50.ok : FOk Try.prog 50 F50.V := by
  refine ⟨⟨_, Try.func50, rfl, rfl⟩, fun args => ?_⟩
  have hG : GOk Try.prog [(45, F45.V), (52, F52.V)] := GOk.cons F45.ok (GOk.cons F52.ok (GOk.nil))
  have hV : VOk Try.prog noV := noV_ok
  unfold F50.V F50.W
  split
  · exact denF_okV hG hV Try.func50 (fun h Q hq => (F50.den _ _ _ _ _ _) ▸ hq)
  · exact fun h Q hq => hq.elim
def F20.an : List (Nat × Ann) := []
def F20.G (T49 : Option Addr → Sl → PT) (T50 : Option Addr → Int → ByteArray → ByteArray → Option Addr → PT) (p : Option Addr) (s : ByteArray) : PT := fun h Q =>
  ∀ b, h b = none → T49 p ⟨(some ⟨b, 0, none⟩), 1, 1⟩ (h.new b (.cells ⟨[.string s]⟩ 9 (0, 0))) fun r h1 => ∃ n : Int, r = .int .i64 n ∧ par (n = 0) (∃ b1 o, (p : Option Addr) = some ⟨b1, o, none⟩ ∧ ∃ m : Option Nat, h1.at b1 (o + 1) = some (.map m) ∧ ∃ es c, h1.mp m es c ∧ keysFit (.string s) es ∧ ∃ p1 : Option Addr, (mget es (.string s) (.pointer none)) = .pointer p1 ∧ okPtr h1 p1 none ∧ par ((p1 : Option Addr) = none) (∃ b2 o1, (p : Option Addr) = some ⟨b2, o1, none⟩ ∧ ∃ m1 : Option Nat, h1.at b2 (o1 + 1) = some (.map m1) ∧ ∃ es1 c1, h1.mp m1 es1 c1 ∧ par ((8388608 : Int) ≤ (es1.size : Int)) (Q (.int .i64 32) h1) (∀ b3, h1 b3 = none → T50 p 0 s (ByteArray.mk #[]) (some ⟨b3, 0, none⟩) (h1.new b3 (.cells ⟨[.slice none 0 0, .int .i64 0]⟩ 100 (0, 0))) fun r1 h2 => ∃ n1 : Int, r1 = .int .i64 n1 ∧ Q (.int .i64 n1) h2)) (Q (.int .i64 35) h1)) (Q (.int .i64 n) h1)
def F20.T (p : Option Addr) (s : ByteArray) : PT := F20.G F49.T F50.T p s
theorem F20.gen (V : Value → List Value → PT) (T49 : Option Addr → Sl → PT) (T50 : Option Addr → Int → ByteArray → ByteArray → Option Addr → PT) (p : Option Addr) (s : ByteArray) : denF Try.prog [] [(49, F49.W T49), (50, F50.W T50)] V F20.an Try.f20 [.v (.pointer p), .v (.string s)] = F20.G T49 T50 p s := by kernel_rfl
theorem F20.den (V : Value → List Value → PT) (p : Option Addr) (s : ByteArray) : denF Try.prog [] [(49, F49.V), (50, F50.V)] V F20.an Try.f20 [.v (.pointer p), .v (.string s)] = F20.T p s := F20.gen V F49.T F50.T p s
def F20.W (T20 : Option Addr → ByteArray → PT) (args : List Value) : PT := match args with
  | [.pointer p, .string s] => T20 p s
  | _ => fun _ _ => False
def F20.V : List Value → PT := F20.W F20.T
theorem F20.ok : FOk Try.prog 20 F20.V := by
  refine ⟨⟨_, Try.func20, rfl, rfl⟩, fun args => ?_⟩
  have hG : GOk Try.prog [(49, F49.V), (50, F50.V)] := GOk.cons F49.ok (GOk.cons F50.ok (GOk.nil))
  have hV : VOk Try.prog noV := noV_ok
  unfold F20.V F20.W
  split
  · exact denF_okV hG hV Try.func20 (fun h Q hq => (F20.den _ _ _) ▸ hq)
  · exact fun h Q hq => hq.elim
def F51.an : List (Nat × Ann) := [(122, .loop [(2, .int .i64)] [])]
def F51.T (p : Option Addr) (p1 : Option Addr) (n : Int) : PT := fun h Q =>
  ∃ b o, (p1 : Option Addr) = some ⟨b, o, none⟩ ∧ ∃ l : Sl, h.at b o = some (.slice l.a l.n l.c) ∧ par ((2147483648 : Int) < (IntKind.wrap .i64 ((l.n : Int) + n))) (Q (.bool true) h) (∃ b1 o1, (p : Option Addr) = some ⟨b1, o1, none⟩ ∧ ∃ n1 : Int, h.at b1 o1 = some (.int .i64 n1) ∧ par (n1 = 0) (Q (.bool false) h) (∃ b2 o2, (p : Option Addr) = some ⟨b2, o2, none⟩ ∧ ∃ m : Option Nat, h.at b2 (o2 + 1) = some (.map m) ∧ ∃ es c, h.mp m es c ∧ ∀ b3, h b3 = none → ∃ (I : Int → Hp → Prop) (m1 : Int → Hp → Nat), I n (h.new b3 (.mapIter m c #[] c)) ∧ (∀ n2 : Int, ∀ h1 : Hp, I n2 h1 → ∃ ri mi si sn la es1 c1, ((some ⟨b3, 0, none⟩) : Option Addr) = some ⟨ri, 0, none⟩ ∧ h1 ri = some (.mapIter mi si sn la) ∧ h1.mp mi es1 c1 ∧ nextOk es1 sn la = true ∧ (∀ e, e ∈ es1.toList → sn.contains e.born = false → ∃ ri1 b4 si1 sn1 es2 c2 st e1, ((some ⟨b3, 0, none⟩) : Option Addr) = some ⟨ri1, 0, none⟩ ∧ (h1.new ri (.mapIter mi si (sn.push e.born) c1)) ri1 = some (.mapIter (some b4) si1 sn1 c2) ∧ sn1.back? = some st ∧ (h1.new ri (.mapIter mi si (sn.push e.born) c1)) b4 = some (.map es2 c2) ∧ es2.find? (fun e => e.born == st) = some e1 ∧ ∃ s : ByteArray, ∃ p2 : Option Addr, [e1.key, e1.val] = [.string s, .pointer p2] ∧ ∃ b5 o3, (p2 : Option Addr) = some ⟨b5, o3, none⟩ ∧ ∃ l1 : Sl, (h1.new ri (.mapIter mi si (sn.push e.born) c1)).at b5 o3 = some (.slice l1.a l1.n l1.c) ∧ I (IntKind.wrap .i64 (n2 + (l1.n : Int))) (h1.new ri (.mapIter mi si (sn.push e.born) c1)) ∧ m1 (IntKind.wrap .i64 (n2 + (l1.n : Int))) (h1.new ri (.mapIter mi si (sn.push e.born) c1)) < m1 n2 h1) ∧ ((∀ e ∈ es1.toList, e.born < si → sn.contains e.born = true) → ∃ b6 o4, (p : Option Addr) = some ⟨b6, o4, none⟩ ∧ ∃ n3 : Int, h1.at b6 o4 = some (.int .i64 n3) ∧ par (n3 < n2) (Q (.bool true) h1) (Q (.bool false) h1)))))
theorem F51.den (V : Value → List Value → PT) (p : Option Addr) (p1 : Option Addr) (n : Int) : denF Try.prog [128849608796] [] V F51.an Try.f51 [.v (.pointer p), .v (.pointer p1), .v (.int .i64 n)] = F51.T p p1 n := by kernel_rfl
def F51.W (T51 : Option Addr → Option Addr → Int → PT) (args : List Value) : PT := match args with
  | [.pointer p, .pointer p1, .int .i64 n] => T51 p p1 n
  | _ => fun _ _ => False
def F51.V : List Value → PT := F51.W F51.T
theorem F51.ok : FOk Try.prog 51 F51.V := by
  refine ⟨⟨_, Try.func51, rfl, rfl⟩, fun args => ?_⟩
  have hG : GOk Try.prog [] := GOk.nil
  have hV : VOk Try.prog noV := noV_ok
  unfold F51.V F51.W
  split
  · exact denF_okV hG hV Try.func51 (fun h Q hq => (F51.den _ _ _ _) ▸ hq)
  · exact fun h Q hq => hq.elim
def F22.an : List (Nat × Ann) := [(2028, .order [0, 1, 2, 3, 4, 5, 6, 7, 8, 9, 10, 11]), (7974, .order [0, 1, 2, 3, 4, 5, 6, 7, 8, 9, 10, 11])]
def F22.G (T49 : Option Addr → Sl → PT) (T51 : Option Addr → Option Addr → Int → PT) (T52 : Option Addr → Int → PT) (p : Option Addr) (s : ByteArray) (l : Sl) : PT := fun h Q =>
  ∃ b o, (p : Option Addr) = some ⟨b, o, none⟩ ∧ ∃ n : Int, h.at b ((o + 4) + 3) = some (.int .i64 n) ∧ ∀ b1, h b1 = none → T49 p ⟨(some ⟨b1, 0, none⟩), 1, 1⟩ (h.new b1 (.cells ⟨[.string s]⟩ 9 (0, 0))) fun r h1 => ∃ n1 : Int, r = .int .i64 n1 ∧ ∃ b2 o1, (p : Option Addr) = some ⟨b2, o1, none⟩ ∧ ∃ m : Option Nat, h1.at b2 (o1 + 1) = some (.map m) ∧ ∃ es c, h1.mp m es c ∧ keysFit (.string s) es ∧ ∃ p1 : Option Addr, (mget es (.string s) (.pointer none)) = .pointer p1 ∧ par (n1 = 31) (okPtr h1 p1 none ∧ par ((p1 : Option Addr) = none) (Q (.int .i64 n1) h1) (T51 p p1 (iMin n (l.n : Int)) h1 fun r1 h2 => ∃ b3 : Bool, r1 = .bool b3 ∧ parB b3 (Q (.int .i64 n1) h2) (∃ b4 o2, (p1 : Option Addr) = some ⟨b4, o2, none⟩ ∧ ∃ l1 : Sl, h2.at b4 o2 = some (.slice l1.a l1.n l1.c) ∧ Sl.okCut l 0 (iMin n (l.n : Int)) (l.c : Int) ∧ ∃ vs, h2.row ((Sl.cut l 1 0 (iMin n (l.n : Int)) (l.c : Int)).a) (((Sl.cut l 1 0 (iMin n (l.n : Int)) (l.c : Int)).n) * 1) vs ∧ (∀ v ∈ vs, Value.oneCell' v = true) ∧ appendD l1 5 1 1 [.int .u8 0] ((Sl.cut l 1 0 (iMin n (l.n : Int)) (l.c : Int)).n) vs h2 fun l2 h3 => ∃ b5 o3, (p1 : Option Addr) = some ⟨b5, o3, none⟩ ∧ h3.canW b5 o3 1 ∧ Q (.int .i64 n1) (h3.wr b5 o3 [.slice l2.a l2.n l2.c])))) (par (n1 = 0) (okPtr h1 p1 none ∧ par ((p1 : Option Addr) = none) (Q (.int .i64 34) h1) (T51 p p1 (l.n : Int) h1 fun r2 h4 => ∃ b6 : Bool, r2 = .bool b6 ∧ parB b6 (Q (.int .i64 32) h4) (T52 p (IntKind.wrap .i64 (1 + (l.n : Int))) h4 fun r3 h5 => ∃ n2 : Int, ∃ b7 : Bool, parB b7 (r3 = .tuple ⟨[.int .i64 n2, .bool true]⟩ ∧ ∃ b8 o4, (p1 : Option Addr) = some ⟨b8, o4, none⟩ ∧ ∃ l3 : Sl, h5.at b8 o4 = some (.slice l3.a l3.n l3.c) ∧ Sl.okCut l 0 n2 (l.c : Int) ∧ ∃ vs1, h5.row ((Sl.cut l 1 0 n2 (l.c : Int)).a) (((Sl.cut l 1 0 n2 (l.c : Int)).n) * 1) vs1 ∧ (∀ v ∈ vs1, Value.oneCell' v = true) ∧ appendD l3 5 1 1 [.int .u8 0] ((Sl.cut l 1 0 n2 (l.c : Int)).n) vs1 h5 fun l4 h6 => ∃ b9 o5, (p1 : Option Addr) = some ⟨b9, o5, none⟩ ∧ h6.canW b9 o5 1 ∧ Q (.int .i64 30) (h6.wr b9 o5 [.slice l4.a l4.n l4.c])) (r3 = .tuple ⟨[.int .i64 n2, .bool false]⟩ ∧ ∃ b10 o6, (p1 : Option Addr) = some ⟨b10, o6, none⟩ ∧ ∃ l5 : Sl, h5.at b10 o6 = some (.slice l5.a l5.n l5.c) ∧ ∃ vs2, h5.row l.a (l.n * 1) vs2 ∧ (∀ v ∈ vs2, Value.oneCell' v = true) ∧ appendD l5 5 1 1 [.int .u8 0] l.n vs2 h5 fun l6 h7 => ∃ b11 o7, (p1 : Option Addr) = some ⟨b11, o7, none⟩ ∧ h7.canW b11 o7 1 ∧ Q (.int .i64 0) (h7.wr b11 o7 [.slice l6.a l6.n l6.c]))))) (Q (.int .i64 n1) h1))
def F22.T (p : Option Addr) (s : ByteArray) (l : Sl) : PT := F22.G F49.T F51.T F52.T p s l
theorem F22.gen (V : Value → List Value → PT) (T49 : Option Addr → Sl → PT) (T51 : Option Addr → Option Addr → Int → PT) (T52 : Option Addr → Int → PT) (p : Option Addr) (s : ByteArray) (l : Sl) : denF Try.prog [] [(49, F49.W T49), (51, F51.W T51), (52, F52.W T52)] V F22.an Try.f22 [.v (.pointer p), .v (.string s), .v (.slice l.a l.n l.c)] = F22.G T49 T51 T52 p s l := by kernel_rfl
theorem F22.den (V : Value → List Value → PT) (p : Option Addr) (s : ByteArray) (l : Sl) : denF Try.prog [] [(49, F49.V), (51, F51.V), (52, F52.V)] V F22.an Try.f22 [.v (.pointer p), .v (.string s), .v (.slice l.a l.n l.c)] = F22.T p s l := F22.gen V F49.T F51.T F52.T p s l
def F22.W (T22 : Option Addr → ByteArray → Sl → PT) (args : List Value) : PT := match args with
  | [.pointer p, .string s, .slice l_a l_n l_c] => T22 p s ⟨l_a, l_n, l_c⟩
  | _ => fun _ _ => False
def F22.V : List Value → PT := F22.W F22.T
theorem F22.ok : FOk Try.prog 22 F22.V := by
  refine ⟨⟨_, Try.func22, rfl, rfl⟩, fun args => ?_⟩
  have hG : GOk Try.prog [(49, F49.V), (51, F51.V), (52, F52.V)] := GOk.cons F49.ok (GOk.cons F51.ok (GOk.cons F52.ok (GOk.nil)))
  have hV : VOk Try.prog noV := noV_ok
  unfold F22.V F22.W
  split
  · exact denF_okV hG hV Try.func22 (fun h Q hq => (F22.den _ _ _ _) ▸ hq)
  · exact fun h Q hq => hq.elim
def F23.an : List (Nat × Ann) := []
def F23.G (T49 : Option Addr → Sl → PT) (T52 : Option Addr → Int → PT) (p : Option Addr) (s : ByteArray) : PT := fun h Q =>
  ∀ b, h b = none → T49 p ⟨(some ⟨b, 0, none⟩), 1, 1⟩ (h.new b (.cells ⟨[.string s]⟩ 9 (0, 0))) fun r h1 => ∃ n : Int, r = .int .i64 n ∧ par (n = 0) (∃ b1 o, (p : Option Addr) = some ⟨b1, o, none⟩ ∧ ∃ m : Option Nat, h1.at b1 (o + 1) = some (.map m) ∧ ∃ es c, h1.mp m es c ∧ keysFit (.string s) es ∧ ∃ p1 : Option Addr, (mget es (.string s) (.pointer none)) = .pointer p1 ∧ okPtr h1 p1 none ∧ par ((p1 : Option Addr) = none) (Q (.int .i64 34) h1) (T52 p 1 h1 fun r1 h2 => ∃ n1 : Int, ∃ b2 : Bool, parB b2 (r1 = .tuple ⟨[.int .i64 n1, .bool true]⟩ ∧ Q (.int .i64 30) h2) (r1 = .tuple ⟨[.int .i64 n1, .bool false]⟩ ∧ ∃ b3 o1, (p1 : Option Addr) = some ⟨b3, o1, none⟩ ∧ ∃ l : Sl, h2.at b3 o1 = some (.slice l.a l.n l.c) ∧ ∃ b4 o2, (p1 : Option Addr) = some ⟨b4, o2, none⟩ ∧ h2.canW b4 (o2 + 1) 1 ∧ Q (.int .i64 0) (h2.wr b4 (o2 + 1) [.int .i64 (l.n : Int)])))) (Q (.int .i64 n) h1)
def F23.T (p : Option Addr) (s : ByteArray) : PT := F23.G F49.T F52.T p s
theorem F23.gen (V : Value → List Value → PT) (T49 : Option Addr → Sl → PT) (T52 : Option Addr → Int → PT) (p : Option Addr) (s : ByteArray) : denF Try.prog [] [(49, F49.W T49), (52, F52.W T52)] V F23.an Try.f23 [.v (.pointer p), .v (.string s)] = F23.G T49 T52 p s := by kernel_rfl
theorem F23.den (V : Value → List Value → PT) (p : Option Addr) (s : ByteArray) : denF Try.prog [] [(49, F49.V), (52, F52.V)] V F23.an Try.f23 [.v (.pointer p), .v (.string s)] = F23.T p s := F23.gen V F49.T F52.T p s
def F23.W (T23 : Option Addr → ByteArray → PT) (args : List Value) : PT := match args with
  | [.pointer p, .string s] => T23 p s
  | _ => fun _ _ => False
def F23.V : List Value → PT := F23.W F23.T
theorem F23.ok : FOk Try.prog 23 F23.V := by
  refine ⟨⟨_, Try.func23, rfl, rfl⟩, fun args => ?_⟩
  have hG : GOk Try.prog [(49, F49.V), (52, F52.V)] := GOk.cons F49.ok (GOk.cons F52.ok (GOk.nil))
  have hV : VOk Try.prog noV := noV_ok
  unfold F23.V F23.W
  split
  · exact denF_okV hG hV Try.func23 (fun h Q hq => (F23.den _ _ _) ▸ hq)
  · exact fun h Q hq => hq.elim
def F24.an : List (Nat × Ann) := []
def F24.G (T47 : ByteArray → PT) (T48 : Sl → PT) (p : Option Addr) (s : ByteArray) : PT := fun h Q =>
  ∃ b o, (p : Option Addr) = some ⟨b, o, none⟩ ∧ ∃ b1 : Bool, h.at b (o + 8) = some (.bool b1) ∧ parB b1 (Q (.tuple ⟨[.slice none 0 0, .int .i64 30]⟩) h) (T47 s h fun r h1 => ∃ b2 : Bool, r = .bool b2 ∧ parB b2 (∃ b3 o1, (p : Option Addr) = some ⟨b3, o1, none⟩ ∧ ∃ m : Option Nat, h1.at b3 (o1 + 1) = some (.map m) ∧ ∃ es c, h1.mp m es c ∧ keysFit (.string s) es ∧ ∃ p1 : Option Addr, (mget es (.string s) (.pointer none)) = .pointer p1 ∧ okPtr h1 p1 none ∧ par ((p1 : Option Addr) = none) (Q (.tuple ⟨[.slice none 0 0, .int .i64 34]⟩) h1) (∃ b4 o2, (p : Option Addr) = some ⟨b4, o2, none⟩ ∧ ∃ m1 : Option Nat, h1.at b4 (o2 + 1) = some (.map m1) ∧ ∃ es1 c1, h1.mp m1 es1 c1 ∧ keysFit (.string s) es1 ∧ ∃ p2 : Option Addr, (mget es1 (.string s) (.pointer none)) = .pointer p2 ∧ ∃ b5 o3, (p2 : Option Addr) = some ⟨b5, o3, none⟩ ∧ ∃ l : Sl, h1.at b5 o3 = some (.slice l.a l.n l.c) ∧ T48 l h1 fun r1 h2 => ∃ l1 : Sl, r1 = .slice l1.a l1.n l1.c ∧ Q (.tuple ⟨[.slice l1.a l1.n l1.c, .int .i64 0]⟩) h2)) (Q (.tuple ⟨[.slice none 0 0, .int .i64 33]⟩) h1))
def F24.T (p : Option Addr) (s : ByteArray) : PT := F24.G F47.T F48.T p s
theorem F24.gen (V : Value → List Value → PT) (T47 : ByteArray → PT) (T48 : Sl → PT) (p : Option Addr) (s : ByteArray) : denF Try.prog [] [(47, F47.W T47), (48, F48.W T48)] V F24.an Try.f24 [.v (.pointer p), .v (.string s)] = F24.G T47 T48 p s := by kernel_rfl
theorem F24.den (V : Value → List Value → PT) (p : Option Addr) (s : ByteArray) : denF Try.prog [] [(47, F47.V), (48, F48.V)] V F24.an Try.f24 [.v (.pointer p), .v (.string s)] = F24.T p s := F24.gen V F47.T F48.T p s
def F24.W (T24 : Option Addr → ByteArray → PT) (args : List Value) : PT := match args with
  | [.pointer p, .string s] => T24 p s
  | _ => fun _ _ => False
def F24.V : List Value → PT := F24.W F24.T
theorem F24.ok : FOk Try.prog 24 F24.V := by
  refine ⟨⟨_, Try.func24, rfl, rfl⟩, fun args => ?_⟩
  have hG : GOk Try.prog [(47, F47.V), (48, F48.V)] := GOk.cons F47.ok (GOk.cons F48.ok (GOk.nil))
  have hV : VOk Try.prog noV := noV_ok
  unfold F24.V F24.W
  split
  · exact denF_okV hG hV Try.func24 (fun h Q hq => (F24.den _ _ _) ▸ hq)
  · exact fun h Q hq => hq.elim
def F26.an : List (Nat × Ann) := []
def F26.G (T49 : Option Addr → Sl → PT) (T50 : Option Addr → Int → ByteArray → ByteArray → Option Addr → PT) (p : Option Addr) (s : ByteArray) : PT := fun h Q =>
  ∀ b, h b = none → T49 p ⟨(some ⟨b, 0, none⟩), 1, 1⟩ (h.new b (.cells ⟨[.string s]⟩ 9 (0, 0))) fun r h1 => ∃ n : Int, r = .int .i64 n ∧ par (n = 0) (∃ b1 o, (p : Option Addr) = some ⟨b1, o, none⟩ ∧ ∃ m : Option Nat, h1.at b1 (o + 1) = some (.map m) ∧ ∃ es c, h1.mp m es c ∧ keysFit (.string s) es ∧ ∃ p1 : Option Addr, (mget es (.string s) (.pointer none)) = .pointer p1 ∧ okPtr h1 p1 none ∧ par ((p1 : Option Addr) = none) (Q (.int .i64 34) h1) (T50 p 2 s (ByteArray.mk #[]) none h1 fun r1 h2 => ∃ n1 : Int, r1 = .int .i64 n1 ∧ Q (.int .i64 n1) h2)) (Q (.int .i64 n) h1)
def F26.T (p : Option Addr) (s : ByteArray) : PT := F26.G F49.T F50.T p s
theorem F26.gen (V : Value → List Value → PT) (T49 : Option Addr → Sl → PT) (T50 : Option Addr → Int → ByteArray → ByteArray → Option Addr → PT) (p : Option Addr) (s : ByteArray) : denF Try.prog [] [(49, F49.W T49), (50, F50.W T50)] V F26.an Try.f26 [.v (.pointer p), .v (.string s)] = F26.G T49 T50 p s := by kernel_rfl
theorem F26.den (V : Value → List Value → PT) (p : Option Addr) (s : ByteArray) : denF Try.prog [] [(49, F49.V), (50, F50.V)] V F26.an Try.f26 [.v (.pointer p), .v (.string s)] = F26.T p s := F26.gen V F49.T F50.T p s
def F26.W (T26 : Option Addr → ByteArray → PT) (args : List Value) : PT := match args with
  | [.pointer p, .string s] => T26 p s
  | _ => fun _ _ => False
def F26.V : List Value → PT := F26.W F26.T
theorem F26.ok : FOk Try.prog 26 F26.V := by
  refine ⟨⟨_, Try.func26, rfl, rfl⟩, fun args => ?_⟩
  have hG : GOk Try.prog [(49, F49.V), (50, F50.V)] := GOk.cons F49.ok (GOk.cons F50.ok (GOk.nil))
  have hV : VOk Try.prog noV := noV_ok
  unfold F26.V F26.W
  split
  · exact denF_okV hG hV Try.func26 (fun h Q hq => (F26.den _ _ _) ▸ hq)
  · exact fun h Q hq => hq.elim
def F25.an : List (Nat × Ann) := []
def F25.G (T49 : Option Addr → Sl → PT) (T50 : Option Addr → Int → ByteArray → ByteArray → Option Addr → PT) (p : Option Addr) (s : ByteArray) (s1 : ByteArray) : PT := fun h Q =>
  ∀ b, h b = none → T49 p ⟨(some ⟨b, 0, none⟩), 2, 2⟩ (h.new b (.cells ⟨[.string s, .string s1]⟩ 9 (0, 0))) fun r h1 => ∃ n : Int, r = .int .i64 n ∧ par (n = 0) (∃ b1 o, (p : Option Addr) = some ⟨b1, o, none⟩ ∧ ∃ m : Option Nat, h1.at b1 (o + 1) = some (.map m) ∧ ∃ es c, h1.mp m es c ∧ keysFit (.string s) es ∧ ∃ p1 : Option Addr, (mget es (.string s) (.pointer none)) = .pointer p1 ∧ okPtr h1 p1 none ∧ par ((p1 : Option Addr) = none) (Q (.int .i64 34) h1) (T50 p 1 s s1 none h1 fun r1 h2 => ∃ n1 : Int, r1 = .int .i64 n1 ∧ Q (.int .i64 n1) h2)) (Q (.int .i64 n) h1)
def F25.T (p : Option Addr) (s : ByteArray) (s1 : ByteArray) : PT := F25.G F49.T F50.T p s s1
theorem F25.gen (V : Value → List Value → PT) (T49 : Option Addr → Sl → PT) (T50 : Option Addr → Int → ByteArray → ByteArray → Option Addr → PT) (p : Option Addr) (s : ByteArray) (s1 : ByteArray) : denF Try.prog [] [(49, F49.W T49), (50, F50.W T50)] V F25.an Try.f25 [.v (.pointer p), .v (.string s), .v (.string s1)] = F25.G T49 T50 p s s1 := by kernel_rfl
theorem F25.den (V : Value → List Value → PT) (p : Option Addr) (s : ByteArray) (s1 : ByteArray) : denF Try.prog [] [(49, F49.V), (50, F50.V)] V F25.an Try.f25 [.v (.pointer p), .v (.string s), .v (.string s1)] = F25.T p s s1 := F25.gen V F49.T F50.T p s s1
def F25.W (T25 : Option Addr → ByteArray → ByteArray → PT) (args : List Value) : PT := match args with
  | [.pointer p, .string s, .string s1] => T25 p s s1
  | _ => fun _ _ => False
def F25.V : List Value → PT := F25.W F25.T
theorem F25.ok : FOk Try.prog 25 F25.V := by
  refine ⟨⟨_, Try.func25, rfl, rfl⟩, fun args => ?_⟩
  have hG : GOk Try.prog [(49, F49.V), (50, F50.V)] := GOk.cons F49.ok (GOk.cons F50.ok (GOk.nil))
  have hV : VOk Try.prog noV := noV_ok
  unfold F25.V F25.W
  split
  · exact denF_okV hG hV Try.func25 (fun h Q hq => (F25.den _ _ _ _) ▸ hq)
  · exact fun h Q hq => hq.elim
def F69.an : List (Nat × Ann) := []
def F69.T (m : Option Nat) : PT := fun h Q =>
  ∀ b, h b = none → Q (.func (.func 75) ⟨[]⟩ ⟨[.pointer (some ⟨b, 0, none⟩)]⟩) (h.new b (.cells ⟨[.map m]⟩ 75 (0, 0)))
theorem F69.den (V : Value → List Value → PT) (m : Option Nat) : denF Try.prog [] [] V F69.an Try.f69 [.v (.map m)] = F69.T m := by kernel_rfl
def F69.W (T69 : Option Nat → PT) (args : List Value) : PT := match args with
  | [.map m] => T69 m
  | _ => fun _ _ => False
def F69.V : List Value → PT := F69.W F69.T
theorem F69.ok : FOk Try.prog 69 F69.V := by
  refine ⟨⟨_, Try.func69, rfl, rfl⟩, fun args => ?_⟩
  have hG : GOk Try.prog [] := GOk.nil
  have hV : VOk Try.prog noV := noV_ok
  unfold F69.V F69.W
  split
  · exact denF_okV hG hV Try.func69 (fun h Q hq => (F69.den _ _) ▸ hq)
  · exact fun h Q hq => hq.elim
def F41.an : List (Nat × Ann) := [(250, .loop [(7, .int .i64), (8, .int .i64)] []), (32038, .order [0, 1, 2, 3, 4, 5, 6, 7, 8, 9, 10, 11]), (128158, .order [0, 1, 2, 3, 4, 5, 6, 8, 9, 7, 10, 11, 12, 13, 14, 15, 16]), (256318, .order [0, 1, 2, 3, 4, 5, 6, 7, 8, 9, 10, 11, 12, 13, 14, 15, 16])]
def F41.G (T61 : Sl → PT) (T62 : ByteArray → PT) (T66 : Sl → ByteArray → Int → PT) (T67 : Sl → ByteArray → PT) (n : Int) (l : Sl) : PT := fun h Q =>
  par (n < 0) (Q (.tuple ⟨[.pointer none, .int .i64 36]⟩) h) (par ((8388608 : Int) < (l.n : Int)) (Q (.tuple ⟨[.pointer none, .int .i64 36]⟩) h) (∀ b, h b = none → ∃ (I : Int → Int → Hp → Prop) (m : Int → Int → Hp → Nat), I 0 0 (h.new b (.cells ⟨[.int .i64 n, .slice none 0 0, .slice none 0 0, .slice none 0 0, .slice none 0 0, .int .i64 0, .int .i64 0, .int .i64 0, .int .i64 0, .bool false]⟩ 85 (0, 0))) ∧ (∀ n1 : Int, ∀ n2 : Int, ∀ h1 : Hp, I n1 n2 h1 → par (n2 < (l.n : Int)) (∃ b1 o, (l.a : Option Addr) = some ⟨b1, o, none⟩ ∧ ((0 : Int) ≤ n2 ∧ n2 < (l.n : Int)) ∧ ∃ s : ByteArray, h1.at b1 (o + n2.toNat * 3) = some (.string s) ∧ ∃ l1 : Sl, h1.at b1 ((o + n2.toNat * 3) + 1) = some (.slice l1.a l1.n l1.c) ∧ ∃ n3 : Int, h1.at b1 ((o + n2.toNat * 3) + 2) = some (.int .i64 n3) ∧ T62 s h1 fun r h2 => ∃ b2 : Bool, r = .bool b2 ∧ parB b2 (par ((2147483648 : Int) < (l1.n : Int)) (Q (.tuple ⟨[.pointer none, .int .i64 36]⟩) h2) (par (n3 < 0) (Q (.tuple ⟨[.pointer none, .int .i64 36]⟩) h2) (par ((l1.n : Int) < n3) (Q (.tuple ⟨[.pointer none, .int .i64 36]⟩) h2) (∃ l2 : Sl, h2.at b 2 = some (.slice l2.a l2.n l2.c) ∧ T67 l2 s h2 fun r1 h3 => ∃ n4 : Int, ∃ b3 : Bool, parB b3 (r1 = .tuple ⟨[.int .i64 n4, .bool true]⟩ ∧ Q (.tuple ⟨[.pointer none, .int .i64 36]⟩) h3) (r1 = .tuple ⟨[.int .i64 n4, .bool false]⟩ ∧ ∃ l3 : Sl, h3.at b 1 = some (.slice l3.a l3.n l3.c) ∧ ∃ vs, h3.row l1.a (l1.n * 1) vs ∧ (∀ v ∈ vs, Value.oneCell' v = true) ∧ appendD ⟨none, 0, 0⟩ 5 1 1 [.int .u8 0] l1.n vs h3 fun l4 h4 => h4.at b 1 = some (.slice l3.a l3.n l3.c) ∧ ∀ b4, h4 b4 = none → (h4.new b4 (.cells ⟨[.slice l4.a l4.n l4.c, .int .i64 n3]⟩ 90 (0, 0))).at b 1 = some (.slice l3.a l3.n l3.c) ∧ (h4.new b4 (.cells ⟨[.slice l4.a l4.n l4.c, .int .i64 n3]⟩ 90 (0, 0))).at b 1 = some (.slice l3.a l3.n l3.c) ∧ appendD l3 86 1 8 [.pointer none] 1 [.pointer (some ⟨b4, 0, none⟩)] (h4.new b4 (.cells ⟨[.slice l4.a l4.n l4.c, .int .i64 n3]⟩ 90 (0, 0))) fun l5 h5 => h5.canW b 1 1 ∧ ∃ l6 : Sl, (h5.wr b 1 [.slice l5.a l5.n l5.c]).at b 2 = some (.slice l6.a l6.n l6.c) ∧ ∃ l7 : Sl, (h5.wr b 1 [.slice l5.a l5.n l5.c]).at b 1 = some (.slice l7.a l7.n l7.c) ∧ T66 l6 s (IntKind.wrap .i64 ((l7.n : Int) - 1)) (h5.wr b 1 [.slice l5.a l5.n l5.c]) fun r2 h6 => ∃ l8 : Sl, r2 = .slice l8.a l8.n l8.c ∧ h6.canW b 2 1 ∧ I (IntKind.wrap .i64 (n1 + (l1.n : Int))) (IntKind.wrap .i64 (n2 + 1)) (h6.wr b 2 [.slice l8.a l8.n l8.c]) ∧ m (IntKind.wrap .i64 (n1 + (l1.n : Int))) (IntKind.wrap .i64 (n2 + 1)) (h6.wr b 2 [.slice l8.a l8.n l8.c]) < m n1 n2 h1))))) (Q (.tuple ⟨[.pointer none, .int .i64 36]⟩) h2)) (par (n = 0) (∃ l9 : Sl, h1.at b 2 = some (.slice l9.a l9.n l9.c) ∧ T61 l9 h1 fun r3 h7 => ∃ l10 : Sl, r3 = .slice l10.a l10.n l10.c ∧ h7.canW b 3 1 ∧ Q (.tuple ⟨[.pointer (some ⟨b, 0, none⟩), .int .i64 0]⟩) (h7.wr b 3 [.slice l10.a l10.n l10.c])) (par (n < n1) (Q (.tuple ⟨[.pointer none, .int .i64 36]⟩) h1) (∃ l11 : Sl, h1.at b 2 = some (.slice l11.a l11.n l11.c) ∧ T61 l11 h1 fun r4 h8 => ∃ l12 : Sl, r4 = .slice l12.a l12.n l12.c ∧ h8.canW b 3 1 ∧ Q (.tuple ⟨[.pointer (some ⟨b, 0, none⟩), .int .i64 0]⟩) (h8.wr b 3 [.slice l12.a l12.n l12.c])))))))
def F41.T (n : Int) (l : Sl) : PT := F41.G F61.T F62.T F66.T F67.T n l
def F41.W (T41 : Int → Sl → PT) (args : List Value) : PT := match args with
  | [.int .i64 n, .slice l_a l_n l_c] => T41 n ⟨l_a, l_n, l_c⟩
  | _ => fun _ _ => False
def F41.V : List Value → PT := F41.W F41.T
def F15.an : List (Nat × Ann) := [(58, .loop [(3, .sl), (4, .int .i64)] []), (1864, .order [0, 1, 2, 3, 4, 5, 6, 7, 8, 9, 10, 11, 12, 13, 14]), (1865, .order [0, 1, 2, 3, 4, 5, 6, 7, 8, 9, 10, 11, 12, 14, 15, 16, 17, 13, 18, 19, 20, 21])]
def F15.T (p : Option Addr) : PT := fun h Q =>
  ∃ (I : Sl → Int → Hp → Prop) (m : Sl → Int → Hp → Nat), I ⟨none, 0, 0⟩ 0 h ∧ (∀ l : Sl, ∀ n : Int, ∀ h1 : Hp, I l n h1 → ∃ b o, (p : Option Addr) = some ⟨b, o, none⟩ ∧ ∃ l1 : Sl, h1.at b (o + 2) = some (.slice l1.a l1.n l1.c) ∧ par (n < (l1.n : Int)) (∃ b1 o1, (p : Option Addr) = some ⟨b1, o1, none⟩ ∧ ∃ l2 : Sl, h1.at b1 (o1 + 1) = some (.slice l2.a l2.n l2.c) ∧ ∃ b2 o2, (p : Option Addr) = some ⟨b2, o2, none⟩ ∧ ∃ l3 : Sl, h1.at b2 (o2 + 2) = some (.slice l3.a l3.n l3.c) ∧ ∃ b3 o3, (l3.a : Option Addr) = some ⟨b3, o3, none⟩ ∧ ((0 : Int) ≤ n ∧ n < (l3.n : Int)) ∧ ∃ n1 : Int, h1.at b3 ((o3 + n.toNat * 2) + 1) = some (.int .i64 n1) ∧ ∃ b4 o4, (l2.a : Option Addr) = some ⟨b4, o4, none⟩ ∧ ((0 : Int) ≤ n1 ∧ n1 < (l2.n : Int)) ∧ ∃ p1 : Option Addr, h1.at b4 (o4 + n1.toNat) = some (.pointer p1) ∧ ∃ b5 o5, (p : Option Addr) = some ⟨b5, o5, none⟩ ∧ ∃ l4 : Sl, h1.at b5 (o5 + 2) = some (.slice l4.a l4.n l4.c) ∧ ∃ b6 o6, (l4.a : Option Addr) = some ⟨b6, o6, none⟩ ∧ ((0 : Int) ≤ n ∧ n < (l4.n : Int)) ∧ ∃ s : ByteArray, h1.at b6 (o6 + n.toNat * 2) = some (.string s) ∧ ∃ b7 o7, (p1 : Option Addr) = some ⟨b7, o7, none⟩ ∧ ∃ l5 : Sl, h1.at b7 o7 = some (.slice l5.a l5.n l5.c) ∧ ∃ b8 o8, (p1 : Option Addr) = some ⟨b8, o8, none⟩ ∧ ∃ n2 : Int, h1.at b8 (o8 + 1) = some (.int .i64 n2) ∧ ∃ vs, h1.row l5.a (l5.n * 1) vs ∧ (∀ v ∈ vs, Value.oneCell' v = true) ∧ appendD ⟨none, 0, 0⟩ 5 1 1 [.int .u8 0] l5.n vs h1 fun l6 h2 => h2.at b5 (o5 + 2) = some (.slice l4.a l4.n l4.c) ∧ h2.at b6 (o6 + n.toNat * 2) = some (.string s) ∧ h2.at b8 (o8 + 1) = some (.int .i64 n2) ∧ appendD l 60 3 48 [.string (ByteArray.mk #[]), .slice none 0 0, .int .i64 0] 1 [.string s, .slice l6.a l6.n l6.c, .int .i64 n2] h2 fun l7 h3 => I l7 (IntKind.wrap .i64 (n + 1)) h3 ∧ m l7 (IntKind.wrap .i64 (n + 1)) h3 < m l n h1) (Q (.slice l.a l.n l.c) h1))
def F15.W (T15 : Option Addr → PT) (args : List Value) : PT := match args with
  | [.pointer p] => T15 p
  | _ => fun _ _ => False
def F15.V : List Value → PT := F15.W F15.T
def F46.an : List (Nat × Ann) := [(58, .loop [(5, .sl), (6, .int .i64)] []), (1910509, .order [0, 1, 2, 4, 5, 6, 3, 7, 8])]
def F46.G (T61 : Sl → PT) (T66 : Sl → ByteArray → Int → PT) (T67 : Sl → ByteArray → PT) (T71 : Sl → ByteArray → PT) (p : Option Addr) (n : Int) : PT := fun h Q =>
  ∃ b o, (p : Option Addr) = some ⟨b, o, none⟩ ∧ ∃ l : Sl, h.at b (o + 3) = some (.slice l.a l.n l.c) ∧ T61 l h fun r h1 => ∃ l1 : Sl, r = .slice l1.a l1.n l1.c ∧ ∃ (I : Sl → Int → Hp → Prop) (m : Sl → Int → Hp → Nat), I l1 0 h1 ∧ (∀ l2 : Sl, ∀ n1 : Int, ∀ h2 : Hp, I l2 n1 h2 → ∃ b1 o1, (p : Option Addr) = some ⟨b1, o1, none⟩ ∧ ∃ l3 : Sl, h2.at b1 (o1 + 4) = some (.slice l3.a l3.n l3.c) ∧ par (n1 < (l3.n : Int)) (par (n1 < n) (∃ b2 o2, (p : Option Addr) = some ⟨b2, o2, none⟩ ∧ ∃ l4 : Sl, h2.at b2 (o2 + 4) = some (.slice l4.a l4.n l4.c) ∧ ∃ b3 o3, (l4.a : Option Addr) = some ⟨b3, o3, none⟩ ∧ ((0 : Int) ≤ n1 ∧ n1 < (l4.n : Int)) ∧ ∃ n2 : Int, h2.at b3 (o3 + n1.toNat * 4) = some (.int .i64 n2) ∧ ∃ s : ByteArray, h2.at b3 ((o3 + n1.toNat * 4) + 1) = some (.string s) ∧ ∃ s1 : ByteArray, h2.at b3 ((o3 + n1.toNat * 4) + 2) = some (.string s1) ∧ ∃ n3 : Int, h2.at b3 ((o3 + n1.toNat * 4) + 3) = some (.int .i64 n3) ∧ par (n2 = 1) (T66 l2 s n3 h2 fun r1 h3 => ∃ l5 : Sl, r1 = .slice l5.a l5.n l5.c ∧ I l5 (IntKind.wrap .i64 (n1 + 1)) h3 ∧ m l5 (IntKind.wrap .i64 (n1 + 1)) h3 < m l2 n1 h2) (par (n2 = 2) (T67 l2 s h2 fun r2 h4 => ∃ n4 : Int, ∃ b4 : Bool, parB b4 (r2 = .tuple ⟨[.int .i64 n4, .bool true]⟩ ∧ ∃ b5 o4, (l2.a : Option Addr) = some ⟨b5, o4, none⟩ ∧ ((0 : Int) ≤ n4 ∧ n4 < (l2.n : Int)) ∧ ∃ n5 : Int, h4.at b5 ((o4 + n4.toNat * 2) + 1) = some (.int .i64 n5) ∧ T71 l2 s h4 fun r3 h5 => ∃ l6 : Sl, r3 = .slice l6.a l6.n l6.c ∧ T66 l6 s1 n5 h5 fun r4 h6 => ∃ l7 : Sl, r4 = .slice l7.a l7.n l7.c ∧ I l7 (IntKind.wrap .i64 (n1 + 1)) h6 ∧ m l7 (IntKind.wrap .i64 (n1 + 1)) h6 < m l2 n1 h2) (r2 = .tuple ⟨[.int .i64 n4, .bool false]⟩ ∧ I l2 (IntKind.wrap .i64 (n1 + 1)) h4 ∧ m l2 (IntKind.wrap .i64 (n1 + 1)) h4 < m l2 n1 h2)) (par (n2 = 3) (T71 l2 s h2 fun r5 h7 => ∃ l8 : Sl, r5 = .slice l8.a l8.n l8.c ∧ I l8 (IntKind.wrap .i64 (n1 + 1)) h7 ∧ m l8 (IntKind.wrap .i64 (n1 + 1)) h7 < m l2 n1 h2) (I l2 (IntKind.wrap .i64 (n1 + 1)) h2 ∧ m l2 (IntKind.wrap .i64 (n1 + 1)) h2 < m l2 n1 h2)))) (Q (.slice l2.a l2.n l2.c) h2)) (Q (.slice l2.a l2.n l2.c) h2))
def F46.T (p : Option Addr) (n : Int) : PT := F46.G F61.T F66.T F67.T F71.T p n
def F46.W (T46 : Option Addr → Int → PT) (args : List Value) : PT := match args with
  | [.pointer p, .int .i64 n] => T46 p n
  | _ => fun _ _ => False
def F46.V : List Value → PT := F46.W F46.T
def F17.an : List (Nat × Ann) := [(122, .loop [(8, .sl), (9, .int .i64)] []), (3912, .order [0, 1, 2, 3, 4, 5, 6, 7, 8, 9, 10, 11]), (7827, .join [(11, .int .i64)] []), (31310, .order [0, 1, 2, 3, 4, 5, 6, 7, 8, 9, 10, 11, 12]), (62618, .order [0, 1, 2, 3, 4, 5, 6, 7, 8, 9, 10, 11, 12, 13, 14, 15, 16, 17, 18, 19])]
def F17.G (T46 : Option Addr → Int → PT) (p : Option Addr) (n : Int) (l : Sl) : PT := fun h Q =>
  T46 p n h fun r h1 => ∃ l1 : Sl, r = .slice l1.a l1.n l1.c ∧ ∃ (I : Sl → Int → Hp → Prop) (m : Sl → Int → Hp → Nat), I ⟨none, 0, 0⟩ 0 h1 ∧ (∀ l2 : Sl, ∀ n1 : Int, ∀ h2 : Hp, I l2 n1 h2 → par (n1 < (l1.n : Int)) (∃ b o, (p : Option Addr) = some ⟨b, o, none⟩ ∧ ∃ l3 : Sl, h2.at b (o + 1) = some (.slice l3.a l3.n l3.c) ∧ ∃ b1 o1, (l1.a : Option Addr) = some ⟨b1, o1, none⟩ ∧ ((0 : Int) ≤ n1 ∧ n1 < (l1.n : Int)) ∧ ∃ n2 : Int, h2.at b1 ((o1 + n1.toNat * 2) + 1) = some (.int .i64 n2) ∧ ∃ b2 o2, (l3.a : Option Addr) = some ⟨b2, o2, none⟩ ∧ ((0 : Int) ≤ n2 ∧ n2 < (l3.n : Int)) ∧ ∃ p1 : Option Addr, h2.at b2 (o2 + n2.toNat) = some (.pointer p1) ∧ ∃ J : Int → Hp → Prop, (∀ n3 : Int, ∀ h3 : Hp, J n3 h3 → ∃ b3 o3, (p1 : Option Addr) = some ⟨b3, o3, none⟩ ∧ ∃ l4 : Sl, h3.at b3 o3 = some (.slice l4.a l4.n l4.c) ∧ ∃ b4 o4, (p1 : Option Addr) = some ⟨b4, o4, none⟩ ∧ ∃ n4 : Int, h3.at b4 (o4 + 1) = some (.int .i64 n4) ∧ Sl.okCut l4 0 (IntKind.wrap .i64 (n4 + n3)) (l4.c : Int) ∧ ∃ vs, h3.row ((Sl.cut l4 1 0 (IntKind.wrap .i64 (n4 + n3)) (l4.c : Int)).a) (((Sl.cut l4 1 0 (IntKind.wrap .i64 (n4 + n3)) (l4.c : Int)).n) * 1) vs ∧ (∀ v ∈ vs, Value.oneCell' v = true) ∧ appendD ⟨none, 0, 0⟩ 5 1 1 [.int .u8 0] ((Sl.cut l4 1 0 (IntKind.wrap .i64 (n4 + n3)) (l4.c : Int)).n) vs h3 fun l5 h4 => ∃ b5 o5, (l1.a : Option Addr) = some ⟨b5, o5, none⟩ ∧ ((0 : Int) ≤ n1 ∧ n1 < (l1.n : Int)) ∧ ∃ s : ByteArray, h4.at b5 (o5 + n1.toNat * 2) = some (.string s) ∧ appendD l2 60 3 48 [.string (ByteArray.mk #[]), .slice none 0 0, .int .i64 0] 1 [.string s, .slice l5.a l5.n l5.c, .int .i64 (l5.n : Int)] h4 fun l6 h5 => I l6 (IntKind.wrap .i64 (n1 + 1)) h5 ∧ m l6 (IntKind.wrap .i64 (n1 + 1)) h5 < m l2 n1 h2) ∧ (par ((0 : Int) < (l.n : Int)) ((l.n : Int) ≠ 0 ∧ ∃ b6 o6, (l.a : Option Addr) = some ⟨b6, o6, none⟩ ∧ ((0 : Int) ≤ (Int.tmod n1 (l.n : Int)) ∧ (Int.tmod n1 (l.n : Int)) < (l.n : Int)) ∧ ∃ n5 : Int, h2.at b6 (o6 + ((Int.tmod n1 (l.n : Int))).toNat) = some (.int .i64 n5) ∧ ∃ b7 o7, (p1 : Option Addr) = some ⟨b7, o7, none⟩ ∧ ∃ l7 : Sl, h2.at b7 o7 = some (.slice l7.a l7.n l7.c) ∧ ∃ b8 o8, (p1 : Option Addr) = some ⟨b8, o8, none⟩ ∧ ∃ n6 : Int, h2.at b8 (o8 + 1) = some (.int .i64 n6) ∧ J (iMin (iMax n5 0) (IntKind.wrap .i64 ((l7.n : Int) - n6))) h2) (J 0 h2))) (Q (.slice l2.a l2.n l2.c) h2))
def F17.T (p : Option Addr) (n : Int) (l : Sl) : PT := F17.G F46.T p n l
def F17.W (T17 : Option Addr → Int → Sl → PT) (args : List Value) : PT := match args with
  | [.pointer p, .int .i64 n, .slice l_a l_n l_c] => T17 p n ⟨l_a, l_n, l_c⟩
  | _ => fun _ _ => False
def F17.V : List Value → PT := F17.W F17.T
def F21.an : List (Nat × Ann) := [(58, .loop [(5, .sl), (6, .int .i64)] [])]
def F21.T (l : Sl) (s : ByteArray) : PT := fun h Q =>
  ∃ (I : Sl → Int → Hp → Prop) (m : Sl → Int → Hp → Nat), I ⟨none, 0, 0⟩ 0 h ∧ (∀ l1 : Sl, ∀ n : Int, ∀ h1 : Hp, I l1 n h1 → par (n < (l.n : Int)) (∃ b o, (l.a : Option Addr) = some ⟨b, o, none⟩ ∧ ((0 : Int) ≤ n ∧ n < (l.n : Int)) ∧ ∃ s1 : ByteArray, h1.at b (o + n.toNat * 2) = some (.string s1) ∧ par (s1 = s) (I l1 (IntKind.wrap .i64 (n + 1)) h1 ∧ m l1 (IntKind.wrap .i64 (n + 1)) h1 < m l1 n h1) (∃ b1 o1, (l.a : Option Addr) = some ⟨b1, o1, none⟩ ∧ ((0 : Int) ≤ n ∧ n < (l.n : Int)) ∧ ∃ s2 : ByteArray, h1.at b1 (o1 + n.toNat * 2) = some (.string s2) ∧ ∃ l2 : Sl, h1.at b1 ((o1 + n.toNat * 2) + 1) = some (.slice l2.a l2.n l2.c) ∧ appendD l1 52 2 40 [.string (ByteArray.mk #[]), .slice none 0 0] 1 [.string s2, .slice l2.a l2.n l2.c] h1 fun l3 h2 => I l3 (IntKind.wrap .i64 (n + 1)) h2 ∧ m l3 (IntKind.wrap .i64 (n + 1)) h2 < m l1 n h1)) (Q (.slice l1.a l1.n l1.c) h1))
theorem F21.den (V : Value → List Value → PT) (l : Sl) (s : ByteArray) : denF Try.prog [25] [] V F21.an Try.f21 [.v (.slice l.a l.n l.c), .v (.string s)] = F21.T l s := by kernel_rfl
def F21.W (T21 : Sl → ByteArray → PT) (args : List Value) : PT := match args with
  | [.slice l_a l_n l_c, .string s] => T21 ⟨l_a, l_n, l_c⟩ s
  | _ => fun _ _ => False
def F21.V : List Value → PT := F21.W F21.T
theorem F21.ok : FOk Try.prog 21 F21.V := by
  refine ⟨⟨_, Try.func21, rfl, rfl⟩, fun args => ?_⟩
  have hG : GOk Try.prog [] := GOk.nil
  have hV : VOk Try.prog noV := noV_ok
  unfold F21.V F21.W
  split
  · exact denF_okV hG hV Try.func21 (fun h Q hq => (F21.den _ _ _) ▸ hq)
  · exact fun h Q hq => hq.elim
def F28.an : List (Nat × Ann) := [(58, .loop [(3, .sl), (4, .int .i64)] [])]
def F28.T (l : Sl) : PT := fun h Q =>
  ∃ (I : Sl → Int → Hp → Prop) (m : Sl → Int → Hp → Nat), I ⟨none, 0, 0⟩ 0 h ∧ (∀ l1 : Sl, ∀ n : Int, ∀ h1 : Hp, I l1 n h1 → par (n < (l.n : Int)) (∃ b o, (l.a : Option Addr) = some ⟨b, o, none⟩ ∧ ((0 : Int) ≤ n ∧ n < (l.n : Int)) ∧ ∃ s : ByteArray, h1.at b (o + n.toNat * 3) = some (.string s) ∧ appendD l1 9 1 16 [.string (ByteArray.mk #[])] 1 [.string s] h1 fun l2 h2 => I l2 (IntKind.wrap .i64 (n + 1)) h2 ∧ m l2 (IntKind.wrap .i64 (n + 1)) h2 < m l1 n h1) (Q (.slice l1.a l1.n l1.c) h1))
theorem F28.den (V : Value → List Value → PT) (l : Sl) : denF Try.prog [17] [] V F28.an Try.f28 [.v (.slice l.a l.n l.c)] = F28.T l := by kernel_rfl
def F28.W (T28 : Sl → PT) (args : List Value) : PT := match args with
  | [.slice l_a l_n l_c] => T28 ⟨l_a, l_n, l_c⟩
  | _ => fun _ _ => False
def F28.V : List Value → PT := F28.W F28.T
theorem F28.ok : FOk Try.prog 28 F28.V := by
  refine ⟨⟨_, Try.func28, rfl, rfl⟩, fun args => ?_⟩
  have hG : GOk Try.prog [] := GOk.nil
  have hV : VOk Try.prog noV := noV_ok
  unfold F28.V F28.W
  split
  · exact denF_okV hG hV Try.func28 (fun h Q hq => (F28.den _ _) ▸ hq)
  · exact fun h Q hq => hq.elim
def F29.an : List (Nat × Ann) := [(58, .loop [(5, .int .i64)] []), (1864, .order [0, 1, 2, 3, 4, 5, 6, 7, 8])]
def F29.T (l : Sl) (l1 : Sl) : PT := fun h Q =>
  par ((l.n : Int) = (l1.n : Int)) (∃ (I : Int → Hp → Prop) (m : Int → Hp → Nat), I 0 h ∧ (∀ n : Int, ∀ h1 : Hp, I n h1 → par (n < (l.n : Int)) (∃ b o, (l.a : Option Addr) = some ⟨b, o, none⟩ ∧ ((0 : Int) ≤ n ∧ n < (l.n : Int)) ∧ ∃ s : ByteArray, h1.at b (o + n.toNat) = some (.string s) ∧ ∃ b1 o1, (l1.a : Option Addr) = some ⟨b1, o1, none⟩ ∧ ((0 : Int) ≤ n ∧ n < (l1.n : Int)) ∧ ∃ s1 : ByteArray, h1.at b1 (o1 + n.toNat) = some (.string s1) ∧ par (s = s1) (I (IntKind.wrap .i64 (n + 1)) h1 ∧ m (IntKind.wrap .i64 (n + 1)) h1 < m n h1) (Q (.bool false) h1)) (Q (.bool true) h1))) (Q (.bool false) h)
theorem F29.den (V : Value → List Value → PT) (l : Sl) (l1 : Sl) : denF Try.prog [] [] V F29.an Try.f29 [.v (.slice l.a l.n l.c), .v (.slice l1.a l1.n l1.c)] = F29.T l l1 := by kernel_rfl
def F29.W (T29 : Sl → Sl → PT) (args : List Value) : PT := match args with
  | [.slice l_a l_n l_c, .slice l1_a l1_n l1_c] => T29 ⟨l_a, l_n, l_c⟩ ⟨l1_a, l1_n, l1_c⟩
  | _ => fun _ _ => False
def F29.V : List Value → PT := F29.W F29.T
theorem F29.ok : FOk Try.prog 29 F29.V := by
  refine ⟨⟨_, Try.func29, rfl, rfl⟩, fun args => ?_⟩
  have hG : GOk Try.prog [] := GOk.nil
  have hV : VOk Try.prog noV := noV_ok
  unfold F29.V F29.W
  split
  · exact denF_okV hG hV Try.func29 (fun h Q hq => (F29.den _ _ _) ▸ hq)
  · exact fun h Q hq => hq.elim
def F30.an : List (Nat × Ann) := [(26, .loop [(5, .int .i64)] [])]
def F30.T (l : Sl) (s : ByteArray) : PT := fun h Q =>
  ∃ (I : Int → Hp → Prop) (m : Int → Hp → Nat), I 0 h ∧ (∀ n : Int, ∀ h1 : Hp, I n h1 → par (n < (l.n : Int)) (∃ b o, (l.a : Option Addr) = some ⟨b, o, none⟩ ∧ ((0 : Int) ≤ n ∧ n < (l.n : Int)) ∧ ∃ s1 : ByteArray, h1.at b (o + n.toNat * 3) = some (.string s1) ∧ par (s1 = s) (Q (.int .i64 n) h1) (I (IntKind.wrap .i64 (n + 1)) h1 ∧ m (IntKind.wrap .i64 (n + 1)) h1 < m n h1)) (Q (.int .i64 (-1)) h1))
theorem F30.den (V : Value → List Value → PT) (l : Sl) (s : ByteArray) : denF Try.prog [] [] V F30.an Try.f30 [.v (.slice l.a l.n l.c), .v (.string s)] = F30.T l s := by kernel_rfl
def F30.W (T30 : Sl → ByteArray → PT) (args : List Value) : PT := match args with
  | [.slice l_a l_n l_c, .string s] => T30 ⟨l_a, l_n, l_c⟩ s
  | _ => fun _ _ => False
def F30.V : List Value → PT := F30.W F30.T
theorem F30.ok : FOk Try.prog 30 F30.V := by
  refine ⟨⟨_, Try.func30, rfl, rfl⟩, fun args => ?_⟩
  have hG : GOk Try.prog [] := GOk.nil
  have hV : VOk Try.prog noV := noV_ok
  unfold F30.V F30.W
  split
  · exact denF_okV hG hV Try.func30 (fun h Q hq => (F30.den _ _ _) ▸ hq)
  · exact fun h Q hq => hq.elim
def F31.an : List (Nat × Ann) := [(6, .order [0, 1, 2, 3, 4, 5, 6, 7, 8, 9, 10, 11, 12, 13, 14, 15])]
def F31.T (l : Sl) (l1 : Sl) : PT := fun h Q =>
  par ((l.n : Int) ≤ (l1.n : Int)) (Sl.okCut l1 0 (l.n : Int) (l1.c : Int) ∧ ∃ s : ByteArray, h.row ((Sl.cut l1 1 0 (l.n : Int) (l1.c : Int)).a) ((Sl.cut l1 1 0 (l.n : Int) (l1.c : Int)).n) (bytesV s) ∧ ∃ s1 : ByteArray, h.row l.a l.n (bytesV s1) ∧ par (s = s1) (Q (.bool true) h) (Q (.bool false) h)) (Q (.bool false) h)
theorem F31.den (V : Value → List Value → PT) (l : Sl) (l1 : Sl) : denF Try.prog [] [] V F31.an Try.f31 [.v (.slice l.a l.n l.c), .v (.slice l1.a l1.n l1.c)] = F31.T l l1 := by kernel_rfl
def F31.W (T31 : Sl → Sl → PT) (args : List Value) : PT := match args with
  | [.slice l_a l_n l_c, .slice l1_a l1_n l1_c] => T31 ⟨l_a, l_n, l_c⟩ ⟨l1_a, l1_n, l1_c⟩
  | _ => fun _ _ => False
def F31.V : List Value → PT := F31.W F31.T
theorem F31.ok : FOk Try.prog 31 F31.V := by
  refine ⟨⟨_, Try.func31, rfl, rfl⟩, fun args => ?_⟩
  have hG : GOk Try.prog [] := GOk.nil
  have hV : VOk Try.prog noV := noV_ok
  unfold F31.V F31.W
  split
  · exact denF_okV hG hV Try.func31 (fun h Q hq => (F31.den _ _ _) ▸ hq)
  · exact fun h Q hq => hq.elim
def F34.an : List (Nat × Ann) := []
def F34.T (p : Option Addr) : PT := fun h Q =>
  ∃ b o, (p : Option Addr) = some ⟨b, o, none⟩ ∧ ∃ b1 : Bool, h.at b (o + 9) = some (.bool b1) ∧ parB b1 (Q (.bool true) h) (Q (.bool false) h)
def F34.W (T34 : Option Addr → PT) (args : List Value) : PT := match args with
  | [.pointer p] => T34 p
  | _ => fun _ _ => False
def F34.V : List Value → PT := F34.W F34.T
def F35.an : List (Nat × Ann) := []
def F35.T (p : Option Addr) (n : Int) : PT := fun h Q =>
  ∃ b o, (p : Option Addr) = some ⟨b, o, none⟩ ∧ h.canW b (o + 4) 1 ∧ Q (.tuple ⟨[]⟩) (h.wr b (o + 4) [.int .i64 (iMax n 0)])
def F35.W (T35 : Option Addr → Int → PT) (args : List Value) : PT := match args with
  | [.pointer p, .int .i64 n] => T35 p n
  | _ => fun _ _ => False
def F35.V : List Value → PT := F35.W F35.T
def F36.an : List (Nat × Ann) := []
def F36.T (p : Option Addr) (n : Int) : PT := fun h Q =>
  ∃ b o, (p : Option Addr) = some ⟨b, o, none⟩ ∧ ∃ b1 : Bool, h.at b (o + 9) = some (.bool b1) ∧ parB b1 (Q (.tuple ⟨[]⟩) h) (∃ b2 o1, (p : Option Addr) = some ⟨b2, o1, none⟩ ∧ h.canW b2 (o1 + 5) 1 ∧ Q (.tuple ⟨[]⟩) (h.wr b2 (o1 + 5) [.int .i64 (iMax n 0)]))
def F36.W (T36 : Option Addr → Int → PT) (args : List Value) : PT := match args with
  | [.pointer p, .int .i64 n] => T36 p n
  | _ => fun _ _ => False
def F36.V : List Value → PT := F36.W F36.T
def F37.an : List (Nat × Ann) := [(58, .loop [(8, .int .i64)] [(18, [.int .i64, .sl, .sl, .sl, .sl, .int .i64, .int .i64, .int .i64, .int .i64, .bool])]), (1864, .order [0, 1, 2, 3, 4, 5, 6, 7, 8, 9, 10, 11, 12, 13, 14, 15, 16, 17, 18, 19, 20, 21]), (1865, .order [0, 1, 2, 3, 4, 5, 6, 7, 8, 9, 10, 11, 12, 13, 14, 15, 16])]
def F37.G (T17 : Option Addr → Int → Sl → PT) (T61 : Sl → PT) (p : Option Addr) (n : Int) (l : Sl) : PT := fun h Q =>
  T17 p n l h fun r h1 => ∃ l1 : Sl, r = .slice l1.a l1.n l1.c ∧ ∃ b o, (p : Option Addr) = some ⟨b, o, none⟩ ∧ ∃ n1 : Int, h1.at b o = some (.int .i64 n1) ∧ ∃ (I : Int → Int → Sl → Sl → Sl → Sl → Int → Int → Int → Int → Bool → Hp → Prop) (m : Int → Int → Sl → Sl → Sl → Sl → Int → Int → Int → Int → Bool → Hp → Nat), I 0 n1 ⟨none, 0, 0⟩ ⟨none, 0, 0⟩ ⟨none, 0, 0⟩ ⟨none, 0, 0⟩ 0 0 0 0 false h1 ∧ (∀ n2 : Int, ∀ n3 : Int, ∀ l2 : Sl, ∀ l3 : Sl, ∀ l4 : Sl, ∀ l5 : Sl, ∀ n4 : Int, ∀ n5 : Int, ∀ n6 : Int, ∀ n7 : Int, (∀ h2 : Hp, I n2 n3 l2 l3 l4 l5 n4 n5 n6 n7 true h2 → par (n2 < (l1.n : Int)) (∃ b2 o1, (l1.a : Option Addr) = some ⟨b2, o1, none⟩ ∧ ((0 : Int) ≤ n2 ∧ n2 < (l1.n : Int)) ∧ ∃ l6 : Sl, h2.at b2 ((o1 + n2.toNat * 3) + 1) = some (.slice l6.a l6.n l6.c) ∧ ∃ b3 o2, (l1.a : Option Addr) = some ⟨b3, o2, none⟩ ∧ ((0 : Int) ≤ n2 ∧ n2 < (l1.n : Int)) ∧ ∃ n8 : Int, h2.at b3 ((o2 + n2.toNat * 3) + 2) = some (.int .i64 n8) ∧ ∀ b4, h2 b4 = none → appendD l2 86 1 8 [.pointer none] 1 [.pointer (some ⟨b4, 0, none⟩)] (h2.new b4 (.cells ⟨[.slice l6.a l6.n l6.c, .int .i64 n8]⟩ 90 (0, 0))) fun l7 h3 => ∃ b5 o3, (l1.a : Option Addr) = some ⟨b5, o3, none⟩ ∧ ((0 : Int) ≤ n2 ∧ n2 < (l1.n : Int)) ∧ ∃ s : ByteArray, h3.at b5 (o3 + n2.toNat * 3) = some (.string s) ∧ appendD l3 88 2 24 [.string (ByteArray.mk #[]), .int .i64 0] 1 [.string s, .int .i64 n2] h3 fun l8 h4 => I (IntKind.wrap .i64 (n2 + 1)) n3 l7 l8 l4 l5 n4 n5 n6 n7 true h4 ∧ m (IntKind.wrap .i64 (n2 + 1)) n3 l7 l8 l4 l5 n4 n5 n6 n7 true h4 < m n2 n3 l2 l3 l4 l5 n4 n5 n6 n7 true h2) (T61 l3 h2 fun r1 h5 => ∃ l9 : Sl, r1 = .slice l9.a l9.n l9.c ∧ ∃ b6 o4, (p : Option Addr) = some ⟨b6, o4, none⟩ ∧ h5.canW b6 o4 10 ∧ Q (.tuple ⟨[]⟩) (h5.wr b6 o4 [.int .i64 n3, .slice l2.a l2.n l2.c, .slice l3.a l3.n l3.c, .slice l9.a l9.n l9.c, .slice l5.a l5.n l5.c, .int .i64 n4, .int .i64 n5, .int .i64 n6, .int .i64 n7, .bool true]))) ∧ (∀ h2 : Hp, I n2 n3 l2 l3 l4 l5 n4 n5 n6 n7 false h2 → par (n2 < (l1.n : Int)) (∃ b7 o5, (l1.a : Option Addr) = some ⟨b7, o5, none⟩ ∧ ((0 : Int) ≤ n2 ∧ n2 < (l1.n : Int)) ∧ ∃ l10 : Sl, h2.at b7 ((o5 + n2.toNat * 3) + 1) = some (.slice l10.a l10.n l10.c) ∧ ∃ b8 o6, (l1.a : Option Addr) = some ⟨b8, o6, none⟩ ∧ ((0 : Int) ≤ n2 ∧ n2 < (l1.n : Int)) ∧ ∃ n9 : Int, h2.at b8 ((o6 + n2.toNat * 3) + 2) = some (.int .i64 n9) ∧ ∀ b9, h2 b9 = none → appendD l2 86 1 8 [.pointer none] 1 [.pointer (some ⟨b9, 0, none⟩)] (h2.new b9 (.cells ⟨[.slice l10.a l10.n l10.c, .int .i64 n9]⟩ 90 (0, 0))) fun l11 h6 => ∃ b10 o7, (l1.a : Option Addr) = some ⟨b10, o7, none⟩ ∧ ((0 : Int) ≤ n2 ∧ n2 < (l1.n : Int)) ∧ ∃ s1 : ByteArray, h6.at b10 (o7 + n2.toNat * 3) = some (.string s1) ∧ appendD l3 88 2 24 [.string (ByteArray.mk #[]), .int .i64 0] 1 [.string s1, .int .i64 n2] h6 fun l12 h7 => I (IntKind.wrap .i64 (n2 + 1)) n3 l11 l12 l4 l5 n4 n5 n6 n7 false h7 ∧ m (IntKind.wrap .i64 (n2 + 1)) n3 l11 l12 l4 l5 n4 n5 n6 n7 false h7 < m n2 n3 l2 l3 l4 l5 n4 n5 n6 n7 false h2) (T61 l3 h2 fun r2 h8 => ∃ l13 : Sl, r2 = .slice l13.a l13.n l13.c ∧ ∃ b11 o8, (p : Option Addr) = some ⟨b11, o8, none⟩ ∧ h8.canW b11 o8 10 ∧ Q (.tuple ⟨[]⟩) (h8.wr b11 o8 [.int .i64 n3, .slice l2.a l2.n l2.c, .slice l3.a l3.n l3.c, .slice l13.a l13.n l13.c, .slice l5.a l5.n l5.c, .int .i64 n4, .int .i64 n5, .int .i64 n6, .int .i64 n7, .bool false]))))
def F37.T (p : Option Addr) (n : Int) (l : Sl) : PT := F37.G F17.T F61.T p n l
def F37.W (T37 : Option Addr → Int → Sl → PT) (args : List Value) : PT := match args with
  | [.pointer p, .int .i64 n, .slice l_a l_n l_c] => T37 p n ⟨l_a, l_n, l_c⟩
  | _ => fun _ _ => False
def F37.V : List Value → PT := F37.W F37.T
def F63.an : List (Nat × Ann) := []
def F63.T (p : Option Addr) : PT := fun h Q =>
  ∃ b o, (p : Option Addr) = some ⟨b, o, none⟩ ∧ ∃ n : Int, h.at b (o + 6) = some (.int .i64 n) ∧ par ((0 : Int) < n) (∃ b1 o1, (p : Option Addr) = some ⟨b1, o1, none⟩ ∧ ∃ n1 : Int, h.at b1 (o1 + 6) = some (.int .i64 n1) ∧ ∃ b2 o2, (p : Option Addr) = some ⟨b2, o2, none⟩ ∧ h.canW b2 (o2 + 6) 1 ∧ Q (.bool false) (h.wr b2 (o2 + 6) [.int .i64 (IntKind.wrap .i64 (n1 - 1))])) (∃ b3 o3, (p : Option Addr) = some ⟨b3, o3, none⟩ ∧ ∃ n2 : Int, h.at b3 (o3 + 7) = some (.int .i64 n2) ∧ par ((0 : Int) < n2) (∃ b4 o4, (p : Option Addr) = some ⟨b4, o4, none⟩ ∧ ∃ n3 : Int, h.at b4 (o4 + 7) = some (.int .i64 n3) ∧ ∃ b5 o5, (p : Option Addr) = some ⟨b5, o5, none⟩ ∧ h.canW b5 (o5 + 7) 1 ∧ Q (.bool true) (h.wr b5 (o5 + 7) [.int .i64 (IntKind.wrap .i64 (n3 - 1))])) (Q (.bool false) h))
def F63.W (T63 : Option Addr → PT) (args : List Value) : PT := match args with
  | [.pointer p] => T63 p
  | _ => fun _ _ => False
def F63.V : List Value → PT := F63.W F63.T
def F64.an : List (Nat × Ann) := [(30, .order [0, 1, 2, 3, 4, 5, 6, 7, 8, 9, 10, 11, 12, 13, 14])]
def F64.G (T67 : Sl → ByteArray → PT) (p : Option Addr) (s : ByteArray) : PT := fun h Q =>
  ∃ b o, (p : Option Addr) = some ⟨b, o, none⟩ ∧ ∃ l : Sl, h.at b (o + 2) = some (.slice l.a l.n l.c) ∧ T67 l s h fun r h1 => ∃ n : Int, ∃ b1 : Bool, parB b1 (r = .tuple ⟨[.int .i64 n, .bool true]⟩ ∧ ∃ b2 o1, (p : Option Addr) = some ⟨b2, o1, none⟩ ∧ ∃ l1 : Sl, h1.at b2 (o1 + 1) = some (.slice l1.a l1.n l1.c) ∧ ∃ b3 o2, (p : Option Addr) = some ⟨b3, o2, none⟩ ∧ ∃ l2 : Sl, h1.at b3 (o2 + 2) = some (.slice l2.a l2.n l2.c) ∧ ∃ b4 o3, (l2.a : Option Addr) = some ⟨b4, o3, none⟩ ∧ ((0 : Int) ≤ n ∧ n < (l2.n : Int)) ∧ ∃ n1 : Int, h1.at b4 ((o3 + n.toNat * 2) + 1) = some (.int .i64 n1) ∧ ∃ b5 o4, (l1.a : Option Addr) = some ⟨b5, o4, none⟩ ∧ ((0 : Int) ≤ n1 ∧ n1 < (l1.n : Int)) ∧ ∃ p1 : Option Addr, h1.at b5 (o4 + n1.toNat) = some (.pointer p1) ∧ Q (.pointer p1) h1) (r = .tuple ⟨[.int .i64 n, .bool false]⟩ ∧ Q (.pointer none) h1)
def F64.T (p : Option Addr) (s : ByteArray) : PT := F64.G F67.T p s
def F64.W (T64 : Option Addr → ByteArray → PT) (args : List Value) : PT := match args with
  | [.pointer p, .string s] => T64 p s
  | _ => fun _ _ => False
def F64.V : List Value → PT := F64.W F64.T
def F65.an : List (Nat × Ann) := []
def F65.T (p : Option Addr) (n : Int) : PT := fun h Q =>
  ∃ b o, (p : Option Addr) = some ⟨b, o, none⟩ ∧ ∃ n1 : Int, h.at b (o + 5) = some (.int .i64 n1) ∧ par (n1 = 0) (Q (.tuple ⟨[.int .i64 0, .bool false]⟩) h) (∃ b1 o1, (p : Option Addr) = some ⟨b1, o1, none⟩ ∧ ∃ n2 : Int, h.at b1 (o1 + 5) = some (.int .i64 n2) ∧ par (n < n2) (∃ b2 o2, (p : Option Addr) = some ⟨b2, o2, none⟩ ∧ ∃ n3 : Int, h.at b2 (o2 + 5) = some (.int .i64 n3) ∧ ∃ b3 o3, (p : Option Addr) = some ⟨b3, o3, none⟩ ∧ h.canW b3 (o3 + 5) 1 ∧ Q (.tuple ⟨[.int .i64 0, .bool false]⟩) (h.wr b3 (o3 + 5) [.int .i64 (IntKind.wrap .i64 (n3 - n))])) (∃ b4 o4, (p : Option Addr) = some ⟨b4, o4, none⟩ ∧ ∃ n4 : Int, h.at b4 (o4 + 5) = some (.int .i64 n4) ∧ ∃ b5 o5, (p : Option Addr) = some ⟨b5, o5, none⟩ ∧ h.canW b5 (o5 + 5) 1 ∧ ∃ b6 o6, (p : Option Addr) = some ⟨b6, o6, none⟩ ∧ (h.wr b5 (o5 + 5) [.int .i64 0]).canW b6 (o6 + 6) 1 ∧ ∃ b7 o7, (p : Option Addr) = some ⟨b7, o7, none⟩ ∧ ((h.wr b5 (o5 + 5) [.int .i64 0]).wr b6 (o6 + 6) [.int .i64 0]).canW b7 (o7 + 7) 1 ∧ ∃ b8 o8, (p : Option Addr) = some ⟨b8, o8, none⟩ ∧ (((h.wr b5 (o5 + 5) [.int .i64 0]).wr b6 (o6 + 6) [.int .i64 0]).wr b7 (o7 + 7) [.int .i64 0]).canW b8 (o8 + 8) 1 ∧ ∃ b9 o9, (p : Option Addr) = some ⟨b9, o9, none⟩ ∧ ((((h.wr b5 (o5 + 5) [.int .i64 0]).wr b6 (o6 + 6) [.int .i64 0]).wr b7 (o7 + 7) [.int .i64 0]).wr b8 (o8 + 8) [.int .i64 0]).canW b9 (o9 + 9) 1 ∧ Q (.tuple ⟨[.int .i64 (IntKind.wrap .i64 (n4 - 1)), .bool true]⟩) (((((h.wr b5 (o5 + 5) [.int .i64 0]).wr b6 (o6 + 6) [.int .i64 0]).wr b7 (o7 + 7) [.int .i64 0]).wr b8 (o8 + 8) [.int .i64 0]).wr b9 (o9 + 9) [.bool true])))
def F65.W (T65 : Option Addr → Int → PT) (args : List Value) : PT := match args with
  | [.pointer p, .int .i64 n] => T65 p n
  | _ => fun _ _ => False
def F65.V : List Value → PT := F65.W F65.T
def F38.an : List (Nat × Ann) := [(2046, .order [0, 1, 2, 3, 4, 5, 6, 7, 8, 9, 10, 11, 12, 13, 14, 15]), (4094, .order [0, 1, 2, 3, 4, 5, 6, 7, 8, 9, 10, 11, 12, 13, 14, 15, 16, 17])]
def F38.G (T62 : ByteArray → PT) (T63 : Option Addr → PT) (T64 : Option Addr → ByteArray → PT) (T65 : Option Addr → Int → PT) (T66 : Sl → ByteArray → Int → PT) (p : Option Addr) (s : ByteArray) : PT := fun h Q =>
  ∃ b o, (p : Option Addr) = some ⟨b, o, none⟩ ∧ ∃ b1 : Bool, h.at b (o + 9) = some (.bool b1) ∧ parB b1 (Q (.int .i64 30) h) (T62 s h fun r h1 => ∃ b2 : Bool, r = .bool b2 ∧ parB b2 (T63 p h1 fun r1 h2 => ∃ b3 : Bool, r1 = .bool b3 ∧ parB b3 (Q (.int .i64 31) h2) (T64 p s h2 fun r2 h3 => ∃ p1 : Option Addr, r2 = .pointer p1 ∧ okPtr h3 p1 none ∧ par ((p1 : Option Addr) = none) (∃ b4 o1, (p : Option Addr) = some ⟨b4, o1, none⟩ ∧ ∃ l : Sl, h3.at b4 (o1 + 2) = some (.slice l.a l.n l.c) ∧ par ((8388608 : Int) ≤ (l.n : Int)) (Q (.int .i64 32) h3) (T65 p 1 h3 fun r3 h4 => ∃ n : Int, ∃ b5 : Bool, parB b5 (r3 = .tuple ⟨[.int .i64 n, .bool true]⟩ ∧ Q (.int .i64 30) h4) (r3 = .tuple ⟨[.int .i64 n, .bool false]⟩ ∧ ∃ b6 o2, (p : Option Addr) = some ⟨b6, o2, none⟩ ∧ ∃ l1 : Sl, h4.at b6 (o2 + 1) = some (.slice l1.a l1.n l1.c) ∧ ∀ b7, h4 b7 = none → appendD l1 86 1 8 [.pointer none] 1 [.pointer (some ⟨b7, 0, none⟩)] (h4.new b7 (.cells ⟨[.slice none 0 0, .int .i64 0]⟩ 90 (0, 0))) fun l2 h5 => ∃ b8 o3, (p : Option Addr) = some ⟨b8, o3, none⟩ ∧ h5.canW b8 (o3 + 1) 1 ∧ ∃ b9 o4, (p : Option Addr) = some ⟨b9, o4, none⟩ ∧ ∃ l3 : Sl, (h5.wr b8 (o3 + 1) [.slice l2.a l2.n l2.c]).at b9 (o4 + 2) = some (.slice l3.a l3.n l3.c) ∧ ∃ b10 o5, (p : Option Addr) = some ⟨b10, o5, none⟩ ∧ ∃ l4 : Sl, (h5.wr b8 (o3 + 1) [.slice l2.a l2.n l2.c]).at b10 (o5 + 1) = some (.slice l4.a l4.n l4.c) ∧ T66 l3 s (IntKind.wrap .i64 ((l4.n : Int) - 1)) (h5.wr b8 (o3 + 1) [.slice l2.a l2.n l2.c]) fun r4 h6 => ∃ l5 : Sl, r4 = .slice l5.a l5.n l5.c ∧ ∃ b11 o6, (p : Option Addr) = some ⟨b11, o6, none⟩ ∧ h6.canW b11 (o6 + 2) 1 ∧ ∃ b12 o7, (p : Option Addr) = some ⟨b12, o7, none⟩ ∧ ∃ l6 : Sl, (h6.wr b11 (o6 + 2) [.slice l5.a l5.n l5.c]).at b12 (o7 + 4) = some (.slice l6.a l6.n l6.c) ∧ ∃ b13 o8, (p : Option Addr) = some ⟨b13, o8, none⟩ ∧ ∃ l7 : Sl, (h6.wr b11 (o6 + 2) [.slice l5.a l5.n l5.c]).at b13 (o8 + 1) = some (.slice l7.a l7.n l7.c) ∧ (h6.wr b11 (o6 + 2) [.slice l5.a l5.n l5.c]).at b12 (o7 + 4) = some (.slice l6.a l6.n l6.c) ∧ appendD l6 116 4 48 [.int .i64 0, .string (ByteArray.mk #[]), .string (ByteArray.mk #[]), .int .i64 0] 1 [.int .i64 1, .string s, .string (ByteArray.mk #[]), .int .i64 (IntKind.wrap .i64 ((l7.n : Int) - 1))] (h6.wr b11 (o6 + 2) [.slice l5.a l5.n l5.c]) fun l8 h7 => ∃ b14 o9, (p : Option Addr) = some ⟨b14, o9, none⟩ ∧ h7.canW b14 (o9 + 4) 1 ∧ Q (.int .i64 0) (h7.wr b14 (o9 + 4) [.slice l8.a l8.n l8.c])))) (Q (.int .i64 35) h3))) (Q (.int .i64 33) h1))
def F38.T (p : Option Addr) (s : ByteArray) : PT := F38.G F62.T F63.T F64.T F65.T F66.T p s
def F38.W (T38 : Option Addr → ByteArray → PT) (args : List Value) : PT := match args with
  | [.pointer p, .string s] => T38 p s
  | _ => fun _ _ => False
def F38.V : List Value → PT := F38.W F38.T
end Go.Eng.Ytekflkpnpibneaa
end
section

set_option maxRecDepth 100000
set_option linter.unusedVariables false
open Go.Proofs
namespace Go.Eng.Ytekflkpnpibneaa
def F76.an : List (Nat × Ann) := [(58, .loop [(3, .int .i64), (4, .int .i64)] []), (932, .order [0, 1, 2, 3, 4, 5, 6, 7, 8, 9, 10, 11, 12, 13, 14, 15, 16, 17, 18, 19, 20])]
def F76.T (p : Option Addr) : PT := fun h Q =>
  ∃ (I : Int → Int → Hp → Prop) (m : Int → Int → Hp → Nat), I 0 0 h ∧ (∀ n : Int, ∀ n1 : Int, ∀ h1 : Hp, I n n1 h1 → ∃ b o, (p : Option Addr) = some ⟨b, o, none⟩ ∧ ∃ l : Sl, h1.at b (o + 2) = some (.slice l.a l.n l.c) ∧ par (n1 < (l.n : Int)) (∃ b1 o1, (p : Option Addr) = some ⟨b1, o1, none⟩ ∧ ∃ l1 : Sl, h1.at b1 (o1 + 1) = some (.slice l1.a l1.n l1.c) ∧ ∃ b2 o2, (p : Option Addr) = some ⟨b2, o2, none⟩ ∧ ∃ l2 : Sl, h1.at b2 (o2 + 2) = some (.slice l2.a l2.n l2.c) ∧ ∃ b3 o3, (l2.a : Option Addr) = some ⟨b3, o3, none⟩ ∧ ((0 : Int) ≤ n1 ∧ n1 < (l2.n : Int)) ∧ ∃ n2 : Int, h1.at b3 ((o3 + n1.toNat * 2) + 1) = some (.int .i64 n2) ∧ ∃ b4 o4, (l1.a : Option Addr) = some ⟨b4, o4, none⟩ ∧ ((0 : Int) ≤ n2 ∧ n2 < (l1.n : Int)) ∧ ∃ p1 : Option Addr, h1.at b4 (o4 + n2.toNat) = some (.pointer p1) ∧ ∃ b5 o5, (p1 : Option Addr) = some ⟨b5, o5, none⟩ ∧ ∃ l3 : Sl, h1.at b5 o5 = some (.slice l3.a l3.n l3.c) ∧ I (IntKind.wrap .i64 (n + (l3.n : Int))) (IntKind.wrap .i64 (n1 + 1)) h1 ∧ m (IntKind.wrap .i64 (n + (l3.n : Int))) (IntKind.wrap .i64 (n1 + 1)) h1 < m n n1 h1) (Q (.int .i64 n) h1))
def F76.W (T76 : Option Addr → PT) (args : List Value) : PT := match args with
  | [.pointer p] => T76 p
  | _ => fun _ _ => False
def F76.V : List Value → PT := F76.W F76.T
def F72.an : List (Nat × Ann) := [(6, .order [0, 1, 2, 3, 4, 5, 6, 7, 8, 9, 10, 11, 12, 13, 14, 15, 16, 17, 18, 19, 20, 21, 22, 23, 24, 25, 26])]
def F72.G (T76 : Option Addr → PT) (p : Option Addr) (p1 : Option Addr) (n : Int) : PT := fun h Q =>
  ∃ b o, (p : Option Addr) = some ⟨b, o, none⟩ ∧ ∃ n1 : Int, h.at b o = some (.int .i64 n1) ∧ par (n1 = 0) (∃ b1 o1, (p1 : Option Addr) = some ⟨b1, o1, none⟩ ∧ ∃ l : Sl, h.at b1 o1 = some (.slice l.a l.n l.c) ∧ par ((IntKind.wrap .i64 (2147483648 - (l.n : Int))) < n) (Q (.bool true) h) (Q (.bool false) h)) (∃ b2 o2, (p : Option Addr) = some ⟨b2, o2, none⟩ ∧ ∃ n2 : Int, h.at b2 o2 = some (.int .i64 n2) ∧ T76 p h fun r h1 => ∃ n3 : Int, r = .int .i64 n3 ∧ h1.at b2 o2 = some (.int .i64 n2) ∧ par ((IntKind.wrap .i64 (n2 - n3)) < n) (Q (.bool true) h1) (∃ b3 o3, (p1 : Option Addr) = some ⟨b3, o3, none⟩ ∧ ∃ l1 : Sl, h1.at b3 o3 = some (.slice l1.a l1.n l1.c) ∧ par ((IntKind.wrap .i64 (2147483648 - (l1.n : Int))) < n) (Q (.bool true) h1) (Q (.bool false) h1)))
def F72.T (p : Option Addr) (p1 : Option Addr) (n : Int) : PT := F72.G F76.T p p1 n
def F72.W (T72 : Option Addr → Option Addr → Int → PT) (args : List Value) : PT := match args with
  | [.pointer p, .pointer p1, .int .i64 n] => T72 p p1 n
  | _ => fun _ _ => False
def F72.V : List Value → PT := F72.W F72.T
def F53.an : List (Nat × Ann) := [(16372, .order [0, 1, 2, 3, 4, 5, 6, 7, 8, 9, 10, 11]), (32406, .order [0, 1, 2, 3, 4, 5, 6, 7, 8, 9, 10, 11])]
def F53.G (T62 : ByteArray → PT) (T63 : Option Addr → PT) (T64 : Option Addr → ByteArray → PT) (T65 : Option Addr → Int → PT) (T72 : Option Addr → Option Addr → Int → PT) (p : Option Addr) (s : ByteArray) (l : Sl) : PT := fun h Q =>
  ∃ b o, (p : Option Addr) = some ⟨b, o, none⟩ ∧ ∃ b1 : Bool, h.at b (o + 9) = some (.bool b1) ∧ parB b1 (Q (.int .i64 30) h) (T62 s h fun r h1 => ∃ b2 : Bool, r = .bool b2 ∧ parB b2 (T64 p s h1 fun r1 h2 => ∃ p1 : Option Addr, r1 = .pointer p1 ∧ ∃ b3 o1, (p : Option Addr) = some ⟨b3, o1, none⟩ ∧ ∃ n : Int, h2.at b3 (o1 + 8) = some (.int .i64 n) ∧ T63 p h2 fun r2 h3 => ∃ b4 : Bool, r2 = .bool b4 ∧ parB b4 (okPtr h3 p1 none ∧ par ((p1 : Option Addr) = none) (Q (.int .i64 31) h3) (T72 p p1 (iMin n (l.n : Int)) h3 fun r3 h4 => ∃ b5 : Bool, r3 = .bool b5 ∧ parB b5 (Q (.int .i64 31) h4) (∃ b6 o2, (p1 : Option Addr) = some ⟨b6, o2, none⟩ ∧ ∃ l1 : Sl, h4.at b6 o2 = some (.slice l1.a l1.n l1.c) ∧ Sl.okCut l 0 (iMin n (l.n : Int)) (l.c : Int) ∧ ∃ vs, h4.row ((Sl.cut l 1 0 (iMin n (l.n : Int)) (l.c : Int)).a) (((Sl.cut l 1 0 (iMin n (l.n : Int)) (l.c : Int)).n) * 1) vs ∧ (∀ v ∈ vs, Value.oneCell' v = true) ∧ appendD l1 5 1 1 [.int .u8 0] ((Sl.cut l 1 0 (iMin n (l.n : Int)) (l.c : Int)).n) vs h4 fun l2 h5 => ∃ b7 o3, (p1 : Option Addr) = some ⟨b7, o3, none⟩ ∧ h5.canW b7 o3 1 ∧ Q (.int .i64 31) (h5.wr b7 o3 [.slice l2.a l2.n l2.c])))) (okPtr h3 p1 none ∧ par ((p1 : Option Addr) = none) (Q (.int .i64 34) h3) (T72 p p1 (l.n : Int) h3 fun r4 h6 => ∃ b8 : Bool, r4 = .bool b8 ∧ parB b8 (Q (.int .i64 32) h6) (T65 p (IntKind.wrap .i64 (1 + (l.n : Int))) h6 fun r5 h7 => ∃ n1 : Int, ∃ b9 : Bool, parB b9 (r5 = .tuple ⟨[.int .i64 n1, .bool true]⟩ ∧ ∃ b10 o4, (p1 : Option Addr) = some ⟨b10, o4, none⟩ ∧ ∃ l3 : Sl, h7.at b10 o4 = some (.slice l3.a l3.n l3.c) ∧ Sl.okCut l 0 n1 (l.c : Int) ∧ ∃ vs1, h7.row ((Sl.cut l 1 0 n1 (l.c : Int)).a) (((Sl.cut l 1 0 n1 (l.c : Int)).n) * 1) vs1 ∧ (∀ v ∈ vs1, Value.oneCell' v = true) ∧ appendD l3 5 1 1 [.int .u8 0] ((Sl.cut l 1 0 n1 (l.c : Int)).n) vs1 h7 fun l4 h8 => ∃ b11 o5, (p1 : Option Addr) = some ⟨b11, o5, none⟩ ∧ h8.canW b11 o5 1 ∧ Q (.int .i64 30) (h8.wr b11 o5 [.slice l4.a l4.n l4.c])) (r5 = .tuple ⟨[.int .i64 n1, .bool false]⟩ ∧ ∃ b12 o6, (p1 : Option Addr) = some ⟨b12, o6, none⟩ ∧ ∃ l5 : Sl, h7.at b12 o6 = some (.slice l5.a l5.n l5.c) ∧ ∃ vs2, h7.row l.a (l.n * 1) vs2 ∧ (∀ v ∈ vs2, Value.oneCell' v = true) ∧ appendD l5 5 1 1 [.int .u8 0] l.n vs2 h7 fun l6 h9 => ∃ b13 o7, (p1 : Option Addr) = some ⟨b13, o7, none⟩ ∧ h9.canW b13 o7 1 ∧ Q (.int .i64 0) (h9.wr b13 o7 [.slice l6.a l6.n l6.c])))))) (Q (.int .i64 33) h1))
def F53.T (p : Option Addr) (s : ByteArray) (l : Sl) : PT := F53.G F62.T F63.T F64.T F65.T F72.T p s l
def F53.W (T53 : Option Addr → ByteArray → Sl → PT) (args : List Value) : PT := match args with
  | [.pointer p, .string s, .slice l_a l_n l_c] => T53 p s ⟨l_a, l_n, l_c⟩
  | _ => fun _ _ => False
def F53.V : List Value → PT := F53.W F53.T
def F54.an : List (Nat × Ann) := []
def F54.G (T62 : ByteArray → PT) (T63 : Option Addr → PT) (T64 : Option Addr → ByteArray → PT) (T65 : Option Addr → Int → PT) (p : Option Addr) (s : ByteArray) : PT := fun h Q =>
  ∃ b o, (p : Option Addr) = some ⟨b, o, none⟩ ∧ ∃ b1 : Bool, h.at b (o + 9) = some (.bool b1) ∧ parB b1 (Q (.int .i64 30) h) (T62 s h fun r h1 => ∃ b2 : Bool, r = .bool b2 ∧ parB b2 (T63 p h1 fun r1 h2 => ∃ b3 : Bool, r1 = .bool b3 ∧ parB b3 (Q (.int .i64 31) h2) (T64 p s h2 fun r2 h3 => ∃ p1 : Option Addr, r2 = .pointer p1 ∧ okPtr h3 p1 none ∧ par ((p1 : Option Addr) = none) (Q (.int .i64 34) h3) (T65 p 1 h3 fun r3 h4 => ∃ n : Int, ∃ b4 : Bool, parB b4 (r3 = .tuple ⟨[.int .i64 n, .bool true]⟩ ∧ Q (.int .i64 30) h4) (r3 = .tuple ⟨[.int .i64 n, .bool false]⟩ ∧ ∃ b5 o1, (p1 : Option Addr) = some ⟨b5, o1, none⟩ ∧ ∃ l : Sl, h4.at b5 o1 = some (.slice l.a l.n l.c) ∧ ∃ b6 o2, (p1 : Option Addr) = some ⟨b6, o2, none⟩ ∧ h4.canW b6 (o2 + 1) 1 ∧ Q (.int .i64 0) (h4.wr b6 (o2 + 1) [.int .i64 (l.n : Int)]))))) (Q (.int .i64 33) h1))
def F54.T (p : Option Addr) (s : ByteArray) : PT := F54.G F62.T F63.T F64.T F65.T p s
def F54.W (T54 : Option Addr → ByteArray → PT) (args : List Value) : PT := match args with
  | [.pointer p, .string s] => T54 p s
  | _ => fun _ _ => False
def F54.V : List Value → PT := F54.W F54.T
def F55.an : List (Nat × Ann) := []
def F55.G (T62 : ByteArray → PT) (T63 : Option Addr → PT) (T65 : Option Addr → Int → PT) (T66 : Sl → ByteArray → Int → PT) (T67 : Sl → ByteArray → PT) (T71 : Sl → ByteArray → PT) (p : Option Addr) (s : ByteArray) (s1 : ByteArray) : PT := fun h Q =>
  ∃ b o, (p : Option Addr) = some ⟨b, o, none⟩ ∧ ∃ b1 : Bool, h.at b (o + 9) = some (.bool b1) ∧ parB b1 (Q (.int .i64 30) h) (T62 s h fun r h1 => ∃ b2 : Bool, r = .bool b2 ∧ parB b2 (T62 s1 h1 fun r1 h2 => ∃ b3 : Bool, r1 = .bool b3 ∧ parB b3 (T63 p h2 fun r2 h3 => ∃ b4 : Bool, r2 = .bool b4 ∧ parB b4 (Q (.int .i64 31) h3) (∃ b5 o1, (p : Option Addr) = some ⟨b5, o1, none⟩ ∧ ∃ l : Sl, h3.at b5 (o1 + 2) = some (.slice l.a l.n l.c) ∧ T67 l s h3 fun r3 h4 => ∃ n : Int, ∃ b6 : Bool, parB b6 (r3 = .tuple ⟨[.int .i64 n, .bool true]⟩ ∧ T65 p 1 h4 fun r4 h5 => ∃ n1 : Int, ∃ b7 : Bool, parB b7 (r4 = .tuple ⟨[.int .i64 n1, .bool true]⟩ ∧ Q (.int .i64 30) h5) (r4 = .tuple ⟨[.int .i64 n1, .bool false]⟩ ∧ par (s = s1) (Q (.int .i64 0) h5) (∃ b8 o2, (p : Option Addr) = some ⟨b8, o2, none⟩ ∧ ∃ l1 : Sl, h5.at b8 (o2 + 2) = some (.slice l1.a l1.n l1.c) ∧ ∃ b9 o3, (l1.a : Option Addr) = some ⟨b9, o3, none⟩ ∧ ((0 : Int) ≤ n ∧ n < (l1.n : Int)) ∧ ∃ n2 : Int, h5.at b9 ((o3 + n.toNat * 2) + 1) = some (.int .i64 n2) ∧ ∃ b10 o4, (p : Option Addr) = some ⟨b10, o4, none⟩ ∧ ∃ l2 : Sl, h5.at b10 (o4 + 2) = some (.slice l2.a l2.n l2.c) ∧ T71 l2 s h5 fun r5 h6 => ∃ l3 : Sl, r5 = .slice l3.a l3.n l3.c ∧ T66 l3 s1 n2 h6 fun r6 h7 => ∃ l4 : Sl, r6 = .slice l4.a l4.n l4.c ∧ ∃ b11 o5, (p : Option Addr) = some ⟨b11, o5, none⟩ ∧ h7.canW b11 (o5 + 2) 1 ∧ ∃ b12 o6, (p : Option Addr) = some ⟨b12, o6, none⟩ ∧ ∃ l5 : Sl, (h7.wr b11 (o5 + 2) [.slice l4.a l4.n l4.c]).at b12 (o6 + 4) = some (.slice l5.a l5.n l5.c) ∧ appendD l5 116 4 48 [.int .i64 0, .string (ByteArray.mk #[]), .string (ByteArray.mk #[]), .int .i64 0] 1 [.int .i64 2, .string s, .string s1, .int .i64 0] (h7.wr b11 (o5 + 2) [.slice l4.a l4.n l4.c]) fun l6 h8 => ∃ b13 o7, (p : Option Addr) = some ⟨b13, o7, none⟩ ∧ h8.canW b13 (o7 + 4) 1 ∧ Q (.int .i64 0) (h8.wr b13 (o7 + 4) [.slice l6.a l6.n l6.c])))) (r3 = .tuple ⟨[.int .i64 n, .bool false]⟩ ∧ Q (.int .i64 34) h4))) (Q (.int .i64 33) h2)) (Q (.int .i64 33) h1))
def F55.T (p : Option Addr) (s : ByteArray) (s1 : ByteArray) : PT := F55.G F62.T F63.T F65.T F66.T F67.T F71.T p s s1
def F55.W (T55 : Option Addr → ByteArray → ByteArray → PT) (args : List Value) : PT := match args with
  | [.pointer p, .string s, .string s1] => T55 p s s1
  | _ => fun _ _ => False
def F55.V : List Value → PT := F55.W F55.T
def F56.an : List (Nat × Ann) := []
def F56.G (T62 : ByteArray → PT) (T63 : Option Addr → PT) (T64 : Option Addr → ByteArray → PT) (T65 : Option Addr → Int → PT) (T71 : Sl → ByteArray → PT) (p : Option Addr) (s : ByteArray) : PT := fun h Q =>
  ∃ b o, (p : Option Addr) = some ⟨b, o, none⟩ ∧ ∃ b1 : Bool, h.at b (o + 9) = some (.bool b1) ∧ parB b1 (Q (.int .i64 30) h) (T62 s h fun r h1 => ∃ b2 : Bool, r = .bool b2 ∧ parB b2 (T63 p h1 fun r1 h2 => ∃ b3 : Bool, r1 = .bool b3 ∧ parB b3 (Q (.int .i64 31) h2) (T64 p s h2 fun r2 h3 => ∃ p1 : Option Addr, r2 = .pointer p1 ∧ okPtr h3 p1 none ∧ par ((p1 : Option Addr) = none) (Q (.int .i64 34) h3) (T65 p 1 h3 fun r3 h4 => ∃ n : Int, ∃ b4 : Bool, parB b4 (r3 = .tuple ⟨[.int .i64 n, .bool true]⟩ ∧ Q (.int .i64 30) h4) (r3 = .tuple ⟨[.int .i64 n, .bool false]⟩ ∧ ∃ b5 o1, (p : Option Addr) = some ⟨b5, o1, none⟩ ∧ ∃ l : Sl, h4.at b5 (o1 + 2) = some (.slice l.a l.n l.c) ∧ T71 l s h4 fun r4 h5 => ∃ l1 : Sl, r4 = .slice l1.a l1.n l1.c ∧ ∃ b6 o2, (p : Option Addr) = some ⟨b6, o2, none⟩ ∧ h5.canW b6 (o2 + 2) 1 ∧ ∃ b7 o3, (p : Option Addr) = some ⟨b7, o3, none⟩ ∧ ∃ l2 : Sl, (h5.wr b6 (o2 + 2) [.slice l1.a l1.n l1.c]).at b7 (o3 + 4) = some (.slice l2.a l2.n l2.c) ∧ appendD l2 116 4 48 [.int .i64 0, .string (ByteArray.mk #[]), .string (ByteArray.mk #[]), .int .i64 0] 1 [.int .i64 3, .string s, .string (ByteArray.mk #[]), .int .i64 0] (h5.wr b6 (o2 + 2) [.slice l1.a l1.n l1.c]) fun l3 h6 => ∃ b8 o4, (p : Option Addr) = some ⟨b8, o4, none⟩ ∧ h6.canW b8 (o4 + 4) 1 ∧ Q (.int .i64 0) (h6.wr b8 (o4 + 4) [.slice l3.a l3.n l3.c]))))) (Q (.int .i64 33) h1))
def F56.T (p : Option Addr) (s : ByteArray) : PT := F56.G F62.T F63.T F64.T F65.T F71.T p s
def F56.W (T56 : Option Addr → ByteArray → PT) (args : List Value) : PT := match args with
  | [.pointer p, .string s] => T56 p s
  | _ => fun _ _ => False
def F56.V : List Value → PT := F56.W F56.T
def F57.an : List (Nat × Ann) := []
def F57.G (T61 : Sl → PT) (T63 : Option Addr → PT) (T65 : Option Addr → Int → PT) (p : Option Addr) : PT := fun h Q =>
  ∃ b o, (p : Option Addr) = some ⟨b, o, none⟩ ∧ ∃ b1 : Bool, h.at b (o + 9) = some (.bool b1) ∧ parB b1 (Q (.int .i64 30) h) (T63 p h fun r h1 => ∃ b2 : Bool, r = .bool b2 ∧ parB b2 (Q (.int .i64 31) h1) (T65 p 1 h1 fun r1 h2 => ∃ n : Int, ∃ b3 : Bool, parB b3 (r1 = .tuple ⟨[.int .i64 n, .bool true]⟩ ∧ Q (.int .i64 30) h2) (r1 = .tuple ⟨[.int .i64 n, .bool false]⟩ ∧ ∃ b4 o1, (p : Option Addr) = some ⟨b4, o1, none⟩ ∧ ∃ l : Sl, h2.at b4 (o1 + 2) = some (.slice l.a l.n l.c) ∧ T61 l h2 fun r2 h3 => ∃ l1 : Sl, r2 = .slice l1.a l1.n l1.c ∧ ∃ b5 o2, (p : Option Addr) = some ⟨b5, o2, none⟩ ∧ h3.canW b5 (o2 + 3) 1 ∧ ∃ b6 o3, (p : Option Addr) = some ⟨b6, o3, none⟩ ∧ (h3.wr b5 (o2 + 3) [.slice l1.a l1.n l1.c]).canW b6 (o3 + 4) 1 ∧ Q (.int .i64 0) ((h3.wr b5 (o2 + 3) [.slice l1.a l1.n l1.c]).wr b6 (o3 + 4) [.slice none 0 0]))))
def F57.T (p : Option Addr) : PT := F57.G F61.T F63.T F65.T p
def F57.W (T57 : Option Addr → PT) (args : List Value) : PT := match args with
  | [.pointer p] => T57 p
  | _ => fun _ _ => False
def F57.V : List Value → PT := F57.W F57.T
def F58.an : List (Nat × Ann) := []
def F58.G (T62 : ByteArray → PT) (T64 : Option Addr → ByteArray → PT) (p : Option Addr) (s : ByteArray) : PT := fun h Q =>
  ∃ b o, (p : Option Addr) = some ⟨b, o, none⟩ ∧ ∃ b1 : Bool, h.at b (o + 9) = some (.bool b1) ∧ parB b1 (Q (.tuple ⟨[.slice none 0 0, .int .i64 30]⟩) h) (T62 s h fun r h1 => ∃ b2 : Bool, r = .bool b2 ∧ parB b2 (T64 p s h1 fun r1 h2 => ∃ p1 : Option Addr, r1 = .pointer p1 ∧ okPtr h2 p1 none ∧ par ((p1 : Option Addr) = none) (Q (.tuple ⟨[.slice none 0 0, .int .i64 34]⟩) h2) (∃ b3 o1, (p1 : Option Addr) = some ⟨b3, o1, none⟩ ∧ ∃ l : Sl, h2.at b3 o1 = some (.slice l.a l.n l.c) ∧ ∃ vs, h2.row l.a (l.n * 1) vs ∧ (∀ v ∈ vs, Value.oneCell' v = true) ∧ appendD ⟨none, 0, 0⟩ 5 1 1 [.int .u8 0] l.n vs h2 fun l1 h3 => Q (.tuple ⟨[.slice l1.a l1.n l1.c, .int .i64 0]⟩) h3)) (Q (.tuple ⟨[.slice none 0 0, .int .i64 33]⟩) h1))
def F58.T (p : Option Addr) (s : ByteArray) : PT := F58.G F62.T F64.T p s
def F58.W (T58 : Option Addr → ByteArray → PT) (args : List Value) : PT := match args with
  | [.pointer p, .string s] => T58 p s
  | _ => fun _ _ => False
def F58.V : List Value → PT := F58.W F58.T
def F59.an : List (Nat × Ann) := []
def F59.T (p : Option Addr) (n : Int) (n1 : Int) (n2 : Int) : PT := fun h Q =>
  ∃ b o, (p : Option Addr) = some ⟨b, o, none⟩ ∧ ∃ b1 : Bool, h.at b (o + 9) = some (.bool b1) ∧ parB b1 (Q (.tuple ⟨[]⟩) h) (∃ b2 o1, (p : Option Addr) = some ⟨b2, o1, none⟩ ∧ h.canW b2 (o1 + 6) 1 ∧ ∃ b3 o2, (p : Option Addr) = some ⟨b3, o2, none⟩ ∧ (h.wr b2 (o1 + 6) [.int .i64 (iMax n 0)]).canW b3 (o2 + 7) 1 ∧ ∃ b4 o3, (p : Option Addr) = some ⟨b4, o3, none⟩ ∧ ((h.wr b2 (o1 + 6) [.int .i64 (iMax n 0)]).wr b3 (o2 + 7) [.int .i64 (iMax n1 0)]).canW b4 (o3 + 8) 1 ∧ Q (.tuple ⟨[]⟩) (((h.wr b2 (o1 + 6) [.int .i64 (iMax n 0)]).wr b3 (o2 + 7) [.int .i64 (iMax n1 0)]).wr b4 (o3 + 8) [.int .i64 (iMax n2 0)]))
def F59.W (T59 : Option Addr → Int → Int → Int → PT) (args : List Value) : PT := match args with
  | [.pointer p, .int .i64 n, .int .i64 n1, .int .i64 n2] => T59 p n n1 n2
  | _ => fun _ _ => False
def F59.V : List Value → PT := F59.W F59.T
def F60.an : List (Nat × Ann) := [(58, .loop [(5, .int .i64)] []), (1864, .order [0, 1, 2, 3, 4, 5, 6, 7, 8])]
def F60.T (l : Sl) (l1 : Sl) : PT := fun h Q =>
  par ((l.n : Int) = (l1.n : Int)) (∃ (I : Int → Hp → Prop) (m : Int → Hp → Nat), I 0 h ∧ (∀ n : Int, ∀ h1 : Hp, I n h1 → par (n < (l.n : Int)) (∃ b o, (l.a : Option Addr) = some ⟨b, o, none⟩ ∧ ((0 : Int) ≤ n ∧ n < (l.n : Int)) ∧ ∃ n1 : Int, h1.at b (o + n.toNat) = some (.int .i64 n1) ∧ ∃ b1 o1, (l1.a : Option Addr) = some ⟨b1, o1, none⟩ ∧ ((0 : Int) ≤ n ∧ n < (l1.n : Int)) ∧ ∃ n2 : Int, h1.at b1 (o1 + n.toNat) = some (.int .i64 n2) ∧ par (n1 = n2) (I (IntKind.wrap .i64 (n + 1)) h1 ∧ m (IntKind.wrap .i64 (n + 1)) h1 < m n h1) (Q (.bool false) h1)) (Q (.bool true) h1))) (Q (.bool false) h)
def F60.W (T60 : Sl → Sl → PT) (args : List Value) : PT := match args with
  | [.slice l_a l_n l_c, .slice l1_a l1_n l1_c] => T60 ⟨l_a, l_n, l_c⟩ ⟨l1_a, l1_n, l1_c⟩
  | _ => fun _ _ => False
def F60.V : List Value → PT := F60.W F60.T
end Go.Eng.Ytekflkpnpibneaa
end
section

/-
  A FUNCTION OF THE LIBRARY, for the engine: maps.Clone.
-/
set_option linter.unusedSimpArgs false
set_option linter.unusedVariables false
open Go.Proofs
namespace Go.Eng.Ytekflkpnpibneaa
open Go.RowKit
section
variable {P : Program} (w : World)
theorem run_equalIn_mapnil (d : Nat) (t k e : TypeId) (p : Option Nat) (h : P.underlying t = some (.map k e)) :
    (Op.equalIn (d + 1) t (.map p) (.map none)).run P w = .ok p.isNone w := by
  cases p <;> simp [Op.equalIn, run_underlying h]
theorem run_eql_mapnil (t k e : TypeId) (p : Option Nat) (h : P.underlying t = some (.map k e)) :
    (Go.binOp .eql t (.map p) (.map none)).run P w = .ok (.bool p.isNone) w := by
  simp only [Go.binOp]
  simp [show Op.equal t (.map p) (.map none) = Op.equalIn (9999 + 1) t (.map p) (.map none) from rfl, run_equalIn_mapnil w 9999 t k e p h]
theorem run_typeAssert_mapv (t xT k e : TypeId) (v : Value) (h : P.underlying t = some (.map k e)) : (Instr.typeAssert (.iface t v) xT t false).run P w = .ok v w := by
  simp [Instr.typeAssert, run_underlying h, go_sem, Result.andThen]
theorem run_maps_clonev {r : Nat} {es : Array MapEntry} {clock : Nat} (t : TypeId) (hb : w.heap[r]? = some (.map es clock)) :
    (Extern.MapsClone.clone #[.iface t (.map (some r))]).run P w = .ok (.iface t (.map (some w.heap.size))) (w.alloc (.map es clock)) := by
  have e : Extern.MapsClone.clone #[.iface t (.map (some r))] = (getObj r >>= fun o => match o with
      | .map entries clock => (newObj (.map entries clock) >>= fun n => pure (.iface t (.map (some n))))
      | _ => stuck "maps.clone: a map expected") := rfl
  rw [e]
  simp [MapKept.run_getObj_map hb, Result.andThen, go_sem]
end
set_option maxRecDepth 100000 in
set_option maxHeartbeats 4000000 in
theorem clone_some (b : Nat) (es : Array MapEntry) (clock : Nat) (w : World) (hb : w.heap[b]? = some (.map es clock)) :
    Calls Try.prog 44 #[.map (some b)] w fun e w' => e = .returned (.map (some w.heap.size)) ∧ w' = w.alloc (.map es clock) := by
  have hq := fun w => run_eql_mapnil (P := Try.prog) w 75 _ _ (some b) Try.underlying75
  go_enter Try.func44, Try.ntmps44
  go_wp2
  rw [run_callFunc_extern Try.func70 (by kernel_rfl) (by kernel_rfl) (by kernel_rfl) (e := Extern.MapsClone.clone) (by kernel_rfl), run_maps_clonev w 75 hb]
  simp only [Result.andThen]
  rw [Oper.upon_value]
  go_wp2
  rw [run_typeAssert_mapv _ 75 20 _ _ _ Try.underlying75]
  simp only [Result.andThen]
  rw [Oper.upon_value]
  go_wp2
  go_ret
  exact ⟨rfl, rfl⟩
set_option maxRecDepth 100000 in
set_option maxHeartbeats 4000000 in
theorem clone_none (w : World) : Calls Try.prog 44 #[.map none] w fun e w' => e = .returned (.map none) ∧ w' = w := by
  have hq := fun w => run_eql_mapnil (P := Try.prog) w 75 _ _ none Try.underlying75
  go_enter Try.func44, Try.ntmps44
  go_wp2
  go_ret
  exact ⟨rfl, rfl⟩
def F44.T (m : Option Nat) : PT := fun h Q => (m = none → Q (.map none) h) ∧ ∀ b, m = some b → ∃ es c, h b = some (.map es c) ∧ ∀ b1, h b1 = none → Q (.map (some b1)) (h.new b1 (.map es c))
def F44.W (T44 : Option Nat → PT) (args : List Value) : PT := match args with
  | [.map m] => T44 m
  | _ => fun _ _ => False
def F44.V : List Value → PT := F44.W F44.T
theorem F44.ok : FOk Try.prog 44 F44.V := by
  refine ⟨⟨_, Try.func44, rfl, rfl⟩, fun args => ?_⟩
  unfold F44.V F44.W
  split
  · next m =>
    rintro h Q ⟨h0, h1⟩ fr w ho
    cases m with
    | none =>
      refine (clone_none w).mono ?_
      rintro e w' ⟨rfl, rfl⟩
      exact ⟨_, h, rfl, ho, Wr.refl _, h0 rfl⟩
    | some b =>
      obtain ⟨es, c, hb, hQ⟩ := h1 b rfl
      refine (clone_some b es c w (ho.hh _ _ hb)).mono ?_
      rintro e w' ⟨rfl, rfl⟩
      have hgn : ∀ o, w.heap[w.heap.size]? ≠ some o := fun o e => by rw [Array.getElem?_eq_none (Nat.le_refl _)] at e; cases e
      have hgh : h w.heap.size = none := by
        cases e : h w.heap.size with
        | none => rfl
        | some o => exact absurd (ho.hh _ _ e) (hgn o)
      have hgf : fr w.heap.size = none := by
        cases e : fr w.heap.size with
        | none => rfl
        | some o => exact absurd (ho.ff _ _ e) (hgn o)
      have old : ∀ k o, w.heap[k]? = some o → (w.alloc (.map es c)).heap[k]? = some o := fun k o e => by
        have hk : k < w.heap.size := by
          rcases Nat.lt_or_ge k w.heap.size with h | h
          · exact h
          · rw [Array.getElem?_eq_none h] at e; cases e
        show (w.heap.push _)[k]? = _
        rw [Array.getElem?_push_lt hk, ← e, Array.getElem?_eq_getElem hk]
      refine ⟨_, _, rfl, ⟨fun k o e => ?_, fun k o e => old _ _ (ho.ff _ _ e), fun k => ?_⟩, ⟨rfl, rfl, rfl, by show w.heap.size ≤ (w.heap.push _).size; rw [Array.size_push]; omega⟩, hQ w.heap.size hgh⟩
      · by_cases hk : k = w.heap.size
        · subst hk; rw [new_at] at e; cases e
          show (w.heap.push _)[w.heap.size]? = _
          rw [Array.getElem?_push_size]
        · rw [new_ne _ _ hk] at e; exact old _ _ (ho.hh _ _ e)
      · by_cases hk : k = w.heap.size
        · subst hk; exact .inr hgf
        · rw [new_ne _ _ hk]; exact ho.dj k
  · exact fun h Q hq => hq.elim
end Go.Eng.Ytekflkpnpibneaa
end
section

/-
  THE LIBRARY's CONTRACTS, laid at this seat: maps.Keys, slices.Sorted, slices.Sort of strings (as the kit's tool prints them).
-/
namespace Go.Proofs
open Go.Shelf
def Try.keys69_ren : Go.Shelf.Ren := ⟨fun | 7 => 69 | 10 => 75 | n => n, fun | 23 => 75 | 26 => 9 | 3 => 92 | 28 => 120 | 0 => 0 | 27 => 119 | 33 => 97 | 4 => 4 | n => n, fun | n => n⟩
theorem Try.keys69 : Go.Proofs.SlLaysZ.n7 Try.prog Try.keys69_ren := {
  mixed := by kernel_rfl
  f7 := ⟨Try.f69.name, by decide, Try.func69.trans (congrArg some (by kernel_rfl))⟩
  f10 := ⟨Try.f75.name, by decide, Try.func75.trans (congrArg some (by kernel_rfl))⟩
  t0 := Try.underlying0
  a0 := Try.isAgg0
  z0 := Try.sizeOf0
  v0 := Try.zeroValue0
  t4 := Try.underlying4
  a4 := Try.isAgg4
  z4 := Try.sizeOf4
  v4 := Try.zeroValue4
  t23 := Try.underlying75
  a23 := Try.isAgg75
  z23 := Try.sizeOf75
  v23 := Try.zeroValue75
  t26 := Try.underlying9
  a26 := Try.isAgg9
  z26 := Try.sizeOf9
  v26 := Try.zeroValue9
  t27 := Try.underlying119
  a27 := Try.isAgg119
  z27 := Try.sizeOf119
  v27 := Try.zeroValue119
  t28 := Try.underlying120
  a28 := Try.isAgg120
  z28 := Try.sizeOf120
  v28 := Try.zeroValue120
  t33 := Try.underlying97
  a33 := Try.isAgg97
  z33 := Try.sizeOf97
  v33 := Try.zeroValue97 }
def Try.sorted68_ren : Go.Shelf.Ren := ⟨fun | 6 => 68 | 8 => 73 | 9 => 74 | 11 => 77 | 13 => 79 | 12 => 78 | 23 => 89 | 24 => 90 | 14 => 80 | 15 => 81 | 16 => 82 | 17 => 83 | 18 => 84 | 19 => 85 | 20 => 86 | 21 => 87 | 22 => 88 | 25 => 91 | 26 => 92 | 27 => 93 | 28 => 94 | 29 => 95 | 30 => 96 | 31 => 97 | n => n, fun | 26 => 9 | 28 => 120 | 24 => 42 | 0 => 0 | 3 => 3 | 37 => 129 | 48 => 139 | 50 => 141 | 4 => 4 | 40 => 132 | 39 => 131 | 45 => 104 | 5 => 5 | 9 => 9 | 51 => 142 | 55 => 146 | 57 => 148 | 58 => 149 | 33 => 97 | n => n, fun | n => n⟩
theorem Try.sorted68 : Go.Proofs.SlLaysZ.n6 Try.prog Try.sorted68_ren := {
  mixed := by kernel_rfl
  f6 := ⟨Try.f68.name, by decide, Try.func68.trans (congrArg some (by kernel_rfl))⟩
  f8 := ⟨Try.f73.name, by decide, Try.func73.trans (congrArg some (by kernel_rfl))⟩
  f11 := ⟨Try.f77.name, by decide, Try.func77.trans (congrArg some (by kernel_rfl))⟩
  t0 := Try.underlying0
  a0 := Try.isAgg0
  z0 := Try.sizeOf0
  v0 := Try.zeroValue0
  t24 := Try.underlying42
  a24 := Try.isAgg42
  z24 := Try.sizeOf42
  v24 := Try.zeroValue42
  t26 := Try.underlying9
  a26 := Try.isAgg9
  z26 := Try.sizeOf9
  v26 := Try.zeroValue9
  t28 := Try.underlying120
  a28 := Try.isAgg120
  z28 := Try.sizeOf120
  v28 := Try.zeroValue120
  i26 := by kernel_rfl }
def Try.sort74_ren : Go.Shelf.Ren := ⟨fun | 6 => 74 | 8 => 79 | 9 => 78 | 19 => 89 | 20 => 90 | 21 => 80 | 22 => 81 | 23 => 82 | 24 => 83 | 25 => 84 | 26 => 85 | 27 => 86 | 28 => 87 | 29 => 88 | 36 => 91 | 31 => 92 | 32 => 93 | 37 => 94 | 38 => 95 | 39 => 96 | 41 => 97 | n => n, fun | 27 => 42 | 29 => 9 | 3 => 3 | 32 => 129 | 26 => 42 | 0 => 0 | 44 => 139 | 46 => 141 | 4 => 4 | 36 => 132 | 35 => 131 | 41 => 104 | 5 => 5 | 9 => 9 | 53 => 142 | 57 => 146 | 63 => 148 | 64 => 149 | n => n, fun | n => n⟩
theorem Try.sort74 : Go.Proofs.SlLaysM.n6 Try.prog Try.sort74_ren := {
  mixed := by kernel_rfl
  f6 := ⟨Try.f74.name, by decide, Try.func74.trans (congrArg some (by kernel_rfl))⟩
  f8 := Try.func79.trans (congrArg some (by kernel_rfl))
  f9 := ⟨Try.f78.name, by decide, Try.func78.trans (congrArg some (by kernel_rfl))⟩
  f19 := Try.func89.trans (congrArg some (by kernel_rfl))
  f20 := Try.func90.trans (congrArg some (by kernel_rfl))
  f21 := ⟨Try.f80.name, by decide, Try.func80.trans (congrArg some (by kernel_rfl))⟩
  f22 := ⟨Try.f81.name, by decide, Try.func81.trans (congrArg some (by kernel_rfl))⟩
  f23 := ⟨Try.f82.name, by decide, Try.func82.trans (congrArg some (by kernel_rfl))⟩
  f24 := ⟨Try.f83.name, by decide, Try.func83.trans (congrArg some (by kernel_rfl))⟩
  f25 := ⟨Try.f84.name, by decide, Try.func84.trans (congrArg some (by kernel_rfl))⟩
  f26 := ⟨Try.f85.name, by decide, Try.func85.trans (congrArg some (by kernel_rfl))⟩
  f27 := ⟨Try.f86.name, by decide, Try.func86.trans (congrArg some (by kernel_rfl))⟩
  f28 := ⟨Try.f87.name, by decide, Try.func87.trans (congrArg some (by kernel_rfl))⟩
  f29 := ⟨Try.f88.name, by decide, Try.func88.trans (congrArg some (by kernel_rfl))⟩
  f31 := Try.func92.trans (congrArg some (by kernel_rfl))
  f32 := Try.func93.trans (congrArg some (by kernel_rfl))
  f36 := ⟨Try.f91.name, by decide, Try.func91.trans (congrArg some (by kernel_rfl))⟩
  f37 := ⟨Try.f94.name, by decide, Try.func94.trans (congrArg some (by kernel_rfl))⟩
  f38 := ⟨Try.f95.name, by decide, Try.func95.trans (congrArg some (by kernel_rfl))⟩
  f39 := ⟨Try.f96.name, by decide, Try.func96.trans (congrArg some (by kernel_rfl))⟩
  f41 := ⟨Try.f97.name, by decide, Try.func97.trans (congrArg some (by kernel_rfl))⟩
  t0 := Try.underlying0
  a0 := Try.isAgg0
  z0 := Try.sizeOf0
  v0 := Try.zeroValue0
  t3 := Try.underlying3
  a3 := Try.isAgg3
  z3 := Try.sizeOf3
  v3 := Try.zeroValue3
  t4 := Try.underlying4
  a4 := Try.isAgg4
  z4 := Try.sizeOf4
  v4 := Try.zeroValue4
  t5 := Try.underlying5
  a5 := Try.isAgg5
  z5 := Try.sizeOf5
  v5 := Try.zeroValue5
  t9 := Try.underlying9
  a9 := Try.isAgg9
  z9 := Try.sizeOf9
  v9 := Try.zeroValue9
  t26 := Try.underlying42
  a26 := Try.isAgg42
  z26 := Try.sizeOf42
  v26 := Try.zeroValue42
  t27 := Try.underlying42
  a27 := Try.isAgg42
  z27 := Try.sizeOf42
  v27 := Try.zeroValue42
  t29 := Try.underlying9
  a29 := Try.isAgg9
  z29 := Try.sizeOf9
  v29 := Try.zeroValue9
  t32 := Try.underlying129
  a32 := Try.isAgg129
  z32 := Try.sizeOf129
  v32 := Try.zeroValue129
  t35 := Try.underlying131
  a35 := Try.isAgg131
  z35 := Try.sizeOf131
  v35 := Try.zeroValue131
  t36 := Try.underlying132
  a36 := Try.isAgg132
  z36 := Try.sizeOf132
  v36 := Try.zeroValue132
  t41 := Try.underlying104
  a41 := Try.isAgg104
  z41 := Try.sizeOf104
  v41 := Try.zeroValue104
  t44 := Try.underlying139
  a44 := Try.isAgg139
  z44 := Try.sizeOf139
  v44 := Try.zeroValue139
  t46 := Try.underlying141
  a46 := Try.isAgg141
  z46 := Try.sizeOf141
  v46 := Try.zeroValue141
  t53 := Try.underlying142
  a53 := Try.isAgg142
  z53 := Try.sizeOf142
  v53 := Try.zeroValue142
  t57 := Try.underlying146
  a57 := Try.isAgg146
  z57 := Try.sizeOf146
  v57 := Try.zeroValue146
  t63 := Try.underlying148
  a63 := Try.isAgg148
  z63 := Try.sizeOf148
  v63 := Try.zeroValue148
  t64 := Try.underlying149
  a64 := Try.isAgg149
  z64 := Try.sizeOf149
  v64 := Try.zeroValue149 }
end Go.Proofs
end
section

/-
  TWO FUNCTIONS OF THE LIBRARY, for the engine: maps.Clone; slices.Sorted of what maps.Keys hands back.
-/
set_option linter.unusedSimpArgs false
set_option linter.unusedVariables false
open Go.Proofs
namespace Go.Eng.Ytekflkpnpibneaa
open Go.Shelf Go.Maps Go.Sort Go.RowKit Go.WideElems Go.MapKept
/-- slices.Sort's two contracts at this seat. -/
theorem sorts68 (m : Nat) : AnyZ.SortsIn Try.prog Try.sorted68_ren Fence.wide m :=
  ⟨fun blk off cap ss W hH hblk hsz => callsIn_wide.2 (AnyM.slices_Sort_string Try.sort74 blk off cap ss W hH hblk hsz),
   fun p cap W => callsIn_wide.2 (AnyM.slices_Sort_string_none Try.sort74 p cap W)⟩
/-- What a map's entries are: stamped, no key twice, the keys these strings. -/
structure SKeys (es : Array MapEntry) (c : Nat) (ks : List ByteArray) : Prop where
  st : Stamped es c
  eq : es.toList.map (·.key) = ks.map Value.string
  ok : ∀ k ∈ ks, k.size ≤ 9223372036854775807
def F68.T (v : Value) : PT := fun h Q => ∃ (b mb : Nat) (es : Array MapEntry) (c : Nat) (ks : List ByteArray), v = .func (.func 75) ⟨[]⟩ ⟨[.pointer (some ⟨b, 0, none⟩)]⟩ ∧ h b = some (.cells ⟨[.map (some mb)]⟩ 75 (0, 0)) ∧ h mb = some (.map es c) ∧ SKeys es c ks ∧ ks.length ≤ 1000000000 ∧
  ∀ (h' : Hp) (s : Sl) (us : List ByteArray), Keep h h' → Buf h' s 1 9 (us.map Value.string) → NewN h s → us.Perm ks → us.Pairwise (fun a b => Le a b) → Q (.slice s.a s.n s.c) h'
def F68.W (T68 : Value → PT) (args : List Value) : PT := match args with
  | [v] => T68 v
  | _ => fun _ _ => False
def F68.V : List Value → PT := F68.W F68.T
theorem F68.ok : FOk Try.prog 68 F68.V := by
  refine ⟨⟨_, Try.func68, rfl, rfl⟩, fun args => ?_⟩
  unfold F68.V F68.W
  split
  · rintro h Q ⟨b, mb, es, c, ks, rfl, hb, hm, K, hn, hQ⟩ fr w ho
    have hB := ho.hh _ _ hb
    have hM := ho.hh _ _ hm
    have hBl : b < w.heap.size := by
      rcases Nat.lt_or_ge b w.heap.size with h | h
      · exact h
      · rw [Array.getElem?_eq_none h] at hB; cases hB
    have hlen : es.size = ks.length := by have := congrArg List.length K.eq; simpa using this
    let R : Value → Option (DataW Unit × List MemPlace) := fun _ => some (.lit (.bool true), [])
    have ft : WideElems.Fit Try.prog 9 R es c := ⟨by unfold maxLen; omega, K.st, fun x hx => by
      have h1 : x.key ∈ ks.map Value.string := by rw [← K.eq]; exact List.mem_map_of_mem hx
      obtain ⟨s, hs, he⟩ := List.mem_map.1 h1
      have h2 := K.ok s hs
      refine ⟨(.string s.data.toList, .lit (.bool true)), ?_⟩
      unfold WideElems.rd
      rw [← he]
      simp [keyOf, mapKey, Try.underlying9, R, maxLen, h2]⟩
    have hown : w.ownsMap Try.prog 9 R mb es.size (.map ((es.toList.map (rg Try.prog 9 R)).foldr DataW.insert [])) := ⟨es, c, hM, ft, Nat.le_refl _, rfl⟩
    have hsz : Maps.size (.map ((es.toList.map (rg Try.prog 9 R)).foldr DataW.insert [])) = ks.length := by
      rw [Maps.size_eq, (WideShapes.sorted_perm _).length_eq, List.length_map, Array.length_toList, hlen]
    have hcell : w.cell? ⟨b, 0, none⟩ = some (.map (some mb)) := by
      unfold World.cell?
      rw [hB]; rfl
    have hseq := AnyZ.keys_gives (ρ := Try.keys69_ren) { Try.keys69 with } Fence.wide 2 trivial rfl (by omega) b mb es.size _ w hBl hcell hown
    have hsk : (strKeys (.map ((es.toList.map (rg Try.prog 9 R)).foldr DataW.insert []))).Perm (ks.map fun s => s.data.toList) := by
      have h1 : strKeys (.map ((es.toList.map (rg Try.prog 9 R)).foldr DataW.insert [])) = ((es.toList.map (rg Try.prog 9 R)).foldr DataW.insert []).map fun p => strOf p.1 := rfl
      rw [h1]
      refine ((WideShapes.sorted_perm _).map _).trans ?_
      rw [List.map_map]
      have h2 : es.toList.map ((fun p => strOf p.1) ∘ rg Try.prog 9 R) = ks.map fun s => s.data.toList := by
        have h3 : ks.map (fun s => s.data.toList) = (ks.map Value.string).map fun v => match v with | .string s => s.data.toList | _ => [] := by rw [List.map_map]; rfl
        rw [h3, ← K.eq, List.map_map]
        refine List.map_congr_left fun x hx => ?_
        have h4 : x.key ∈ ks.map Value.string := by rw [← K.eq]; exact List.mem_map_of_mem hx
        obtain ⟨s, hs, he⟩ := List.mem_map.1 h4
        have h5 := K.ok s hs
        simp only [Function.comp]
        unfold WideElems.rg WideElems.rd
        rw [← he]
        simp [keyOf, mapKey, Try.underlying9, R, maxLen, h5, strOf]
      rw [h2]
    have hcall := AnyZ.sorted_in Try.sorted68 Fence.wide 5 trivial trivial trivial trivial rfl (by omega) (sorts68 _) (enters_of Try.func74 (by kernel_rfl) rfl) 75 #[.pointer (some ⟨b, 0, none⟩)] trivial (enters_of Try.func75 (by kernel_rfl) rfl) _ _ (by rw [hsz]; unfold maxLen; omega) (by rw [hsz]; omega) w hseq
    refine (callsIn_wide.1 hcall).mono ?_
    rintro e w' ⟨v, ss, rfl, hS, hrow, hnil, hB'⟩
    have hp : ss.Perm (ks.map fun s => s.data.toList) := hS.trans hsk
    have hW : Wr w w' := ⟨hB'.os, hB'.tape, hB'.output, hB'.size⟩
    have old : ∀ k o, w.heap[k]? = some o → w'.heap[k]? = some o := fun k o e => by
      have hk : k < w.heap.size := by
        rcases Nat.lt_or_ge k w.heap.size with h | h
        · exact h
        · rw [Array.getElem?_eq_none h] at e; cases e
      rw [hB'.block k hk]; exact e
    let srt := ss.mergeSort (fun x y => decide (x ≤ y))
    let us : List ByteArray := srt.map fun l => ⟨l.toArray⟩
    have hus : srt.map encStr = us.map Value.string := by
      show _ = (srt.map _).map _
      rw [List.map_map]; rfl
    have hup : us.Perm ks := by
      have h1 : srt.Perm (ks.map fun s => s.data.toList) := (List.mergeSort_perm _ _).trans hp
      have h2 := h1.map fun l : List UInt8 => (⟨l.toArray⟩ : ByteArray)
      rw [List.map_map] at h2
      have h3 : ks.map ((fun l : List UInt8 => (⟨l.toArray⟩ : ByteArray)) ∘ fun s => s.data.toList) = ks := by
        refine (List.map_congr_left fun s _ => ?_).trans (List.map_id ks)
        show (⟨s.data.toList.toArray⟩ : ByteArray) = s
        rw [Array.toArray_toList]
      rw [h3] at h2
      exact h2
    have hsorted : us.Pairwise fun a b => Le a b := by
      refine List.pairwise_map.2 ?_
      have := List.pairwise_mergeSort (le := fun x y : List UInt8 => decide (x ≤ y)) (fun a b c h1 h2 => by simp only [decide_eq_true_eq] at *; exact List.le_trans h1 h2) (fun a b => by simp only [Bool.or_eq_true, decide_eq_true_eq]; exact List.le_total a b) ss
      refine this.imp fun {a b} hab => ?_
      rw [← le_bl]
      simpa using hab
    have hul : us.length = ss.length := by show (srt.map _).length = _; rw [List.length_map]; exact (List.mergeSort_perm _ _).length_eq
    rcases hrow with ⟨hxl, ⟨rfl, hn0⟩ | ⟨g, cap, cur, rfl, hg, hcur, hc1, hc2, hc3, hc4⟩⟩
    · have hu0 : us = [] := List.eq_nil_of_length_eq_zero (by omega)
      refine ⟨_, h, rfl, ⟨fun k o e => old _ _ (ho.hh _ _ e), fun k o e => old _ _ (ho.ff _ _ e), ho.dj⟩, hW, hQ h ⟨none, 0, 0⟩ us (Keep.refl h) ?_ (.inl rfl) hup hsorted⟩
      rw [hu0]; exact Buf.nil _ _ _
    · have hgn : ∀ o, w.heap[g]? ≠ some o := fun o e => by rw [Array.getElem?_eq_none hg] at e; cases e
      have hgh : h g = none := by
        cases e : h g with
        | none => rfl
        | some o => exact absurd (ho.hh _ _ e) (hgn o)
      have hgf : fr g = none := by
        cases e : fr g with
        | none => rfl
        | some o => exact absurd (ho.ff _ _ e) (hgn o)
      refine ⟨_, h.new g (.cells cur 9 (0, 0)), rfl, ⟨fun k o e => ?_, fun k o e => old _ _ (ho.ff _ _ e), fun k => ?_⟩, hW, hQ _ ⟨some ⟨g, 0, none⟩, ss.length, cap⟩ us (Keep.new hgh _) ?_ (.inr ⟨g, rfl, hgh⟩) hup hsorted⟩
      · by_cases hk : k = g
        · subst hk; rw [new_at] at e; cases e; exact hcur
        · rw [new_ne _ _ hk] at e; exact old _ _ (ho.hh _ _ e)
      · by_cases hk : k = g
        · subst hk; exact .inr hgf
        · rw [new_ne _ _ hk]; exact ho.dj k
      · refine ⟨by rw [List.length_map, hul, Nat.mul_one], hc1, .inr ⟨g, cur, (0, 0), rfl, new_at _ _ _, by dsimp only; omega, fun j _ => by simp, ?_⟩⟩
        rw [List.length_map, hul, ← hus]
        rw [Nat.mul_one] at hc4
        exact hc4
  · exact fun h Q hq => hq.elim
end Go.Eng.Ytekflkpnpibneaa
end
section

set_option maxRecDepth 100000
set_option linter.unusedVariables false
open Go.Proofs
namespace Go.Eng.Ytekflkpnpibneaa
def F43.an : List (Nat × Ann) := [(58, .loop [(3, .sl), (10, .int .i64)] []), (3737, .order [0, 1, 2, 3, 4, 5, 6, 7, 9, 10, 11, 12, 13, 14, 8, 15, 16, 17, 18])]
def F43.G (T48 : Sl → PT) (T68 : Value → PT) (T69 : Option Nat → PT) (m : Option Nat) : PT := fun h Q =>
  T69 m h fun r h1 => ∃ v : Value, v.oneCell' = true ∧ r = v ∧ T68 v h1 fun r1 h2 => ∃ l : Sl, r1 = .slice l.a l.n l.c ∧ ∃ (I : Sl → Int → Hp → Prop) (m1 : Sl → Int → Hp → Nat), I ⟨none, 0, 0⟩ 0 h2 ∧ (∀ l1 : Sl, ∀ n : Int, ∀ h3 : Hp, I l1 n h3 → par (n < (l.n : Int)) (∃ b o, (l.a : Option Addr) = some ⟨b, o, none⟩ ∧ ((0 : Int) ≤ n ∧ n < (l.n : Int)) ∧ ∃ s : ByteArray, h3.at b (o + n.toNat) = some (.string s) ∧ ∃ es c, h3.mp m es c ∧ keysFit (.string s) es ∧ ∃ p : Option Addr, (mget es (.string s) (.pointer none)) = .pointer p ∧ ∃ b1 o1, (p : Option Addr) = some ⟨b1, o1, none⟩ ∧ ∃ l2 : Sl, h3.at b1 o1 = some (.slice l2.a l2.n l2.c) ∧ ∃ es1 c1, h3.mp m es1 c1 ∧ keysFit (.string s) es1 ∧ ∃ p1 : Option Addr, (mget es1 (.string s) (.pointer none)) = .pointer p1 ∧ ∃ b2 o2, (p1 : Option Addr) = some ⟨b2, o2, none⟩ ∧ ∃ n1 : Int, h3.at b2 (o2 + 1) = some (.int .i64 n1) ∧ T48 l2 h3 fun r2 h4 => ∃ l3 : Sl, r2 = .slice l3.a l3.n l3.c ∧ (∃ es2 c2, h4.mp m es2 c2 ∧ keysFit (.string s) es2 ∧ mget es2 (.string s) (.pointer none) = .pointer p1) ∧ h4.at b2 (o2 + 1) = some (.int .i64 n1) ∧ appendD l1 60 3 48 [.string (ByteArray.mk #[]), .slice none 0 0, .int .i64 0] 1 [.string s, .slice l3.a l3.n l3.c, .int .i64 n1] h4 fun l4 h5 => I l4 (IntKind.wrap .i64 (n + 1)) h5 ∧ m1 l4 (IntKind.wrap .i64 (n + 1)) h5 < m1 l1 n h3) (Q (.slice l1.a l1.n l1.c) h3))
def F43.T (m : Option Nat) : PT := F43.G F48.T F68.T F69.T m
theorem F43.gen (V : Value → List Value → PT) (T48 : Sl → PT) (T68 : Value → PT) (T69 : Option Nat → PT) (m : Option Nat) : denF Try.prog [30] [(48, F48.W T48), (68, F68.W T68), (69, F69.W T69)] V F43.an Try.f43 [.v (.map m)] = F43.G T48 T68 T69 m := by kernel_rfl
theorem F43.den (V : Value → List Value → PT) (m : Option Nat) : denF Try.prog [30] [(48, F48.V), (68, F68.V), (69, F69.V)] V F43.an Try.f43 [.v (.map m)] = F43.T m := F43.gen V F48.T F68.T F69.T m
def F43.W (T43 : Option Nat → PT) (args : List Value) : PT := match args with
  | [.map m] => T43 m
  | _ => fun _ _ => False
def F43.V : List Value → PT := F43.W F43.T
theorem F43.ok : FOk Try.prog 43 F43.V := by
  refine ⟨⟨_, Try.func43, rfl, rfl⟩, fun args => ?_⟩
  have hG : GOk Try.prog [(48, F48.V), (68, F68.V), (69, F69.V)] := GOk.cons F48.ok (GOk.cons F68.ok (GOk.cons F69.ok (GOk.nil)))
  have hV : VOk Try.prog noV := noV_ok
  unfold F43.V F43.W
  split
  · exact denF_okV hG hV Try.func43 (fun h Q hq => (F43.den _ _) ▸ hq)
  · exact fun h Q hq => hq.elim
def F14.an : List (Nat × Ann) := []
def F14.G (T43 : Option Nat → PT) (p : Option Addr) : PT := fun h Q =>
  ∃ b o, (p : Option Addr) = some ⟨b, o, none⟩ ∧ ∃ m : Option Nat, h.at b (o + 1) = some (.map m) ∧ T43 m h fun r h1 => ∃ l : Sl, r = .slice l.a l.n l.c ∧ Q (.slice l.a l.n l.c) h1
def F14.T (p : Option Addr) : PT := F14.G F43.T p
theorem F14.gen (V : Value → List Value → PT) (T43 : Option Nat → PT) (p : Option Addr) : denF Try.prog [] [(43, F43.W T43)] V F14.an Try.f14 [.v (.pointer p)] = F14.G T43 p := by kernel_rfl
theorem F14.den (V : Value → List Value → PT) (p : Option Addr) : denF Try.prog [] [(43, F43.V)] V F14.an Try.f14 [.v (.pointer p)] = F14.T p := F14.gen V F43.T p
def F14.W (T14 : Option Addr → PT) (args : List Value) : PT := match args with
  | [.pointer p] => T14 p
  | _ => fun _ _ => False
def F14.V : List Value → PT := F14.W F14.T
theorem F14.ok : FOk Try.prog 14 F14.V := by
  refine ⟨⟨_, Try.func14, rfl, rfl⟩, fun args => ?_⟩
  have hG : GOk Try.prog [(43, F43.V)] := GOk.cons F43.ok (GOk.nil)
  have hV : VOk Try.prog noV := noV_ok
  unfold F14.V F14.W
  split
  · exact denF_okV hG hV Try.func14 (fun h Q hq => (F14.den _ _) ▸ hq)
  · exact fun h Q hq => hq.elim
def F16.an : List (Nat × Ann) := [(28, .order [0, 1, 2, 3, 4, 5, 6, 7, 8, 9, 10, 11, 12, 13, 14]), (58, .loop [(32, .int .i64)] []), (250, .loop [(44, .int .i64)] []), (256410, .order [0, 1, 2, 3, 4, 5, 6, 7, 8, 9, 10, 11, 12, 13, 14, 15, 16, 17, 18, 19])]
def F16.G (T43 : Option Nat → PT) (T44 : Option Nat → PT) (T45 : Int → ByteArray → ByteArray → Option Addr → Option Nat → PT) (p : Option Addr) (n : Int) (l : Sl) : PT := fun h Q =>
  ∃ b o, (p : Option Addr) = some ⟨b, o, none⟩ ∧ ∃ m : Option Nat, h.at b (o + 2) = some (.map m) ∧ T44 m h fun r h1 => ∃ m1 : Option Nat, r = .map m1 ∧ ∃ b1 o1, (p : Option Addr) = some ⟨b1, o1, none⟩ ∧ ∃ l1 : Sl, h1.at b1 (o1 + 3) = some (.slice l1.a l1.n l1.c) ∧ ∃ b2 o2, (p : Option Addr) = some ⟨b2, o2, none⟩ ∧ ∃ l2 : Sl, h1.at b2 (o2 + 3) = some (.slice l2.a l2.n l2.c) ∧ Sl.okCut l1 0 (iMin (iMax n 0) (l2.n : Int)) (l1.c : Int) ∧ ∃ (I : Int → Hp → Prop) (m2 : Int → Hp → Nat), I 0 h1 ∧ (∀ n1 : Int, ∀ h2 : Hp, I n1 h2 → par (n1 < ((Sl.cut l1 4 0 (iMin (iMax n 0) (l2.n : Int)) (l1.c : Int)).n : Int)) (∃ b3 o3, ((Sl.cut l1 4 0 (iMin (iMax n 0) (l2.n : Int)) (l1.c : Int)).a : Option Addr) = some ⟨b3, o3, none⟩ ∧ ((0 : Int) ≤ n1 ∧ n1 < ((Sl.cut l1 4 0 (iMin (iMax n 0) (l2.n : Int)) (l1.c : Int)).n : Int)) ∧ ∃ n2 : Int, h2.at b3 (o3 + n1.toNat * 4) = some (.int .i64 n2) ∧ ∃ s : ByteArray, h2.at b3 ((o3 + n1.toNat * 4) + 1) = some (.string s) ∧ ∃ s1 : ByteArray, h2.at b3 ((o3 + n1.toNat * 4) + 2) = some (.string s1) ∧ ∃ p1 : Option Addr, h2.at b3 ((o3 + n1.toNat * 4) + 3) = some (.pointer p1) ∧ T45 n2 s s1 p1 m1 h2 fun r1 h3 => I (IntKind.wrap .i64 (n1 + 1)) h3 ∧ m2 (IntKind.wrap .i64 (n1 + 1)) h3 < m2 n1 h2) (T43 m1 h2 fun r2 h4 => ∃ l3 : Sl, r2 = .slice l3.a l3.n l3.c ∧ ∃ (I1 : Int → Hp → Prop) (m3 : Int → Hp → Nat), I1 0 h4 ∧ (∀ n3 : Int, ∀ h5 : Hp, I1 n3 h5 → par (n3 < (l3.n : Int)) (∃ b4 o4, (l3.a : Option Addr) = some ⟨b4, o4, none⟩ ∧ ((0 : Int) ≤ n3 ∧ n3 < (l3.n : Int)) ∧ ∃ n4 : Int, h5.at b4 ((o4 + n3.toNat * 3) + 2) = some (.int .i64 n4) ∧ par ((0 : Int) < (l.n : Int)) ((l.n : Int) ≠ 0 ∧ ∃ b5 o5, (l.a : Option Addr) = some ⟨b5, o5, none⟩ ∧ ((0 : Int) ≤ (Int.tmod n3 (l.n : Int)) ∧ (Int.tmod n3 (l.n : Int)) < (l.n : Int)) ∧ ∃ n5 : Int, h5.at b5 (o5 + ((Int.tmod n3 (l.n : Int))).toNat) = some (.int .i64 n5) ∧ ∃ b6 o6, (l3.a : Option Addr) = some ⟨b6, o6, none⟩ ∧ ((0 : Int) ≤ n3 ∧ n3 < (l3.n : Int)) ∧ ∃ l4 : Sl, h5.at b6 ((o6 + n3.toNat * 3) + 1) = some (.slice l4.a l4.n l4.c) ∧ ∃ b7 o7, (l3.a : Option Addr) = some ⟨b7, o7, none⟩ ∧ ((0 : Int) ≤ n3 ∧ n3 < (l3.n : Int)) ∧ ∃ l5 : Sl, h5.at b7 ((o7 + n3.toNat * 3) + 1) = some (.slice l5.a l5.n l5.c) ∧ Sl.okCut l5 0 (IntKind.wrap .i64 (n4 + (iMin (iMax n5 0) (IntKind.wrap .i64 ((l4.n : Int) - n4))))) (IntKind.wrap .i64 (n4 + (iMin (iMax n5 0) (IntKind.wrap .i64 ((l4.n : Int) - n4))))) ∧ ∃ b8 o8, (l3.a : Option Addr) = some ⟨b8, o8, none⟩ ∧ ((0 : Int) ≤ n3 ∧ n3 < (l3.n : Int)) ∧ h5.canW b8 ((o8 + n3.toNat * 3) + 1) 1 ∧ ∃ b9 o9, (l3.a : Option Addr) = some ⟨b9, o9, none⟩ ∧ ((0 : Int) ≤ n3 ∧ n3 < (l3.n : Int)) ∧ (h5.wr b8 ((o8 + n3.toNat * 3) + 1) [.slice (Sl.cut l5 1 0 (IntKind.wrap .i64 (n4 + (iMin (iMax n5 0) (IntKind.wrap .i64 ((l4.n : Int) - n4))))) (IntKind.wrap .i64 (n4 + (iMin (iMax n5 0) (IntKind.wrap .i64 ((l4.n : Int) - n4)))))).a (Sl.cut l5 1 0 (IntKind.wrap .i64 (n4 + (iMin (iMax n5 0) (IntKind.wrap .i64 ((l4.n : Int) - n4))))) (IntKind.wrap .i64 (n4 + (iMin (iMax n5 0) (IntKind.wrap .i64 ((l4.n : Int) - n4)))))).n (Sl.cut l5 1 0 (IntKind.wrap .i64 (n4 + (iMin (iMax n5 0) (IntKind.wrap .i64 ((l4.n : Int) - n4))))) (IntKind.wrap .i64 (n4 + (iMin (iMax n5 0) (IntKind.wrap .i64 ((l4.n : Int) - n4)))))).c]).canW b9 ((o9 + n3.toNat * 3) + 2) 1 ∧ I1 (IntKind.wrap .i64 (n3 + 1)) ((h5.wr b8 ((o8 + n3.toNat * 3) + 1) [.slice (Sl.cut l5 1 0 (IntKind.wrap .i64 (n4 + (iMin (iMax n5 0) (IntKind.wrap .i64 ((l4.n : Int) - n4))))) (IntKind.wrap .i64 (n4 + (iMin (iMax n5 0) (IntKind.wrap .i64 ((l4.n : Int) - n4)))))).a (Sl.cut l5 1 0 (IntKind.wrap .i64 (n4 + (iMin (iMax n5 0) (IntKind.wrap .i64 ((l4.n : Int) - n4))))) (IntKind.wrap .i64 (n4 + (iMin (iMax n5 0) (IntKind.wrap .i64 ((l4.n : Int) - n4)))))).n (Sl.cut l5 1 0 (IntKind.wrap .i64 (n4 + (iMin (iMax n5 0) (IntKind.wrap .i64 ((l4.n : Int) - n4))))) (IntKind.wrap .i64 (n4 + (iMin (iMax n5 0) (IntKind.wrap .i64 ((l4.n : Int) - n4)))))).c]).wr b9 ((o9 + n3.toNat * 3) + 2) [.int .i64 (IntKind.wrap .i64 (n4 + (iMin (iMax n5 0) (IntKind.wrap .i64 ((l4.n : Int) - n4)))))]) ∧ m3 (IntKind.wrap .i64 (n3 + 1)) ((h5.wr b8 ((o8 + n3.toNat * 3) + 1) [.slice (Sl.cut l5 1 0 (IntKind.wrap .i64 (n4 + (iMin (iMax n5 0) (IntKind.wrap .i64 ((l4.n : Int) - n4))))) (IntKind.wrap .i64 (n4 + (iMin (iMax n5 0) (IntKind.wrap .i64 ((l4.n : Int) - n4)))))).a (Sl.cut l5 1 0 (IntKind.wrap .i64 (n4 + (iMin (iMax n5 0) (IntKind.wrap .i64 ((l4.n : Int) - n4))))) (IntKind.wrap .i64 (n4 + (iMin (iMax n5 0) (IntKind.wrap .i64 ((l4.n : Int) - n4)))))).n (Sl.cut l5 1 0 (IntKind.wrap .i64 (n4 + (iMin (iMax n5 0) (IntKind.wrap .i64 ((l4.n : Int) - n4))))) (IntKind.wrap .i64 (n4 + (iMin (iMax n5 0) (IntKind.wrap .i64 ((l4.n : Int) - n4)))))).c]).wr b9 ((o9 + n3.toNat * 3) + 2) [.int .i64 (IntKind.wrap .i64 (n4 + (iMin (iMax n5 0) (IntKind.wrap .i64 ((l4.n : Int) - n4)))))]) < m3 n3 h5) (∃ b10 o10, (l3.a : Option Addr) = some ⟨b10, o10, none⟩ ∧ ((0 : Int) ≤ n3 ∧ n3 < (l3.n : Int)) ∧ ∃ l6 : Sl, h5.at b10 ((o10 + n3.toNat * 3) + 1) = some (.slice l6.a l6.n l6.c) ∧ Sl.okCut l6 0 n4 n4 ∧ ∃ b11 o11, (l3.a : Option Addr) = some ⟨b11, o11, none⟩ ∧ ((0 : Int) ≤ n3 ∧ n3 < (l3.n : Int)) ∧ h5.canW b11 ((o11 + n3.toNat * 3) + 1) 1 ∧ ∃ b12 o12, (l3.a : Option Addr) = some ⟨b12, o12, none⟩ ∧ ((0 : Int) ≤ n3 ∧ n3 < (l3.n : Int)) ∧ (h5.wr b11 ((o11 + n3.toNat * 3) + 1) [.slice (Sl.cut l6 1 0 n4 n4).a (Sl.cut l6 1 0 n4 n4).n (Sl.cut l6 1 0 n4 n4).c]).canW b12 ((o12 + n3.toNat * 3) + 2) 1 ∧ I1 (IntKind.wrap .i64 (n3 + 1)) ((h5.wr b11 ((o11 + n3.toNat * 3) + 1) [.slice (Sl.cut l6 1 0 n4 n4).a (Sl.cut l6 1 0 n4 n4).n (Sl.cut l6 1 0 n4 n4).c]).wr b12 ((o12 + n3.toNat * 3) + 2) [.int .i64 n4]) ∧ m3 (IntKind.wrap .i64 (n3 + 1)) ((h5.wr b11 ((o11 + n3.toNat * 3) + 1) [.slice (Sl.cut l6 1 0 n4 n4).a (Sl.cut l6 1 0 n4 n4).n (Sl.cut l6 1 0 n4 n4).c]).wr b12 ((o12 + n3.toNat * 3) + 2) [.int .i64 n4]) < m3 n3 h5)) (Q (.slice l3.a l3.n l3.c) h5))))
def F16.T (p : Option Addr) (n : Int) (l : Sl) : PT := F16.G F43.T F44.T F45.T p n l
theorem F16.gen (V : Value → List Value → PT) (T43 : Option Nat → PT) (T44 : Option Nat → PT) (T45 : Int → ByteArray → ByteArray → Option Addr → Option Nat → PT) (p : Option Addr) (n : Int) (l : Sl) : denF Try.prog [9] [(43, F43.W T43), (44, F44.W T44), (45, F45.W T45)] V F16.an Try.f16 [.v (.pointer p), .v (.int .i64 n), .v (.slice l.a l.n l.c)] = F16.G T43 T44 T45 p n l := by kernel_rfl
theorem F16.den (V : Value → List Value → PT) (p : Option Addr) (n : Int) (l : Sl) : denF Try.prog [9] [(43, F43.V), (44, F44.V), (45, F45.V)] V F16.an Try.f16 [.v (.pointer p), .v (.int .i64 n), .v (.slice l.a l.n l.c)] = F16.T p n l := F16.gen V F43.T F44.T F45.T p n l
def F16.W (T16 : Option Addr → Int → Sl → PT) (args : List Value) : PT := match args with
  | [.pointer p, .int .i64 n, .slice l_a l_n l_c] => T16 p n ⟨l_a, l_n, l_c⟩
  | _ => fun _ _ => False
def F16.V : List Value → PT := F16.W F16.T
theorem F16.ok : FOk Try.prog 16 F16.V := by
  refine ⟨⟨_, Try.func16, rfl, rfl⟩, fun args => ?_⟩
  have hG : GOk Try.prog [(43, F43.V), (44, F44.V), (45, F45.V)] := GOk.cons F43.ok (GOk.cons F44.ok (GOk.cons F45.ok (GOk.nil)))
  have hV : VOk Try.prog noV := noV_ok
  unfold F16.V F16.W
  split
  · exact denF_okV hG hV Try.func16 (fun h Q hq => (F16.den _ _ _ _) ▸ hq)
  · exact fun h Q hq => hq.elim
def F19.an : List (Nat × Ann) := [(250, .loop [(7, .int .i64), (23, .int .i64)] []), (64100, .order [0, 1, 2, 3, 4, 5, 6, 7, 8, 9, 10, 11, 12, 13, 14, 15, 16, 17, 18, 19, 20, 21, 22, 23, 24, 25, 26, 27, 28, 29, 30, 31, 32]), (128207, .order [0, 1, 2, 3, 4, 5, 6, 7, 9, 10, 8, 11, 12, 13])]
def F19.G (T44 : Option Nat → PT) (T47 : ByteArray → PT) (T48 : Sl → PT) (n : Int) (l : Sl) : PT := fun h Q =>
  ∀ b, h b = none → ∀ b1, (h.new b (.map #[] 0)) b1 = none → par (n < 0) (Q (.tuple ⟨[.pointer none, .int .i64 36]⟩) ((h.new b (.map #[] 0)).new b1 (.cells ⟨[.int .i64 n, .map (some b), .map none, .slice none 0 0, .int .i64 0, .int .i64 0, .int .i64 0, .int .i64 0, .bool false]⟩ 80 (0, 0)))) (par ((8388608 : Int) < (l.n : Int)) (Q (.tuple ⟨[.pointer none, .int .i64 36]⟩) ((h.new b (.map #[] 0)).new b1 (.cells ⟨[.int .i64 n, .map (some b), .map none, .slice none 0 0, .int .i64 0, .int .i64 0, .int .i64 0, .int .i64 0, .bool false]⟩ 80 (0, 0)))) (∃ (I : Int → Int → Hp → Prop) (m : Int → Int → Hp → Nat), I 0 0 ((h.new b (.map #[] 0)).new b1 (.cells ⟨[.int .i64 n, .map (some b), .map none, .slice none 0 0, .int .i64 0, .int .i64 0, .int .i64 0, .int .i64 0, .bool false]⟩ 80 (0, 0))) ∧ (∀ n1 : Int, ∀ n2 : Int, ∀ h1 : Hp, I n1 n2 h1 → par (n2 < (l.n : Int)) (∃ b2 o, (l.a : Option Addr) = some ⟨b2, o, none⟩ ∧ ((0 : Int) ≤ n2 ∧ n2 < (l.n : Int)) ∧ ∃ s : ByteArray, h1.at b2 (o + n2.toNat * 3) = some (.string s) ∧ ∃ l1 : Sl, h1.at b2 ((o + n2.toNat * 3) + 1) = some (.slice l1.a l1.n l1.c) ∧ ∃ n3 : Int, h1.at b2 ((o + n2.toNat * 3) + 2) = some (.int .i64 n3) ∧ T47 s h1 fun r h2 => ∃ b3 : Bool, r = .bool b3 ∧ parB b3 (∃ m1 : Option Nat, h2.at b1 1 = some (.map m1) ∧ ∃ es c, h2.mp m1 es c ∧ keysFit (.string s) es ∧ ∃ p : Option Addr, (mget es (.string s) (.pointer none)) = .pointer p ∧ okPtr h2 p none ∧ par ((p : Option Addr) = none) (par ((2147483648 : Int) < (l1.n : Int)) (Q (.tuple ⟨[.pointer none, .int .i64 36]⟩) h2) (par (n3 < 0) (Q (.tuple ⟨[.pointer none, .int .i64 36]⟩) h2) (par ((l1.n : Int) < n3) (Q (.tuple ⟨[.pointer none, .int .i64 36]⟩) h2) (par (n = 0) (∃ m2 : Option Nat, h2.at b1 1 = some (.map m2) ∧ T48 l1 h2 fun r1 h3 => ∃ l2 : Sl, r1 = .slice l2.a l2.n l2.c ∧ h3.at b1 1 = some (.map m2) ∧ ∀ b4, h3 b4 = none → (h3.new b4 (.cells ⟨[.slice l2.a l2.n l2.c, .int .i64 n3]⟩ 100 (0, 0))).at b1 1 = some (.map m2) ∧ ∃ b5 es1 c1, (m2 : Option Nat) = some b5 ∧ (h3.new b4 (.cells ⟨[.slice l2.a l2.n l2.c, .int .i64 n3]⟩ 100 (0, 0))) b5 = some (.map es1 c1) ∧ keysFit (.string s) es1 ∧ I (IntKind.wrap .i64 (n1 + (l1.n : Int))) (IntKind.wrap .i64 (n2 + 1)) ((h3.new b4 (.cells ⟨[.slice l2.a l2.n l2.c, .int .i64 n3]⟩ 100 (0, 0))).new b5 (mPut es1 c1 (.string s) (.pointer (some ⟨b4, 0, none⟩)))) ∧ m (IntKind.wrap .i64 (n1 + (l1.n : Int))) (IntKind.wrap .i64 (n2 + 1)) ((h3.new b4 (.cells ⟨[.slice l2.a l2.n l2.c, .int .i64 n3]⟩ 100 (0, 0))).new b5 (mPut es1 c1 (.string s) (.pointer (some ⟨b4, 0, none⟩)))) < m n1 n2 h1) (par (n < (IntKind.wrap .i64 (n1 + (l1.n : Int)))) (Q (.tuple ⟨[.pointer none, .int .i64 36]⟩) h2) (∃ m3 : Option Nat, h2.at b1 1 = some (.map m3) ∧ T48 l1 h2 fun r2 h4 => ∃ l3 : Sl, r2 = .slice l3.a l3.n l3.c ∧ h4.at b1 1 = some (.map m3) ∧ ∀ b6, h4 b6 = none → (h4.new b6 (.cells ⟨[.slice l3.a l3.n l3.c, .int .i64 n3]⟩ 100 (0, 0))).at b1 1 = some (.map m3) ∧ ∃ b7 es2 c2, (m3 : Option Nat) = some b7 ∧ (h4.new b6 (.cells ⟨[.slice l3.a l3.n l3.c, .int .i64 n3]⟩ 100 (0, 0))) b7 = some (.map es2 c2) ∧ keysFit (.string s) es2 ∧ I (IntKind.wrap .i64 (n1 + (l1.n : Int))) (IntKind.wrap .i64 (n2 + 1)) ((h4.new b6 (.cells ⟨[.slice l3.a l3.n l3.c, .int .i64 n3]⟩ 100 (0, 0))).new b7 (mPut es2 c2 (.string s) (.pointer (some ⟨b6, 0, none⟩)))) ∧ m (IntKind.wrap .i64 (n1 + (l1.n : Int))) (IntKind.wrap .i64 (n2 + 1)) ((h4.new b6 (.cells ⟨[.slice l3.a l3.n l3.c, .int .i64 n3]⟩ 100 (0, 0))).new b7 (mPut es2 c2 (.string s) (.pointer (some ⟨b6, 0, none⟩)))) < m n1 n2 h1)))))) (Q (.tuple ⟨[.pointer none, .int .i64 36]⟩) h2)) (Q (.tuple ⟨[.pointer none, .int .i64 36]⟩) h2)) (∃ m4 : Option Nat, h1.at b1 1 = some (.map m4) ∧ T44 m4 h1 fun r3 h5 => ∃ m5 : Option Nat, r3 = .map m5 ∧ h5.canW b1 2 1 ∧ Q (.tuple ⟨[.pointer (some ⟨b1, 0, none⟩), .int .i64 0]⟩) (h5.wr b1 2 [.map m5])))))
def F19.T (n : Int) (l : Sl) : PT := F19.G F44.T F47.T F48.T n l
theorem F19.gen (V : Value → List Value → PT) (T44 : Option Nat → PT) (T47 : ByteArray → PT) (T48 : Sl → PT) (n : Int) (l : Sl) : denF Try.prog [9] [(44, F44.W T44), (47, F47.W T47), (48, F48.W T48)] V F19.an Try.f19 [.v (.int .i64 n), .v (.slice l.a l.n l.c)] = F19.G T44 T47 T48 n l := by kernel_rfl
theorem F19.den (V : Value → List Value → PT) (n : Int) (l : Sl) : denF Try.prog [9] [(44, F44.V), (47, F47.V), (48, F48.V)] V F19.an Try.f19 [.v (.int .i64 n), .v (.slice l.a l.n l.c)] = F19.T n l := F19.gen V F44.T F47.T F48.T n l
def F19.W (T19 : Int → Sl → PT) (args : List Value) : PT := match args with
  | [.int .i64 n, .slice l_a l_n l_c] => T19 n ⟨l_a, l_n, l_c⟩
  | _ => fun _ _ => False
def F19.V : List Value → PT := F19.W F19.T
theorem F19.ok : FOk Try.prog 19 F19.V := by
  refine ⟨⟨_, Try.func19, rfl, rfl⟩, fun args => ?_⟩
  have hG : GOk Try.prog [(44, F44.V), (47, F47.V), (48, F48.V)] := GOk.cons F44.ok (GOk.cons F47.ok (GOk.cons F48.ok (GOk.nil)))
  have hV : VOk Try.prog noV := noV_ok
  unfold F19.V F19.W
  split
  · exact denF_okV hG hV Try.func19 (fun h Q hq => (F19.den _ _ _) ▸ hq)
  · exact fun h Q hq => hq.elim
def F27.an : List (Nat × Ann) := []
def F27.G (T44 : Option Nat → PT) (T49 : Option Addr → Sl → PT) (T52 : Option Addr → Int → PT) (p : Option Addr) : PT := fun h Q =>
  T49 p ⟨none, 0, 0⟩ h fun r h1 => ∃ n : Int, r = .int .i64 n ∧ par (n = 0) (T52 p 1 h1 fun r1 h2 => ∃ n1 : Int, ∃ b : Bool, parB b (r1 = .tuple ⟨[.int .i64 n1, .bool true]⟩ ∧ Q (.int .i64 30) h2) (r1 = .tuple ⟨[.int .i64 n1, .bool false]⟩ ∧ ∃ b1 o, (p : Option Addr) = some ⟨b1, o, none⟩ ∧ ∃ m : Option Nat, h2.at b1 (o + 1) = some (.map m) ∧ T44 m h2 fun r2 h3 => ∃ m1 : Option Nat, r2 = .map m1 ∧ ∃ b2 o1, (p : Option Addr) = some ⟨b2, o1, none⟩ ∧ h3.canW b2 (o1 + 2) 1 ∧ ∃ b3 o2, (p : Option Addr) = some ⟨b3, o2, none⟩ ∧ (h3.wr b2 (o1 + 2) [.map m1]).canW b3 (o2 + 3) 1 ∧ Q (.int .i64 0) ((h3.wr b2 (o1 + 2) [.map m1]).wr b3 (o2 + 3) [.slice none 0 0]))) (Q (.int .i64 n) h1)
def F27.T (p : Option Addr) : PT := F27.G F44.T F49.T F52.T p
theorem F27.gen (V : Value → List Value → PT) (T44 : Option Nat → PT) (T49 : Option Addr → Sl → PT) (T52 : Option Addr → Int → PT) (p : Option Addr) : denF Try.prog [] [(44, F44.W T44), (49, F49.W T49), (52, F52.W T52)] V F27.an Try.f27 [.v (.pointer p)] = F27.G T44 T49 T52 p := by kernel_rfl
theorem F27.den (V : Value → List Value → PT) (p : Option Addr) : denF Try.prog [] [(44, F44.V), (49, F49.V), (52, F52.V)] V F27.an Try.f27 [.v (.pointer p)] = F27.T p := F27.gen V F44.T F49.T F52.T p
def F27.W (T27 : Option Addr → PT) (args : List Value) : PT := match args with
  | [.pointer p] => T27 p
  | _ => fun _ _ => False
def F27.V : List Value → PT := F27.W F27.T
theorem F27.ok : FOk Try.prog 27 F27.V := by
  refine ⟨⟨_, Try.func27, rfl, rfl⟩, fun args => ?_⟩
  have hG : GOk Try.prog [(44, F44.V), (49, F49.V), (52, F52.V)] := GOk.cons F44.ok (GOk.cons F49.ok (GOk.cons F52.ok (GOk.nil)))
  have hV : VOk Try.prog noV := noV_ok
  unfold F27.V F27.W
  split
  · exact denF_okV hG hV Try.func27 (fun h Q hq => (F27.den _ _) ▸ hq)
  · exact fun h Q hq => hq.elim
def F32.an : List (Nat × Ann) := [(58, .loop [(19, .int .i64)] []), (3737, .order [0, 1, 2, 3, 4, 5, 6, 7, 8, 9, 10, 11, 12])]
def F32.G (T16 : Option Addr → Int → Sl → PT) (T44 : Option Nat → PT) (p : Option Addr) (n : Int) (l : Sl) : PT := fun h Q =>
  T16 p n l h fun r h1 => ∃ l1 : Sl, r = .slice l1.a l1.n l1.c ∧ ∀ b, h1 b = none → ∃ b1 o, (p : Option Addr) = some ⟨b1, o, none⟩ ∧ (h1.new b (.map #[] 0)).canW b1 (o + 1) 1 ∧ ∃ (I : Int → Hp → Prop) (m : Int → Hp → Nat), I 0 ((h1.new b (.map #[] 0)).wr b1 (o + 1) [.map (some b)]) ∧ (∀ n1 : Int, ∀ h2 : Hp, I n1 h2 → par (n1 < (l1.n : Int)) (∃ b2 o1, (l1.a : Option Addr) = some ⟨b2, o1, none⟩ ∧ ((0 : Int) ≤ n1 ∧ n1 < (l1.n : Int)) ∧ ∃ s : ByteArray, h2.at b2 (o1 + n1.toNat * 3) = some (.string s) ∧ ∃ l2 : Sl, h2.at b2 ((o1 + n1.toNat * 3) + 1) = some (.slice l2.a l2.n l2.c) ∧ ∃ n2 : Int, h2.at b2 ((o1 + n1.toNat * 3) + 2) = some (.int .i64 n2) ∧ ∃ b3 o2, (p : Option Addr) = some ⟨b3, o2, none⟩ ∧ ∃ m1 : Option Nat, h2.at b3 (o2 + 1) = some (.map m1) ∧ ∀ b4, h2 b4 = none → (h2.new b4 (.cells ⟨[.slice l2.a l2.n l2.c, .int .i64 n2]⟩ 100 (0, 0))).at b3 (o2 + 1) = some (.map m1) ∧ ∃ b5 es c, (m1 : Option Nat) = some b5 ∧ (h2.new b4 (.cells ⟨[.slice l2.a l2.n l2.c, .int .i64 n2]⟩ 100 (0, 0))) b5 = some (.map es c) ∧ keysFit (.string s) es ∧ I (IntKind.wrap .i64 (n1 + 1)) ((h2.new b4 (.cells ⟨[.slice l2.a l2.n l2.c, .int .i64 n2]⟩ 100 (0, 0))).new b5 (mPut es c (.string s) (.pointer (some ⟨b4, 0, none⟩)))) ∧ m (IntKind.wrap .i64 (n1 + 1)) ((h2.new b4 (.cells ⟨[.slice l2.a l2.n l2.c, .int .i64 n2]⟩ 100 (0, 0))).new b5 (mPut es c (.string s) (.pointer (some ⟨b4, 0, none⟩)))) < m n1 h2) (∃ b6 o3, (p : Option Addr) = some ⟨b6, o3, none⟩ ∧ ∃ m2 : Option Nat, h2.at b6 (o3 + 1) = some (.map m2) ∧ T44 m2 h2 fun r1 h3 => ∃ m3 : Option Nat, r1 = .map m3 ∧ ∃ b7 o4, (p : Option Addr) = some ⟨b7, o4, none⟩ ∧ h3.canW b7 (o4 + 2) 1 ∧ ∃ b8 o5, (p : Option Addr) = some ⟨b8, o5, none⟩ ∧ (h3.wr b7 (o4 + 2) [.map m3]).canW b8 (o5 + 3) 1 ∧ ∃ b9 o6, (p : Option Addr) = some ⟨b9, o6, none⟩ ∧ ((h3.wr b7 (o4 + 2) [.map m3]).wr b8 (o5 + 3) [.slice none 0 0]).canW b9 (o6 + 4) 4 ∧ ∃ b10 o7, (p : Option Addr) = some ⟨b10, o7, none⟩ ∧ (((h3.wr b7 (o4 + 2) [.map m3]).wr b8 (o5 + 3) [.slice none 0 0]).wr b9 (o6 + 4) [.int .i64 0, .int .i64 0, .int .i64 0, .int .i64 0]).canW b10 (o7 + 8) 1 ∧ Q (.tuple ⟨[]⟩) ((((h3.wr b7 (o4 + 2) [.map m3]).wr b8 (o5 + 3) [.slice none 0 0]).wr b9 (o6 + 4) [.int .i64 0, .int .i64 0, .int .i64 0, .int .i64 0]).wr b10 (o7 + 8) [.bool false])))
def F32.T (p : Option Addr) (n : Int) (l : Sl) : PT := F32.G F16.T F44.T p n l
theorem F32.gen (V : Value → List Value → PT) (T16 : Option Addr → Int → Sl → PT) (T44 : Option Nat → PT) (p : Option Addr) (n : Int) (l : Sl) : denF Try.prog [8] [(16, F16.W T16), (44, F44.W T44)] V F32.an Try.f32 [.v (.pointer p), .v (.int .i64 n), .v (.slice l.a l.n l.c)] = F32.G T16 T44 p n l := by kernel_rfl
theorem F32.den (V : Value → List Value → PT) (p : Option Addr) (n : Int) (l : Sl) : denF Try.prog [8] [(16, F16.V), (44, F44.V)] V F32.an Try.f32 [.v (.pointer p), .v (.int .i64 n), .v (.slice l.a l.n l.c)] = F32.T p n l := F32.gen V F16.T F44.T p n l
def F32.W (T32 : Option Addr → Int → Sl → PT) (args : List Value) : PT := match args with
  | [.pointer p, .int .i64 n, .slice l_a l_n l_c] => T32 p n ⟨l_a, l_n, l_c⟩
  | _ => fun _ _ => False
def F32.V : List Value → PT := F32.W F32.T
theorem F32.ok : FOk Try.prog 32 F32.V := by
  refine ⟨⟨_, Try.func32, rfl, rfl⟩, fun args => ?_⟩
  have hG : GOk Try.prog [(16, F16.V), (44, F44.V)] := GOk.cons F16.ok (GOk.cons F44.ok (GOk.nil))
  have hV : VOk Try.prog noV := noV_ok
  unfold F32.V F32.W
  split
  · exact denF_okV hG hV Try.func32 (fun h Q hq => (F32.den _ _ _ _) ▸ hq)
  · exact fun h Q hq => hq.elim
def F10.an : List (Nat × Ann) := []
def F10.G (T14 : Option Addr → PT) (T16 : Option Addr → Int → Sl → PT) (T18 : Option Addr → PT) (T19 : Int → Sl → PT) (T20 : Option Addr → ByteArray → PT) (T22 : Option Addr → ByteArray → Sl → PT) (T23 : Option Addr → ByteArray → PT) (T24 : Option Addr → ByteArray → PT) (T26 : Option Addr → ByteArray → PT) (T39 : Option Addr → Int → Int → Int → PT)  : PT := fun h Q =>
  T19 0 ⟨none, 0, 0⟩ h fun r h1 => ∃ p : Option Addr, ∃ n : Int, r = .tuple ⟨[.pointer p, .int .i64 n]⟩ ∧ okPtr h1 p none ∧ par ((p : Option Addr) = none) (Q (.bool false) h1) (par (n = 0) (T18 p h1 fun r1 h2 => ∃ b : Bool, r1 = .bool b ∧ parB b (Q (.bool false) h2) (T20 p (ByteArray.mk #[97]) h2 fun r2 h3 => ∃ n1 : Int, r2 = .int .i64 n1 ∧ par (n1 = 0) (∀ b1, h3 b1 = none → ∃ cs t, (h3.new b1 (.cells ⟨[.int .u8 120, .int .u8 121, .int .u8 122]⟩ 5 (0, 0))) b1 = some (.cells cs t (0, 0)) ∧ T22 p (ByteArray.mk #[97]) ⟨(some ⟨b1, 0, none⟩), 3, 3⟩ ((h3.new b1 (.cells ⟨[.int .u8 120, .int .u8 121, .int .u8 122]⟩ 5 (0, 0))).new b1 (.cells cs t (cs.size, cs.size + 1))) fun r3 h4 => ∃ n2 : Int, r3 = .int .i64 n2 ∧ par (n2 = 0) (T23 p (ByteArray.mk #[97]) h4 fun r4 h5 => ∃ n3 : Int, r4 = .int .i64 n3 ∧ par (n3 = 0) (∀ b2, h5 b2 = none → ∃ cs1 t1, (h5.new b2 (.cells ⟨[.int .u8 117, .int .u8 118]⟩ 5 (0, 0))) b2 = some (.cells cs1 t1 (0, 0)) ∧ T22 p (ByteArray.mk #[97]) ⟨(some ⟨b2, 0, none⟩), 2, 2⟩ ((h5.new b2 (.cells ⟨[.int .u8 117, .int .u8 118]⟩ 5 (0, 0))).new b2 (.cells cs1 t1 (cs1.size, cs1.size + 1))) fun r5 h6 => ∃ n4 : Int, r5 = .int .i64 n4 ∧ par (n4 = 0) (T14 p h6 fun r6 h7 => ∃ l : Sl, r6 = .slice l.a l.n l.c ∧ par ((l.n : Int) = 1) (∃ b3 o, (l.a : Option Addr) = some ⟨b3, o, none⟩ ∧ ((0 : Int) ≤ 0 ∧ 0 < (l.n : Int)) ∧ ∃ s : ByteArray, h7.at b3 (o + (0 : Int).toNat * 3) = some (.string s) ∧ par (s = (ByteArray.mk #[97])) (∃ b4 o1, (l.a : Option Addr) = some ⟨b4, o1, none⟩ ∧ ((0 : Int) ≤ 0 ∧ 0 < (l.n : Int)) ∧ ∃ l1 : Sl, h7.at b4 ((o1 + (0 : Int).toNat * 3) + 1) = some (.slice l1.a l1.n l1.c) ∧ ∃ s1 : ByteArray, h7.row l1.a l1.n (bytesV s1) ∧ par (s1 = (ByteArray.mk #[120, 121, 122, 117, 118])) (∃ b5 o2, (l.a : Option Addr) = some ⟨b5, o2, none⟩ ∧ ((0 : Int) ≤ 0 ∧ 0 < (l.n : Int)) ∧ ∃ n5 : Int, h7.at b5 ((o2 + (0 : Int).toNat * 3) + 2) = some (.int .i64 n5) ∧ par (n5 = 3) (T16 p 0 ⟨none, 0, 0⟩ h7 fun r7 h8 => ∃ l2 : Sl, r7 = .slice l2.a l2.n l2.c ∧ par ((l2.n : Int) = 0) (∀ b6, h8 b6 = none → T16 p 1 ⟨(some ⟨b6, 0, none⟩), 1, 1⟩ (h8.new b6 (.cells ⟨[.int .i64 1]⟩ 3 (0, 0))) fun r8 h9 => ∃ l3 : Sl, r8 = .slice l3.a l3.n l3.c ∧ par ((l3.n : Int) = 1) (∃ b7 o3, (l3.a : Option Addr) = some ⟨b7, o3, none⟩ ∧ ((0 : Int) ≤ 0 ∧ 0 < (l3.n : Int)) ∧ ∃ l4 : Sl, h9.at b7 ((o3 + (0 : Int).toNat * 3) + 1) = some (.slice l4.a l4.n l4.c) ∧ ∃ s2 : ByteArray, h9.row l4.a l4.n (bytesV s2) ∧ par (s2 = (ByteArray.mk #[120, 121, 122, 117])) (∃ b8 o4, (l3.a : Option Addr) = some ⟨b8, o4, none⟩ ∧ ((0 : Int) ≤ 0 ∧ 0 < (l3.n : Int)) ∧ ∃ n6 : Int, h9.at b8 ((o4 + (0 : Int).toNat * 3) + 2) = some (.int .i64 n6) ∧ par (n6 = 4) (T19 0 ⟨none, 0, 0⟩ h9 fun r9 h10 => ∃ p1 : Option Addr, ∃ n7 : Int, r9 = .tuple ⟨[.pointer p1, .int .i64 n7]⟩ ∧ okPtr h10 p1 none ∧ par ((p1 : Option Addr) = none) (Q (.bool false) h10) (par (n7 = 0) (T39 p1 1 2 2 h10 fun r10 h11 => T20 p1 (ByteArray.mk #[120]) h11 fun r11 h12 => ∃ n8 : Int, r11 = .int .i64 n8 ∧ par (n8 = 0) (∀ b9, h12 b9 = none → ∃ cs2 t2, (h12.new b9 (.cells ⟨[.int .u8 49, .int .u8 50, .int .u8 51, .int .u8 52, .int .u8 53]⟩ 5 (0, 0))) b9 = some (.cells cs2 t2 (0, 0)) ∧ T22 p1 (ByteArray.mk #[120]) ⟨(some ⟨b9, 0, none⟩), 5, 5⟩ ((h12.new b9 (.cells ⟨[.int .u8 49, .int .u8 50, .int .u8 51, .int .u8 52, .int .u8 53]⟩ 5 (0, 0))).new b9 (.cells cs2 t2 (cs2.size, cs2.size + 1))) fun r12 h13 => ∃ n9 : Int, r12 = .int .i64 n9 ∧ par (n9 = 31) (T26 p1 (ByteArray.mk #[121]) h13 fun r13 h14 => ∃ n10 : Int, r13 = .int .i64 n10 ∧ par (n10 = 31) (T26 p1 (ByteArray.mk #[121]) h14 fun r14 h15 => ∃ n11 : Int, r14 = .int .i64 n11 ∧ par (n11 = 34) (T24 p1 (ByteArray.mk #[120]) h15 fun r15 h16 => ∃ l5 : Sl, ∃ n12 : Int, r15 = .tuple ⟨[.slice l5.a l5.n l5.c, .int .i64 n12]⟩ ∧ par (n12 = 0) (∃ s3 : ByteArray, h16.row l5.a l5.n (bytesV s3) ∧ par (s3 = (ByteArray.mk #[49, 50])) (Q (.bool true) h16) (Q (.bool false) h16)) (Q (.bool false) h16)) (Q (.bool false) h15)) (Q (.bool false) h14)) (Q (.bool false) h13)) (Q (.bool false) h12)) (Q (.bool false) h10))) (Q (.bool false) h9)) (Q (.bool false) h9)) (Q (.bool false) h9)) (Q (.bool false) h8)) (Q (.bool false) h7)) (Q (.bool false) h7)) (Q (.bool false) h7)) (Q (.bool false) h7)) (Q (.bool false) h6)) (Q (.bool false) h5)) (Q (.bool false) h4)) (Q (.bool false) h3))) (Q (.bool false) h1))
def F10.T  : PT := F10.G F14.T F16.T F18.T F19.T F20.T F22.T F23.T F24.T F26.T F39.T 
theorem F10.gen (V : Value → List Value → PT) (T14 : Option Addr → PT) (T16 : Option Addr → Int → Sl → PT) (T18 : Option Addr → PT) (T19 : Int → Sl → PT) (T20 : Option Addr → ByteArray → PT) (T22 : Option Addr → ByteArray → Sl → PT) (T23 : Option Addr → ByteArray → PT) (T24 : Option Addr → ByteArray → PT) (T26 : Option Addr → ByteArray → PT) (T39 : Option Addr → Int → Int → Int → PT)  : denF Try.prog [] [(14, F14.W T14), (16, F16.W T16), (18, F18.W T18), (19, F19.W T19), (20, F20.W T20), (22, F22.W T22), (23, F23.W T23), (24, F24.W T24), (26, F26.W T26), (39, F39.W T39)] V F10.an Try.f10 [] = F10.G T14 T16 T18 T19 T20 T22 T23 T24 T26 T39  := by kernel_rfl
theorem F10.den (V : Value → List Value → PT)  : denF Try.prog [] [(14, F14.V), (16, F16.V), (18, F18.V), (19, F19.V), (20, F20.V), (22, F22.V), (23, F23.V), (24, F24.V), (26, F26.V), (39, F39.V)] V F10.an Try.f10 [] = F10.T  := F10.gen V F14.T F16.T F18.T F19.T F20.T F22.T F23.T F24.T F26.T F39.T 
def F10.W (T10 : PT) (args : List Value) : PT := match args with
  | [] => T10 
  | _ => fun _ _ => False
def F10.V : List Value → PT := F10.W F10.T
theorem F10.ok : FOk Try.prog 10 F10.V := by
  refine ⟨⟨_, Try.func10, rfl, rfl⟩, fun args => ?_⟩
  have hG : GOk Try.prog [(14, F14.V), (16, F16.V), (18, F18.V), (19, F19.V), (20, F20.V), (22, F22.V), (23, F23.V), (24, F24.V), (26, F26.V), (39, F39.V)] := GOk.cons F14.ok (GOk.cons F16.ok (GOk.cons F18.ok (GOk.cons F19.ok (GOk.cons F20.ok (GOk.cons F22.ok (GOk.cons F23.ok (GOk.cons F24.ok (GOk.cons F26.ok (GOk.cons F39.ok (GOk.nil))))))))))
  have hV : VOk Try.prog noV := noV_ok
  unfold F10.V F10.W
  split
  · exact denF_okV hG hV Try.func10 (fun h Q hq => (F10.den _ ) ▸ hq)
  · exact fun h Q hq => hq.elim
def F12.an : List (Nat × Ann) := [(15, .join [] [])]
def F12.G (T19 : Int → Sl → PT) (T40 : Sl → PT) (T41 : Int → Sl → PT) (n : Int) (l : Sl) : PT := fun h Q =>
  T40 l h fun r h1 => ∃ l1 : Sl, r = .slice l1.a l1.n l1.c ∧ T19 n l1 h1 fun r1 h2 => ∃ p : Option Addr, ∃ n1 : Int, r1 = .tuple ⟨[.pointer p, .int .i64 n1]⟩ ∧ T41 n l h2 fun r2 h3 => ∃ p1 : Option Addr, ∃ n2 : Int, r2 = .tuple ⟨[.pointer p1, .int .i64 n2]⟩ ∧ ∃ J : Hp → Prop, (∀ h4 : Hp, J h4 → okPtr h4 p none ∧ par ((p : Option Addr) = none) (Q (.tuple ⟨[.pointer none, .bool true]⟩) h4) (∀ b, h4 b = none → Q (.tuple ⟨[.pointer (some ⟨b, 0, none⟩), .bool true]⟩) (h4.new b (.cells ⟨[.pointer p, .pointer p1]⟩ 32 (0, 0))))) ∧ (par (n1 = n2) (okPtr h3 p none ∧ par ((p : Option Addr) = none) (okPtr h3 p1 none ∧ par ((p1 : Option Addr) = none) (par ((true : Bool) = true) (J h3) (Q (.tuple ⟨[.pointer none, .bool false]⟩) h3)) (par ((true : Bool) = false) (J h3) (Q (.tuple ⟨[.pointer none, .bool false]⟩) h3))) (okPtr h3 p1 none ∧ par ((p1 : Option Addr) = none) (par ((false : Bool) = true) (J h3) (Q (.tuple ⟨[.pointer none, .bool false]⟩) h3)) (par ((false : Bool) = false) (J h3) (Q (.tuple ⟨[.pointer none, .bool false]⟩) h3)))) (Q (.tuple ⟨[.pointer none, .bool false]⟩) h3))
def F12.T (n : Int) (l : Sl) : PT := F12.G F19.T F40.T F41.T n l
def F12.W (T12 : Int → Sl → PT) (args : List Value) : PT := match args with
  | [.int .i64 n, .slice l_a l_n l_c] => T12 n ⟨l_a, l_n, l_c⟩
  | _ => fun _ _ => False
def F12.V : List Value → PT := F12.W F12.T
def F33.an : List (Nat × Ann) := [(63, .join [(7, .int .i64), (8, .int .i64)] []), (4052, .order [0, 1, 2, 3, 4, 5, 6, 7]), (4053, .order [0, 1, 2, 3, 4, 5, 6, 7]), (16220, .order [0, 1, 2, 3, 4, 5, 6, 7, 8]), (16221, .order [0, 1, 2, 3, 4, 5, 6, 7, 8, 9]), (64892, .order [0, 1, 2, 3, 4, 5, 6, 7]), (64893, .order [0, 1, 2, 3, 4, 5, 6, 7]), (259580, .order [0, 1, 2, 3, 4, 5, 6, 7, 8, 9]), (259581, .order [0, 1, 2, 3, 4, 5, 6, 7, 8, 9]), (1038332, .order [0, 1, 2, 3, 4, 5, 6, 7]), (1038333, .order [0, 1, 2, 3, 4, 5, 6, 7]), (16613372, .order [0, 1, 2, 3, 4, 5, 6, 7, 8, 9, 10, 11]), (33226746, .order [0, 1, 2, 3, 4, 5, 6, 7, 8, 9, 10, 11]), (66453500, .order [0, 1, 2, 3, 5, 6, 7, 8, 4, 9, 10, 11]), (265814012, .order [0, 1, 2, 3, 4, 5, 6, 8, 9, 10, 11, 12, 13, 14, 15, 7, 16, 17, 18]), (1063256060, .order [0, 1, 2, 3, 4, 5, 6, 7]), (1063256061, .order [0, 1, 2, 3, 4, 5, 6, 7, 8]), (4253024252, .order [0, 1, 2, 3, 4, 5, 6]), (4253024253, .order [0, 1, 2, 3, 4, 5, 6]), (17012097020, .order [0, 1, 2, 3, 4, 5, 6, 7, 8, 9, 10]), (17012097021, .order [0, 1, 2, 3, 4, 5, 6, 7, 8, 9, 10]), (68048388092, .order [0, 1, 2, 3, 5, 6, 7, 8, 4, 9, 10, 11])]
def F33.G (T13 : Sl → Sl → PT) (T14 : Option Addr → PT) (T15 : Option Addr → PT) (T16 : Option Addr → Int → Sl → PT) (T17 : Option Addr → Int → Sl → PT) (T18 : Option Addr → PT) (T20 : Option Addr → ByteArray → PT) (T22 : Option Addr → ByteArray → Sl → PT) (T23 : Option Addr → ByteArray → PT) (T24 : Option Addr → ByteArray → PT) (T25 : Option Addr → ByteArray → ByteArray → PT) (T26 : Option Addr → ByteArray → PT) (T27 : Option Addr → PT) (T32 : Option Addr → Int → Sl → PT) (T34 : Option Addr → PT) (T35 : Option Addr → Int → PT) (T36 : Option Addr → Int → PT) (T37 : Option Addr → Int → Sl → PT) (T38 : Option Addr → ByteArray → PT) (T39 : Option Addr → Int → Int → Int → PT) (T42 : Sl → Sl → PT) (T53 : Option Addr → ByteArray → Sl → PT) (T54 : Option Addr → ByteArray → PT) (T55 : Option Addr → ByteArray → ByteArray → PT) (T56 : Option Addr → ByteArray → PT) (T57 : Option Addr → PT) (T58 : Option Addr → ByteArray → PT) (T59 : Option Addr → Int → Int → Int → PT) (T60 : Sl → Sl → PT) (p : Option Addr) (n : Int) (s : ByteArray) (s1 : ByteArray) (l : Sl) (n1 : Int) (n2 : Int) (n3 : Int) (l1 : Sl) : PT := fun h Q =>
  ∃ vs, h.row l.a (l.n * 1) vs ∧ (∀ v ∈ vs, Value.oneCell' v = true) ∧ appendD ⟨none, 0, 0⟩ 5 1 1 [.int .u8 0] l.n vs h fun l2 h1 => ∃ vs1, h1.row l1.a (l1.n * 1) vs1 ∧ (∀ v ∈ vs1, Value.oneCell' v = true) ∧ appendD ⟨none, 0, 0⟩ 3 1 8 [.int .i64 0] l1.n vs1 h1 fun l3 h2 => ∃ J : Int → Int → Hp → Prop, (∀ n4 : Int, ∀ n5 : Int, ∀ h3 : Hp, J n4 n5 h3 → par (n4 = n5) (T42 l2 l h3 fun r h4 => ∃ b : Bool, r = .bool b ∧ parB b (T60 l3 l1 h4 fun r1 h5 => ∃ b1 : Bool, r1 = .bool b1 ∧ parB b1 (Q (.bool true) h5) (Q (.bool false) h5)) (Q (.bool false) h4)) (Q (.bool false) h3)) ∧ (par (n = 1) (∃ b2 o, (p : Option Addr) = some ⟨b2, o, none⟩ ∧ ∃ p1 : Option Addr, h2.at b2 o = some (.pointer p1) ∧ T20 p1 s h2 fun r2 h6 => ∃ n6 : Int, r2 = .int .i64 n6 ∧ ∃ b3 o1, (p : Option Addr) = some ⟨b3, o1, none⟩ ∧ ∃ p2 : Option Addr, h6.at b3 (o1 + 1) = some (.pointer p2) ∧ T38 p2 s h6 fun r3 h7 => ∃ n7 : Int, r3 = .int .i64 n7 ∧ J n6 n7 h7) (par (n = 2) (∃ b4 o2, (p : Option Addr) = some ⟨b4, o2, none⟩ ∧ ∃ p3 : Option Addr, h2.at b4 o2 = some (.pointer p3) ∧ T22 p3 s l2 h2 fun r4 h8 => ∃ n8 : Int, r4 = .int .i64 n8 ∧ ∃ b5 o3, (p : Option Addr) = some ⟨b5, o3, none⟩ ∧ ∃ p4 : Option Addr, h8.at b5 (o3 + 1) = some (.pointer p4) ∧ T53 p4 s l h8 fun r5 h9 => ∃ n9 : Int, r5 = .int .i64 n9 ∧ J n8 n9 h9) (par (n = 3) (∃ b6 o4, (p : Option Addr) = some ⟨b6, o4, none⟩ ∧ ∃ p5 : Option Addr, h2.at b6 o4 = some (.pointer p5) ∧ T23 p5 s h2 fun r6 h10 => ∃ n10 : Int, r6 = .int .i64 n10 ∧ ∃ b7 o5, (p : Option Addr) = some ⟨b7, o5, none⟩ ∧ ∃ p6 : Option Addr, h10.at b7 (o5 + 1) = some (.pointer p6) ∧ T54 p6 s h10 fun r7 h11 => ∃ n11 : Int, r7 = .int .i64 n11 ∧ J n10 n11 h11) (par (n = 4) (∃ b8 o6, (p : Option Addr) = some ⟨b8, o6, none⟩ ∧ ∃ p7 : Option Addr, h2.at b8 o6 = some (.pointer p7) ∧ T25 p7 s s1 h2 fun r8 h12 => ∃ n12 : Int, r8 = .int .i64 n12 ∧ ∃ b9 o7, (p : Option Addr) = some ⟨b9, o7, none⟩ ∧ ∃ p8 : Option Addr, h12.at b9 (o7 + 1) = some (.pointer p8) ∧ T55 p8 s s1 h12 fun r9 h13 => ∃ n13 : Int, r9 = .int .i64 n13 ∧ J n12 n13 h13) (par (n = 5) (∃ b10 o8, (p : Option Addr) = some ⟨b10, o8, none⟩ ∧ ∃ p9 : Option Addr, h2.at b10 o8 = some (.pointer p9) ∧ T26 p9 s h2 fun r10 h14 => ∃ n14 : Int, r10 = .int .i64 n14 ∧ ∃ b11 o9, (p : Option Addr) = some ⟨b11, o9, none⟩ ∧ ∃ p10 : Option Addr, h14.at b11 (o9 + 1) = some (.pointer p10) ∧ T56 p10 s h14 fun r11 h15 => ∃ n15 : Int, r11 = .int .i64 n15 ∧ J n14 n15 h15) (par (n = 6) (∃ b12 o10, (p : Option Addr) = some ⟨b12, o10, none⟩ ∧ ∃ p11 : Option Addr, h2.at b12 o10 = some (.pointer p11) ∧ T27 p11 h2 fun r12 h16 => ∃ n16 : Int, r12 = .int .i64 n16 ∧ ∃ b13 o11, (p : Option Addr) = some ⟨b13, o11, none⟩ ∧ ∃ p12 : Option Addr, h16.at b13 (o11 + 1) = some (.pointer p12) ∧ T57 p12 h16 fun r13 h17 => ∃ n17 : Int, r13 = .int .i64 n17 ∧ J n16 n17 h17) (par (n = 7) (∃ b14 o12, (p : Option Addr) = some ⟨b14, o12, none⟩ ∧ ∃ p13 : Option Addr, h2.at b14 o12 = some (.pointer p13) ∧ T24 p13 s h2 fun r14 h18 => ∃ l4 : Sl, ∃ n18 : Int, r14 = .tuple ⟨[.slice l4.a l4.n l4.c, .int .i64 n18]⟩ ∧ ∃ b15 o13, (p : Option Addr) = some ⟨b15, o13, none⟩ ∧ ∃ p14 : Option Addr, h18.at b15 (o13 + 1) = some (.pointer p14) ∧ T58 p14 s h18 fun r15 h19 => ∃ l5 : Sl, ∃ n19 : Int, r15 = .tuple ⟨[.slice l5.a l5.n l5.c, .int .i64 n19]⟩ ∧ T42 l4 l5 h19 fun r16 h20 => ∃ b16 : Bool, r16 = .bool b16 ∧ parB b16 (J n18 n19 h20) (Q (.bool false) h20)) (par (n = 8) (∃ b17 o14, (p : Option Addr) = some ⟨b17, o14, none⟩ ∧ ∃ p15 : Option Addr, h2.at b17 o14 = some (.pointer p15) ∧ ∃ b18 o15, (p : Option Addr) = some ⟨b18, o15, none⟩ ∧ ∃ p16 : Option Addr, h2.at b18 (o15 + 1) = some (.pointer p16) ∧ T14 p15 h2 fun r17 h21 => ∃ l6 : Sl, r17 = .slice l6.a l6.n l6.c ∧ h21.at b18 (o15 + 1) = some (.pointer p16) ∧ T15 p16 h21 fun r18 h22 => ∃ l7 : Sl, r18 = .slice l7.a l7.n l7.c ∧ T13 l6 l7 h22 fun r19 h23 => ∃ b19 : Bool, r19 = .bool b19 ∧ parB b19 (Q (.bool true) h23) (Q (.bool false) h23)) (par (n = 9) (∃ b20 o16, (p : Option Addr) = some ⟨b20, o16, none⟩ ∧ ∃ p17 : Option Addr, h2.at b20 o16 = some (.pointer p17) ∧ ∃ b21 o17, (p : Option Addr) = some ⟨b21, o17, none⟩ ∧ ∃ p18 : Option Addr, h2.at b21 (o17 + 1) = some (.pointer p18) ∧ T16 p17 n1 l3 h2 fun r20 h24 => ∃ l8 : Sl, r20 = .slice l8.a l8.n l8.c ∧ h24.at b21 (o17 + 1) = some (.pointer p18) ∧ T17 p18 n1 l1 h24 fun r21 h25 => ∃ l9 : Sl, r21 = .slice l9.a l9.n l9.c ∧ T13 l8 l9 h25 fun r22 h26 => ∃ b22 : Bool, r22 = .bool b22 ∧ parB b22 (Q (.bool true) h26) (Q (.bool false) h26)) (par (n = 10) (∃ b23 o18, (p : Option Addr) = some ⟨b23, o18, none⟩ ∧ ∃ p19 : Option Addr, h2.at b23 o18 = some (.pointer p19) ∧ T32 p19 n1 l3 h2 fun r23 h27 => ∃ b24 o19, (p : Option Addr) = some ⟨b24, o19, none⟩ ∧ ∃ p20 : Option Addr, h27.at b24 (o19 + 1) = some (.pointer p20) ∧ T37 p20 n1 l1 h27 fun r24 h28 => J 0 0 h28) (par (n = 11) (∃ b25 o20, (p : Option Addr) = some ⟨b25, o20, none⟩ ∧ ∃ p21 : Option Addr, h2.at b25 o20 = some (.pointer p21) ∧ T35 p21 n1 h2 fun r25 h29 => ∃ b26 o21, (p : Option Addr) = some ⟨b26, o21, none⟩ ∧ ∃ p22 : Option Addr, h29.at b26 (o21 + 1) = some (.pointer p22) ∧ T36 p22 n1 h29 fun r26 h30 => J 0 0 h30) (par (n = 12) (∃ b27 o22, (p : Option Addr) = some ⟨b27, o22, none⟩ ∧ ∃ p23 : Option Addr, h2.at b27 o22 = some (.pointer p23) ∧ T39 p23 n1 n2 n3 h2 fun r27 h31 => ∃ b28 o23, (p : Option Addr) = some ⟨b28, o23, none⟩ ∧ ∃ p24 : Option Addr, h31.at b28 (o23 + 1) = some (.pointer p24) ∧ T59 p24 n1 n2 n3 h31 fun r28 h32 => J 0 0 h32) (par (n = 13) (∃ b29 o24, (p : Option Addr) = some ⟨b29, o24, none⟩ ∧ ∃ p25 : Option Addr, h2.at b29 o24 = some (.pointer p25) ∧ ∃ b30 o25, (p : Option Addr) = some ⟨b30, o25, none⟩ ∧ ∃ p26 : Option Addr, h2.at b30 (o25 + 1) = some (.pointer p26) ∧ T18 p25 h2 fun r29 h33 => ∃ b31 : Bool, r29 = .bool b31 ∧ parB b31 (h33.at b30 (o25 + 1) = some (.pointer p26) ∧ T34 p26 h33 fun r30 h34 => ∃ b32 : Bool, r30 = .bool b32 ∧ parB b32 (par ((true : Bool) = true) (Q (.bool true) h34) (Q (.bool false) h34)) (par ((true : Bool) = false) (Q (.bool true) h34) (Q (.bool false) h34))) (h33.at b30 (o25 + 1) = some (.pointer p26) ∧ T34 p26 h33 fun r31 h35 => ∃ b33 : Bool, r31 = .bool b33 ∧ parB b33 (par ((false : Bool) = true) (Q (.bool true) h35) (Q (.bool false) h35)) (par ((false : Bool) = false) (Q (.bool true) h35) (Q (.bool false) h35)))) (J 0 0 h2))))))))))))))
def F33.T (p : Option Addr) (n : Int) (s : ByteArray) (s1 : ByteArray) (l : Sl) (n1 : Int) (n2 : Int) (n3 : Int) (l1 : Sl) : PT := F33.G F13.T F14.T F15.T F16.T F17.T F18.T F20.T F22.T F23.T F24.T F25.T F26.T F27.T F32.T F34.T F35.T F36.T F37.T F38.T F39.T F42.T F53.T F54.T F55.T F56.T F57.T F58.T F59.T F60.T p n s s1 l n1 n2 n3 l1
def F33.W (T33 : Option Addr → Int → ByteArray → ByteArray → Sl → Int → Int → Int → Sl → PT) (args : List Value) : PT := match args with
  | [.pointer p, .agg ⟨[.int .i64 n, .string s, .string s1, .slice l_a l_n l_c, .int .i64 n1, .int .i64 n2, .int .i64 n3, .slice l1_a l1_n l1_c]⟩] => T33 p n s s1 ⟨l_a, l_n, l_c⟩ n1 n2 n3 ⟨l1_a, l1_n, l1_c⟩
  | _ => fun _ _ => False
def F33.V : List Value → PT := F33.W F33.T
end Go.Eng.Ytekflkpnpibneaa
end
section

/-
  SPECS OF THE DISK, 1: names; copies of bytes.
-/
set_option linter.unusedSimpArgs false
set_option linter.unusedVariables false
set_option maxRecDepth 100000
namespace Go.Eng.Ytekflkpnpibneaa
theorem inc_i {k n : Nat} (hk : k < n) (hn : n ≤ 9223372036854775807) : IntKind.wrap .i64 ((k : Int) + 1) = ((k + 1 : Nat) : Int) := by rw [wrap_i64 (by omega) (by omega)]; omega
theorem byteOk_t {b : UInt8} : byteOk b = true ↔ (97 ≤ b.toNat ∧ b.toNat ≤ 122) ∨ (48 ≤ b.toNat ∧ b.toNat ≤ 57) ∨ b.toNat = 45 := by
  unfold byteOk
  simp only [Bool.or_eq_true, Bool.and_eq_true, decide_eq_true_eq, beq_iff_eq, or_assoc]
theorem byteOk_f {b : UInt8} (h : ¬ ((97 ≤ b.toNat ∧ b.toNat ≤ 122) ∨ (48 ≤ b.toNat ∧ b.toNat ≤ 57) ∨ b.toNat = 45)) : byteOk b = false := by
  rw [← Bool.not_eq_true, byteOk_t]; exact h
theorem all_snoc {A : List UInt8} {b : UInt8} (h : A.all byteOk = true) (hb : byteOk b = true) : (A ++ [b]).all byteOk = true := by simp [h, hb]
theorem not_all {A B : List UInt8} {b : UInt8} (hb : byteOk b = false) : (A ++ b :: B).all byteOk = false := by simp [hb]
def bl (l : List UInt8) : List Value := l.map fun b => .int .u8 (b.toNat : Int)
theorem bl_len (l : List UInt8) : (bl l).length = l.length := List.length_map _
theorem bytesV_bl (s : ByteArray) : bytesV s = bl s.data.toList := rfl
theorem bl_app (a b : List UInt8) : bl (a ++ b) = bl a ++ bl b := List.map_append
theorem bl_one (l : List UInt8) : ∀ v ∈ bl l, Value.oneCell' v = true := fun v hv => by
  unfold bl at hv
  obtain ⟨s, _, rfl⟩ := List.mem_map.1 hv
  rfl
theorem name_spec {h : Hp} {s : ByteArray} {Q : Value → Hp → Prop} (hs : s.size ≤ 9223372036854775807) (hQ : ∀ h', Keep h h' → Q (.bool (nameOk s)) h') : F47.T s h Q := by
  intro b c hb hc
  have K := Keep.new hb (.cells ⟨bytesV s ++ List.replicate (c - s.size) (.int .u8 0)⟩ 5 (c, c + 1))
  have hx := new_at h b (.cells ⟨bytesV s ++ List.replicate (c - s.size) (.int .u8 0)⟩ 5 (c, c + 1))
  generalize h.new b (.cells ⟨bytesV s ++ List.replicate (c - s.size) (.int .u8 0)⟩ 5 (c, c + 1)) = h0 at K hx ⊢
  refine ⟨fun n h1 => h1 = h0 ∧ ∃ A B : List UInt8, s.data.toList = A ++ B ∧ n = (A.length : Int) ∧ A.all byteOk = true, fun n _ => s.size - n.toNat, ⟨rfl, [], s.data.toList, rfl, rfl, rfl⟩, ?_⟩
  rintro n h1 ⟨rfl, A, B, eAB, rfl, hA⟩
  have hl := congrArg List.length eAB
  rw [List.length_append, Array.length_toList] at hl
  have hsz : s.size = A.length + B.length := hl
  refine ⟨fun hlt => ?_, fun hge => ?_⟩
  · rcases B with _ | ⟨x, B⟩
    · exact absurd hlt (by simp at hsz; omega)
    rw [List.length_cons] at hsz
    have hat : h1.at b (0 + (A.length : Int).toNat) = some (.int .u8 (x.toNat : Int)) := by
      rw [at_of hx, Nat.zero_add, Int.toNat_natCast, ← Array.getElem?_toList]
      show (bytesV s ++ List.replicate (c - s.size) (Value.int .u8 0))[A.length]? = _
      rw [List.getElem?_append_left (by rw [bytesV_bl, bl_len, Array.length_toList]; exact (show A.length < s.size by omega)), bytesV_bl, eAB]
      unfold bl
      simp
    have hT : byteOk x = true → ((h1 = h1 ∧ ∃ A' B' : List UInt8, s.data.toList = A' ++ B' ∧ IntKind.wrap .i64 ((A.length : Int) + 1) = (A'.length : Int) ∧ A'.all byteOk = true) ∧ s.size - (IntKind.wrap .i64 ((A.length : Int) + 1)).toNat < s.size - ((A.length : Int)).toNat) := fun hx => by
      rw [inc_i (n := 9223372036854775807) (by omega) (by omega)]
      exact ⟨⟨rfl, A ++ [x], B, by rw [eAB]; simp, by simp, all_snoc hA hx⟩, by omega⟩
    have hF : byteOk x = false → Q (.bool false) h1 := fun hx => by
      have : nameOk s = false := by unfold nameOk; rw [eAB, not_all hx, Bool.and_false]
      have h2 := hQ h1 K
      rw [this] at h2
      exact h2
    refine ⟨b, 0, rfl, ⟨by omega, hlt⟩, _, hat, fun c1 => ⟨fun c2 => ⟨fun c3 => hT (byteOk_t.2 (by omega)), fun c3 => hF (byteOk_f (by omega))⟩, fun c2 => ⟨fun c3 => ⟨fun c4 => hT (byteOk_t.2 (by omega)), fun c4 => hF (byteOk_f (by omega))⟩, fun c3 => hT (byteOk_t.2 (by omega))⟩⟩, fun c1 => ⟨fun c2 => ⟨fun c3 => ⟨fun c4 => hT (byteOk_t.2 (by omega)), fun c4 => hF (byteOk_f (by omega))⟩, fun c3 => ⟨fun c4 => ⟨fun c5 => hT (byteOk_t.2 (by omega)), fun c5 => hF (byteOk_f (by omega))⟩, fun c4 => hT (byteOk_t.2 (by omega))⟩⟩, fun c2 => hT (byteOk_t.2 (by omega))⟩⟩
  · have hB : B = [] := List.eq_nil_of_length_eq_zero (by omega)
    subst hB
    rw [List.append_nil] at eAB
    have h2 := hQ h1 K
    have e0 : s = ByteArray.mk #[] ↔ s.size = 0 := by
      constructor
      · rintro rfl; rfl
      · intro h0
        have : s.data.toList = [] := List.eq_nil_of_length_eq_zero (by rw [Array.length_toList]; exact h0)
        exact ByteArray.ext (Array.ext' this)
    have hn : nameOk s = (decide (1 ≤ s.size) && decide (s.size ≤ 24)) := by unfold nameOk; rw [eAB, hA, Bool.and_true]
    refine ⟨fun hs0 => ?_, fun hs0 => ⟨fun h24 => ?_, fun h24 => ?_⟩⟩
    · have h0 := e0.1 hs0
      rw [hn, h0] at h2; exact h2
    · have h0 : s.size ≠ 0 := fun h => hs0 (e0.2 h)
      rw [hn, decide_eq_true (by omega : 1 ≤ s.size), decide_eq_true (by omega : s.size ≤ 24)] at h2; exact h2
    · have h0 : s.size ≠ 0 := fun h => hs0 (e0.2 h)
      rw [hn, decide_eq_true (by omega : 1 ≤ s.size), decide_eq_false (by omega : ¬ s.size ≤ 24)] at h2; exact h2
/-- A copy of bytes. -/
theorem clone_bytes {h : Hp} {l : Sl} {v : List UInt8} {Q : Value → Hp → Prop} (hr : h.row l.a (l.n * 1) (bl v)) (hcap : l.n ≤ l.c) (hn0 : l.a = none → l.n = 0) (hs : v.length ≤ 4294967296) (hQ : ∀ h' r, Keep h h' → Buf h' r 1 5 (bl v) → NewN h r → Q (.slice r.a r.n r.c) h') : F48.T l h Q := by
  have hn : l.n = v.length := by have := hr.1; rw [bl_len] at this; omega
  refine ⟨fun h0 => ?_, fun h0 b hb => ?_⟩
  · have : v = [] := List.eq_nil_of_length_eq_zero (by have := hn0 h0; omega)
    subst this
    exact hQ h ⟨none, 0, 0⟩ (Keep.refl h) (Buf.nil _ _ _) (.inl rfl)
  · have K := Keep.new hb (.cells ⟨[]⟩ 5 (0, 0))
    have B1 : Buf (h.new b (.cells ⟨[]⟩ 5 (0, 0))) ⟨some ⟨b, 0, none⟩, 0, 0⟩ 1 5 [] := ⟨rfl, Nat.le_refl _, .inr ⟨b, ⟨[]⟩, (0, 0), rfl, new_at _ _ _, by simp, fun j _ => by simp, rfl⟩⟩
    refine ⟨bl v, K.row hr, bl_one _, append_buf B1 rfl (by rw [bl_len]; omega) (by dsimp only; omega) fun r h2 B2 _ U2 => ?_⟩
    obtain ⟨K2, N2⟩ := NewN.upd K (s := ⟨some ⟨b, 0, none⟩, 0, 0⟩) (.inr ⟨b, rfl, hb⟩) U2
    exact hQ h2 r K2 (by simpa using B2) N2
end Go.Eng.Ytekflkpnpibneaa
end
