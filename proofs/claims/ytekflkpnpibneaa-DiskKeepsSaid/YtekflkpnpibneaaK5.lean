
/-
  Proved: the law DiskKeeps answers true, whatever it is handed, and what it was handed reads behind the call as it read before. No condition.
-/
import Derived.Test.YtekflkpnpibneaaK4
import Derived.Test.YtekflkpnpibneaaK3
import Derived.Test.YtekflkpnpibneaaK2
import Derived.Test.YtekflkpnpibneaaProg
import Derived.Test.YtekflkpnpibneaaRows
import Derived.WalkKit
import Derived.ProofKit
import Derived.OpenShut
import Derived.ShutString
import Derived.ChangeOld
import Derived.Below
import Derived.SizedLaws
section

/-
  THE DISK, PLAINLY, 2: what a sync has made sure stays; what a fall leaves.
-/
set_option linter.unusedSimpArgs false
set_option linter.unusedVariables false
set_option maxRecDepth 100000
namespace Go.Eng.Ytekflkpnpibneaa
/-! ### A fall -/
def numD : Nat → List FileR → Dir
  | _, [] => []
  | i, f :: l => (f.nm, i) :: numD (i + 1) l
theorem dins_end {s : ByteArray} {i : Nat} : ∀ {d : Dir}, (∀ x ∈ d, Bl x.1 s) → dins d s i = d ++ [(s, i)]
  | [], _ => rfl
  | y :: d, h => by
    have hy := h y List.mem_cons_self
    unfold dins
    rw [if_neg (fun e => by rw [e] at hy; exact Bl.irr hy), if_neg (fun e => Bl.irr (hy.trans (bB_t.1 e))), dins_end fun x hx => h x (List.mem_cons_of_mem _ hx)]
    rfl
theorem putAll_rise : ∀ (l : List FileR) (i : Nat) (d : Dir), (l.Pairwise fun f g => Bl f.nm g.nm) → (∀ x ∈ d, ∀ f ∈ l, Bl x.1 f.nm) → putAll i d l = d ++ numD i l
  | [], i, d, _, _ => by unfold putAll numD; rw [List.append_nil]
  | f :: l, i, d, h, hd => by
    obtain ⟨h1, h2⟩ := List.pairwise_cons.1 h
    unfold putAll numD
    rw [dins_end fun x hx => hd x hx f List.mem_cons_self, putAll_rise l (i + 1) _ h2 fun x hx g hg => ?_]
    · simp
    · rcases List.mem_append.1 hx with hx | hx
      · exact hd x hx g (List.mem_cons_of_mem _ hg)
      · rw [List.mem_singleton.1 hx]; exact h1 g hg
theorem told_num (S : Dk) (l : List FileR) (hS : S.fl = l.map fun f => ⟨f.data, f.sure⟩) : ∀ (l2 l1 : List FileR), l = l1 ++ l2 → dtold S (numD l1.length l2) = l2
  | [], l1, _ => rfl
  | f :: l2, l1, e => by
    unfold numD dtold
    have h1 := told_num S l hS l2 (l1 ++ [f]) (by rw [e]; simp)
    rw [List.length_append, List.length_singleton] at h1
    unfold dtold at h1
    rw [List.map_cons, h1]
    have hg : S.fl[l1.length]? = some ⟨f.data, f.sure⟩ := by rw [hS, e]; simp
    unfold fileR
    rw [hg]
theorem fresh_told {room : Int} {l : List FileR} (h : l.Pairwise fun f g => Bl f.nm g.nm) : dtold (fresh room l) (fresh room l).now = l := by
  have e : (fresh room l).now = numD 0 l := by
    show putAll 0 [] l = _
    rw [putAll_rise l 0 [] h (fun x hx => by cases hx)]; rfl
  rw [e]
  exact told_num _ l rfl l [] rfl
theorem left_full : ∀ {l : List FileR} {i : Nat}, (∀ f ∈ l, f.sure = f.data.length) → leftAll [] i l = l
  | [], i, _ => rfl
  | f :: l, i, h => by
    unfold leftAll
    rw [left_full fun g hg => h g (List.mem_cons_of_mem _ hg)]
    have hf := h f List.mem_cons_self
    have : leftOf [] i f = f := by
      unfold leftOf
      simp only [List.getElem?_nil, Nat.add_zero]
      rw [hf, List.take_length]
      cases f
      simp_all
    rw [this]
theorem fall_told {S : Dk} (D : DOk S) (dir : Int) (keep : List Int) : dtold (kFall S dir keep) (kFall S dir keep).now = kImage S dir keep ∧ kImage (kFall S dir keep) 0 [] = kImage S dir keep := by
  have h := image_srt D dir keep
  have h2 := (image_ok D dir keep).2.2
  unfold kFall
  refine ⟨fresh_told h, ?_⟩
  have e : drest (fresh S.room (kImage S dir keep)) 0 = (fresh S.room (kImage S dir keep)).now := rfl
  show leftAll [] 0 (dtold _ (drest _ 0)) = _
  rw [e, fresh_told h]
  exact left_full fun f hf => (h2 f hf).2
theorem rest_all {S : Dk} (D : DOk S) {dir : Int} (h : (S.chg.length : Int) ≤ dir) : drest S dir = S.now := by
  unfold drest
  rw [List.take_of_length_le (by omega), D.lays.fold]
theorem rest_none {S : Dk} {dir : Int} (h : dir ≤ 0) : drest S dir = S.sure := by
  unfold drest
  have : dir.toNat = 0 := by omega
  rw [this]; rfl
/-! ### What is sure stays -/
/-- Files only grow. -/
def Grow (l m : List Fil) : Prop := ∀ (i : Nat) (f : Fil), l[i]? = some f → ∃ f' : Fil, m[i]? = some f' ∧ f.data <+: f'.data ∧ f.sure ≤ f'.sure
theorem Grow.refl (l : List Fil) : Grow l l := fun i f h => ⟨f, h, List.prefix_refl _, Nat.le_refl _⟩
theorem Grow.set {l : List Fil} {i : Nat} {f g : Fil} (h : l[i]? = some f) (h1 : f.data <+: g.data) (h2 : f.sure ≤ g.sure) : Grow l (l.set i g) := fun j x hx => by
  by_cases e : i = j
  · subst e
    rw [h] at hx; cases hx
    exact ⟨g, by rw [List.getElem?_set_self (List.getElem?_eq_some_iff.1 h).1], h1, h2⟩
  · exact ⟨x, by rw [List.getElem?_set_ne e]; exact hx, List.prefix_refl _, Nat.le_refl _⟩
theorem Grow.app (l m : List Fil) : Grow l (l ++ m) := fun i f h => ⟨f, by rw [List.getElem?_append_left (List.getElem?_eq_some_iff.1 h).1]; exact h, List.prefix_refl _, Nat.le_refl _⟩
abbrev Held := List (ByteArray × List UInt8)
/-- What is held as sure. -/
def HeldOk (S : Dk) (H : Held) : Prop := ∀ x ∈ H, ∃ i f, dget S.now x.1 = some i ∧ S.fl[i]? = some f ∧ x.2 <+: f.data ∧ x.2.length ≤ f.sure
def goneH (H : Held) (s : ByteArray) : Held := H.filter fun x => !decide (x.1 = s)
theorem mem_goneH {H : Held} {s : ByteArray} {x : ByteArray × List UInt8} (h : x ∈ goneH H s) : x ∈ H ∧ x.1 ≠ s := by
  unfold goneH at h
  obtain ⟨h1, h2⟩ := List.mem_filter.1 h
  exact ⟨h1, by simpa using h2⟩
theorem HeldOk.grow {S S' : Dk} {H : Held} (h : HeldOk S H) (G : Grow S.fl S'.fl) (hn : ∀ x ∈ H, dget S'.now x.1 = dget S.now x.1) : HeldOk S' H := fun x hx => by
  obtain ⟨i, f, e1, e2, e3, e4⟩ := h x hx
  obtain ⟨f', g1, g2, g3⟩ := G i f e2
  exact ⟨i, f', by rw [hn x hx]; exact e1, g1, e3.trans g2, Nat.le_trans e4 g3⟩
theorem HeldOk.sub {S : Dk} {H H' : Held} (h : HeldOk S H) (hs : ∀ x ∈ H', x ∈ H) : HeldOk S H' := fun x hx => h x (hs x hx)
/-- A call that leaves names as they are. -/
structure Same (S S' : Dk) : Prop where
  now : S'.now = S.now
  grow : Grow S.fl S'.fl
  sure : S'.sure = S.sure
theorem Same.refl (S : Dk) : Same S S := ⟨rfl, Grow.refl _, rfl⟩
theorem Same.trans {S S1 S2 : Dk} (a : Same S S1) (b : Same S1 S2) : Same S S2 := ⟨b.now.trans a.now, fun i f h => by
  obtain ⟨f1, e1, e2, e3⟩ := a.grow i f h
  obtain ⟨f2, e4, e5, e6⟩ := b.grow i f1 e1
  exact ⟨f2, e4, e2.trans e5, Nat.le_trans e3 e6⟩, b.sure.trans a.sure⟩
theorem HeldOk.same {S S' : Dk} {H : Held} (h : HeldOk S H) (X : Same S S') : HeldOk S' H := h.grow X.grow fun x _ => by rw [X.now]
theorem same_begin (S : Dk) (ok : Bool) : Same S (dbegin S ok).2 := by
  have h := begin_same S ok
  exact ⟨h.2.1, by rw [h.1]; exact Grow.refl _, h.2.2.1⟩
theorem same_falls (S : Dk) (c : Int) : Same S (dfalls S c).2 := by
  have h := falls_same S c
  exact ⟨h.2.1, by rw [h.1]; exact Grow.refl _, h.2.2.1⟩
theorem same_addTo (S : Dk) (i : Nat) (b : List UInt8) : Same S (addTo S i b) := by
  unfold addTo
  split
  · next f hf => exact ⟨rfl, Grow.set hf (List.prefix_append _ _) (Nat.le_refl _), rfl⟩
  · exact Same.refl S
theorem same_sureAll {S : Dk} (D : DOk S) (i : Nat) : Same S (sureAll S i) := by
  unfold sureAll
  split
  · next f hf => exact ⟨rfl, Grow.set hf (List.prefix_refl _) (D.fl f (List.mem_of_getElem? hf)).2, rfl⟩
  · exact Same.refl S
theorem same_append (S : Dk) (s : ByteArray) (b : List UInt8) : Same S (kAppend S s b).2 := by
  have hb := same_begin S (nameOk s)
  unfold kAppend
  split
  · refine hb.trans ?_
    unfold kPart
    split
    · exact Same.refl _
    · split
      · exact Same.refl _
      · exact same_addTo _ _ _
  · by_cases e : (dbegin S (nameOk s)).1 = 0
    · rw [kThen_0 e]
      refine hb.trans ?_
      unfold kAppend2
      split
      · exact Same.refl _
      · unfold kAppend3
        split
        · exact Same.refl _
        · split
          · exact (same_falls _ _).trans (same_addTo _ _ _)
          · exact (same_falls _ _).trans (same_addTo _ _ _)
    · rw [kThen_1 e]; exact hb
theorem nz {n : Nat} : ((n + 1 : Nat) : Int) ≠ 0 := by omega
/-- What a call answers and leaves: nothing but small change, or it was done. -/
theorem create_keeps (S : Dk) (s : ByteArray) : Same S (kCreate S s).2 ∧ (kCreate S s).1 ≠ 0 ∨ ((kCreate S s).1 = 0 ∧ Grow S.fl (kCreate S s).2.fl ∧ (kCreate S s).2.sure = S.sure ∧ ∀ t, t ≠ s → dget (kCreate S s).2.now t = dget S.now t) := by
  have hb := same_begin S (nameOk s)
  unfold kCreate
  by_cases e : (dbegin S (nameOk s)).1 = 0
  · rw [kThen_0 e]
    generalize (dbegin S (nameOk s)).2 = S1 at hb
    unfold kCreate2
    split
    · exact .inl ⟨hb, nz⟩
    · split
      · exact .inl ⟨hb, nz⟩
      · have hf := same_falls S1 1
        unfold kFalls
        split
        · exact .inl ⟨hb.trans hf, nz⟩
        · generalize (dfalls S1 1).2 = S2 at hf
          have h2 := hb.trans hf
          refine .inr ⟨rfl, ?_, ?_, fun t ht => ?_⟩
          · intro i f hi
            obtain ⟨f1, e1, e2⟩ := h2.grow i f hi
            obtain ⟨f2, e3, e4⟩ := Grow.app S2.fl [⟨[], 0⟩] i f1 e1
            exact ⟨f2, e3, e2.1.trans e4.1, Nat.le_trans e2.2 e4.2⟩
          · exact h2.sure
          · have e : dlay (kNew S2).now ⟨0, s, ⟨#[]⟩, S2.fl.length⟩ = dins S2.now s S2.fl.length := rfl
            simp only [kDo]
            rw [e, dget_ins, if_neg ht, h2.now]
  · rw [kThen_1 e]; exact .inl ⟨hb, e⟩
theorem delete_keeps {S : Dk} (D : DOk S) (s : ByteArray) : Same S (kDelete S s).2 ∧ (kDelete S s).1 ≠ 0 ∨ ((kDelete S s).1 = 0 ∧ Grow S.fl (kDelete S s).2.fl ∧ (kDelete S s).2.sure = S.sure ∧ ∀ t, t ≠ s → dget (kDelete S s).2.now t = dget S.now t) := by
  have hb := same_begin S (nameOk s)
  unfold kDelete
  by_cases e : (dbegin S (nameOk s)).1 = 0
  · rw [kThen_0 e]
    generalize (dbegin S (nameOk s)).2 = S1 at hb
    unfold kDelete2
    split
    · exact .inl ⟨hb, nz⟩
    · have hf := same_falls S1 1
      unfold kFalls
      split
      · exact .inl ⟨hb.trans hf, nz⟩
      · generalize (dfalls S1 1).2 = S2 at hf
        have h2 := hb.trans hf
        refine .inr ⟨rfl, h2.grow, h2.sure, fun t ht => ?_⟩
        have e : dlay S2.now ⟨2, s, ⟨#[]⟩, 0⟩ = ddel S2.now s := rfl
        simp only [kDo]
        rw [e, dget_del (by rw [h2.now]; exact D.now.s), if_neg ht, h2.now]
  · rw [kThen_1 e]; exact .inl ⟨hb, e⟩
theorem rename_keeps {S : Dk} (D : DOk S) (s u : ByteArray) : Same S (kRename S s u).2 ∧ ((kRename S s u).1 ≠ 0 ∨ s = u) ∨ ((kRename S s u).1 = 0 ∧ s ≠ u ∧ Grow S.fl (kRename S s u).2.fl ∧ (kRename S s u).2.sure = S.sure ∧ ∀ t, t ≠ s → t ≠ u → dget (kRename S s u).2.now t = dget S.now t) := by
  have hb := same_begin S (nameOk s && nameOk u)
  unfold kRename
  by_cases e : (dbegin S (nameOk s && nameOk u)).1 = 0
  · rw [kThen_0 e]
    generalize (dbegin S (nameOk s && nameOk u)).2 = S1 at hb
    unfold kRename2
    split
    · exact .inl ⟨hb, .inl nz⟩
    · have hf := same_falls S1 1
      unfold kFalls
      split
      · exact .inl ⟨hb.trans hf, .inl nz⟩
      · generalize (dfalls S1 1).2 = S2 at hf
        have h2 := hb.trans hf
        by_cases hsu : s = u
        · simp only [if_pos hsu]
          exact .inl ⟨h2, .inr hsu⟩
        · simp only [if_neg hsu]
          refine .inr ⟨trivial, hsu, h2.grow, h2.sure, fun t ht hu => ?_⟩
          have hsr : DSrt S2.now := by rw [h2.now]; exact D.now.s
          have e : dlay S2.now ⟨1, s, u, 0⟩ = (match dget S2.now s with | some i => dins (ddel S2.now s) u i | none => S2.now) := rfl
          simp only [kDo]
          rw [e]
          split
          · rw [dget_ins, if_neg hu, dget_del hsr, if_neg ht, h2.now]
          · rw [h2.now]
  · rw [kThen_1 e]; exact .inl ⟨hb, .inl e⟩
theorem syncdir_keeps (S : Dk) : Same S (kSyncDir S).2 ∧ (kSyncDir S).1 ≠ 0 ∨ ((kSyncDir S).1 = 0 ∧ (kSyncDir S).2.now = S.now ∧ Grow S.fl (kSyncDir S).2.fl ∧ (kSyncDir S).2.sure = S.now) := by
  have hb := same_begin S true
  unfold kSyncDir
  by_cases e : (dbegin S true).1 = 0
  · rw [kThen_0 e]
    generalize (dbegin S true).2 = S1 at hb
    have hf := same_falls S1 1
    unfold kFalls
    simp only
    split
    · exact .inl ⟨hb.trans hf, nz⟩
    · generalize (dfalls S1 1).2 = S2 at hf
      have h2 := hb.trans hf
      exact .inr ⟨rfl, h2.now, h2.grow, h2.now⟩
  · rw [kThen_1 e]; exact .inl ⟨hb, e⟩
theorem falls_down {S : Dk} {c : Int} (e : (dfalls S c).1 = none) : (dfalls S c).2.down = S.down := by
  unfold dfalls at e ⊢
  split
  · rfl
  · split
    · rfl
    · next h1 h2 => rw [if_neg h1, if_neg h2] at e; cases e
theorem sync_keeps {S : Dk} (D : DOk S) (s : ByteArray) : Same S (kSync S s).2 ∧ ((kSync S s).1 = 0 → (kRead (kSync S s).2 s).1 = 0 ∧ HeldOk (kSync S s).2 [(s, (kRead (kSync S s).2 s).2)]) := by
  have hb := same_begin S (nameOk s)
  unfold kSync
  by_cases e : (dbegin S (nameOk s)).1 = 0
  · rw [kThen_0 e]
    obtain ⟨_, hok, hdn⟩ := begin_up e
    have D1 := D.begin (nameOk s)
    generalize (dbegin S (nameOk s)).2 = S1 at hb hdn D1
    unfold kSync2
    split
    · exact ⟨hb, fun e => by cases e⟩
    · next i hi =>
      have hf := same_falls S1 1
      have D2 := D1.falls (cost := 1) (by decide)
      unfold kFalls
      split
      · exact ⟨hb.trans hf, fun e => by cases e⟩
      · next ef =>
        have hdn2 := falls_down ef
        generalize (dfalls S1 1).2 = S2 at hf D2 hdn2
        refine ⟨(hb.trans hf).trans (same_sureAll D2 i), fun _ => ?_⟩
        have hn : dget S2.now s = some i := by rw [hf.now]; exact hi
        have hlt := D2.now.i _ (dget_mem hn)
        simp only at hlt
        have hg : S2.fl[i]? = some S2.fl[i] := List.getElem?_eq_getElem hlt
        generalize S2.fl[i] = f at hg
        have es : sureAll S2 i = { S2 with fl := S2.fl.set i ⟨f.data, f.data.length⟩ } := by unfold sureAll; rw [hg]
        have hg2 : (S2.fl.set i ⟨f.data, f.data.length⟩)[i]? = some ⟨f.data, f.data.length⟩ := List.getElem?_set_self hlt
        have er : kRead (sureAll S2 i) s = (0, f.data) := by
          rw [es]
          unfold kRead
          simp only
          rw [if_neg (by rw [hdn2, hdn]; decide), if_neg (by rw [hok]; decide), hn]
          simp only [hg2]
        rw [er]
        refine ⟨rfl, fun x hx => ?_⟩
        rw [List.mem_singleton.1 hx]
        dsimp only
        rw [es]
        exact ⟨i, _, hn, hg2, List.prefix_refl _, Nat.le_refl _⟩
  · rw [kThen_1 e]
    exact ⟨hb, fun h => absurd h e⟩
theorem HeldOk.sync {S : Dk} {H : Held} {x : ByteArray × List UInt8} (h : HeldOk S H) (hx : HeldOk S [x]) : HeldOk S (H ++ [x]) := fun y hy => by
  rcases List.mem_append.1 hy with hy | hy
  · exact h y hy
  · exact hx y hy
/-- What a fall leaves of what is held. -/
theorem left_at (keep : List Int) : ∀ {l : List FileR} {i k : Nat} {f : FileR}, l[k]? = some f → (leftAll keep i l)[k]? = some (leftOf keep (i + k) f)
  | [], i, k, f, h => by simp at h
  | x :: l, i, 0, f, h => by simp at h; subst h; rfl
  | x :: l, i, k + 1, f, h => by
    simp only [List.getElem?_cons_succ] at h
    unfold leftAll
    rw [List.getElem?_cons_succ, left_at keep h]
    congr 2; omega
theorem held_left {S : Dk} (D : DOk S) {H : Held} (h : HeldOk S H) {keep : List Int} {dir : Int} (hd : (S.chg.length : Int) ≤ dir) {x : ByteArray × List UInt8} (hx : x ∈ H) : ∃ f ∈ kImage S dir keep, f.nm = x.1 ∧ x.2 <+: f.data := by
  obtain ⟨i, f, e1, e2, e3, e4⟩ := h x hx
  obtain ⟨k, hk⟩ := List.mem_iff_getElem?.1 (dget_mem e1)
  have hr : drest S dir = S.now := rest_all D hd
  have ht : (dtold S S.now)[k]? = some ⟨x.1, f.data, f.sure⟩ := by
    unfold dtold
    rw [List.getElem?_map, hk]
    simp only [Option.map_some, fileR, e2]
  have hl := left_at keep (i := 0) ht
  refine ⟨leftOf keep (0 + k) ⟨x.1, f.data, f.sure⟩, ?_, rfl, ?_⟩
  · unfold kImage; rw [hr]; exact List.mem_of_getElem? hl
  · unfold leftOf
    exact List.prefix_of_prefix_length_le e3 (List.take_prefix _ _) (by
      have h3 := e3.length_le
      dsimp only
      rw [List.length_take]
      omega)
end Go.Eng.Ytekflkpnpibneaa
end
section

set_option maxRecDepth 100000
set_option linter.unusedVariables false
open Go.Proofs
namespace Go.Eng.Ytekflkpnpibneaa
def F5.an : List (Nat × Ann) := [(2042, .loop [(10, .sl), (11, .sl), (12, .int .i64)] []), (65353, .join [(10, .sl), (11, .sl)] []), (65530, .loop [(21, .int .i64)] []), (2091326, .loop [(17, .int .i64)] []), (2096968, .order [0, 1, 2, 3, 4, 5, 6, 7, 8, 9, 10, 11]), (8365230, .order [0, 1, 2, 3, 4, 5, 6]), (133844882, .order [0, 1, 2, 3, 4, 5, 6, 7, 8, 9, 10, 11, 12, 13, 14, 15]), (535374827, .orderL [0, 1, 2, 4, 5, 6, 7, 3, 8, 9, 10] [8]), (535374842, .order [0, 1, 2, 4, 5, 3, 6, 7])]
def F5.G (T10 : PT) (T11 : Sl → Sl → PT) (T13 : Sl → Sl → PT) (T14 : Option Addr → PT) (T16 : Option Addr → Int → Sl → PT) (T18 : Option Addr → PT) (T19 : Int → Sl → PT) (T20 : Option Addr → ByteArray → PT) (T21 : Sl → ByteArray → PT) (T22 : Option Addr → ByteArray → Sl → PT) (T23 : Option Addr → ByteArray → PT) (T24 : Option Addr → ByteArray → PT) (T25 : Option Addr → ByteArray → ByteArray → PT) (T26 : Option Addr → ByteArray → PT) (T27 : Option Addr → PT) (T28 : Sl → PT) (T29 : Sl → Sl → PT) (T30 : Sl → ByteArray → PT) (T31 : Sl → Sl → PT) (T32 : Option Addr → Int → Sl → PT) (l : Sl) (n : Int) (l1 : Sl) : PT := fun h Q =>
  T10 h fun r h1 => ∃ b : Bool, r = .bool b ∧ parB b (T11 ⟨none, 0, 0⟩ l h1 fun r1 h2 => ∃ b1 : Bool, r1 = .bool b1 ∧ parB b1 (par ((120 : Int) < (l.n : Int)) (Q (.bool true) h2) (par ((100 : Int) < (l1.n : Int)) (Q (.bool true) h2) (T19 0 ⟨none, 0, 0⟩ h2 fun r2 h3 => ∃ p : Option Addr, ∃ n1 : Int, r2 = .tuple ⟨[.pointer p, .int .i64 n1]⟩ ∧ okPtr h3 p none ∧ par ((p : Option Addr) = none) (Q (.bool false) h3) (par (n1 = 0) (∃ (I : Sl → Sl → Int → Hp → Prop) (m : Sl → Sl → Int → Hp → Nat), I ⟨none, 0, 0⟩ ⟨none, 0, 0⟩ 0 h3 ∧ (∀ l2 : Sl, ∀ l3 : Sl, ∀ n2 : Int, ∀ h4 : Hp, I l2 l3 n2 h4 → par (n2 < (l.n : Int)) (∃ b2 o, (l.a : Option Addr) = some ⟨b2, o, none⟩ ∧ ((0 : Int) ≤ n2 ∧ n2 < (l.n : Int)) ∧ ∃ n3 : Int, h4.at b2 (o + n2.toNat * 8) = some (.int .i64 n3) ∧ ∃ s : ByteArray, h4.at b2 ((o + n2.toNat * 8) + 1) = some (.string s) ∧ ∃ s1 : ByteArray, h4.at b2 ((o + n2.toNat * 8) + 2) = some (.string s1) ∧ ∃ l4 : Sl, h4.at b2 ((o + n2.toNat * 8) + 3) = some (.slice l4.a l4.n l4.c) ∧ ∃ n4 : Int, h4.at b2 ((o + n2.toNat * 8) + 4) = some (.int .i64 n4) ∧ ∃ n5 : Int, h4.at b2 ((o + n2.toNat * 8) + 5) = some (.int .i64 n5) ∧ ∃ n6 : Int, h4.at b2 ((o + n2.toNat * 8) + 6) = some (.int .i64 n6) ∧ ∃ l5 : Sl, h4.at b2 ((o + n2.toNat * 8) + 7) = some (.slice l5.a l5.n l5.c) ∧ ∃ J : Sl → Sl → Hp → Prop, (∀ l6 : Sl, ∀ l7 : Sl, ∀ h5 : Hp, J l6 l7 h5 → T16 p 1099511627776 l1 h5 fun r3 h6 => ∃ l8 : Sl, r3 = .slice l8.a l8.n l8.c ∧ T16 p 0 l1 h6 fun r4 h7 => ∃ l9 : Sl, r4 = .slice l9.a l9.n l9.c ∧ T28 l9 h7 fun r5 h8 => ∃ l10 : Sl, r5 = .slice l10.a l10.n l10.c ∧ T29 l10 l7 h8 fun r6 h9 => ∃ b3 : Bool, r6 = .bool b3 ∧ parB b3 (T28 l8 h9 fun r7 h10 => ∃ l11 : Sl, r7 = .slice l11.a l11.n l11.c ∧ T14 p h10 fun r8 h11 => ∃ l12 : Sl, r8 = .slice l12.a l12.n l12.c ∧ T28 l12 h11 fun r9 h12 => ∃ l13 : Sl, r9 = .slice l13.a l13.n l13.c ∧ T29 l11 l13 h12 fun r10 h13 => ∃ b4 : Bool, r10 = .bool b4 ∧ parB b4 (∃ (I1 : Int → Hp → Prop) (m1 : Int → Hp → Nat), I1 0 h13 ∧ (∀ n7 : Int, ∀ h14 : Hp, I1 n7 h14 → par (n7 < (l6.n : Int)) (∃ b5 o1, (l6.a : Option Addr) = some ⟨b5, o1, none⟩ ∧ ((0 : Int) ≤ n7 ∧ n7 < (l6.n : Int)) ∧ ∃ s2 : ByteArray, h14.at b5 (o1 + n7.toNat * 2) = some (.string s2) ∧ T30 l8 s2 h14 fun r11 h15 => ∃ n8 : Int, r11 = .int .i64 n8 ∧ par (n8 < 0) (Q (.bool false) h15) (∃ b6 o2, (l6.a : Option Addr) = some ⟨b6, o2, none⟩ ∧ ((0 : Int) ≤ n7 ∧ n7 < (l6.n : Int)) ∧ ∃ l14 : Sl, h15.at b6 ((o2 + n7.toNat * 2) + 1) = some (.slice l14.a l14.n l14.c) ∧ ∃ b7 o3, (l8.a : Option Addr) = some ⟨b7, o3, none⟩ ∧ ((0 : Int) ≤ n8 ∧ n8 < (l8.n : Int)) ∧ ∃ l15 : Sl, h15.at b7 ((o3 + n8.toNat * 3) + 1) = some (.slice l15.a l15.n l15.c) ∧ T31 l14 l15 h15 fun r12 h16 => ∃ b8 : Bool, r12 = .bool b8 ∧ parB b8 (I1 (IntKind.wrap .i64 (n7 + 1)) h16 ∧ m1 (IntKind.wrap .i64 (n7 + 1)) h16 < m1 n7 h14) (Q (.bool false) h16))) (I l6 l7 (IntKind.wrap .i64 (n2 + 1)) h14 ∧ m l6 l7 (IntKind.wrap .i64 (n2 + 1)) h14 < m l2 l3 n2 h4))) (Q (.bool false) h13)) (Q (.bool false) h9)) ∧ (par (n3 = 1) (T20 p s h4 fun r13 h17 => ∃ n9 : Int, r13 = .int .i64 n9 ∧ par (n9 = 0) (T21 l2 s h17 fun r14 h18 => ∃ l16 : Sl, r14 = .slice l16.a l16.n l16.c ∧ J l16 l3 h18) (J l2 l3 h17)) (par (n3 = 2) (∃ vs, h4.row l4.a (l4.n * 1) vs ∧ (∀ v ∈ vs, Value.oneCell' v = true) ∧ appendD ⟨none, 0, 0⟩ 5 1 1 [.int .u8 0] l4.n vs h4 fun l17 h19 => T22 p s l17 h19 fun r15 h20 => ∃ n10 : Int, r15 = .int .i64 n10 ∧ J l2 l3 h20) (par (n3 = 3) (T23 p s h4 fun r16 h21 => ∃ n11 : Int, r16 = .int .i64 n11 ∧ par (n11 = 0) (T24 p s h21 fun r17 h22 => ∃ l18 : Sl, ∃ n12 : Int, r17 = .tuple ⟨[.slice l18.a l18.n l18.c, .int .i64 n12]⟩ ∧ par (n12 = 0) (T21 l2 s h22 fun r18 h23 => ∃ l19 : Sl, r18 = .slice l19.a l19.n l19.c ∧ ∀ b9, h23 b9 = none → ∃ vs1, (h23.new b9 (.cells ⟨[.string s, .slice l18.a l18.n l18.c]⟩ 52 (0, 0))).row (some ⟨b9, 0, none⟩) (1 * 2) vs1 ∧ (∀ v ∈ vs1, Value.oneCell' v = true) ∧ appendD l19 52 2 40 [.string (ByteArray.mk #[]), .slice none 0 0] 1 vs1 (h23.new b9 (.cells ⟨[.string s, .slice l18.a l18.n l18.c]⟩ 52 (0, 0))) fun l20 h24 => J l20 l3 h24) (Q (.bool false) h22)) (J l2 l3 h21)) (par (n3 = 4) (T25 p s s1 h4 fun r19 h25 => ∃ n13 : Int, r19 = .int .i64 n13 ∧ par (n13 = 0) (par (s = s1) (J l2 l3 h25) (T21 l2 s h25 fun r20 h26 => ∃ l21 : Sl, r20 = .slice l21.a l21.n l21.c ∧ T21 l21 s1 h26 fun r21 h27 => ∃ l22 : Sl, r21 = .slice l22.a l22.n l22.c ∧ J l22 l3 h27)) (J l2 l3 h25)) (par (n3 = 5) (T26 p s h4 fun r22 h28 => ∃ n14 : Int, r22 = .int .i64 n14 ∧ par (n14 = 0) (T21 l2 s h28 fun r23 h29 => ∃ l23 : Sl, r23 = .slice l23.a l23.n l23.c ∧ J l23 l3 h29) (J l2 l3 h28)) (par (n3 = 6) (T27 p h4 fun r24 h30 => ∃ n15 : Int, r24 = .int .i64 n15 ∧ par (n15 = 0) (T14 p h30 fun r25 h31 => ∃ l24 : Sl, r25 = .slice l24.a l24.n l24.c ∧ T28 l24 h31 fun r26 h32 => ∃ l25 : Sl, r26 = .slice l25.a l25.n l25.c ∧ J l2 l25 h32) (J l2 l3 h30)) (J l2 l3 h4)))))))) (∃ vs2, h4.row l1.a (l1.n * 1) vs2 ∧ (∀ v ∈ vs2, Value.oneCell' v = true) ∧ appendD ⟨none, 0, 0⟩ 3 1 8 [.int .i64 0] l1.n vs2 h4 fun l26 h33 => T16 p n l26 h33 fun r27 h34 => ∃ l27 : Sl, r27 = .slice l27.a l27.n l27.c ∧ ∃ vs3, h34.row l1.a (l1.n * 1) vs3 ∧ (∀ v ∈ vs3, Value.oneCell' v = true) ∧ appendD ⟨none, 0, 0⟩ 3 1 8 [.int .i64 0] l1.n vs3 h34 fun l28 h35 => T32 p n l28 h35 fun r28 h36 => T14 p h36 fun r29 h37 => ∃ l29 : Sl, r29 = .slice l29.a l29.n l29.c ∧ T13 l27 l29 h37 fun r30 h38 => ∃ b10 : Bool, r30 = .bool b10 ∧ parB b10 (T18 p h38 fun r31 h39 => ∃ b11 : Bool, r31 = .bool b11 ∧ parB b11 (Q (.bool false) h39) (∃ (I2 : Int → Hp → Prop) (m2 : Int → Hp → Nat), I2 0 h39 ∧ (∀ n16 : Int, ∀ h40 : Hp, I2 n16 h40 → par (n16 < (l29.n : Int)) (∃ b12 o4, (l29.a : Option Addr) = some ⟨b12, o4, none⟩ ∧ ((0 : Int) ≤ n16 ∧ n16 < (l29.n : Int)) ∧ ∃ n17 : Int, h40.at b12 ((o4 + n16.toNat * 3) + 2) = some (.int .i64 n17) ∧ ∃ b13 o5, (l29.a : Option Addr) = some ⟨b13, o5, none⟩ ∧ ((0 : Int) ≤ n16 ∧ n16 < (l29.n : Int)) ∧ ∃ l30 : Sl, h40.at b13 ((o5 + n16.toNat * 3) + 1) = some (.slice l30.a l30.n l30.c) ∧ par (n17 = (l30.n : Int)) (I2 (IntKind.wrap .i64 (n16 + 1)) h40 ∧ m2 (IntKind.wrap .i64 (n16 + 1)) h40 < m2 n16 h40) (Q (.bool false) h40)) (T16 p 0 ⟨none, 0, 0⟩ h40 fun r32 h41 => ∃ l31 : Sl, r32 = .slice l31.a l31.n l31.c ∧ T13 l31 l29 h41 fun r33 h42 => ∃ b14 : Bool, r33 = .bool b14 ∧ parB b14 (Q (.bool true) h42) (Q (.bool false) h42))))) (Q (.bool false) h38)))) (Q (.bool false) h3))))) (Q (.bool true) h2)) (Q (.bool false) h1)
def F5.T (l : Sl) (n : Int) (l1 : Sl) : PT := F5.G F10.T F11.T F13.T F14.T F16.T F18.T F19.T F20.T F21.T F22.T F23.T F24.T F25.T F26.T F27.T F28.T F29.T F30.T F31.T F32.T l n l1
theorem F5.gen (V : Value → List Value → PT) (T10 : PT) (T11 : Sl → Sl → PT) (T13 : Sl → Sl → PT) (T14 : Option Addr → PT) (T16 : Option Addr → Int → Sl → PT) (T18 : Option Addr → PT) (T19 : Int → Sl → PT) (T20 : Option Addr → ByteArray → PT) (T21 : Sl → ByteArray → PT) (T22 : Option Addr → ByteArray → Sl → PT) (T23 : Option Addr → ByteArray → PT) (T24 : Option Addr → ByteArray → PT) (T25 : Option Addr → ByteArray → ByteArray → PT) (T26 : Option Addr → ByteArray → PT) (T27 : Option Addr → PT) (T28 : Sl → PT) (T29 : Sl → Sl → PT) (T30 : Sl → ByteArray → PT) (T31 : Sl → Sl → PT) (T32 : Option Addr → Int → Sl → PT) (l : Sl) (n : Int) (l1 : Sl) : denF Try.prog [13] [(10, F10.W T10), (11, F11.W T11), (13, F13.W T13), (14, F14.W T14), (16, F16.W T16), (18, F18.W T18), (19, F19.W T19), (20, F20.W T20), (21, F21.W T21), (22, F22.W T22), (23, F23.W T23), (24, F24.W T24), (25, F25.W T25), (26, F26.W T26), (27, F27.W T27), (28, F28.W T28), (29, F29.W T29), (30, F30.W T30), (31, F31.W T31), (32, F32.W T32)] V F5.an Try.f5 [.v (.slice l.a l.n l.c), .v (.int .i64 n), .v (.slice l1.a l1.n l1.c)] = F5.G T10 T11 T13 T14 T16 T18 T19 T20 T21 T22 T23 T24 T25 T26 T27 T28 T29 T30 T31 T32 l n l1 := by kernel_rfl
theorem F5.den (V : Value → List Value → PT) (l : Sl) (n : Int) (l1 : Sl) : denF Try.prog [13] [(10, F10.V), (11, F11.V), (13, F13.V), (14, F14.V), (16, F16.V), (18, F18.V), (19, F19.V), (20, F20.V), (21, F21.V), (22, F22.V), (23, F23.V), (24, F24.V), (25, F25.V), (26, F26.V), (27, F27.V), (28, F28.V), (29, F29.V), (30, F30.V), (31, F31.V), (32, F32.V)] V F5.an Try.f5 [.v (.slice l.a l.n l.c), .v (.int .i64 n), .v (.slice l1.a l1.n l1.c)] = F5.T l n l1 := F5.gen V F10.T F11.T F13.T F14.T F16.T F18.T F19.T F20.T F21.T F22.T F23.T F24.T F25.T F26.T F27.T F28.T F29.T F30.T F31.T F32.T l n l1
def F5.W (T5 : Sl → Int → Sl → PT) (args : List Value) : PT := match args with
  | [.slice l_a l_n l_c, .int .i64 n, .slice l1_a l1_n l1_c] => T5 ⟨l_a, l_n, l_c⟩ n ⟨l1_a, l1_n, l1_c⟩
  | _ => fun _ _ => False
def F5.V : List Value → PT := F5.W F5.T
theorem F5.ok : FOk Try.prog 5 F5.V := by
  refine ⟨⟨_, Try.func5, rfl, rfl⟩, fun args => ?_⟩
  have hG : GOk Try.prog [(10, F10.V), (11, F11.V), (13, F13.V), (14, F14.V), (16, F16.V), (18, F18.V), (19, F19.V), (20, F20.V), (21, F21.V), (22, F22.V), (23, F23.V), (24, F24.V), (25, F25.V), (26, F26.V), (27, F27.V), (28, F28.V), (29, F29.V), (30, F30.V), (31, F31.V), (32, F32.V)] := GOk.cons F10.ok (GOk.cons F11.ok (GOk.cons F13.ok (GOk.cons F14.ok (GOk.cons F16.ok (GOk.cons F18.ok (GOk.cons F19.ok (GOk.cons F20.ok (GOk.cons F21.ok (GOk.cons F22.ok (GOk.cons F23.ok (GOk.cons F24.ok (GOk.cons F25.ok (GOk.cons F26.ok (GOk.cons F27.ok (GOk.cons F28.ok (GOk.cons F29.ok (GOk.cons F30.ok (GOk.cons F31.ok (GOk.cons F32.ok (GOk.nil))))))))))))))))))))
  have hV : VOk Try.prog noV := noV_ok
  unfold F5.V F5.W
  split
  · exact denF_okV hG hV Try.func5 (fun h Q hq => (F5.den _ _ _ _) ▸ hq)
  · exact fun h Q hq => hq.elim
end Go.Eng.Ytekflkpnpibneaa
end
section

/-
  SPECS OF THE DISK, 22: the law Keeps.
-/
set_option linter.unusedSimpArgs false
set_option linter.unusedVariables false
set_option maxRecDepth 100000
namespace Go.Eng.Ytekflkpnpibneaa
def hcell (x : Sl × (ByteArray × List UInt8)) : List Value := [.string x.2.1, .slice x.1.a x.1.n x.1.c]
def hV (L : List (Sl × (ByteArray × List UInt8))) : List Value := L.flatMap hcell
def nV (l : List ByteArray) : List Value := l.map .string
theorem hV_len (L : List (Sl × (ByteArray × List UInt8))) : (hV L).length = L.length * 2 := by
  unfold hV
  induction L with
  | nil => rfl
  | cons c l ih => rw [List.flatMap_cons, List.length_append, ih, List.length_cons]; show 2 + _ = _; omega
theorem hV_app (A B : List (Sl × (ByteArray × List UInt8))) : hV (A ++ B) = hV A ++ hV B := by unfold hV; simp
theorem hV_at : ∀ {l : List (Sl × (ByteArray × List UInt8))} {k r : Nat} {c : Sl × (ByteArray × List UInt8)}, l[k]? = some c → r < 2 → (hV l)[k * 2 + r]? = (hcell c)[r]?
  | [], k, r, c, h, _ => by simp at h
  | x :: l, 0, r, c, h, hr => by
    simp only [List.getElem?_cons_zero, Option.some.injEq] at h
    subst h
    show (hcell x ++ hV l)[0 * 2 + r]? = _
    rw [List.getElem?_append_left (by show _ < 2; omega)]
    congr 1; omega
  | x :: l, k + 1, r, c, h, hr => by
    simp only [List.getElem?_cons_succ] at h
    show (hcell x ++ hV l)[(k + 1) * 2 + r]? = _
    rw [List.getElem?_append_right (by show 2 ≤ _; omega), ← hV_at h hr]
    congr 1
    show (k + 1) * 2 + r - 2 = _
    omega
section
variable {g h h' h1 h2 : Hp} {A : PA} {S : Dk} {Q : Value → Hp → Prop}
theorem held_at {l : Sl} {L : List (Sl × (ByteArray × List UInt8))} {k : Nat} {x : Sl × (ByteArray × List UInt8)} (B : Buf h l 2 52 (hV L)) (hk : L[k]? = some x) : ∃ b, l.a = some ⟨b, 0, none⟩ ∧ ((0 : Int) ≤ (k : Int) ∧ (k : Int) < (l.n : Int)) ∧ h.at b (0 + (k : Int).toNat * 2) = some (.string x.2.1) ∧ h.at b ((0 + (k : Int).toNat * 2) + 1) = some (.slice x.1.a x.1.n x.1.c) := by
  have hl := B.len
  rw [hV_len] at hl
  have hkl := (List.getElem?_eq_some_iff.1 hk).1
  rcases B.own with ⟨ha, hc⟩ | ⟨b, c, f, ha, hb, hsz, hf, ht⟩
  · have := B.cap; omega
  · obtain ⟨b', o', ha', hat⟩ := row_get B.row (i := k * 2) (by omega)
    rw [ha] at ha'
    simp only [Option.some.injEq, Addr.mk.injEq, and_true] at ha'
    obtain ⟨rfl, rfl⟩ := ha'
    refine ⟨b, ha, ⟨by omega, by omega⟩, ?_, ?_⟩
    · have h1 := hat (k * 2 + 0) (by omega)
      rw [hV_at hk (by omega)] at h1
      rw [Int.toNat_natCast]; exact h1
    · have h1 := hat (k * 2 + 1) (by omega)
      rw [hV_at hk (by omega)] at h1
      rw [Int.toNat_natCast, Nat.add_assoc]; exact h1
theorem gone_s {l : Sl} {L : List (Sl × (ByteArray × List UInt8))} {s : ByteArray} (B : Buf h l 2 52 (hV L)) (hL : L.length ≤ 1000) (hQ : ∀ h' r, Keep h h' → Buf h' r 2 52 (hV (L.filter fun x => !decide (x.2.1 = s))) → NewN h r → Q (.slice r.a r.n r.c) h') : F21.T l s h Q := by
  have hln : l.n = L.length := by have := B.len; rw [hV_len] at this; omega
  refine ⟨fun l1 n h1 => ∃ k : Nat, n = (k : Int) ∧ k ≤ L.length ∧ Keep h h1 ∧ Buf h1 l1 2 52 (hV ((L.take k).filter fun x => !decide (x.2.1 = s))) ∧ NewN h l1, fun _ n _ => L.length - n.toNat, ⟨0, rfl, Nat.zero_le _, Keep.refl _, Buf.nil _ _ _, NewN.nil _⟩, ?_⟩
  rintro l1 n h1 ⟨k, rfl, hk, K1, B1, N1⟩
  refine ⟨fun hlt => ?_, fun hge => ?_⟩
  · have hget : L[k]? = some L[k] := List.getElem?_eq_getElem (by omega)
    generalize L[k] = x at hget
    obtain ⟨b, ha, hr, g0, g1⟩ := held_at (B.keep K1) hget
    have htk : L.take (k + 1) = L.take k ++ [x] := by rw [List.take_add_one, hget]; rfl
    have hfl : ((L.take k).filter fun x => !decide (x.2.1 = s)).length ≤ 1000 := by
      have h1 := List.length_filter_le (fun x : Sl × (ByteArray × List UInt8) => !decide (x.2.1 = s)) (L.take k)
      rw [List.length_take] at h1; omega
    have hl1 : l1.n = ((L.take k).filter fun x => !decide (x.2.1 = s)).length := by have := B1.len; rw [hV_len] at this; omega
    rw [inc_i (n := 1000000) (by omega) (by omega)]
    refine ⟨b, 0, ha, hr, x.2.1, g0, fun hs => ?_, fun hs => ⟨b, 0, ha, hr, x.2.1, g0, x.1, g1, ?_⟩⟩
    · refine ⟨⟨k + 1, rfl, by omega, K1, ?_, N1⟩, by dsimp only; omega⟩
      rw [htk, List.filter_append]
      simpa [hs] using B1
    · refine append_buf (us := [.string x.2.1, .slice x.1.a x.1.n x.1.c]) B1 rfl rfl (by omega) fun l3 h3 B3 _ U3 => ?_
      obtain ⟨K3, N3⟩ := NewN.upd K1 N1 U3
      refine ⟨⟨k + 1, rfl, by omega, K3, ?_, N3⟩, by dsimp only; omega⟩
      rw [htk, List.filter_append, hV_app]
      have : ([x] : List (Sl × (ByteArray × List UInt8))).filter (fun x => !decide (x.2.1 = s)) = [x] := by simp [hs]
      rw [this]
      exact B3
  · have : k = L.length := by omega
    subst this
    rw [List.take_length] at B1
    exact hQ h1 l1 K1 B1 N1
theorem file_at {r : Sl} {L : List (Sl × FileR)} {k : Nat} {x : Sl × FileR} (B : Buf h r 3 60 (fV L)) (hk : L[k]? = some x) : ∃ b, r.a = some ⟨b, 0, none⟩ ∧ ((0 : Int) ≤ (k : Int) ∧ (k : Int) < (r.n : Int)) ∧ h.at b (0 + (k : Int).toNat * 3) = some (.string x.2.nm) ∧ h.at b ((0 + (k : Int).toNat * 3) + 1) = some (.slice x.1.a x.1.n x.1.c) ∧ h.at b ((0 + (k : Int).toNat * 3) + 2) = some (.int .i64 (x.2.sure : Int)) := by
  obtain ⟨X1, X2, rfl, rfl⟩ : ∃ X1 X2, L = X1 ++ x :: X2 ∧ X1.length = k := by
    have hkl := (List.getElem?_eq_some_iff.1 hk)
    refine ⟨L.take k, L.drop (k + 1), ?_, by rw [List.length_take]; have := hkl.1; omega⟩
    have e := List.take_append_drop k L
    rw [List.drop_eq_getElem_cons hkl.1, hkl.2] at e
    exact e.symm
  obtain ⟨b, h1, h2, h3, h4, h5, _⟩ := rec_at B
  exact ⟨b, h1, h2, h3, h4, h5⟩
theorem nV_one (l : List ByteArray) : (nV l).length = l.length := List.length_map _
theorem names_s {l : Sl} {L : List (Sl × FileR)} (B : Buf h l 3 60 (fV L)) (hL : L.length ≤ 100000000) (hQ : ∀ h' r, Keep h h' → Buf h' r 1 9 (nV (L.map (·.2.nm))) → NewN h r → Q (.slice r.a r.n r.c) h') : F28.T l h Q := by
  have hln : l.n = L.length := by have := B.len; rw [fV_len] at this; omega
  refine ⟨fun l1 n h1 => ∃ k : Nat, n = (k : Int) ∧ k ≤ L.length ∧ Keep h h1 ∧ Buf h1 l1 1 9 (nV ((L.take k).map (·.2.nm))) ∧ NewN h l1, fun _ n _ => L.length - n.toNat, ⟨0, rfl, Nat.zero_le _, Keep.refl _, Buf.nil _ _ _, NewN.nil _⟩, ?_⟩
  rintro l1 n h1 ⟨k, rfl, hk, K1, B1, N1⟩
  refine ⟨fun hlt => ?_, fun hge => ?_⟩
  · have hget : L[k]? = some L[k] := List.getElem?_eq_getElem (by omega)
    generalize L[k] = x at hget
    obtain ⟨b, ha, hr, g0, _, _⟩ := file_at (B.keep K1) hget
    have htk : L.take (k + 1) = L.take k ++ [x] := by rw [List.take_add_one, hget]; rfl
    have hl1 : l1.n = k := by have := B1.len; rw [nV_one, List.length_map, List.length_take] at this; omega
    rw [inc_i (n := 1000000000) (by omega) (by omega)]
    refine ⟨b, 0, ha, hr, x.2.nm, g0, ?_⟩
    refine append_buf (us := [.string x.2.nm]) B1 rfl rfl (by omega) fun l3 h3 B3 _ U3 => ?_
    obtain ⟨K3, N3⟩ := NewN.upd K1 N1 U3
    refine ⟨⟨k + 1, rfl, by omega, K3, ?_, N3⟩, by dsimp only; omega⟩
    rw [htk, List.map_append]
    unfold nV at B3 ⊢
    rw [List.map_append]
    exact B3
  · have : k = L.length := by omega
    subst this
    rw [List.take_length] at B1
    exact hQ h1 l1 K1 B1 N1
theorem texts_s {l l1 : Sl} {v : List ByteArray} (B : Buf h l 1 9 (nV v)) (B1 : Buf h l1 1 9 (nV v)) (hv : v.length ≤ 100000000) (hQ : Q (.bool true) h) : F29.T l l1 h Q := by
  have hn : l.n = v.length := by have := B.len; rw [nV_one] at this; omega
  have hn1 : l1.n = v.length := by have := B1.len; rw [nV_one] at this; omega
  refine ⟨fun _ => ⟨fun n g1 => g1 = h ∧ ∃ k : Nat, n = (k : Int) ∧ k ≤ v.length, fun n _ => v.length - n.toNat, ⟨rfl, 0, rfl, Nat.zero_le _⟩, ?_⟩, fun hne => absurd (by omega) hne⟩
  rintro n g1 ⟨rfl, k, rfl, hk⟩
  refine ⟨fun hlt => ?_, fun _ => hQ⟩
  have hkv : k < v.length := by omega
  obtain ⟨b, o, ha, hat⟩ := row_get B.row (i := k) (by omega)
  obtain ⟨b', o', ha', hat'⟩ := row_get B1.row (i := k) (by omega)
  have hg : v[k]? = some v[k] := List.getElem?_eq_getElem hkv
  have hgv : (nV v)[k]? = some (.string v[k]) := by unfold nV; rw [List.getElem?_map, hg]; rfl
  refine ⟨b, o, ha, ⟨by omega, hlt⟩, v[k], ?_, b', o', ha', ⟨by omega, by omega⟩, v[k], ?_, fun _ => ?_, fun hne => absurd rfl hne⟩
  · rw [Int.toNat_natCast, hat _ (by omega), hgv]
  · rw [Int.toNat_natCast, hat' _ (by omega), hgv]
  · rw [inc_i (n := 2000000000) (by omega) (by omega)]
    exact ⟨⟨rfl, k + 1, rfl, by omega⟩, by dsimp only; omega⟩
theorem at_s {l : Sl} {L : List (Sl × FileR)} {s : ByteArray} (B : Buf h l 3 60 (fV L)) (hL : L.length ≤ 100000000) (hs : ∃ x ∈ L, x.2.nm = s) (hQ : ∀ (k : Nat) (x : Sl × FileR), L[k]? = some x → x.2.nm = s → Q (.int .i64 (k : Int)) h) : F30.T l s h Q := by
  have hln : l.n = L.length := by have := B.len; rw [fV_len] at this; omega
  refine ⟨fun n h1 => h1 = h ∧ ∃ k : Nat, n = (k : Int) ∧ k ≤ L.length ∧ ∃ x ∈ L.drop k, x.2.nm = s, fun n _ => L.length - n.toNat, ⟨rfl, 0, rfl, Nat.zero_le _, hs⟩, ?_⟩
  rintro n h1 ⟨rfl, k, rfl, hk, x, hx, hxs⟩
  refine ⟨fun hlt => ?_, fun hge => ?_⟩
  · have hget : L[k]? = some L[k] := List.getElem?_eq_getElem (by omega)
    have hd : L.drop k = L[k] :: L.drop (k + 1) := List.drop_eq_getElem_cons (by omega)
    generalize L[k] = y at hget hd
    obtain ⟨b, ha, hr, g0, _, _⟩ := file_at B hget
    refine ⟨b, 0, ha, hr, y.2.nm, g0, fun e => hQ k y hget e, fun hne => ?_⟩
    rw [inc_i (n := 1000000000) (by omega) (by omega)]
    rw [hd] at hx
    rcases List.mem_cons.1 hx with rfl | hx
    · exact absurd hxs hne
    · exact ⟨⟨rfl, k + 1, rfl, by omega, x, hx, hxs⟩, by dsimp only; omega⟩
  · have : k = L.length := by omega
    subst this
    rw [List.drop_length] at hx; cases hx
theorem prefix_s {l l1 : Sl} {v w : List UInt8} (B : Buf h l 1 5 (bl v)) (B1 : Buf h l1 1 5 (bl w)) (hp : v <+: w) (hQ : Q (.bool true) h) : F31.T l l1 h Q := by
  have hn : l.n = v.length := by have := B.len; rw [bl_len] at this; omega
  have hn1 : l1.n = w.length := by have := B1.len; rw [bl_len] at this; omega
  have hle := hp.length_le
  refine ⟨fun _ => ?_, fun hne => absurd (by omega) hne⟩
  obtain ⟨hc, vs, hrow, _, hvs, hcn⟩ := take_row (n := (l.n : Int)) B1 (by omega) (by omega)
  have hw : w.take l.n = v := by rw [hn]; exact (List.prefix_iff_eq_take.1 hp).symm
  refine ⟨hc, ba v, ?_, ba v, ?_, fun _ => hQ, fun hne => absurd rfl hne⟩
  · rw [bytesV_ba]
    rw [hvs, Int.toNat_natCast, hw] at hrow
    exact row1 hrow
  · rw [bytesV_ba]; exact row1 B.row
/-! ### The loop -/
structure KH (g h : Hp) (A : PA) (S : Dk) (n : Nat) (l2 l3 : Sl) (H : List (Sl × (ByteArray × List UInt8))) : Prop where
  X : PN g h A S
  D : DN n S
  hb : Buf h l2 2 52 (hV H)
  hn : ∀ k, inS l2 k → ¬ A.own k
  hd : ∀ x ∈ H, Buf h x.1 1 5 (bl x.2.2) ∧ ∀ k, inS x.1 k → ¬ A.own k
  hl : H.length ≤ n
  db : Buf h l3 1 9 (nV (S.sure.map (·.1)))
  dn : ∀ k, inS l3 k → ¬ A.own k
  ok : HeldOk S (H.map (·.2))
variable {n : Nat} {l2 l3 : Sl} {H : List (Sl × (ByteArray × List UInt8))}
theorem KH.keep (K : KH g h A S n l2 l3 H) (k : Keep h h') : KH g h' A S n l2 l3 H := ⟨K.X.keep k, K.D, K.hb.keep k, K.hn, fun x hx => ⟨(K.hd x hx).1.keep k, (K.hd x hx).2⟩, K.hl, K.db.keep k, K.dn, K.ok⟩
/-- The disk has done a call. -/
theorem KH.disk (K : KH g h A S n l2 l3 H) {A' : PA} {S' : Dk} (P' : PD h' A' S') (T : Tr2 A.own A'.own h h') {m : Nat} (hm : n ≤ m) (D' : DN m S') (es : S'.sure = S.sure) (ok : HeldOk S' (H.map (·.2))) : KH g h' A' S' m l2 l3 H := by
  have nw : ∀ {s : Sl} {sz t : Nat} {vs : List Value}, Buf h s sz t vs → (∀ k, inS s k → ¬ A.own k) → ∀ k, inS s k → ¬ A'.own k := fun B hn k hk ho => by
    rcases T.grow k ho with h1 | h1
    · exact hn k hk h1
    · obtain ⟨c, f, e⟩ := buf_alive B hk; rw [h1] at e; cases e
  have mv : ∀ {s : Sl} {sz t : Nat} {vs : List Value}, Buf h s sz t vs → (∀ k, inS s k → ¬ A.own k) → Buf h' s sz t vs := fun B hn => buf_mono B fun k x hk e => T.keep k x (hn k hk) e
  exact ⟨K.X.step P' T, D', mv K.hb K.hn, nw K.hb K.hn, fun x hx => ⟨mv (K.hd x hx).1 (K.hd x hx).2, nw (K.hd x hx).1 (K.hd x hx).2⟩, Nat.le_trans K.hl hm, by rw [es]; exact mv K.db K.dn, nw K.db K.dn, ok⟩
theorem new_free (P : PD h A S) {s : Sl} (N : NewN h s) : ∀ k, inS s k → ¬ A.own k := fun k hk ho => by
  obtain ⟨o, e⟩ := P.alive ho
  rw [newN_in N hk] at e; cases e
theorem KH.set (K : KH g h A S n l2 l3 H) (k : Keep h h') {l4 : Sl} {H' : List (Sl × (ByteArray × List UInt8))} (B : Buf h' l4 2 52 (hV H')) (N : NewN h l4) (hd : ∀ x ∈ H', Buf h' x.1 1 5 (bl x.2.2) ∧ ∀ k, inS x.1 k → ¬ A.own k) (hl : H'.length ≤ n) (ok : HeldOk S (H'.map (·.2))) : KH g h' A S n l4 l3 H' :=
  ⟨K.X.keep k, K.D, B, new_free K.X.P N, hd, hl, K.db.keep k, K.dn, ok⟩
theorem map_gone (H : List (Sl × (ByteArray × List UInt8))) (s : ByteArray) : (H.filter fun x => !decide (x.2.1 = s)).map (·.2) = goneH (H.map (·.2)) s := by
  unfold goneH
  rw [List.filter_map]
  rfl
theorem gone_sub {H : List (Sl × (ByteArray × List UInt8))} {s : ByteArray} {x : Sl × (ByteArray × List UInt8)} (h : x ∈ H.filter fun x => !decide (x.2.1 = s)) : x ∈ H := (List.mem_filter.1 h).1
theorem FA.move {g h h' : Hp} {r : Sl} {L : List (Sl × FileR)} (F : FA g h r L) (m : ∀ k x, g k = none → h k = some x → h' k = some x) : FA g h' r L :=
  ⟨buf_mono F.b fun k x hk e => m k x (newN_in F.n hk) e, F.n, fun x hx => ⟨buf_mono (F.d x hx).1 fun k y hk e => m k y (newN_in (F.d x hx).2 hk) e, (F.d x hx).2⟩, F.dj⟩
theorem nameOk_lenP {n : Nat} {S : Dk} (D : DN n S) (hn : n ≤ 100000000) : S.chg.length ≤ 1000000000 := by have := D.c; omega
theorem nm_one : ∀ {l : List FileR}, (l.Pairwise fun f g => Bl f.nm g.nm) → ∀ {f g : FileR}, f ∈ l → g ∈ l → f.nm = g.nm → f = g
  | [], _, _, _, h, _, _ => by cases h
  | x :: l, hs, f, g, hf, hg, e => by
    obtain ⟨h1, h2⟩ := List.pairwise_cons.1 hs
    rcases List.mem_cons.1 hf with h3 | h3
    · rcases List.mem_cons.1 hg with h4 | h4
      · rw [h3, h4]
      · have := h1 g h4; rw [← h3, e] at this; exact absurd this Bl.irr
    · rcases List.mem_cons.1 hg with h4 | h4
      · have := h1 f h3; rw [← h4, e] at this; exact absurd this Bl.irr
      · exact nm_one h2 h3 h4 e
/-- A call that takes a name's file away, or makes one; its bytes are struck off. -/
theorem kh_gone (Z : KH g h A S n l2 l3 H) {A5 : PA} {S5 : Dk} {h5 h6 : Hp} {s : ByteArray} (P5 : PD h5 A5 S5) (T5 : Tr2 A.own A5.own h h5) (D5 : DN (n + 1) S5) (hsr : S5.sure = S.sure) (hnm : ∀ y ∈ H.map (·.2), y.1 ≠ s → dget S5.now y.1 = dget S.now y.1) (hG : Grow S.fl S5.fl) (K6 : Keep h5 h6) {r6 : Sl} (B6 : Buf h6 r6 2 52 (hV (H.filter fun x => !decide (x.2.1 = s)))) (N6 : NewN h5 r6) :
    KH g h6 A5 S5 (n + 1) r6 l3 (H.filter fun x => !decide (x.2.1 = s)) := by
  have own5 : ∀ {s : Sl} {sz t : Nat} {vs : List Value}, Buf h s sz t vs → (∀ k, inS s k → ¬ A.own k) → ∀ k, inS s k → ¬ A5.own k := fun B hn k hk ho => by
    rcases T5.grow k ho with h1 | h1
    · exact hn k hk h1
    · obtain ⟨c, f, e⟩ := buf_alive B hk; rw [h1] at e; cases e
  have mv5 : ∀ {s : Sl} {sz t : Nat} {vs : List Value}, Buf h s sz t vs → (∀ k, inS s k → ¬ A.own k) → Buf h6 s sz t vs := fun B hn => (buf_mono B fun k x hk e => T5.keep k x (hn k hk) e).keep K6
  refine ⟨(Z.X.step P5 T5).keep K6, D5, B6, new_free P5 N6, fun y hy => ⟨mv5 (Z.hd y (gone_sub hy)).1 (Z.hd y (gone_sub hy)).2, own5 (Z.hd y (gone_sub hy)).1 (Z.hd y (gone_sub hy)).2⟩, ?_, by rw [hsr]; exact mv5 Z.db Z.dn, own5 Z.db Z.dn, ?_⟩
  · have h1 := List.length_filter_le (fun x : Sl × (ByteArray × List UInt8) => !decide (x.2.1 = s)) H
    have := Z.hl
    omega
  · rw [map_gone]
    exact HeldOk.grow (S := S) (Z.ok.sub fun y hy => (mem_goneH hy).1) hG fun y hy => hnm y (mem_goneH hy).1 (mem_goneH hy).2
theorem keeps_s {l l1 : Sl} {dir : Int} {O : List OpR} {keep : List Int} (R1 : OA h l O) (hO : O.length ≤ 140737488355328) (hkeep : h.row l1.a (l1.n * 1) (keep.map fun k => Value.int .i64 k)) (hQ : ∀ h', Keep h h' → Q (.bool true) h') : F5.T l dir l1 h Q := by
  have R0 : ∀ h : Hp, RA h ⟨none, 0, 0⟩ [] := fun h => ⟨⟨rfl, .inl rfl⟩, fun x hx => by cases hx⟩
  have hln := R1.len
  have hln1 : l1.n = keep.length := by have := hkeep.1; rw [List.length_map] at this; omega
  unfold F5.T F5.G
  refine known_s fun h1 K1 => ⟨true, rfl, fun _ => ?_, fun e => (by cases e)⟩
  refine small_s (R0 h1) (R1.keep K1) (fun x hx => by cases hx) (by decide) hO ⟨false, rfl, fun e => (by cases e), fun _ => hQ h1 K1⟩ (fun _ sO sn => ⟨true, rfl, fun _ => ⟨fun _ => hQ h1 K1, fun h120 => ⟨fun _ => hQ h1 K1, fun h100 => ?_⟩⟩, fun e => (by cases e)⟩)
  refine new_p (R0 h1) (by decide) (fun x hx => by cases hx) (fun hno => by rw [show newOk 0 (([] : List (Sl × RawF)).map (·.2)) = true from rn0] at hno; cases hno) (fun _ h2 A0 K2 n2 P2 => ⟨_, 0, rfl, okPtr_none _ _, fun he => (by cases he), fun _ => ⟨fun _ => ?_, fun hne => absurd rfl hne⟩⟩)
  have X2 : PN h1 h2 A0 sa0 := ⟨P2, K2, n2⟩
  have k0 : KH h1 h2 A0 sa0 0 ⟨none, 0, 0⟩ ⟨none, 0, 0⟩ [] := ⟨X2, da0, Buf.nil _ _ _, fun k hk => absurd hk (inS_nil k), fun x hx => (by cases hx), Nat.le_refl _, Buf.nil _ _ _, fun k hk => absurd hk (inS_nil k), fun x hx => (by cases hx)⟩
  refine ⟨fun l2 l3 m h4 => ∃ (k : Nat) (A : PA) (S : Dk) (H : List (Sl × (ByteArray × List UInt8))), m = (k : Int) ∧ k ≤ O.length ∧ A.db = A0.db ∧ KH h1 h4 A S k l2 l3 H, fun _ _ m _ => O.length - m.toNat, ⟨0, A0, _, [], rfl, Nat.zero_le _, rfl, k0⟩, ?_⟩
  rintro l2 l3 m h4 ⟨k, A, S, H, rfl, hk, eA, Z⟩
  have hcl := nameOk_lenP Z.D (by omega)
  rw [← eA]
  refine ⟨fun hlt => ?_, fun hge => ?_⟩
  · have hget : O[k]? = some O[k] := List.getElem?_eq_getElem (by omega)
    generalize O[k] = x at hget
    have hm := List.mem_of_getElem? hget
    have R4 := (R1.keep K1).keep Z.X.K
    obtain ⟨b, o, ha, hr, hat⟩ := R4.at hget
    have hd := R4.d x hm
    have hz := R1.z x hm
    have hs := sO x hm
    have hxn : x.d.n = x.o.data.length := by have := hd.1.1; rw [bl_len] at this; omega
    have hH : H.length ≤ 1000 := by have := Z.hl; omega
    refine ⟨b, o, ha, hr, x.o.kind, hat 0 (by omega), x.o.nm, hat 1 (by omega), x.o.to, hat 2 (by omega), x.d, hat 3 (by omega), x.o.a, hat 4 (by omega), x.o.b, hat 5 (by omega), x.o.c, hat 6 (by omega), x.k, hat 7 (by omega), ?_⟩
    refine ⟨fun l6 l7 h5 => ∃ (A' : PA) (S' : Dk) (H' : List (Sl × (ByteArray × List UInt8))), A'.db = A.db ∧ KH h1 h5 A' S' (k + 1) l6 l7 H', ?_, ?_⟩
    · rintro l6 l7 h5 ⟨A', S', H', eA', Y⟩
      rw [← eA']
      have hcl' := nameOk_lenP Y.D (by omega)
      have hkeep5 : h5.row l1.a (l1.n * 1) (keep.map fun k => Value.int .i64 k) := (K1.trans Y.X.K).row hkeep
      have hlen := Y.D.ok.len
      refine image_p Y.X.P Y.D.ok hcl' hkeep5 fun h6 r6 L6 K6 F6 e6 => ⟨r6, rfl, ?_⟩
      have Y6 := Y.keep K6
      refine image_p Y6.X.P Y.D.ok hcl' (K6.row hkeep5) fun h7 r7 L7 K7 F7 e7 => ⟨r7, rfl, ?_⟩
      have hi6 := (image_ok Y.D.ok 1099511627776 keep).1
      have hi7 := (image_ok Y.D.ok 0 keep).1
      have l6n : L6.length ≤ 8388608 := by rw [← e6, List.length_map] at hi6; exact hi6
      have l7n : L7.length ≤ 8388608 := by rw [← e7, List.length_map] at hi7; exact hi7
      have nm6 : L6.map (·.2.nm) = S'.now.map (·.1) := by
        have : L6.map (·.2.nm) = (L6.map (·.2)).map (·.nm) := by rw [List.map_map]; rfl
        rw [this, e6, image_nm, rest_all Y.D.ok (by omega)]
      have nm7 : L7.map (·.2.nm) = S'.sure.map (·.1) := by
        have : L7.map (·.2.nm) = (L7.map (·.2)).map (·.nm) := by rw [List.map_map]; rfl
        rw [this, e7, image_nm, rest_none (by omega)]
      refine names_s F7.b (by omega) fun h8 r8 K8 B8 N8 => ⟨r8, rfl, ?_⟩
      have Y8 := (Y6.keep K7).keep K8
      rw [nm7] at B8
      have l7s : (S'.sure.map (·.1)).length ≤ 100000000 := by rw [← nm7, List.length_map]; omega
      refine texts_s B8 Y8.db l7s ⟨true, rfl, fun _ => ?_, fun e => (by cases e)⟩
      refine names_s ((F6.keep (K7.trans K8)).b) (by omega) fun h10 r10 K10 B10 N10 => ⟨r10, rfl, ?_⟩
      have Y10 := Y8.keep K10
      refine files_p Y10.X.P Y.D.ok fun h11 r11 L11 K11 F11 e11 => ⟨r11, rfl, ?_⟩
      have l11 : L11.length ≤ 8388608 := by have h1 := congrArg List.length e11; unfold dtold at h1; simp only [List.length_map] at h1; omega
      have nm11 : L11.map (·.2.nm) = S'.now.map (·.1) := by
        have : L11.map (·.2.nm) = (L11.map (·.2)).map (·.nm) := by rw [List.map_map]; rfl
        rw [this, e11]
        unfold dtold
        rw [List.map_map]
        refine List.map_congr_left fun y _ => ?_
        show (fileR S' y).nm = y.1
        unfold fileR
        split <;> rfl
      refine names_s F11.b (by omega) fun h12 r12 K12 B12 N12 => ⟨r12, rfl, ?_⟩
      have Y12 := (Y10.keep K11).keep K12
      rw [nm11] at B12
      rw [nm6] at B10
      refine texts_s (B10.keep (K11.trans K12)) B12 (by rw [List.length_map]; omega) ⟨true, rfl, fun _ => ?_, fun e => (by cases e)⟩
      have F12 : FA h5 h12 r6 L6 := F6.keep (K7.trans (K8.trans (K10.trans (K11.trans K12))))
      have hyl := Y.hl
      have hhl : l6.n = H'.length := by have := Y.hb.len; rw [hV_len] at this; omega
      refine ⟨fun m7 h14 => h14 = h12 ∧ ∃ j : Nat, m7 = (j : Int) ∧ j ≤ H'.length, fun m7 _ => H'.length - m7.toNat, ⟨rfl, 0, rfl, Nat.zero_le _⟩, ?_⟩
      rintro m7 h14 ⟨rfl, j, rfl, hj⟩
      refine ⟨fun hjl => ?_, fun _ => ?_⟩
      · have hgj : H'[j]? = some H'[j] := List.getElem?_eq_getElem (by omega)
        generalize H'[j] = y at hgj
        have hmy := List.mem_of_getElem? hgj
        obtain ⟨b5, hb5, hr5, q0, q1⟩ := held_at Y12.hb hgj
        obtain ⟨f, hf, hfn, hfp⟩ := held_left Y.D.ok Y.ok (keep := keep) (dir := 1099511627776) (by omega) (List.mem_map_of_mem (f := (·.2)) hmy)
        obtain ⟨z, hz, ez⟩ : ∃ z ∈ L6, z.2 = f := by rw [← e6] at hf; obtain ⟨z, h1, h2⟩ := List.mem_map.1 hf; exact ⟨z, h1, h2⟩
        refine ⟨b5, 0, hb5, hr5, y.2.1, q0, at_s F12.b (by omega) ⟨z, hz, by rw [ez, hfn]⟩ fun i w hi hw => ⟨_, rfl, fun hneg => absurd hneg (by omega), fun _ => ?_⟩⟩
        have hwm := List.mem_of_getElem? hi
        have hwf : w.2 = f := by
          have hs6 := image_srt Y.D.ok 1099511627776 keep
          rw [← e6] at hs6
          have h1 : w.2 ∈ L6.map (·.2) := List.mem_map_of_mem hwm
          have h2 : f ∈ L6.map (·.2) := by rw [← ez]; exact List.mem_map_of_mem hz
          exact nm_one hs6 h1 h2 (by rw [hw, hfn])
        obtain ⟨b7, hb7, hr7, q2, q3, _⟩ := file_at F12.b hi
        refine ⟨b5, 0, hb5, hr5, y.1, q1, b7, 0, hb7, hr7, w.1, q3, prefix_s (Y12.hd y hmy).1 (F12.d w hwm).1 (by rw [hwf]; exact hfp) ⟨true, rfl, fun _ => ?_, fun e => (by cases e)⟩⟩
        rw [inc_i (n := 1000000) (by omega) (by omega)]
        exact ⟨⟨rfl, j + 1, rfl, by omega⟩, by dsimp only; omega⟩
      · rw [inc_i (n := 1000000) (by omega) (by omega)]
        exact ⟨⟨k + 1, A', S', H', rfl, by omega, rfl, Y12⟩, by dsimp only; omega⟩
    -- the call
    have up : KH h1 h4 A S (k + 1) l2 l3 H := ⟨Z.X, Z.D.mono (Nat.le_succ _), Z.hb, Z.hn, Z.hd, Nat.le_succ_of_le Z.hl, Z.db, Z.dn, Z.ok⟩
    refine ⟨fun _ => ?_, fun _ => ⟨fun _ => ?_, fun _ => ⟨fun _ => ?_, fun _ => ⟨fun _ => ?_, fun _ => ⟨fun _ => ?_, fun _ => ⟨fun _ => ?_, fun _ => ⟨A, S, H, rfl, up⟩⟩⟩⟩⟩⟩⟩
    · refine create_p Z.X.P Z.D.ok hz.1 hcl fun h5 A5 e5 P5 T5 => ⟨_, rfl, ?_⟩
      rcases create_keeps S x.o.nm with ⟨hS, hne⟩ | ⟨he, hG, hsr, hnm⟩
      · exact ⟨fun e => absurd e hne, fun _ => ⟨A5, _, H, e5, Z.disk P5 T5 (Nat.le_succ _) (Z.D.create _) hS.sure (Z.ok.same hS)⟩⟩
      · refine ⟨fun _ => ?_, fun hne => absurd he hne⟩
        have bH : Buf h5 l2 2 52 (hV H) := buf_mono Z.hb fun k x hk e => T5.keep k x (Z.hn k hk) e
        refine gone_s bH hH fun h6 r6 K6 B6 N6 => ⟨r6, rfl, A5, _, _, e5, kh_gone Z P5 T5 (Z.D.create _) hsr (fun y hy hny => hnm y.1 hny) hG K6 B6 N6⟩
    · refine copy_any hd.1 (bl_one _) rfl (by omega) fun h5 l5 K5 B5 N5 => ?_
      have Z5 := Z.keep K5
      refine append_p Z5.X.P Z.D.ok hz.1 B5 (new_free Z.X.P N5) (by omega) fun h6 A6 e6 P6 T6 => ⟨_, rfl, A6, (kAppend S x.o.nm x.o.data).2, H, e6, ?_⟩
      have hS := same_append S x.o.nm x.o.data
      exact Z5.disk P6 T6 (Nat.le_succ _) ((Z.D.append _ _).mono (Nat.le_succ _)) hS.sure (Z.ok.same hS)
    · refine sync_p Z.X.P Z.D.ok hz.1 fun h5 A5 e5 P5 T5 => ⟨_, rfl, ?_⟩
      obtain ⟨hS, hR⟩ := sync_keeps Z.D.ok x.o.nm
      have Z5 := Z.disk P5 T5 (Nat.le_succ _) ((Z.D.sync x.o.nm).mono (Nat.le_succ _)) hS.sure (Z.ok.same hS)
      refine ⟨fun e0 => ?_, fun _ => ⟨A5, _, H, e5, Z5⟩⟩
      obtain ⟨hr0, hh⟩ := hR e0
      rw [← e5]
      refine read_p P5 Z5.D.ok hz.1 fun h6 r6 K6 B6 N6 => ⟨r6, _, rfl, fun _ => ?_, fun hne => absurd hr0 hne⟩
      have Z6 := Z5.keep K6
      refine gone_s Z6.hb hH fun h7 r7 K7 B7 N7 => ⟨r7, rfl, fun b9 hb9 => ?_⟩
      have K8 := Keep.new hb9 (.cells ⟨[.string x.o.nm, .slice r6.a r6.n r6.c]⟩ 52 (0, 0))
      have hx8 := new_at h7 b9 (.cells ⟨[.string x.o.nm, .slice r6.a r6.n r6.c]⟩ 52 (0, 0))
      have hfl := List.length_filter_le (fun y : Sl × (ByteArray × List UInt8) => !decide (y.2.1 = x.o.nm)) H
      have h7n : r7.n = (H.filter fun y => !decide (y.2.1 = x.o.nm)).length := by have := B7.len; rw [hV_len] at this; omega
      refine ⟨[.string x.o.nm, .slice r6.a r6.n r6.c], ⟨rfl, .inr ⟨b9, 0, rfl, fun j hj => by rw [at_of hx8]; simp⟩⟩, fun v hv => ?_, ?_⟩
      · rcases List.mem_cons.1 hv with rfl | hv
        · rfl
        · rw [List.mem_singleton.1 hv]; rfl
      refine append_buf (us := [.string x.o.nm, .slice r6.a r6.n r6.c]) (B7.keep K8) rfl rfl (by omega) fun l20 h9 B9 _ U9 => ?_
      obtain ⟨K9, N9⟩ := NewN.upd (K7.trans K8) N7 U9
      refine ⟨A5, (kSync S x.o.nm).2, (H.filter fun y => !decide (y.2.1 = x.o.nm)) ++ [(r6, (x.o.nm, (kRead (kSync S x.o.nm).2 x.o.nm).2))], rfl, ?_⟩
      refine Z6.set K9 (by rw [hV_app]; exact B9) N9 (fun y hy => ?_) ?_ ?_
      · rcases List.mem_append.1 hy with hy | hy
        · exact ⟨(Z6.hd y (gone_sub hy)).1.keep K9, (Z6.hd y (gone_sub hy)).2⟩
        · rw [List.mem_singleton.1 hy]; exact ⟨B6.keep K9, new_free P5 N6⟩
      · rw [List.length_append]
        have := Z.hl
        simp only [List.length_singleton]; omega
      · rw [List.map_append, map_gone]
        exact (Z5.ok.sub fun y hy => (mem_goneH hy).1).sync hh
    · refine rename_p Z.X.P Z.D.ok hz.1 hz.2.1 hcl fun h5 A5 e5 P5 T5 => ⟨_, rfl, ?_⟩
      rcases rename_keeps Z.D.ok x.o.nm x.o.to with ⟨hS, hne⟩ | ⟨he, hsu, hG, hsr, hnm⟩
      · have Z5 := Z.disk P5 T5 (Nat.le_succ _) (Z.D.rename x.o.nm x.o.to) hS.sure (Z.ok.same hS)
        exact ⟨fun e0 => ⟨fun _ => ⟨A5, _, H, e5, Z5⟩, fun hn => (hne.elim (fun h => absurd e0 h) fun h => absurd h hn)⟩, fun _ => ⟨A5, _, H, e5, Z5⟩⟩
      · refine ⟨fun _ => ⟨fun e => absurd e hsu, fun _ => ?_⟩, fun hne => absurd he hne⟩
        have bH : Buf h5 l2 2 52 (hV H) := buf_mono Z.hb fun k x hk e => T5.keep k x (Z.hn k hk) e
        refine gone_s bH hH fun h6 r6 K6 B6 N6 => ⟨r6, rfl, ?_⟩
        have hfl := List.length_filter_le (fun y : Sl × (ByteArray × List UInt8) => !decide (y.2.1 = x.o.nm)) H
        refine gone_s B6 (by omega) fun h7 r7 K7 B7 N7 => ⟨r7, rfl, A5, (kRename S x.o.nm x.o.to).2, (H.filter fun y => !decide (y.2.1 = x.o.nm)).filter fun y => !decide (y.2.1 = x.o.to), e5, ?_⟩
        have Zd : ∀ y ∈ H, Buf h5 y.1 1 5 (bl y.2.2) ∧ ∀ k, inS y.1 k → ¬ A5.own k := fun y hy => ⟨buf_mono (Z.hd y hy).1 fun k x hk e => T5.keep k x ((Z.hd y hy).2 k hk) e, fun k hk ho => by
          rcases T5.grow k ho with h1 | h1
          · exact (Z.hd y hy).2 k hk h1
          · obtain ⟨c, f, e⟩ := buf_alive (Z.hd y hy).1 hk; rw [h1] at e; cases e⟩
        refine ⟨(Z.X.step P5 T5).keep (K6.trans K7), Z.D.rename x.o.nm x.o.to, B7, new_free (P5.keep K6) N7, fun y hy => ⟨(Zd y (gone_sub (gone_sub hy))).1.keep (K6.trans K7), (Zd y (gone_sub (gone_sub hy))).2⟩, ?_, ?_, ?_, ?_⟩
        · have h2 := List.length_filter_le (fun y : Sl × (ByteArray × List UInt8) => !decide (y.2.1 = x.o.to)) (H.filter fun y => !decide (y.2.1 = x.o.nm))
          have := Z.hl
          omega
        · rw [hsr]; exact (buf_mono Z.db fun k x hk e => T5.keep k x (Z.dn k hk) e).keep (K6.trans K7)
        · intro k hk ho
          rcases T5.grow k ho with h1 | h1
          · exact Z.dn k hk h1
          · obtain ⟨c, f, e⟩ := buf_alive Z.db hk; rw [h1] at e; cases e
        · rw [map_gone, map_gone]
          refine HeldOk.grow (S := S) (Z.ok.sub fun y hy => (mem_goneH (mem_goneH hy).1).1) hG fun y hy => hnm y.1 (mem_goneH (mem_goneH hy).1).2 (mem_goneH hy).2
    · refine delete_p Z.X.P Z.D.ok hz.1 hcl fun h5 A5 e5 P5 T5 => ⟨_, rfl, ?_⟩
      rcases delete_keeps Z.D.ok x.o.nm with ⟨hS, hne⟩ | ⟨he, hG, hsr, hnm⟩
      · exact ⟨fun e => absurd e hne, fun _ => ⟨A5, _, H, e5, Z.disk P5 T5 (Nat.le_succ _) (Z.D.delete _) hS.sure (Z.ok.same hS)⟩⟩
      · refine ⟨fun _ => ?_, fun hne => absurd he hne⟩
        have bH : Buf h5 l2 2 52 (hV H) := buf_mono Z.hb fun k x hk e => T5.keep k x (Z.hn k hk) e
        refine gone_s bH hH fun h6 r6 K6 B6 N6 => ⟨r6, rfl, A5, _, _, e5, kh_gone Z P5 T5 (Z.D.delete _) hsr (fun y hy hny => hnm y.1 hny) hG K6 B6 N6⟩
    · refine syncdir_p Z.X.P Z.D.ok fun h5 A5 e5 P5 T5 => ⟨_, rfl, ?_⟩
      rcases syncdir_keeps S with ⟨hS, hne⟩ | ⟨he, hnow, hG, hsr⟩
      · exact ⟨fun e => absurd e hne, fun _ => ⟨A5, _, H, e5, Z.disk P5 T5 (Nat.le_succ _) (Z.D.syncdir.mono (Nat.le_succ _)) hS.sure (Z.ok.same hS)⟩⟩
      · refine ⟨fun _ => ?_, fun hne => absurd he hne⟩
        have D5 : DN k (kSyncDir S).2 := Z.D.syncdir
        rw [← e5]
        refine files_p P5 D5.ok fun h6 r6 L6 K6 F6 e6 => ⟨r6, rfl, ?_⟩
        have hl6 : L6.length ≤ 8388608 := by have h1 := congrArg List.length e6; have h2 := D5.ok.len; unfold dtold at h1; simp only [List.length_map] at h1; omega
        refine names_s F6.b (by omega) fun h7 r7 K7 B7 N7 => ⟨r7, rfl, A5, (kSyncDir S).2, H, rfl, ?_⟩
        have nm6 : L6.map (·.2.nm) = (kSyncDir S).2.sure.map (·.1) := by
          have : L6.map (·.2.nm) = (L6.map (·.2)).map (·.nm) := by rw [List.map_map]; rfl
          rw [this, e6, hsr, ← hnow]
          unfold dtold
          rw [List.map_map]
          refine List.map_congr_left fun y _ => ?_
          show (fileR _ y).nm = y.1
          unfold fileR
          split <;> rfl
        rw [nm6] at B7
        have kk := K6.trans K7
        have own5 : ∀ {s : Sl} {sz t : Nat} {vs : List Value}, Buf h4 s sz t vs → (∀ k, inS s k → ¬ A.own k) → ∀ k, inS s k → ¬ A5.own k := fun B hn k hk ho => by
          rcases T5.grow k ho with h1 | h1
          · exact hn k hk h1
          · obtain ⟨c, f, e⟩ := buf_alive B hk; rw [h1] at e; cases e
        have mv5 : ∀ {s : Sl} {sz t : Nat} {vs : List Value}, Buf h4 s sz t vs → (∀ k, inS s k → ¬ A.own k) → Buf h7 s sz t vs := fun B hn => (buf_mono B fun k x hk e => T5.keep k x (hn k hk) e).keep kk
        exact ⟨(Z.X.step P5 T5).keep kk, D5.mono (Nat.le_succ _), mv5 Z.hb Z.hn, own5 Z.hb Z.hn, fun y hy => ⟨mv5 (Z.hd y hy).1 (Z.hd y hy).2, own5 (Z.hd y hy).1 (Z.hd y hy).2⟩, Nat.le_succ_of_le Z.hl, B7, new_free (P5.keep K6) N7, Z.ok.grow hG fun y _ => by rw [hnow]⟩
  · have hkeep4 : h4.row l1.a (l1.n * 1) (keep.map fun k => Value.int .i64 k) := (K1.trans Z.X.K).row hkeep
    refine copy_any hkeep4 (ints_one _) rfl (by omega) fun h5 l5 K5 B5 N5 => ?_
    have Z5 := Z.keep K5
    refine image_p (keep := keep) Z5.X.P Z.D.ok hcl B5.row fun h6 r6 L6 K6 F6 e6 => ⟨r6, rfl, ?_⟩
    have Z6 := Z5.keep K6
    refine copy_any ((K5.trans K6).row hkeep4) (ints_one _) rfl (by omega) fun h7 l7 K7 B7 N7 => ?_
    have Z7 := Z6.keep K7
    refine fall_p (keep := keep) Z7.X.P Z.D.ok hcl B7.row fun h8 A8 e8 P8 T8 => ?_
    have X8 := Z7.X.step P8 T8
    have D8 : DN k (kFall S dir keep) := DN.fall Z.D _ _
    have hl8 := nameOk_lenP D8 (by omega)
    obtain ⟨t1, t2⟩ := fall_told Z.D.ok dir keep
    have hi := (image_ok Z.D.ok dir keep)
    have hl6 : L6.length ≤ 8388608 := by have := hi.1; rw [← e6, List.length_map] at this; exact this
    have F8 : FA h5 h8 r6 L6 := (F6.keep K7).move fun k x hn e => T8.keep k x (fun ho => by obtain ⟨o, e'⟩ := Z5.X.P.alive ho; rw [hn] at e'; cases e') e
    rw [← e8]
    refine files_p X8.P D8.ok fun h9 r9 L9 K9 F9 e9 => ⟨r9, rfl, ?_⟩
    rw [t1] at e9
    refine sameF (F8.keep K9) F9 (e6.trans e9.symm) ⟨true, rfl, fun _ => ?_, fun e => (by cases e)⟩ (by omega)
    have X9 := X8.keep K9
    have hdn : (kFall S dir keep).down = false := rfl
    refine down_p X9.P ⟨_, rfl, fun e => (by rw [hdn] at e; cases e), fun _ => ?_⟩
    have h9n := F9.len
    have hl9 : L9.length = L6.length := by have h1 := congrArg List.length e9; have h2 := congrArg List.length e6; simp only [List.length_map] at h1 h2; omega
    refine ⟨fun m h10 => h10 = h9 ∧ ∃ j : Nat, m = (j : Int) ∧ j ≤ L9.length, fun m _ => L9.length - m.toNat, ⟨rfl, 0, rfl, Nat.zero_le _⟩, ?_⟩
    rintro m h10 ⟨rfl, j, rfl, hj⟩
    refine ⟨fun hjl => ?_, fun _ => ?_⟩
    · have hgj : L9[j]? = some L9[j] := List.getElem?_eq_getElem (by omega)
      generalize L9[j] = y at hgj
      have hmy := List.mem_of_getElem? hgj
      obtain ⟨b5, hb5, hr5, q0, q1, q2⟩ := file_at F9.b hgj
      have hyd : y.1.n = y.2.data.length := by have := (F9.d y hmy).1.len; rw [bl_len] at this; omega
      have hys := (hi.2.2 y.2 (by rw [← e9]; exact List.mem_map_of_mem hmy)).2
      refine ⟨b5, 0, hb5, hr5, _, q2, b5, 0, hb5, hr5, y.1, q1, fun _ => ?_, fun hne => absurd (by omega) hne⟩
      rw [inc_i (n := 1000000000) (by omega) (by omega)]
      exact ⟨⟨rfl, j + 1, rfl, by omega⟩, by dsimp only; omega⟩
    · refine image_p (keep := []) X9.P D8.ok hl8 ⟨rfl, .inl rfl⟩ fun h11 r11 L11 K11 F11 e11 => ⟨r11, rfl, ?_⟩
      rw [t2] at e11
      refine sameF F11 (F9.keep K11) (e11.trans e9.symm) ⟨true, rfl, fun _ => hQ h11 (K1.trans (X9.K.trans K11)), fun e => (by cases e)⟩ ?_
      have h1 := congrArg List.length e11
      have h2 := congrArg List.length e9
      simp only [List.length_map] at h1 h2
      omega
end
end Go.Eng.Ytekflkpnpibneaa
end
section

/-
  ROWS OF THE DISK, 2: an argument that is a list of numbers.
-/
set_option linter.unusedSimpArgs false
set_option linter.unusedVariables false
open Go.Proofs
namespace Go.Eng.Ytekflkpnpibneaa
open Go.ChangeShapes Go.WideShapes Go.RowKit
theorem open_ints {H : Type} {enc : TypeId × Value → H} {W : World} {base : Nat} {held : Bool} {fuel : Nat} {a : Option Addr} {len cap : Nat} {y : DataW H × List MemPlace} (h : DataW.trod enc Try.prog W base (fun _ => true) held fuel 37 [.slice a len cap] = some y) (hw : WB Try.prog 37 y.1) : ∃ keep : List Int, (wh W).row a (len * 1) (keep.map fun k => Value.int .i64 k) := by
  obtain ⟨s, v, hc, hr, _⟩ := ints_cell h hw
  simp only [Value.slice.injEq] at hc
  obtain ⟨rfl, rfl, rfl⟩ := hc
  exact ⟨v, hr⟩
end Go.Eng.Ytekflkpnpibneaa
end
section
namespace Go.Proofs.Ytekflkpnpibneaa.diskKeeps
open Go.ChangeShapes Go.WideShapes Go.ChangeAt Go.RowKit Go.Eng Go.Eng.Ytekflkpnpibneaa
set_option linter.unusedVariables false
theorem own : ownKnob Try.prog.godebug = none := by kernel_rfl
theorem laidOut : laidOutB Try.prog = true := by kernel_rfl
theorem walk {a0 a2 : Option Addr} {len0 cap0 len2 cap2 : Nat} {n : Int} {O : List OpR} {keep : List Int} {W : World} (R1 : OA (wh W) ⟨a0, len0, cap0⟩ O) (hO : O.length ≤ 140737488355328) (hK : (wh W).row a2 (len2 * 1) (keep.map fun k => Value.int .i64 k)) :
    Calls Try.prog 5 #[.slice a0 len0 cap0, .int .i64 n, .slice a2 len2 cap2] W fun e W' => e = .returned (.bool true) ∧ Below W.heap.size W W' := by
  have hT : F5.T ⟨a0, len0, cap0⟩ n ⟨a2, len2, cap2⟩ (wh W) (fun v h' => v = .bool true ∧ Keep (wh W) h') := keeps_s R1 hO hK fun h' K => ⟨rfl, K⟩
  have hV : F5.V [.slice a0 len0 cap0, .int .i64 n, .slice a2 len2 cap2] (wh W) (fun v h' => v = .bool true ∧ Keep (wh W) h') := hT
  refine (F5.ok.2 _ (wh W) _ hV (fun _ => none) W (own_wh W)).mono fun e W' ⟨v, h', he, ho, hw, hv, K⟩ => ?_
  subst hv
  exact ⟨he, below_of hw ho K⟩
set_option maxRecDepth 100000 in
theorem lifted (os : Os) (started : os.Started) (H : Type) (enc : TypeId × Value → H) :
    ReturnsInHanded {} Try.checked os 5 .any (Rows.diskKeepsSpec.pre6 enc Try.prog Try.f5 Rows.diskKeepsRow.domain false) (Rows.diskKeepsSpec.post enc Try.prog Try.f5 false true false false) := by
  refine returnsInHanded_of_change_sized (C := Try.checked) own started (by kernel_rfl) Try.func5
    (ChangeSpec.witness6 (enc := enc) (C := Try.checked) false ⟨#[], #[.slice none 0 0, .int .i64 0, .slice none 0 0], []⟩ 8 (by kernel_rfl) (by kernel_rfl) (by kernel_rfl) (by kernel_rfl)) ?_
  intro W base args ds gs before hval0 hW hcnd hsz0 _
  have hval : ∀ (j : Nat) t v, Try.f5.params[j]? = some t → args[j]? = some v → Value.okWide Try.prog W .any base t v := hval0
  have hsz : (DataW.weightsEach Try.prog (Try.f5.params.toList ++ Rows.diskKeepsSpec.plain.varTypes Try.prog) (ds ++ gs)).all (· ≤ reachBytes) = true := hsz0
  have hW' := hW
  obtain ⟨p, q, hA0, hV, rfl, hfz, hnd⟩ := hW
  have hA : DataW.TrodAll enc Try.prog W 0 (fun _ => true) true Try.f5.params.toList args.toList ds p := hA0
  rw [Try.params5] at hA hval
  obtain ⟨v0, vs0, d0, ds0, p0, q0, hargs, rfl, rfl, h0, r0⟩ := trodAll_cons hA
  obtain ⟨v1, vs1, d1, ds1, p1, q1, rfl, rfl, rfl, h1, r1⟩ := trodAll_cons r0
  obtain ⟨v2, vs2, d2, ds2, p2, q2, rfl, rfl, rfl, h2, r2⟩ := trodAll_cons r1
  obtain ⟨rfl, rfl, rfl⟩ := trodAll_nil r2
  obtain rfl : args = #[v0, v1, v2] := by cases args; simp_all
  obtain ⟨rfl, rfl⟩ := trodVars_none hV
  obtain ⟨a0, len0, cap0, rfl⟩ := okWide_slice Try.underlying36 (hval 0 36 v0 rfl rfl)
  have k0 := h0
  have lt0 : ∀ x ∈ p0, x.block < W.heap.size := by obtain ⟨m, hm⟩ := k0; exact DataW.trod_lt m _ _ _ hm
  have wb0 : WB Try.prog 36 d0 := wb_arg (j := 0) hsz rfl rfl
  obtain ⟨a1, rfl, rfl, rfl, w1⟩ := open_int Try.underlying3 (hval 1 3 v1 rfl rfl) h1
  obtain ⟨a2, len2, cap2, rfl⟩ := okWide_slice Try.underlying37 (hval 2 37 v2 rfl rfl)
  have k2 := h2
  have lt2 : ∀ x ∈ p2, x.block < W.heap.size := by obtain ⟨m, hm⟩ := k2; exact DataW.trod_lt m _ _ _ hm
  have wb2 : WB Try.prog 37 d2 := wb_arg (j := 2) hsz rfl rfl
  obtain ⟨O, R1, hO⟩ : ∃ O, OA (wh W) ⟨a0, len0, cap0⟩ O ∧ O.length ≤ 140737488355328 := by obtain ⟨m, hm⟩ := k0; exact open_ops hm wb0
  obtain ⟨keep, hK⟩ : ∃ keep : List Int, (wh W).row a2 (len2 * 1) (keep.map fun k => Value.int .i64 k) := by obtain ⟨m, hm⟩ := k2; exact open_ints hm wb2
  clear hA0 hval0 hsz0
  refine (walk R1 hO hK).mono fun e W' ⟨he, bel⟩ => ?_
  subst he
  exact ⟨_, rfl, _, _, _, [], _, [], hW', trodAll_mk1 (shut_bool Try.underlying4 _), (trodAll_cons_mk (Below.trod laidOut (by kernel_rfl) (of_decide_eq_true (by kernel_rfl)) k0 bel lt0) (trodAll_cons_mk (shut_int Try.underlying3 w1) (trodAll_cons_mk (Below.trod laidOut (by kernel_rfl) (of_decide_eq_true (by kernel_rfl)) k2 bel lt2) ( trodAll_mk0)))), rfl, bel.frame _, fun h => by cases h⟩
theorem over : Rows.diskKeepsRow.holds Try.pinned (OpenSpec.ofChange Rows.diskKeepsSpec) :=
  OpenClaim.holds_of_wide 5 Try.f5 rfl rfl rfl rfl rfl rfl rfl ⟨rfl, rfl, rfl, rfl, rfl⟩ rfl rfl rfl rfl rfl (by kernel_rfl) Try.func5 (by kernel_rfl)
    (of_decide_eq_true (by kernel_rfl)) (by unfold Func.isWrapper; first | (rw [if_pos (by decide +kernel)]; kernel_rfl) | (rw [if_neg (by decide +kernel)]; exact ⟨rfl, rfl⟩))
    (fun os started H enc _ => lifted os started H enc)
theorem proved : Rows.DiskKeepsSaid := over
#print axioms proved
end Go.Proofs.Ytekflkpnpibneaa.diskKeeps
end
