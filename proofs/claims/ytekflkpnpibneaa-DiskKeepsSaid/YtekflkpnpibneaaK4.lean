/-
  TEXTS OF MINE, JOINED: Q3 Q4 Q5 Q6 Q7 Q8 QA QB QC QD QE QF QG QH QI QJ P4 QK QR.
-/
import Derived.Test.YtekflkpnpibneaaK3
import Derived.WalkKit
import Derived.Test.YtekflkpnpibneaaK2
import Derived.Test.YtekflkpnpibneaaProg
import Derived.ChangeSlices
import Derived.SizedLaws
import Derived.Below
section

/-
  SPECS OF THE DISK, 2: the program's disk in memory; what begins a call; falls; rigs.
-/
set_option linter.unusedSimpArgs false
set_option linter.unusedVariables false
set_option maxRecDepth 100000
namespace Go.Eng.Ytekflkpnpibneaa
/-- A file's block, where its bytes lie, what it holds. -/
structure FX where
  b : Nat
  d : Sl
  f : Fil
def pid (bk : List Nat) (i : Nat) : Value := .pointer ((bk[i]?).map fun b => ⟨b, 0, none⟩)
def Cg.cells (bk : List Nat) (c : Cg) : List Value := [.int .i64 c.kind, .string c.nm, .string c.to, if c.kind = 0 then pid bk c.id else .pointer none]
def chV (bk : List Nat) (l : List Cg) : List Value := l.flatMap (Cg.cells bk)
theorem chV_len (bk : List Nat) (l : List Cg) : (chV bk l).length = l.length * 4 := by
  unfold chV
  induction l with
  | nil => rfl
  | cons c l ih => rw [List.flatMap_cons, List.length_append, ih, List.length_cons]; show 4 + _ = _; omega
structure PA where
  db : Nat
  nb : Nat
  sb : Nat
  ch : Sl
  X : List FX
def PA.bk (A : PA) : List Nat := A.X.map (·.b)
/-- Files in memory, each apart. -/
structure Fls (t : Nat) (h : Hp) (X : List FX) : Prop where
  fb : ∀ x ∈ X, h x.b = some (.cells ⟨[.slice x.d.a x.d.n x.d.c, .int .i64 (x.f.sure : Int)]⟩ t (0, 0))
  fd : ∀ x ∈ X, Buf h x.d 1 5 (bl x.f.data)
  dj : ∀ (i j : Nat) x y, X[i]? = some x → X[j]? = some y → i ≠ j → x.b ≠ y.b ∧ Off x.d y.d
def ownX (X : List FX) (k : Nat) : Prop := ∃ x ∈ X, k = x.b ∨ inS x.d k
theorem Fls.mono {t : Nat} {h h' : Hp} {X : List FX} (F : Fls t h X) (m : ∀ k x, ownX X k → h k = some x → h' k = some x) : Fls t h' X :=
  ⟨fun x hx => m _ _ ⟨x, hx, .inl rfl⟩ (F.fb x hx), fun x hx => buf_mono (F.fd x hx) fun k y hk e => m k y ⟨x, hx, .inr hk⟩ e, F.dj⟩
theorem Fls.alive {t : Nat} {h : Hp} {X : List FX} (F : Fls t h X) {k : Nat} (hk : ownX X k) : ∃ (c : Array Value) (u : Nat × (Nat × Nat)), h k = some (.cells c u.1 u.2) ∧ (u.1 = 5 ∨ u.1 = t) := by
  obtain ⟨x, hx, rfl | hk⟩ := hk
  · exact ⟨_, (t, (0, 0)), F.fb x hx, .inr rfl⟩
  · obtain ⟨c, f, e⟩ := buf_alive (F.fd x hx) hk; exact ⟨c, (5, f), e, .inl rfl⟩
theorem offS {s t : Sl} (o : Off s t) : Off t s := fun b o1 o2 e1 e2 => o b o2 o1 e2 e1
theorem off_upd {h h1 : Hp} {s s' r : Sl} {sz t : Nat} {vs : List Value} (U : Upd h h1 s s') (o : Off r s) (B : Buf h r sz t vs) : Off r s' := by
  rcases U.at_ with e | ⟨b, e, hn⟩
  · intro k o1 o2 e1 e2
    rw [e] at e2
    exact o k o1 o2 e1 e2
  · intro k o1 o2 e1 e2
    rw [e] at e2
    simp only [Option.some.injEq, Addr.mk.injEq, and_true] at e2
    obtain ⟨c, f, e3⟩ := buf_alive B ⟨o1, e1⟩
    rw [← e2.1, hn] at e3; cases e3
/-- One file has changed: its bytes, then its block. -/
theorem Fls.set {t : Nat} (ht5 : t ≠ 5) {h h1 h2 : Hp} {X : List FX} (F : Fls t h X) {i : Nat} {x : FX} (hx : X[i]? = some x) {d' : Sl} {f' : Fil} (U : Upd h h1 x.d d') (B : Buf h1 d' 1 5 (bl f'.data)) (O : One x.b h1 h2)
    (hb : h2 x.b = some (.cells ⟨[.slice d'.a d'.n d'.c, .int .i64 (f'.sure : Int)]⟩ t (0, 0))) : Fls t h2 (X.set i ⟨x.b, d', f'⟩) ∧ Ck [7, t + 2] h h2 ∧ Tr2 (ownX X) (ownX (X.set i ⟨x.b, d', f'⟩)) h h2 := by
  have hi := (List.getElem?_eq_some_iff.1 hx).1
  have hxm := List.mem_of_getElem? hx
  have C1 := Ck.of_upd (F.fd x hxm) U
  have hb1 : h1 x.b = some _ := C1.keep _ _ (F.fb x hxm) (by simp [kd]; omega)
  have C2 := O.ck hb1
  have get : ∀ {j : Nat} {y : FX}, (X.set i ⟨x.b, d', f'⟩)[j]? = some y → (j = i ∧ y = ⟨x.b, d', f'⟩) ∨ (j ≠ i ∧ X[j]? = some y) := fun {j y} h => by
    rw [List.getElem?_set] at h
    by_cases hj : i = j
    · subst hj
      rw [if_pos rfl, if_pos hi] at h
      exact .inl ⟨rfl, (Option.some.inj h).symm⟩
    · rw [if_neg hj] at h
      exact .inr ⟨fun e => hj e.symm, h⟩
  refine ⟨⟨fun y hy => ?_, fun y hy => ?_, fun j k y z hy hz hjk => ?_⟩, (C1.mono (by simp)).trans (C2.mono (by simp [kd])), ⟨fun k y hk e => ?_, fun k e => U.dom k (O.dom k e), fun k hk => ?_⟩⟩
  · obtain ⟨j, hj⟩ := List.mem_iff_getElem?.1 hy
    rcases get hj with ⟨_, rfl⟩ | ⟨hne, hj⟩
    · exact hb
    · exact O.keep _ _ (F.dj j i y x hj hx hne).1 (C1.keep _ _ (F.fb y (List.mem_of_getElem? hj)) (by simp [kd]; omega))
  · obtain ⟨j, hj⟩ := List.mem_iff_getElem?.1 hy
    rcases get hj with ⟨_, rfl⟩ | ⟨hne, hj⟩
    · exact C2.buf (by simp [kd]; omega) B
    · exact C2.buf (by simp [kd]; omega) ((F.fd y (List.mem_of_getElem? hj)).upd U (F.dj j i y x hj hx hne).2)
  · rcases get hy with ⟨e1, e2⟩ | ⟨hj, hy'⟩
    · rcases get hz with ⟨e3, e4⟩ | ⟨hk, hz'⟩
      · exact absurd (e1.trans e3.symm) hjk
      · have := F.dj i k x z hx hz' (fun e => hk e.symm)
        rw [e2]
        exact ⟨this.1, offS (off_upd U (offS this.2) (F.fd z (List.mem_of_getElem? hz')))⟩
    · rcases get hz with ⟨e3, e4⟩ | ⟨hk, hz'⟩
      · have := F.dj j i y x hy' hx hj
        rw [e4]
        exact ⟨this.1, off_upd U this.2 (F.fd y (List.mem_of_getElem? hy'))⟩
      · exact F.dj j k y z hy' hz' hjk
  · exact O.keep k y (by rintro rfl; exact hk ⟨x, hxm, .inl rfl⟩) (U.keep k y (fun o ho => hk ⟨x, hxm, .inr ⟨o, ho⟩⟩) e)
  · obtain ⟨y, hy, hk⟩ := hk
    obtain ⟨j, hj⟩ := List.mem_iff_getElem?.1 hy
    rcases get hj with ⟨_, rfl⟩ | ⟨hne, hj⟩
    · rcases hk with rfl | hk
      · exact .inl ⟨x, hxm, .inl rfl⟩
      · rcases upd_in U hk with h0 | h0
        · exact .inl ⟨x, hxm, .inr h0⟩
        · exact .inr h0
    · exact .inl ⟨y, List.mem_of_getElem? hj, hk⟩
/-- One file more. -/
theorem Fls.snoc {t : Nat} {h : Hp} {X : List FX} (F : Fls t h X) {x : FX} (hb : h x.b = some (.cells ⟨[.slice x.d.a x.d.n x.d.c, .int .i64 (x.f.sure : Int)]⟩ t (0, 0))) (B : Buf h x.d 1 5 (bl x.f.data)) (n1 : ¬ ownX X x.b) (n2 : ∀ k, inS x.d k → ¬ ownX X k) : Fls t h (X ++ [x]) := by
  refine ⟨fun y hy => ?_, fun y hy => ?_, fun i j y z hy hz hij => ?_⟩
  · rcases List.mem_append.1 hy with hy | hy
    · exact F.fb y hy
    · rw [List.mem_singleton.1 hy]; exact hb
  · rcases List.mem_append.1 hy with hy | hy
    · exact F.fd y hy
    · rw [List.mem_singleton.1 hy]; exact B
  · have get : ∀ {j : Nat} {y : FX}, (X ++ [x])[j]? = some y → X[j]? = some y ∨ (j = X.length ∧ y = x) := fun {j y} h => by
      rcases Nat.lt_trichotomy j X.length with hj | hj | hj
      · rw [List.getElem?_append_left hj] at h; exact .inl h
      · subst hj; simp at h; exact .inr ⟨rfl, h.symm⟩
      · rw [List.getElem?_eq_none (by simp; omega)] at h; cases h
    rcases get hy with hy' | ⟨e1, e2⟩
    · rcases get hz with hz' | ⟨e3, e4⟩
      · exact F.dj i j y z hy' hz' hij
      · rw [e4]
        exact ⟨fun e => n1 ⟨y, List.mem_of_getElem? hy', .inl e.symm⟩, fun b o o' e1 e2 => n2 b ⟨o', e2⟩ ⟨y, List.mem_of_getElem? hy', .inr ⟨o, e1⟩⟩⟩
    · rcases get hz with hz' | ⟨e3, e4⟩
      · rw [e2]
        exact ⟨fun e => n1 ⟨z, List.mem_of_getElem? hz', .inl e⟩, fun b o o' e1 e2 => n2 b ⟨o, e1⟩ ⟨z, List.mem_of_getElem? hz', .inr ⟨o', e2⟩⟩⟩
      · exact absurd (e1.trans e3.symm) hij
theorem ownX_snoc {X : List FX} {x : FX} {k : Nat} (h : ownX (X ++ [x]) k) : ownX X k ∨ k = x.b ∨ inS x.d k := by
  obtain ⟨y, hy, hk⟩ := h
  rcases List.mem_append.1 hy with hy | hy
  · exact .inl ⟨y, hy, hk⟩
  · rw [List.mem_singleton.1 hy] at hk; exact .inr hk
/-- The program's disk. -/
structure PD (h : Hp) (A : PA) (S : Dk) : Prop where
  dsk : ∃ u w f p : Int, (S.down = false → u = S.left ∧ w = S.well ∧ f = S.fails ∧ p = S.part) ∧ h A.db = some (.cells ⟨[.int .i64 S.room, .map (some A.nb), .map (some A.sb), .slice A.ch.a A.ch.n A.ch.c, .int .i64 u, .int .i64 w, .int .i64 f, .int .i64 p, .bool S.down]⟩ 80 (0, 0))
  now : ∃ es c, h A.nb = some (.map es c) ∧ SM es c S.now (pid A.bk)
  sure : ∃ es c, h A.sb = some (.map es c) ∧ SM es c S.sure (pid A.bk)
  ne : A.nb ≠ A.sb
  ch : Buf h A.ch 4 94 (chV A.bk S.chg)
  fl : A.X.map (·.f) = S.fl
  fx : Fls 100 h A.X
def PA.own (A : PA) (k : Nat) : Prop := k = A.db ∨ k = A.nb ∨ k = A.sb ∨ inS A.ch k ∨ ownX A.X k
section
variable {h h' : Hp} {A : PA} {S S' : Dk} {Q : Value → Hp → Prop}
theorem PD.alive (P : PD h A S) {k : Nat} (hk : A.own k) : ∃ o, h k = some o := by
  rcases hk with rfl | rfl | rfl | hk | hk
  · obtain ⟨u, w, f, p, _, e⟩ := P.dsk; exact ⟨_, e⟩
  · obtain ⟨es, c, e, _⟩ := P.now; exact ⟨_, e⟩
  · obtain ⟨es, c, e, _⟩ := P.sure; exact ⟨_, e⟩
  · obtain ⟨c, f, e⟩ := buf_alive P.ch hk; exact ⟨_, e⟩
  · obtain ⟨c, f, e, _⟩ := P.fx.alive hk; exact ⟨_, e⟩
theorem PD.mono (P : PD h A S) (m : ∀ k x, A.own k → h k = some x → h' k = some x) : PD h' A S := by
  obtain ⟨u, w, f, p, e1, e2⟩ := P.dsk
  obtain ⟨es, c, e3, e4⟩ := P.now
  obtain ⟨es', c', e5, e6⟩ := P.sure
  exact ⟨⟨u, w, f, p, e1, m _ _ (.inl rfl) e2⟩, ⟨es, c, m _ _ (.inr (.inl rfl)) e3, e4⟩, ⟨es', c', m _ _ (.inr (.inr (.inl rfl))) e5, e6⟩, P.ne, buf_mono P.ch fun k x hk e => m k x (.inr (.inr (.inr (.inl hk)))) e, P.fl,
    P.fx.mono fun k y hk e => m k y (.inr (.inr (.inr (.inr hk)))) e⟩
theorem PD.keep (P : PD h A S) (K : Keep h h') : PD h' A S := P.mono fun k x _ e => K k x e
/-- The disk's own cells have changed, of which the files and names are as they were. -/
theorem PD.cells (P : PD h A S) (C : Ck [82] h h') (e1 : S'.now = S.now) (e2 : S'.sure = S.sure) (e3 : S'.chg = S.chg) (e4 : S'.fl = S.fl)
    (hd : ∃ u w f p : Int, (S'.down = false → u = S'.left ∧ w = S'.well ∧ f = S'.fails ∧ p = S'.part) ∧ h' A.db = some (.cells ⟨[.int .i64 S'.room, .map (some A.nb), .map (some A.sb), .slice A.ch.a A.ch.n A.ch.c, .int .i64 u, .int .i64 w, .int .i64 f, .int .i64 p, .bool S'.down]⟩ 80 (0, 0))) : PD h' A S' := by
  obtain ⟨es, c, n1, n2⟩ := P.now
  obtain ⟨es', c', n3, n4⟩ := P.sure
  exact ⟨hd, ⟨es, c, C.keep _ _ n1 (by simp [kd]), by rw [e1]; exact n2⟩, ⟨es', c', C.keep _ _ n3 (by simp [kd]), by rw [e2]; exact n4⟩, P.ne, by rw [e3]; exact C.buf (by decide) P.ch, by rw [e4]; exact P.fl,
    P.fx.mono fun k y hk e => C.keep k y e (by
      obtain ⟨c, t, e', ht⟩ := P.fx.alive hk
      rw [e] at e'; cases e'
      rcases ht with ht | ht <;> simp [kd, ht])⟩
theorem one_wr {b o t : Nat} {c : Array Value} {f : Nat × Nat} {vs : List Value} (hb : h b = some (.cells c t f)) : One b h (h.wr b o vs) := by
  have e : h.wr b o vs = h.new b (.cells (setL c.toList o vs).toArray t f) := by
    funext k
    unfold Hp.wr Hp.new
    by_cases hk : k = b
    · rw [if_pos hk, if_pos hk, hb]
    · rw [if_neg hk, if_neg hk]
  rw [e]
  exact One.new _ (by rw [hb]; simp)
theorem wr_cells {b o t : Nat} {c : Array Value} {f : Nat × Nat} {vs : List Value} (hb : h b = some (.cells c t f)) : (h.wr b o vs) b = some (.cells (setL c.toList o vs).toArray t f) := by
  unfold Hp.wr; rw [if_pos rfl, hb]
theorem strs_rd {l : Sl} {A B : List ByteArray} {s : ByteArray} (hr : h.row l.a (l.n * 1) ((A ++ s :: B).map Value.string)) : ∃ b o, l.a = some ⟨b, o, none⟩ ∧ (A.length : Int) < (l.n : Int) ∧ h.at b (o + (A.length : Int).toNat) = some (.string s) := by
  have hl := hr.1
  rw [List.length_map, List.length_append, List.length_cons] at hl
  obtain ⟨b, o, ha, hat⟩ := row_get hr (i := A.length) (by omega)
  refine ⟨b, o, ha, by omega, ?_⟩
  rw [Int.toNat_natCast, hat _ (by omega)]
  simp
theorem begin_p {l : Sl} {ns : List ByteArray} (P : PD h A S) (D : DOk S) (hr : h.row l.a (l.n * 1) (ns.map Value.string)) (hl : ns.length ≤ 1000) (hs : ∀ s ∈ ns, s.size ≤ 9223372036854775807)
    (hQ : ∀ h', PD h' A (dbegin S (ns.all nameOk)).2 → Tr2 A.own A.own h h' → Q (.int .i64 (dbegin S (ns.all nameOk)).1) h') : F49.T (some ⟨A.db, 0, none⟩) l h Q := by
  obtain ⟨u, w, f, p, hrig, hd⟩ := P.dsk
  have hln : l.n = ns.length := by have := hr.1; rw [List.length_map] at this; omega
  refine ⟨A.db, 0, rfl, S.down, at_of hd 8, fun hdown => ?_, fun hup => ?_⟩
  · have e : dbegin S (ns.all nameOk) = (30, S) := by unfold dbegin; rw [if_pos hdown]
    rw [e] at hQ
    exact hQ h P (Tr2.refl _ _)
  obtain ⟨rfl, rfl, rfl, rfl⟩ := hrig hup
  refine ⟨fun n h1 => Keep h h1 ∧ ∃ B C, ns = B ++ C ∧ n = (B.length : Int) ∧ B.all nameOk = true, fun n _ => ns.length - n.toNat, ⟨Keep.refl h, [], ns, rfl, rfl, rfl⟩, ?_⟩
  rintro n h1 ⟨K, B, C, rfl, rfl, hB⟩
  rw [List.length_append] at hln hl
  refine ⟨fun hlt => ?_, fun hge => ?_⟩
  · rcases C with _ | ⟨s, C⟩
    · exact absurd hlt (by simp at hln; omega)
    rw [List.length_cons] at hln hl
    obtain ⟨b, o, ha, hb, hat⟩ := strs_rd (K.row hr)
    refine ⟨b, o, ha, ⟨by omega, hb⟩, s, hat, ?_⟩
    refine name_spec (hs s (by simp)) fun h2 K2 => ⟨nameOk s, rfl, fun hok => ?_, fun hno => ?_⟩
    · rw [inc_i (n := 100000) (by omega) (by omega)]
      exact ⟨⟨K.trans K2, B ++ [s], C, by simp, by simp, by simp [hB, hok]⟩, by (try dsimp only); (try simp only [List.length_append, List.length_singleton, List.length_cons]); omega⟩
    · have e : dbegin S ((B ++ s :: C).all nameOk) = (33, S) := by
        have : (B ++ s :: C).all nameOk = false := by simp [hno]
        unfold dbegin
        rw [this, if_neg (by rw [hup]; simp), if_pos rfl]
      rw [e] at hQ
      exact hQ h2 (P.keep (K.trans K2)) (Tr2.of_keep _ (K.trans K2))
  · have hC : C = [] := List.eq_nil_of_length_eq_zero (by omega)
    subst hC
    rw [List.append_nil, hB] at hQ
    have P1 := P.keep K
    have hd1 := K _ _ hd
    have pos := D.pos
    have top := D.top
    refine ⟨A.db, 0, rfl, S.well, at_of hd1 5, fun hw => ?_, fun hw => ?_⟩
    · have e : dbegin S true = (0, { S with well := S.well - 1 }) := by unfold dbegin; rw [if_neg (by rw [hup]; simp), if_neg (by simp), if_pos hw]
      rw [e] at hQ
      refine ⟨A.db, 0, rfl, S.well, at_of hd1 5, A.db, 0, rfl, canW_new hd1 (by simp), ?_⟩
      rw [wrap_i64 (by omega) (by omega)]
      exact hQ _ (P1.cells (Ck.wr hd1) rfl rfl rfl rfl ⟨_, _, _, _, fun _ => ⟨rfl, rfl, rfl, rfl⟩, wr_cells hd1⟩) (Tr2.keepTr K (Tr2.one (one_wr hd1) (.inl rfl) fun _ d => .inl d))
    · refine ⟨A.db, 0, rfl, S.fails, at_of hd1 6, fun hf => ?_, fun hf => ?_⟩
      · have e : dbegin S true = (31, { S with fails := S.fails - 1 }) := by unfold dbegin; rw [if_neg (by rw [hup]; simp), if_neg (by simp), if_neg hw, if_pos hf]
        rw [e] at hQ
        refine ⟨A.db, 0, rfl, S.fails, at_of hd1 6, A.db, 0, rfl, canW_new hd1 (by simp), ?_⟩
        rw [wrap_i64 (by omega) (by omega)]
        exact hQ _ (P1.cells (Ck.wr hd1) rfl rfl rfl rfl ⟨_, _, _, _, fun _ => ⟨rfl, rfl, rfl, rfl⟩, wr_cells hd1⟩) (Tr2.keepTr K (Tr2.one (one_wr hd1) (.inl rfl) fun _ d => .inl d))
      · have e : dbegin S true = (0, S) := by unfold dbegin; rw [if_neg (by rw [hup]; simp), if_neg (by simp), if_neg hw, if_neg hf]
        rw [e] at hQ
        exact hQ h1 P1 (Tr2.of_keep _ K)
theorem falls_p {cost : Int} (P : PD h A S) (D : DOk S) (hup : S.down = false) (hc : 0 ≤ cost)
    (hN : ∀ h', (dfalls S cost).1 = none → PD h' A (dfalls S cost).2 → Tr2 A.own A.own h h' → Q (.tuple ⟨[.int .i64 0, .bool false]⟩) h')
    (hF : ∀ h' n, (dfalls S cost).1 = some n → 0 ≤ n → n < cost ∨ n = 0 ∧ cost = 0 ∨ n + 1 ≤ cost → PD h' A (dfalls S cost).2 → Tr2 A.own A.own h h' → Q (.tuple ⟨[.int .i64 n, .bool true]⟩) h') : F52.T (some ⟨A.db, 0, none⟩) cost h Q := by
  obtain ⟨u, w, f, p, hrig, hd⟩ := P.dsk
  obtain ⟨rfl, rfl, rfl, rfl⟩ := hrig hup
  have pos := D.pos
  have top := D.top
  refine ⟨A.db, 0, rfl, S.left, at_of hd 4, fun h0 => ?_, fun h0 => ⟨fun hlt => ?_, fun hge => ?_⟩⟩
  · have e : dfalls S cost = (none, S) := by unfold dfalls; rw [if_pos h0]
    rw [e] at hN
    exact hN h rfl P (Tr2.refl _ _)
  · have e : dfalls S cost = (none, { S with left := S.left - cost }) := by unfold dfalls; rw [if_neg h0, if_pos hlt]
    rw [e] at hN
    refine ⟨A.db, 0, rfl, S.left, at_of hd 4, A.db, 0, rfl, canW_new hd (by simp), ?_⟩
    rw [wrap_i64 (by omega) (by omega)]
    exact hN _ rfl (P.cells (Ck.wr hd) rfl rfl rfl rfl ⟨_, _, _, _, fun _ => ⟨rfl, rfl, rfl, rfl⟩, wr_cells hd⟩) (Tr2.one (one_wr hd) (.inl rfl) fun _ d => .inl d)
  · have e : dfalls S cost = (some (S.left - 1), { S with left := 0, well := 0, fails := 0, part := 0, down := true }) := by unfold dfalls; rw [if_neg h0, if_neg hge]
    rw [e] at hF
    have hd1 := wr_cells (o := 0 + 8) (vs := [.bool true]) hd
    refine ⟨A.db, 0, rfl, canW_new hd (by simp), A.db, 0, rfl, canW_new hd1 (by simp [setL]), ?_⟩
    rw [wrap_i64 (by omega) (by omega)]
    refine hF _ (S.left - 1) rfl (by omega) (.inr (.inr (by omega))) (P.cells ((Ck.wr hd).trans (Ck.wr hd1)) rfl rfl rfl rfl ⟨0, 0, 0, 0, fun h => (by cases h), wr_cells hd1⟩) (Tr2.one ((one_wr hd).trans (one_wr hd1)) (.inl rfl) fun _ d => .inl d)
theorem down_p (P : PD h A S) (hQ : Q (.bool S.down) h) : F18.T (some ⟨A.db, 0, none⟩) h Q := by
  obtain ⟨u, w, f, p, hrig, hd⟩ := P.dsk
  refine ⟨A.db, 0, rfl, S.down, at_of hd 8, fun e => ?_, fun e => ?_⟩
  · rw [e] at hQ; exact hQ
  · rw [e] at hQ; exact hQ
theorem fail_p {a b c : Int} (P : PD h A S) (hQ : ∀ h', PD h' A (kFail S a b c) → Tr2 A.own A.own h h' → Q (.tuple ⟨[]⟩) h') : F39.T (some ⟨A.db, 0, none⟩) a b c h Q := by
  obtain ⟨u, w, f, p, hrig, hd⟩ := P.dsk
  have hd1 := wr_cells (o := (0 + 4) + 1) (vs := [.int .i64 (iMax a 0)]) hd
  have hd2 := wr_cells (o := (0 + 4) + 2) (vs := [.int .i64 (iMax b 0)]) hd1
  have hd3 := wr_cells (o := (0 + 4) + 3) (vs := [.int .i64 (iMax c 0)]) hd2
  refine ⟨A.db, 0, rfl, canW_new hd (by simp), A.db, 0, rfl, canW_new hd1 (by simp [setL]), A.db, 0, rfl, canW_new hd2 (by simp [setL]), hQ _ ?_ (Tr2.one (((one_wr hd).trans (one_wr hd1)).trans (one_wr hd2)) (.inl rfl) fun _ d => .inl d)⟩
  have C : Ck [82] h _ := ((Ck.wr (o := (0 + 4) + 1) (vs := [.int .i64 (iMax a 0)]) hd).trans (Ck.wr (o := (0 + 4) + 2) (vs := [.int .i64 (iMax b 0)]) hd1)).trans (Ck.wr (o := (0 + 4) + 3) (vs := [.int .i64 (iMax c 0)]) hd2)
  unfold kFail
  by_cases hdn : S.down = true
  · rw [if_pos hdn]
    exact P.cells C rfl rfl rfl rfl ⟨_, _, _, _, fun h => (by rw [hdn] at h; cases h), hd3⟩
  · rw [if_neg hdn]
    have := hrig (by simpa using hdn)
    exact P.cells C rfl rfl rfl rfl ⟨_, _, _, _, fun h => ⟨this.1, rfl, rfl, rfl⟩, hd3⟩
end
end Go.Eng.Ytekflkpnpibneaa
end
section

/-
  SPECS OF THE DISK, 3: what the program's calls do to its disk: directories.
-/
set_option linter.unusedSimpArgs false
set_option linter.unusedVariables false
set_option maxRecDepth 100000
namespace Go.Eng.Ytekflkpnpibneaa
theorem pid_app (bk : List Nat) (b : Nat) {i : Nat} (hi : i < bk.length) : pid (bk ++ [b]) i = pid bk i := by unfold pid; rw [List.getElem?_append_left hi]
theorem pid_last (bk : List Nat) (b : Nat) : pid (bk ++ [b]) bk.length = .pointer (some ⟨b, 0, none⟩) := by unfold pid; simp
theorem pid_get {A : PA} {i : Nat} {x : FX} (hx : A.X[i]? = some x) : pid A.bk i = .pointer (some ⟨x.b, 0, none⟩) := by unfold pid PA.bk; rw [List.getElem?_map, hx]; rfl
theorem dlay_ren {d : Dir} (D : DSrt d) {s t : ByteArray} (i : Nat) (hne : s ≠ t) : ddel (dins d t i) s = dins (ddel d s) t i :=
  dir_ext (ddel_srt (dins_srt D _ _) _) (dins_srt (ddel_srt D _) _ _) fun u => by
    rw [dget_del (dins_srt D _ _), dget_ins, dget_ins, dget_del D]
    by_cases h1 : u = s
    · rw [if_pos h1, if_neg (by rw [h1]; exact hne), if_pos h1]
    · rw [if_neg h1, if_neg h1]
section
variable {h h' : Hp} {A : PA} {S S' : Dk} {Q : Value → Hp → Prop}
theorem lay_p {bk : List Nat} {mb c0 : Nat} {es : Array MapEntry} {d : Dir} {c : Cg} {p : Option Addr} (hm : h mb = some (.map es c0)) (M : SM es c0 d (pid bk)) (D : DSrt d) (hc : CgOk d c) (hp : c.kind = 0 → pid bk c.id = .pointer p)
    (hQ : ∀ es' c', SM es' c' (dlay d c) (pid bk) → Q (.tuple ⟨[]⟩) (h.new mb (.map es' c'))) : F45.T c.kind c.nm c.to p (some mb) h Q := by
  refine ⟨fun k0 => ?_, fun k0 => ⟨fun k1 => ?_, fun k1 => ⟨fun k2 => ?_, fun k2 => ?_⟩⟩⟩
  · obtain ⟨es', c', e1, e2⟩ := M.put c.nm c.id
    refine ⟨mb, es, c0, rfl, hm, M.fit _, ?_⟩
    rw [← hp k0, e1]
    have e : dlay d c = dins d c.nm c.id := by unfold dlay; rw [if_pos k0]
    exact hQ es' c' (by rw [e]; exact e2)
  · have hs : (dget d c.nm).isSome = true ∧ c.nm ≠ c.to := by
      rcases hc with e | e | e
      · exact absurd e k0
      · exact e.2
      · omega
    obtain ⟨i, hi⟩ := Option.isSome_iff_exists.1 hs.1
    have hv : mget es (.string c.nm) (.pointer none) = pid bk i := by rw [M.get, hi]
    obtain ⟨es', c', e1, e2⟩ := M.put c.to i
    refine ⟨es, c0, hm, M.fit _, (bk[i]?).map fun b => ⟨b, 0, none⟩, hv, mb, es, c0, rfl, hm, M.fit _, ?_⟩
    have e1' : mPut es c0 (.string c.to) (.pointer ((bk[i]?).map fun b => ⟨b, 0, none⟩)) = .map es' c' := e1
    rw [e1']
    refine ⟨es', c', new_at _ _ _, e2.fit _, ?_⟩
    show Q _ ((h.new mb _).new mb _)
    rw [new_new]
    have e : dlay d c = ddel (dins d c.to i) c.nm := by unfold dlay; rw [if_neg k0, if_pos k1, hi, dlay_ren D i hs.2]
    exact hQ _ c' (by rw [e]; exact e2.del (dins_srt D _ _) _)
  · have e : dlay d c = ddel d c.nm := by unfold dlay; rw [if_neg k0, if_neg k1]
    exact ⟨es, c0, hm, M.fit _, hQ _ c0 (by rw [e]; exact M.del D _)⟩
  · rcases hc with e | e | e
    · exact absurd e k0
    · exact absurd e.1 k1
    · exact absurd e k2
def chgT (p : Option Addr) (n : Int) (s s1 : ByteArray) (p1 : Option Addr) (h1 : Hp) (Q : Value → Hp → Prop) : Prop :=
  ∃ b1 o, (p : Option Addr) = some ⟨b1, o, none⟩ ∧ ∃ m : Option Nat, h1.at b1 (o + 1) = some (.map m) ∧ F45.T n s s1 p1 m h1 fun r1 h2 => ∃ b2 o1, (p : Option Addr) = some ⟨b2, o1, none⟩ ∧ ∃ l : Sl, h2.at b2 (o1 + 3) = some (.slice l.a l.n l.c) ∧ h2.at b2 (o1 + 3) = some (.slice l.a l.n l.c) ∧ appendD l 94 4 48 [.int .i64 0, .string (ByteArray.mk #[]), .string (ByteArray.mk #[]), .pointer none] 1 [.int .i64 n, .string s, .string s1, .pointer p1] h2 fun l1 h3 => ∃ b3 o2, (p : Option Addr) = some ⟨b3, o2, none⟩ ∧ h3.canW b3 (o2 + 3) 1 ∧ Q (.int .i64 0) (h3.wr b3 (o2 + 3) [.slice l1.a l1.n l1.c])
theorem chg_p {c : Cg} {p1 : Option Addr} (P : PD h A S) (D : DOk S) (hc : CgOk S.now c) (hp : (if c.kind = 0 then pid A.bk c.id else .pointer none) = .pointer p1) (hl : S.chg.length ≤ 1000000000)
    (hQ : ∀ h' A', A'.db = A.db → PD h' A' (kDo S c) → Tr2 A.own A'.own h h' → Q (.int .i64 0) h') : chgT (some ⟨A.db, 0, none⟩) c.kind c.nm c.to p1 h Q := by
  obtain ⟨u, w, f, p, hrig, hd⟩ := P.dsk
  obtain ⟨es, c0, hm, M⟩ := P.now
  obtain ⟨es2, c2, hm2, M2⟩ := P.sure
  refine ⟨A.db, 0, rfl, some A.nb, at_of hd 1, lay_p hm M D.now.s hc (fun k0 => by rw [if_pos k0] at hp; exact hp) fun es' c' M' => ?_⟩
  have C1 : Ck [0] h (h.new A.nb (.map es' c')) := Ck.put hm
  have O1 : One A.nb h (h.new A.nb (.map es' c')) := One.new _ (by rw [hm]; simp)
  have hn1 := new_at h A.nb (.map es' c')
  generalize h.new A.nb (.map es' c') = h2 at C1 O1 hn1 ⊢
  have hd2 := C1.keep _ _ hd (by simp [kd])
  have B2 := C1.buf (by decide) P.ch
  have hln : A.ch.n = S.chg.length := by have := P.ch.len; rw [chV_len] at this; omega
  refine ⟨A.db, 0, rfl, A.ch, at_of hd2 3, at_of hd2 3, append_buf B2 rfl rfl (by omega) fun s' h3 B3 hs' U3 => ?_⟩
  have C3 : Ck [96] h2 h3 := Ck.of_upd B2 U3
  have hd3 := C3.keep _ _ hd2 (by simp [kd])
  have hcell : [Value.int .i64 c.kind, .string c.nm, .string c.to, .pointer p1] = Cg.cells A.bk c := by unfold Cg.cells; rw [hp]
  have hV : chV A.bk S.chg ++ [Value.int .i64 c.kind, .string c.nm, .string c.to, .pointer p1] = chV A.bk (S.chg ++ [c]) := by rw [hcell]; unfold chV; simp
  rw [hV] at B3
  have C4 : Ck [82] h3 (h3.wr A.db (0 + 3) [.slice s'.a s'.n s'.c]) := Ck.wr hd3
  have C24 : Ck [96, 82] h2 (h3.wr A.db (0 + 3) [.slice s'.a s'.n s'.c]) := (C3.mono (by decide)).trans (C4.mono (by decide))
  refine ⟨A.db, 0, rfl, canW_new hd3 (by simp), hQ _ { A with ch := s' } rfl ⟨⟨u, w, f, p, hrig, wr_cells hd3⟩, ⟨es', c', C24.keep _ _ hn1 (by simp [kd]), M'⟩, ⟨es2, c2, C24.keep _ _ (O1.keep _ _ (fun e => P.ne e.symm) hm2) (by simp [kd]), M2⟩, P.ne, C4.buf (by decide) B3, P.fl, P.fx.mono fun k y hk e => ?_⟩ ?_⟩
  · obtain ⟨c, t, e', ht⟩ := P.fx.alive hk
    rw [e] at e'; cases e'
    exact C24.keep _ _ (C1.keep _ _ e (by simp [kd])) (by rcases ht with ht | ht <;> simp [kd, ht])
  · refine (Tr2.one (D' := A.own) O1 (.inr (.inl rfl)) fun k d => .inl d).trans ((Tr2.upd (D := A.own) (D' := PA.own { A with ch := s' }) U3 (fun k o e => .inr (.inr (.inr (.inl ⟨o, e⟩)))) fun k d => ?_).trans (Tr2.one (one_wr hd3) (.inl rfl) fun k d => .inl d))
    rcases d with d | d | d | d | d
    · exact .inl (.inl d)
    · exact .inl (.inr (.inl d))
    · exact .inl (.inr (.inr (.inl d)))
    · rcases upd_in U3 d with d | d
      · exact .inl (.inr (.inr (.inr (.inl d))))
      · exact .inr d
    · exact .inl (.inr (.inr (.inr (.inr d))))
/-- A change is done, if the machine does not fall. -/
theorem do_p {n : Int} {s s1 : ByteArray} {p1 : Option Addr} (P : PD h A S) (D : DOk S) (hup : S.down = false)
    (hF : ∀ h' m, (dfalls S 1).1 = some m → PD h' A (dfalls S 1).2 → Tr2 A.own A.own h h' → Q (.int .i64 30) h')
    (hN : ∀ h', (dfalls S 1).1 = none → PD h' A (dfalls S 1).2 → Tr2 A.own A.own h h' → (n = 1 ∧ s = s1 ∧ Q (.int .i64 0) h') ∨ (¬ (n = 1 ∧ s = s1) ∧ chgT (some ⟨A.db, 0, none⟩) n s s1 p1 h' Q)) : F50.T (some ⟨A.db, 0, none⟩) n s s1 p1 h Q := by
  unfold F50.T F50.G
  refine falls_p P D hup (by decide) (fun h1 e P1 T1 => ⟨0, false, ⟨fun h => (by cases h), fun _ => ⟨rfl, ?_⟩⟩⟩) (fun h1 m e _ _ P1 T1 => ⟨m, true, ⟨fun _ => ⟨rfl, hF h1 m e P1 T1⟩, fun h => (by cases h)⟩⟩)
  have hh := hN h1 e P1 T1
  refine ⟨fun n1 => ⟨fun es => ?_, fun es => ?_⟩, fun n1 => ?_⟩
  · rcases hh with hh | hh
    · exact hh.2.2
    · exact absurd ⟨n1, es⟩ hh.1
  · rcases hh with hh | hh
    · exact absurd hh.2.1 es
    · exact hh.2
  · rcases hh with hh | hh
    · exact absurd hh.1 n1
    · exact hh.2
theorem begin1 {s : ByteArray} {K : Value → Hp → Prop} (P : PD h A S) (D : DOk S) (hs : s.size ≤ 9223372036854775807) (hK : ∀ h', PD h' A (dbegin S (nameOk s)).2 → Tr2 A.own A.own h h' → K (.int .i64 (dbegin S (nameOk s)).1) h') :
    ∀ b, h b = none → F49.T (some ⟨A.db, 0, none⟩) ⟨(some ⟨b, 0, none⟩), 1, 1⟩ (h.new b (.cells ⟨[.string s]⟩ 9 (0, 0))) K := by
  intro b hb
  have K0 := Keep.new hb (.cells ⟨[.string s]⟩ 9 (0, 0))
  have hx := new_at h b (.cells ⟨[.string s]⟩ 9 (0, 0))
  have e : [s].all nameOk = nameOk s := by simp
  refine begin_p (ns := [s]) (P.keep K0) D ⟨rfl, .inr ⟨b, 0, rfl, fun j hj => ?_⟩⟩ (by simp) (fun t ht => by rw [List.mem_singleton.1 ht]; exact hs) fun h1 P1 T1 => ?_
  · have : j = 0 := by (try dsimp only at hj); omega
    subst this
    exact at_of hx 0
  · rw [e] at P1 ⊢
    exact hK h1 P1 (Tr2.keepTr K0 T1)
theorem look_p {s : ByteArray} {K : Option Addr → Prop} (P : PD h A S) (D : DOk S) (h0 : dget S.now s = none → K none) (h1 : ∀ i x, dget S.now s = some i → A.X[i]? = some x → K (some ⟨x.b, 0, none⟩)) :
    ∃ b o, (some ⟨A.db, 0, none⟩ : Option Addr) = some ⟨b, o, none⟩ ∧ ∃ m : Option Nat, h.at b (o + 1) = some (.map m) ∧ ∃ es c, h.mp m es c ∧ keysFit (.string s) es ∧ ∃ p1 : Option Addr, (mget es (.string s) (.pointer none)) = .pointer p1 ∧ K p1 := by
  obtain ⟨u, w, f, p, hrig, hd⟩ := P.dsk
  obtain ⟨es, c0, hm, M⟩ := P.now
  refine ⟨A.db, 0, rfl, some A.nb, at_of hd 1, es, c0, hm, M.fit _, ?_⟩
  rw [M.get]
  cases hg : dget S.now s with
  | none => exact ⟨none, rfl, h0 hg⟩
  | some i =>
    have hi : i < A.X.length := by
      have := D.now.i _ (dget_mem hg)
      rw [← P.fl, List.length_map] at this
      exact this
    have hx : A.X[i]? = some A.X[i] := List.getElem?_eq_getElem hi
    exact ⟨_, pid_get hx, h1 i _ hg hx⟩
theorem okPtr_none (h : Hp) (p : Option Addr) : okPtr h p none := fun a b _ e => by cases e
theorem rename_p {s t : ByteArray} (P : PD h A S) (D : DOk S) (hs : s.size ≤ 9223372036854775807) (ht : t.size ≤ 9223372036854775807) (hl : S.chg.length ≤ 1000000000) (hQ : ∀ h' A', A'.db = A.db → PD h' A' (kRename S s t).2 → Tr2 A.own A'.own h h' → Q (.int .i64 (kRename S s t).1) h') : F25.T (some ⟨A.db, 0, none⟩) s t h Q := by
  intro b hb
  have K0 := Keep.new hb (.cells ⟨[.string s, .string t]⟩ 9 (0, 0))
  have hx := new_at h b (.cells ⟨[.string s, .string t]⟩ 9 (0, 0))
  have e : [s, t].all nameOk = (nameOk s && nameOk t) := by simp
  refine begin_p (ns := [s, t]) (P.keep K0) D ⟨rfl, .inr ⟨b, 0, rfl, fun j hj => ?_⟩⟩ (by simp) (fun u hu => ?_) fun h1 P1 T1 => ⟨_, rfl, ?_⟩
  · rw [at_of hx, Nat.zero_add, ← Array.getElem?_toList]; rfl
  · rcases List.mem_cons.1 hu with rfl | hu
    · exact hs
    · rw [List.mem_singleton.1 hu]; exact ht
  rw [e] at P1 ⊢
  have T1 := Tr2.keepTr K0 T1
  refine ⟨fun e0 => ?_, fun e0 => ?_⟩
  · have hk : kRename S s t = kRename2 s t (dbegin S (nameOk s && nameOk t)).2 := kThen_0 e0
    have D1 := D.begin (nameOk s && nameOk t)
    have hup := (begin_up e0).2.2
    have hl1 : (dbegin S (nameOk s && nameOk t)).2.chg.length ≤ 1000000000 := by rw [(begin_same S _).2.2.2.1]; exact hl
    rw [hk] at hQ
    generalize (dbegin S (nameOk s && nameOk t)).2 = S1 at P1 D1 hup hl1 hQ
    refine look_p P1 D1 (fun hg => ⟨okPtr_none _ _, ⟨fun _ => ?_, fun h => absurd rfl h⟩⟩) (fun i x hg hx => ⟨okPtr_none _ _, ⟨fun h => (by cases h), fun _ => ?_⟩⟩)
    · have e : kRename2 s t S1 = (34, S1) := by unfold kRename2; rw [hg]
      rw [e] at hQ
      exact hQ h1 A rfl P1 T1
    · have e : kRename2 s t S1 = kFalls S1 1 fun S2 => if s = t then (0, S2) else (0, kDo S2 ⟨1, s, t, 0⟩) := by unfold kRename2; rw [hg]
      rw [e] at hQ
      refine do_p P1 D1 hup (fun h2 m e P2 T2 => ⟨_, rfl, ?_⟩) (fun h2 e P2 T2 => ?_)
      · rw [kFalls_s e] at hQ
        exact hQ h2 A rfl P2 (T1.trans T2)
      · rw [kFalls_n e] at hQ
        by_cases hst : s = t
        · rw [if_pos hst] at hQ
          exact .inl ⟨rfl, hst, _, rfl, hQ h2 A rfl P2 (T1.trans T2)⟩
        · rw [if_neg hst] at hQ
          refine .inr ⟨fun h => hst h.2, ?_⟩
          have hnow := (falls_same S1 1).2.1
          exact chg_p (c := ⟨1, s, t, 0⟩) P2 (D1.falls (by decide)) (.inr (.inl ⟨rfl, by show (dget _ s).isSome = true; rw [hnow, hg]; rfl, hst⟩)) rfl (by rw [(falls_same S1 1).2.2.2.1]; exact hl1) fun h3 A3 eA P3 T3 => ⟨_, rfl, hQ h3 A3 eA P3 (T1.trans (T2.trans T3))⟩
  · have hk : kRename S s t = dbegin S (nameOk s && nameOk t) := kThen_1 e0
    rw [hk] at hQ
    exact hQ h1 A rfl P1 T1
/-- One file more, that no name has. -/
theorem PD.newFile {x : FX} (P : PD h A S) (D : DOk S) (hb : h x.b = some (.cells ⟨[.slice x.d.a x.d.n x.d.c, .int .i64 (x.f.sure : Int)]⟩ 100 (0, 0))) (B : Buf h x.d 1 5 (bl x.f.data)) (n1 : ¬ A.own x.b) (n2 : ∀ k, inS x.d k → ¬ A.own k) : PD h { A with X := A.X ++ [x] } { S with fl := S.fl ++ [x.f] } := by
  have hlen : A.bk.length = S.fl.length := by unfold PA.bk; rw [List.length_map, ← P.fl, List.length_map]
  have hbk : PA.bk { A with X := A.X ++ [x] } = A.bk ++ [x.b] := by unfold PA.bk; simp
  obtain ⟨es, c0, hm, M⟩ := P.now
  obtain ⟨es2, c2, hm2, M2⟩ := P.sure
  refine ⟨P.dsk, ⟨es, c0, hm, ?_⟩, ⟨es2, c2, hm2, ?_⟩, P.ne, ?_, by simp [P.fl], P.fx.snoc hb B (fun e => n1 (.inr (.inr (.inr (.inr e))))) fun k hk e => n2 k hk (.inr (.inr (.inr (.inr e))))⟩
  · rw [hbk]; exact M.congr fun s i hi => (pid_app _ _ (by rw [hlen]; exact D.now.i _ (dget_mem hi))).symm
  · rw [hbk]; exact M2.congr fun s i hi => (pid_app _ _ (by rw [hlen]; exact D.sure.i _ (dget_mem hi))).symm
  · rw [hbk]
    have : chV (A.bk ++ [x.b]) S.chg = chV A.bk S.chg := by
      unfold chV
      rw [List.flatMap_def, List.flatMap_def]
      congr 1
      refine List.map_congr_left fun c hc => ?_
      unfold Cg.cells
      by_cases h0 : c.kind = 0
      · rw [if_pos h0, if_pos h0, pid_app _ _ (by rw [hlen]; exact (D.chg c hc).2.2 h0)]
      · rw [if_neg h0, if_neg h0]
    rw [this]; exact P.ch
theorem create_p {s : ByteArray} (P : PD h A S) (D : DOk S) (hs : s.size ≤ 9223372036854775807) (hl : S.chg.length ≤ 1000000000) (hQ : ∀ h' A', A'.db = A.db → PD h' A' (kCreate S s).2 → Tr2 A.own A'.own h h' → Q (.int .i64 (kCreate S s).1) h') : F20.T (some ⟨A.db, 0, none⟩) s h Q := by
  refine begin1 P D hs fun h1 P1 T1 => ⟨_, rfl, fun e0 => ?_, fun e0 => ?_⟩
  · have hk : kCreate S s = kCreate2 s (dbegin S (nameOk s)).2 := kThen_0 e0
    have D1 := D.begin (nameOk s)
    have hup := (begin_up e0).2.2
    have hl1 : (dbegin S (nameOk s)).2.chg.length ≤ 1000000000 := by rw [(begin_same S _).2.2.2.1]; exact hl
    rw [hk] at hQ
    generalize (dbegin S (nameOk s)).2 = S1 at P1 D1 hup hl1 hQ
    refine look_p P1 D1 (fun hg => ⟨okPtr_none _ _, ⟨fun _ => ?_, fun h => absurd rfl h⟩⟩) (fun i x hg hx => ⟨okPtr_none _ _, ⟨fun h => (by cases h), fun _ => ?_⟩⟩)
    · obtain ⟨u, w, f, p, hrig, hd⟩ := P1.dsk
      obtain ⟨es, c0, hm, M⟩ := P1.now
      refine ⟨A.db, 0, rfl, some A.nb, at_of hd 1, es, c0, hm, ?_⟩
      rw [M.len D1.now.s]
      refine ⟨fun hge => ?_, fun hlt b hb => ?_⟩
      · have e : kCreate2 s S1 = (32, S1) := by unfold kCreate2; rw [hg, if_neg (by simp), if_pos hge]
        rw [e] at hQ
        exact hQ h1 A rfl P1 T1
      · have e : kCreate2 s S1 = kFalls S1 1 fun S2 => (0, kDo (kNew S2) ⟨0, s, ⟨#[]⟩, S2.fl.length⟩) := by unfold kCreate2; rw [hg, if_neg (by simp), if_neg hlt]
        rw [e] at hQ
        have K0 := Keep.new hb (.cells ⟨[.slice none 0 0, .int .i64 0]⟩ 100 (0, 0))
        have hx := new_at h1 b (.cells ⟨[.slice none 0 0, .int .i64 0]⟩ 100 (0, 0))
        have hno : ¬ A.own b := fun d => by obtain ⟨o, ho⟩ := P1.alive d; rw [hb] at ho; cases ho
        refine do_p (P1.keep K0) D1 hup (fun h2 m e P2 T2 => ⟨_, rfl, ?_⟩) (fun h2 e P2 T2 => .inr ⟨fun h => by simp at h, ?_⟩)
        · rw [kFalls_s e] at hQ
          exact hQ h2 A rfl P2 (T1.trans (Tr2.keepTr K0 T2))
        · rw [kFalls_n e] at hQ
          have D2 := D1.falls (cost := 1) (by decide)
          have P3 := P2.newFile (x := ⟨b, ⟨none, 0, 0⟩, ⟨[], 0⟩⟩) D2 (T2.keep _ _ hno hx) (Buf.nil _ _ _) hno fun k hk => (inS_nil k hk).elim
          have T3 : Tr2 A.own (PA.own { A with X := A.X ++ [⟨b, ⟨none, 0, 0⟩, ⟨[], 0⟩⟩] }) h1 h2 := ⟨fun k x n e => T2.keep k x n (K0 k x e), fun k e => K0.dom k (T2.dom k e), fun k d => by
            rcases d with d | d | d | d | d
            · exact .inl (.inl d)
            · exact .inl (.inr (.inl d))
            · exact .inl (.inr (.inr (.inl d)))
            · exact .inl (.inr (.inr (.inr (.inl d))))
            · rcases ownX_snoc d with d | rfl | d
              · exact .inl (.inr (.inr (.inr (.inr d))))
              · exact .inr hb
              · exact (inS_nil k d).elim⟩
          have hlen : A.bk.length = (dfalls S1 1).2.fl.length := by unfold PA.bk; rw [List.length_map, ← P2.fl, List.length_map]
          refine chg_p (A := { A with X := A.X ++ [⟨b, ⟨none, 0, 0⟩, ⟨[], 0⟩⟩] }) (S := kNew (dfalls S1 1).2) (c := ⟨0, s, ⟨#[]⟩, (dfalls S1 1).2.fl.length⟩) P3 D2.new (.inl rfl) ?_ (by show (dfalls S1 1).2.chg.length ≤ _; rw [(falls_same S1 1).2.2.2.1]; exact hl1) fun h3 A3 eA P4 T4 => ⟨_, rfl, hQ h3 A3 eA P4 (T1.trans (T3.trans T4))⟩
          rw [if_pos rfl]
          have hbk : PA.bk { A with X := A.X ++ [⟨b, ⟨none, 0, 0⟩, ⟨[], 0⟩⟩] } = A.bk ++ [b] := by unfold PA.bk; simp
          rw [hbk, ← hlen, pid_last]
    · have e : kCreate2 s S1 = (35, S1) := by unfold kCreate2; rw [hg]; rfl
      rw [e] at hQ
      exact hQ h1 A rfl P1 T1
  · have hk : kCreate S s = dbegin S (nameOk s) := kThen_1 e0
    rw [hk] at hQ
    exact hQ h1 A rfl P1 T1
theorem delete_p {s : ByteArray} (P : PD h A S) (D : DOk S) (hs : s.size ≤ 9223372036854775807) (hl : S.chg.length ≤ 1000000000) (hQ : ∀ h' A', A'.db = A.db → PD h' A' (kDelete S s).2 → Tr2 A.own A'.own h h' → Q (.int .i64 (kDelete S s).1) h') : F26.T (some ⟨A.db, 0, none⟩) s h Q := by
  refine begin1 P D hs fun h1 P1 T1 => ⟨_, rfl, fun e0 => ?_, fun e0 => ?_⟩
  · have hk : kDelete S s = kDelete2 s (dbegin S (nameOk s)).2 := kThen_0 e0
    have D1 := D.begin (nameOk s)
    have hup := (begin_up e0).2.2
    have hl1 : (dbegin S (nameOk s)).2.chg.length ≤ 1000000000 := by rw [(begin_same S _).2.2.2.1]; exact hl
    rw [hk] at hQ
    generalize (dbegin S (nameOk s)).2 = S1 at P1 D1 hup hl1 hQ
    refine look_p P1 D1 (fun hg => ⟨okPtr_none _ _, ⟨fun _ => ?_, fun h => absurd rfl h⟩⟩) (fun i x hg hx => ⟨okPtr_none _ _, ⟨fun h => (by cases h), fun _ => ?_⟩⟩)
    · have e : kDelete2 s S1 = (34, S1) := by unfold kDelete2; rw [hg]
      rw [e] at hQ
      exact hQ h1 A rfl P1 T1
    · have e : kDelete2 s S1 = kFalls S1 1 fun S2 => (0, kDo S2 ⟨2, s, ⟨#[]⟩, 0⟩) := by unfold kDelete2; rw [hg]
      rw [e] at hQ
      refine do_p P1 D1 hup (fun h2 m e P2 T2 => ⟨_, rfl, ?_⟩) (fun h2 e P2 T2 => .inr ⟨fun h => by simp at h, ?_⟩)
      · rw [kFalls_s e] at hQ
        exact hQ h2 A rfl P2 (T1.trans T2)
      · rw [kFalls_n e] at hQ
        refine chg_p (c := ⟨2, s, ⟨#[]⟩, 0⟩) P2 (D1.falls (by decide)) (.inr (.inr rfl)) rfl (by rw [(falls_same S1 1).2.2.2.1]; exact hl1) fun h3 A3 eA P3 T3 => ⟨_, rfl, hQ h3 A3 eA P3 (T1.trans (T2.trans T3))⟩
  · have hk : kDelete S s = dbegin S (nameOk s) := kThen_1 e0
    rw [hk] at hQ
    exact hQ h1 A rfl P1 T1
end
end Go.Eng.Ytekflkpnpibneaa
end
section

/-
  SPECS OF THE DISK, 4: what the program's calls do to its disk: bytes.
-/
set_option linter.unusedSimpArgs false
set_option linter.unusedVariables false
set_option maxRecDepth 100000
namespace Go.Eng.Ytekflkpnpibneaa
section
variable {h h' : Hp} {A : PA} {S S' : Dk} {Q : Value → Hp → Prop}
theorem PD.file (P : PD h A S) {i : Nat} {x : FX} (hx : A.X[i]? = some x) : S.fl[i]? = some x.f := by rw [← P.fl, List.getElem?_map, hx]; rfl
/-- One file has changed. -/
theorem PD.set (P : PD h A S) {i : Nat} {x : FX} (hx : A.X[i]? = some x) {d' : Sl} {f' : Fil} {h1 h2 : Hp} (U : Upd h h1 x.d d') (B : Buf h1 d' 1 5 (bl f'.data)) (O : One x.b h1 h2)
    (hb : h2 x.b = some (.cells ⟨[.slice d'.a d'.n d'.c, .int .i64 (f'.sure : Int)]⟩ 100 (0, 0))) : PD h2 { A with X := A.X.set i ⟨x.b, d', f'⟩ } { S with fl := S.fl.set i f' } ∧ Tr2 A.own (PA.own { A with X := A.X.set i ⟨x.b, d', f'⟩ }) h h2 := by
  obtain ⟨F, C, T⟩ := P.fx.set (by decide) hx U B O hb
  have hbk : PA.bk { A with X := A.X.set i ⟨x.b, d', f'⟩ } = A.bk := by
    unfold PA.bk
    show (A.X.set i _).map _ = _
    rw [List.map_set]
    apply List.ext_getElem?
    intro n
    rw [List.getElem?_set]
    split
    · next hn =>
      subst hn
      split
      · rw [List.getElem?_map, hx]; rfl
      · next hl => rw [List.getElem?_eq_none (by omega)]
    · rfl
  obtain ⟨u, w, f, p, hrig, hd⟩ := P.dsk
  obtain ⟨es, c0, hm, M⟩ := P.now
  obtain ⟨es2, c2, hm2, M2⟩ := P.sure
  refine ⟨⟨⟨u, w, f, p, hrig, C.keep _ _ hd (by simp [kd])⟩, ⟨es, c0, C.keep _ _ hm (by simp [kd]), by rw [hbk]; exact M⟩, ⟨es2, c2, C.keep _ _ hm2 (by simp [kd]), by rw [hbk]; exact M2⟩, P.ne, by rw [hbk]; exact C.buf (by decide) P.ch, by show (A.X.set i _).map _ = S.fl.set i _; rw [List.map_set, P.fl], F⟩, ⟨fun k y hk e => ?_, T.dom, fun k d => ?_⟩⟩
  · by_cases hX : ownX A.X k
    · exact absurd (.inr (.inr (.inr (.inr hX)))) hk
    · exact T.keep k y hX e
  · rcases d with d | d | d | d | d
    · exact .inl (.inl d)
    · exact .inl (.inr (.inl d))
    · exact .inl (.inr (.inr (.inl d)))
    · exact .inl (.inr (.inr (.inr (.inl d))))
    · rcases T.grow k d with d | d
      · exact .inl (.inr (.inr (.inr (.inr d))))
      · exact .inr d
theorem addTo_of {i : Nat} {f : Fil} {b : List UInt8} (hf : S.fl[i]? = some f) : addTo S i b = { S with fl := S.fl.set i ⟨f.data ++ b, f.sure⟩ } := by unfold addTo; rw [hf]
theorem sureAll_of {i : Nat} {f : Fil} (hf : S.fl[i]? = some f) : sureAll S i = { S with fl := S.fl.set i ⟨f.data, f.data.length⟩ } := by unfold sureAll; rw [hf]
theorem dlen_of {i : Nat} {f : Fil} (hf : S.fl[i]? = some f) : dlen S i = f.data.length := by unfold dlen; rw [hf]
/-- Bytes laid at a file's end. -/
theorem lay_bytes {i m : Nat} {x : FX} {v : List UInt8} (P : PD h A S) (hx : A.X[i]? = some x) (hm : v.length = m) (hs : x.f.data.length + m ≤ 4294967296)
    {e : Int} (hQ : ∀ h' A', A'.db = A.db → PD h' A' (addTo S i v) → Tr2 A.own A'.own h h' → Q (.int .i64 e) h') :
    ∃ l1 : Sl, h.at x.b 0 = some (.slice l1.a l1.n l1.c) ∧ appendD l1 5 1 1 [.int .u8 0] m (bl v) h fun l2 h3 => ∃ b5 o3, (some ⟨x.b, 0, none⟩ : Option Addr) = some ⟨b5, o3, none⟩ ∧ h3.canW b5 o3 1 ∧ Q (.int .i64 e) (h3.wr b5 o3 [.slice l2.a l2.n l2.c]) := by
  have hb := P.fx.fb x (List.mem_of_getElem? hx)
  have B := P.fx.fd x (List.mem_of_getElem? hx)
  have hn : x.d.n = x.f.data.length := by have := B.len; rw [bl_len] at this; omega
  refine ⟨x.d, at_of hb 0, append_buf B rfl (by rw [bl_len]; omega) (by omega) fun d' h3 B3 hn' U => ?_⟩
  have hb3 := (Ck.of_upd B U).keep _ _ hb (by simp [kd])
  rw [← bl_app] at B3
  obtain ⟨P', T'⟩ := P.set hx (f' := ⟨x.f.data ++ v, x.f.sure⟩) U B3 (one_wr hb3 (o := 0) (vs := [.slice d'.a d'.n d'.c])) (wr_cells hb3)
  rw [← addTo_of (P.file hx)] at P'
  exact ⟨x.b, 0, rfl, canW_new hb3 (by simp), hQ _ { A with X := A.X.set i ⟨x.b, d', ⟨x.f.data ++ v, x.f.sure⟩⟩ } rfl P' T'⟩
theorem sync_p {s : ByteArray} (P : PD h A S) (D : DOk S) (hs : s.size ≤ 9223372036854775807) (hQ : ∀ h' A', A'.db = A.db → PD h' A' (kSync S s).2 → Tr2 A.own A'.own h h' → Q (.int .i64 (kSync S s).1) h') : F23.T (some ⟨A.db, 0, none⟩) s h Q := by
  refine begin1 P D hs fun h1 P1 T1 => ⟨_, rfl, fun e0 => ?_, fun e0 => ?_⟩
  · have hk : kSync S s = kSync2 s (dbegin S (nameOk s)).2 := kThen_0 e0
    have D1 := D.begin (nameOk s)
    have hup := (begin_up e0).2.2
    rw [hk] at hQ
    generalize (dbegin S (nameOk s)).2 = S1 at P1 D1 hup hQ
    refine look_p P1 D1 (fun hg => ⟨okPtr_none _ _, ⟨fun _ => ?_, fun h => absurd rfl h⟩⟩) (fun i x hg hx => ⟨okPtr_none _ _, ⟨fun h => (by cases h), fun _ => ?_⟩⟩)
    · have e : kSync2 s S1 = (34, S1) := by unfold kSync2; rw [hg]
      rw [e] at hQ
      exact hQ h1 A rfl P1 T1
    · have e : kSync2 s S1 = kFalls S1 1 fun S2 => (0, sureAll S2 i) := by unfold kSync2; rw [hg]
      rw [e] at hQ
      refine falls_p P1 D1 hup (by decide) (fun h2 e P2 T2 => ⟨0, false, ⟨fun h => (by cases h), fun _ => ⟨rfl, ?_⟩⟩⟩) (fun h2 m e _ _ P2 T2 => ⟨m, true, ⟨fun _ => ⟨rfl, ?_⟩, fun h => (by cases h)⟩⟩)
      · rw [kFalls_n e] at hQ
        have hb := P2.fx.fb x (List.mem_of_getElem? hx)
        have B := P2.fx.fd x (List.mem_of_getElem? hx)
        have hn : x.d.n = x.f.data.length := by have := B.len; rw [bl_len] at this; omega
        refine ⟨x.b, 0, rfl, x.d, at_of hb 0, x.b, 0, rfl, canW_new hb (by simp), ?_⟩
        obtain ⟨P', T'⟩ := P2.set hx (f' := ⟨x.f.data, x.f.data.length⟩) (Upd.refl _ _) B (one_wr hb (o := 0 + 1) (vs := [.int .i64 (x.d.n : Int)])) (by rw [wr_cells hb, hn]; rfl)
        rw [← sureAll_of (P2.file hx)] at P'
        exact hQ _ { A with X := A.X.set i ⟨x.b, x.d, ⟨x.f.data, x.f.data.length⟩⟩ } rfl P' (T1.trans (T2.trans T'))
      · rw [kFalls_s e] at hQ
        exact hQ h2 A rfl P2 (T1.trans T2)
  · have hk : kSync S s = dbegin S (nameOk s) := kThen_1 e0
    rw [hk] at hQ
    exact hQ h1 A rfl P1 T1
theorem read_p {s : ByteArray} (P : PD h A S) (D : DOk S) (hs : s.size ≤ 9223372036854775807) (hQ : ∀ h' r, Keep h h' → Buf h' r 1 5 (bl (kRead S s).2) → NewN h r → Q (.tuple ⟨[.slice r.a r.n r.c, .int .i64 (kRead S s).1]⟩) h') : F24.T (some ⟨A.db, 0, none⟩) s h Q := by
  obtain ⟨u, w, f, p, hrig, hd⟩ := P.dsk
  refine ⟨A.db, 0, rfl, S.down, at_of hd 8, fun e0 => ?_, fun e0 => name_spec hs fun h1 K1 => ⟨nameOk s, rfl, fun e1 => ?_, fun e1 => ?_⟩⟩
  · have e : kRead S s = (30, []) := by unfold kRead; rw [if_pos e0]
    rw [e] at hQ
    exact hQ h ⟨none, 0, 0⟩ (Keep.refl h) (Buf.nil _ _ _) (NewN.nil _)
  · have P1 := P.keep K1
    refine look_p P1 D (fun hg => ⟨okPtr_none _ _, ⟨fun _ => ?_, fun h => absurd rfl h⟩⟩) (fun i x hg hx => ⟨okPtr_none _ _, ⟨fun h => (by cases h), fun _ => ?_⟩⟩)
    · have e : kRead S s = (34, []) := by unfold kRead; rw [if_neg (by rw [e0]; simp), if_neg (by rw [e1]; simp), hg]
      rw [e] at hQ
      exact hQ h1 ⟨none, 0, 0⟩ K1 (Buf.nil _ _ _) (NewN.nil _)
    · have e : kRead S s = (0, x.f.data) := by unfold kRead; rw [if_neg (by rw [e0]; simp), if_neg (by rw [e1]; simp), hg]; show (0, _) = _; rw [P1.file hx]
      rw [e] at hQ
      refine look_p P1 D (fun hg' => by rw [hg] at hg'; cases hg') (fun j y hg' hy => ?_)
      rw [hg] at hg'; cases hg'
      rw [hx] at hy; cases hy
      have hb := P1.fx.fb x (List.mem_of_getElem? hx)
      have B := P1.fx.fd x (List.mem_of_getElem? hx)
      have hl := (D.fl x.f (List.mem_of_getElem? (P1.file hx))).1
      refine ⟨x.b, 0, rfl, x.d, at_of hb 0, clone_bytes B.row B.cap (fun ha => ?_) (by omega) fun h2 r K2 B2 N2 => ⟨r, rfl, hQ h2 r (K1.trans K2) B2 (N2.mono K1.dom)⟩⟩
      rcases B.own with ⟨_, hc⟩ | ⟨b, c, f, ha', _⟩
      · have := B.cap; omega
      · rw [ha] at ha'; cases ha'
  · have e : kRead S s = (33, []) := by unfold kRead; rw [if_neg (by rw [e0]; simp), if_pos e1]
    rw [e] at hQ
    exact hQ h1 ⟨none, 0, 0⟩ K1 (Buf.nil _ _ _) (NewN.nil _)
/-! ### Is there room? -/
theorem sum_le {l : List Nat} {B : Nat} (h : ∀ x ∈ l, x ≤ B) : l.sum ≤ l.length * B := by
  induction l with
  | nil => simp
  | cons x l ih =>
    have h1 := h x List.mem_cons_self
    have h2 := ih fun y hy => h y (List.mem_cons_of_mem _ hy)
    rw [List.sum_cons, List.length_cons, Nat.succ_mul]; omega
theorem dlen_le (D : DOk S) (i : Nat) : dlen S i ≤ 2147483648 := by
  unfold dlen
  split
  · next f hf => exact (D.fl f (List.mem_of_getElem? hf)).1
  · omega
theorem dtot_le (D : DOk S) : dtot S ≤ 18014398509481984 := by
  have h1 := sum_le (l := S.now.map fun x => dlen S x.2) (B := 2147483648) fun n hn => by
    obtain ⟨x, _, rfl⟩ := List.mem_map.1 hn
    exact dlen_le D _
  rw [List.length_map] at h1
  have := D.len
  exact Nat.le_trans h1 (Nat.mul_le_mul_right 2147483648 this)
/-- How many bytes the file of a map's value has. -/
def vlen (h : Hp) (v : Value) : Nat := match v with
  | .pointer (some a) => match h.at a.block 0 with | some (.slice _ n _) => n | _ => 0
  | _ => 0
theorem vlen_pid (P : PD h A S) {i : Nat} (hi : i < A.X.length) : vlen h (pid A.bk i) = dlen S i := by
  have hx : A.X[i]? = some A.X[i] := List.getElem?_eq_getElem hi
  have hb := P.fx.fb _ (List.mem_of_getElem? hx)
  have B := P.fx.fd _ (List.mem_of_getElem? hx)
  have e : h.at A.X[i].b 0 = some (.slice A.X[i].d.a A.X[i].d.n A.X[i].d.c) := at_of hb 0
  rw [pid_get hx]
  unfold vlen
  simp only [e]
  have := B.len
  rw [bl_len] at this
  rw [dlen_of (P.file hx)]
  omega
theorem full_p {i : Nat} {x : FX} {n : Int} (P : PD h A S) (D : DOk S) (hx : A.X[i]? = some x) (h0 : 0 ≤ n) (h1 : n ≤ 4294967296) (hQ : ∀ h', Keep h h' → Q (.bool (dfull S i n)) h') : F51.T (some ⟨A.db, 0, none⟩) (some ⟨x.b, 0, none⟩) n h Q := by
  obtain ⟨u, w, f, p, hrig, hd⟩ := P.dsk
  obtain ⟨es, c0, hm, M⟩ := P.now
  have hb := P.fx.fb x (List.mem_of_getElem? hx)
  have B := P.fx.fd x (List.mem_of_getElem? hx)
  have hn : x.d.n = x.f.data.length := by have := B.len; rw [bl_len] at this; omega
  have hl := (D.fl x.f (List.mem_of_getElem? (P.file hx))).1
  have hdl := dlen_of (P.file hx)
  have ht := dtot_le D
  have hf : dfull S i n = (decide (2147483648 < (x.d.n : Int) + n) || (decide (S.room ≠ 0) && decide (S.room < n + (dtot S : Int)))) := by unfold dfull; rw [hdl, hn]
  refine ⟨x.b, 0, rfl, x.d, at_of hb 0, ?_⟩
  rw [wrap_i64 (by omega) (by omega)]
  refine ⟨fun hgt => ?_, fun hle => ⟨A.db, 0, rfl, S.room, at_of hd 0, fun hr => ?_, fun hr => ⟨A.db, 0, rfl, some A.nb, at_of hd 1, es, c0, hm, fun b3 hb3 => ?_⟩⟩⟩
  · have := hQ h (Keep.refl h)
    rw [hf, decide_eq_true hgt] at this
    exact this
  · have := hQ h (Keep.refl h)
    rw [hf, decide_eq_false hle, decide_eq_false (by omega : ¬ S.room ≠ 0)] at this
    exact this
  have hw : ∀ e ∈ es.toList, ∃ s j, e.key = .string s ∧ e.val = pid A.bk j ∧ j < A.X.length := fun e he => by
    obtain ⟨s, j, k1, k2, k3⟩ := M.mem e he
    refine ⟨s, j, k1, k3, ?_⟩
    have := D.now.i _ (dget_mem k2)
    rw [← P.fl, List.length_map] at this
    exact this
  have hsum : (es.toList.map fun e => vlen h e.val).sum = dtot S := by
    have hp := ((M.perm D.now.s).map fun kv => vlen h kv.2).sum_nat
    rw [List.map_map, List.map_map] at hp
    have e1 : ((fun kv : Value × Value => vlen h kv.2) ∘ fun e : MapEntry => (e.key, e.val)) = fun e => vlen h e.val := rfl
    rw [e1] at hp
    rw [hp]
    unfold dtot
    congr 1
    refine List.map_congr_left fun y hy => ?_
    have := D.now.i y hy
    rw [← P.fl, List.length_map] at this
    exact vlen_pid P this
  refine ⟨fun n2 h1 => ∃ X Y : List MapEntry, es.toList.Perm (X ++ Y) ∧ h1 = h.new b3 (.mapIter (some A.nb) c0 (X.map (·.born)).toArray c0) ∧ n2 = n + ((X.map fun e => vlen h e.val).sum : Int),
    fun _ h1 => match h1 b3 with | some (.mapIter _ _ sn _) => es.size - sn.size | _ => 0, ⟨[], es.toList, List.Perm.refl _, rfl, by simp⟩, ?_⟩
  rintro n2 h1 ⟨X, Y, hp, rfl, rfl⟩
  have hst := M.st
  have hborn : ∀ e ∈ es.toList, e.born < c0 := hst.1
  have hnd : ((X ++ Y).map (·.born)).Nodup := (hp.map _).nodup_iff.1 hst.2.1
  have hle : (X.map fun e => vlen h e.val).sum + (Y.map fun e => vlen h e.val).sum = dtot S := by
    rw [← hsum, (hp.map fun e => vlen h e.val).sum_nat, List.map_append, List.sum_append]
  have hnb : A.nb ≠ b3 := ne_of hm hb3
  have hlen := hp.length_eq
  rw [List.length_append, Array.length_toList] at hlen
  refine ⟨b3, some A.nb, c0, (X.map (·.born)).toArray, c0, es, c0, rfl, new_at _ _ _, ?_, ?_, ?_, ?_⟩
  · show (h.new b3 _) A.nb = _
    rw [new_ne _ _ hnb]; exact hm
  · unfold nextOk
    rw [Bool.not_eq_true', Bool.and_eq_false_iff, Bool.and_eq_false_iff]
    by_cases hz : es.size = 0
    · exact .inl (.inr (by rw [Array.eq_empty_of_size_eq_zero hz]; rfl))
    · refine .inr (Bool.eq_false_iff.2 fun hall => ?_)
      have hm0 : es[0] ∈ es.toList := by rw [Array.mem_toList_iff]; exact Array.getElem_mem _
      have h1 := Array.all_eq_true.1 hall 0 (by omega)
      have h2 := hborn _ hm0
      rw [decide_eq_true_eq] at h1
      omega
  · intro e he hns
    have hin : e ∈ X ++ Y := hp.subset he
    have hY : e ∈ Y := by
      rcases List.mem_append.1 hin with hX | hY
      · exfalso
        have : (X.map (·.born)).toArray.contains e.born = true := by simp only [List.contains_toArray, List.contains_iff_mem]; exact List.mem_map_of_mem hX
        rw [this] at hns; cases hns
      · exact hY
    obtain ⟨Y1, Y2, rfl⟩ := List.append_of_mem hY
    obtain ⟨s, j, k1, k2, k3⟩ := hw e he
    have hx2 : A.X[j]? = some A.X[j] := List.getElem?_eq_getElem k3
    have hb2 := P.fx.fb _ (List.mem_of_getElem? hx2)
    have hfind : es.find? (fun e' => e'.born == e.born) = some e := by
      have hin := hst.2.1
      cases hfe : es.find? (fun e' => e'.born == e.born) with
      | none =>
        have := Array.find?_eq_none.1 hfe e (Array.mem_toList_iff.1 he)
        simp at this
      | some e' =>
        have h1 := Array.find?_some hfe
        have h2 := Array.mem_of_find?_eq_some hfe
        rw [beq_iff_eq] at h1
        have h3 := List.pairwise_map.1 hin
        obtain ⟨i1, hi1⟩ := List.mem_iff_getElem?.1 he
        obtain ⟨i2, hi2⟩ := List.mem_iff_getElem?.1 (Array.mem_toList_iff.2 h2)
        have l1 := (List.getElem?_eq_some_iff.1 hi1)
        have l2 := (List.getElem?_eq_some_iff.1 hi2)
        obtain ⟨l1, l1'⟩ := l1
        obtain ⟨l2, l2'⟩ := l2
        rcases Nat.lt_trichotomy i1 i2 with hlt | heq | hgt
        · exact absurd (by rw [l1', l2', h1]) (List.pairwise_iff_getElem.1 h3 i1 i2 l1 l2 hlt)
        · subst heq; rw [hi1] at hi2; rw [Option.some.inj hi2]
        · exact absurd (by rw [l1', l2', h1]) (List.pairwise_iff_getElem.1 h3 i2 i1 l2 l1 hgt)
    have hpush : (X.map (·.born)).toArray.push e.born = ((X ++ [e]).map (·.born)).toArray := by simp
    have hnew : ∀ o o', (h.new b3 o).new b3 o' = h.new b3 o' := fun o o' => new_new h b3 o o'
    have hv : vlen h e.val = A.X[j].d.n := by
      rw [k2, pid_get hx2]
      have e1 : h.at A.X[j].b 0 = some (.slice A.X[j].d.a A.X[j].d.n A.X[j].d.c) := at_of hb2 0
      unfold vlen
      simp only [e1]
    have hbj : A.X[j].b ≠ b3 := ne_of hb2 hb3
    rw [hnew, hpush]
    rw [List.map_append, List.sum_append, List.map_cons, List.sum_cons] at hle
    refine ⟨b3, A.nb, c0, ((X ++ [e]).map (·.born)).toArray, es, c0, e.born, e, rfl, new_at _ _ _, by simp, by rw [new_ne _ _ hnb]; exact hm, hfind, s, some ⟨A.X[j].b, 0, none⟩, by rw [k1, k2, pid_get hx2], A.X[j].b, 0, rfl, A.X[j].d, by unfold Hp.at; rw [new_ne _ _ hbj]; exact at_of hb2 0, ?_⟩
    rw [wrap_i64 (by omega) (by omega)]
    refine ⟨⟨X ++ [e], Y1 ++ Y2, hp.trans ?_, rfl, by rw [List.map_append, List.sum_append]; simp [hv]; omega⟩, ?_⟩
    · rw [List.append_assoc]
      exact List.Perm.append_left X List.perm_middle
    · dsimp only
      rw [new_at, new_at]
      simp only [List.length_append, List.length_cons] at hlen
      simp only [List.size_toArray, List.length_map, List.length_append, List.length_singleton]
      omega
  · intro hall
    have hY : Y = [] := by
      rcases Y with _ | ⟨y, Y⟩
      · rfl
      · exfalso
        have hy : y ∈ es.toList := hp.symm.subset (by simp)
        have h1 := hall y hy (hborn y hy)
        simp only [List.contains_toArray, List.contains_iff_mem] at h1
        rw [List.map_append, List.map_cons] at hnd
        exact (List.nodup_append.1 hnd).2.2 _ h1 _ List.mem_cons_self rfl
    subst hY
    rw [List.map_nil, List.sum_nil, Nat.add_zero] at hle
    have K := Keep.new hb3 (.mapIter (some A.nb) c0 (X.map (·.born)).toArray c0)
    refine ⟨A.db, 0, rfl, S.room, at_of (K _ _ hd) 0, ?_⟩
    rw [hle]
    have := hQ _ K
    rw [hf, decide_eq_false ‹¬ (2147483648 : Int) < (x.d.n : Int) + n›, decide_eq_true hr, Bool.false_or, Bool.true_and] at this
    exact ⟨fun h => by rw [decide_eq_true h] at this; exact this, fun h => by rw [decide_eq_false h] at this; exact this⟩
/-- The first bytes of a list, that lie in it. -/
theorem take_row {l : Sl} {v : List UInt8} {n : Int} (B : Buf h l 1 5 (bl v)) (h0 : 0 ≤ n) (h1 : n ≤ (v.length : Int)) : Sl.okCut l 0 n (l.c : Int) ∧ ∃ vs, h.row ((Sl.cut l 1 0 n (l.c : Int)).a) (((Sl.cut l 1 0 n (l.c : Int)).n) * 1) vs ∧ (∀ v ∈ vs, Value.oneCell' v = true) ∧ vs = bl (v.take n.toNat) ∧ (Sl.cut l 1 0 n (l.c : Int)).n = n.toNat := by
  have hl := B.len
  rw [bl_len] at hl
  have hc := B.cap
  obtain ⟨k, rfl⟩ := Int.eq_ofNat_of_zero_le h0
  refine ⟨⟨by omega, by omega, by omega, by omega⟩, bl (v.take k), ?_, bl_one _, by simp, by simp [Sl.cut]⟩
  have hn : (Sl.cut l 1 0 (k : Int) (l.c : Int)).n = k := by simp [Sl.cut]
  rw [hn]
  refine ⟨by rw [bl_len, List.length_take]; omega, ?_⟩
  by_cases hk : k = 0
  · exact .inl (by omega)
  · obtain ⟨b, o, ha, hat⟩ := row_get B.row (i := 0) (by omega)
    refine .inr ⟨b, o, ?_, fun j hj => ?_⟩
    · have hcc : (l.c : Int).toNat ≠ (0 : Int).toNat := by omega
      show (if (l.c : Int).toNat = (0 : Int).toNat then l.a else l.a.map (·.add ((0 : Int).toNat * 1))) = _
      rw [if_neg hcc, ha]; rfl
    · rw [hat j (by omega)]
      unfold bl
      rw [List.map_take, List.getElem?_take_of_lt (by omega)]
theorem append_p {s : ByteArray} {l : Sl} {v : List UInt8} (P : PD h A S) (D : DOk S) (hs : s.size ≤ 9223372036854775807) (B : Buf h l 1 5 (bl v)) (hd : ∀ k, inS l k → ¬ A.own k) (hv : v.length ≤ 1073741824)
    (hQ : ∀ h' A', A'.db = A.db → PD h' A' (kAppend S s v).2 → Tr2 A.own A'.own h h' → Q (.int .i64 (kAppend S s v).1) h') : F22.T (some ⟨A.db, 0, none⟩) s l h Q := by
  obtain ⟨u, w, f, p, hrig, hdk⟩ := P.dsk
  have hln : l.n = v.length := by have := B.len; rw [bl_len] at this; omega
  refine ⟨A.db, 0, rfl, p, at_of hdk ((0 + 4) + 3), begin1 P D hs fun h1 P1 T1 => ⟨_, rfl, ?_⟩⟩
  have D1 := D.begin (nameOk s)
  have B1 : Buf h1 l 1 5 (bl v) := buf_mono B fun k x hk e => T1.keep k x (hd k hk) e
  have hd1 : ∀ k, inS l k → ¬ A.own k := hd
  refine look_p P1 D1 (fun hg => ⟨fun e31 => ⟨okPtr_none _ _, ⟨fun _ => ?_, fun h => absurd rfl h⟩⟩, fun n31 => ⟨fun e0 => ⟨okPtr_none _ _, ⟨fun _ => ?_, fun h => absurd rfl h⟩⟩, fun n0 => ?_⟩⟩)
    (fun i x hg hx => ⟨fun e31 => ⟨okPtr_none _ _, ⟨fun h => (by cases h), fun _ => ?_⟩⟩, fun n31 => ⟨fun e0 => ⟨okPtr_none _ _, ⟨fun h => (by cases h), fun _ => ?_⟩⟩, fun n0 => ?_⟩⟩)
  · have hk : kAppend S s v = kPart s v (iMin S.part (v.length : Int)) (dbegin S (nameOk s)).2 := by unfold kAppend; rw [if_pos e31]
    have e : kAppend S s v = (31, (dbegin S (nameOk s)).2) := by rw [hk]; unfold kPart; rw [hg]
    rw [e] at hQ
    rw [e31]
    exact hQ h1 A rfl P1 T1
  · have hk : kAppend S s v = kAppend2 s v (dbegin S (nameOk s)).2 := by unfold kAppend; rw [if_neg n31, kThen_0 e0]
    have e : kAppend S s v = (34, (dbegin S (nameOk s)).2) := by rw [hk]; unfold kAppend2; rw [hg]
    rw [e] at hQ
    exact hQ h1 A rfl P1 T1
  · have hk : kAppend S s v = dbegin S (nameOk s) := by unfold kAppend; rw [if_neg n31, kThen_1 n0]
    rw [hk] at hQ
    exact hQ h1 A rfl P1 T1
  · have hk : kAppend S s v = kPart s v (iMin S.part (v.length : Int)) (dbegin S (nameOk s)).2 := by unfold kAppend; rw [if_pos e31]
    have hpp : p = S.part := (hrig (begin_31 e31).1).2.2.2
    have hpos := D.pos
    have hmin : 0 ≤ iMin S.part (v.length : Int) := by unfold iMin; split <;> omega
    have hmin2 := (iMin_le S.part (v.length : Int)).2
    rw [hk] at hQ
    rw [e31, hpp, hln]
    generalize (dbegin S (nameOk s)).2 = S1 at P1 D1 hQ hg
    generalize iMin S.part (v.length : Int) = n at hQ hmin hmin2
    refine full_p P1 D1 hx hmin (by omega) fun h2 K2 => ⟨_, rfl, fun hf => ?_, fun hf => ?_⟩
    · have e : kPart s v n S1 = (31, S1) := by unfold kPart; rw [hg]; show (if _ then _ else _) = _; rw [if_pos hf]
      rw [e] at hQ
      exact hQ h2 A rfl (P1.keep K2) (T1.trKeep K2)
    · have e : kPart s v n S1 = (31, addTo S1 i (v.take n.toNat)) := by unfold kPart; rw [hg]; show (if _ then _ else _) = _; rw [if_neg (by rw [hf]; simp)]
      rw [e] at hQ
      obtain ⟨hc, vs, hr, ho, rfl, hn⟩ := take_row (B1.keep K2) hmin hmin2
      have hlt : (v.take n.toNat).length = n.toNat := by rw [List.length_take]; omega
      have hfl := (D1.fl _ (List.mem_of_getElem? (P1.file hx))).1
      obtain ⟨l1, e2, e3⟩ := lay_bytes (Q := Q) (e := 31) (P1.keep K2) hx hlt (by omega) fun h3 A3 eA P3 T3 => hQ h3 A3 eA P3 ((T1.trKeep K2).trans T3)
      refine ⟨x.b, 0, rfl, l1, e2, hc, _, hr, ho, ?_⟩
      rw [hn]
      exact e3
  · have hk : kAppend S s v = kAppend2 s v (dbegin S (nameOk s)).2 := by unfold kAppend; rw [if_neg n31, kThen_0 e0]
    have e : kAppend S s v = kAppend3 i v (dbegin S (nameOk s)).2 := by rw [hk]; unfold kAppend2; rw [hg]
    have hup := (begin_up e0).2.2
    rw [e] at hQ
    rw [hln]
    generalize (dbegin S (nameOk s)).2 = S1 at P1 D1 hQ hg hup
    refine full_p P1 D1 hx (by omega) (by omega) fun h2 K2 => ⟨_, rfl, fun hf => ?_, fun hf => ?_⟩
    · have e : kAppend3 i v S1 = (32, S1) := by unfold kAppend3; rw [if_pos hf]
      rw [e] at hQ
      exact hQ h2 A rfl (P1.keep K2) (T1.trKeep K2)
    · rw [wrap_i64 (by omega) (by omega)]
      have e : kAppend3 i v S1 = match (dfalls S1 (1 + (v.length : Int))).1 with
        | some n => (30, addTo (dfalls S1 (1 + (v.length : Int))).2 i (v.take n.toNat))
        | none => (0, addTo (dfalls S1 (1 + (v.length : Int))).2 i v) := by unfold kAppend3; rw [if_neg (by rw [hf]; simp)]; rfl
      have hfl := (D1.fl _ (List.mem_of_getElem? (P1.file hx))).1
      refine falls_p (P1.keep K2) D1 hup (by omega) (fun h3 e' P3 T3 => ⟨0, false, ⟨fun h => (by cases h), fun _ => ⟨rfl, ?_⟩⟩⟩) (fun h3 m e' hm0 hm1 P3 T3 => ⟨m, true, ⟨fun _ => ⟨rfl, ?_⟩, fun h => (by cases h)⟩⟩)
      · rw [e, e'] at hQ
        have B3 : Buf h3 l 1 5 (bl v) := buf_mono (B1.keep K2) fun k x hk e => T3.keep k x (hd k hk) e
        obtain ⟨l1, e2, e3⟩ := lay_bytes (Q := Q) (e := 0) P3 hx (m := v.length) rfl (by omega) fun h4 A4 eA P4 T4 => hQ h4 A4 eA P4 ((T1.trKeep K2).trans (T3.trans T4))
        exact ⟨x.b, 0, rfl, l1, e2, bl v, hln ▸ B3.row, bl_one _, e3⟩
      · rw [e, e'] at hQ
        have B3 : Buf h3 l 1 5 (bl v) := buf_mono (B1.keep K2) fun k x hk e => T3.keep k x (hd k hk) e
        have hmle : m ≤ (v.length : Int) := by omega
        obtain ⟨hc, vs, hr, ho, rfl, hn⟩ := take_row B3 hm0 hmle
        have hlt : (v.take m.toNat).length = m.toNat := by rw [List.length_take]; omega
        obtain ⟨l1, e2, e3⟩ := lay_bytes (Q := Q) (e := 30) P3 hx hlt (by omega) fun h4 A4 eA P4 T4 => hQ h4 A4 eA P4 ((T1.trKeep K2).trans (T3.trans T4))
        refine ⟨x.b, 0, rfl, l1, e2, hc, _, hr, ho, ?_⟩
        rw [hn]
        exact e3
  · have hk : kAppend S s v = dbegin S (nameOk s) := by unfold kAppend; rw [if_neg n31, kThen_1 n0]
    rw [hk] at hQ
    exact hQ h1 A rfl P1 T1
end
end Go.Eng.Ytekflkpnpibneaa
end
section

/-
  SPECS OF THE DISK, 5: what the program's disk tells: its files, and what a fall would leave.
-/
set_option linter.unusedSimpArgs false
set_option linter.unusedVariables false
set_option maxRecDepth 100000
namespace Go.Eng.Ytekflkpnpibneaa
/-! ### Lists of files, one's own -/
/-- WRITING A CELL of a buffer. -/
theorem buf_set {h : Hp} {s : Sl} {sz t k : Nat} {vs : List Value} (B : Buf h s sz t vs) (hk : k < vs.length) : ∃ b, s.a = some ⟨b, 0, none⟩ ∧ h.at b k = vs[k]? ∧ h.canW b k 1 ∧ ∀ v, Upd h (h.wr b k [v]) s s ∧ Buf (h.wr b k [v]) s sz t (vs.set k v) := by
  rcases B.own with ⟨ha, hc⟩ | ⟨b, c, f, ha, hb, hsz, hf, ht⟩
  · have h1 := B.len
    have h2 := B.cap
    have : s.n = 0 := by omega
    rw [this, Nat.zero_mul] at h1
    omega
  · have hlen : vs.length ≤ c.size := by
      rw [B.len]
      exact Nat.le_trans (Nat.mul_le_mul_right _ B.cap) hsz
    have hget : c[k]? = vs[k]? := by
      rw [← ht, List.getElem?_take, if_pos hk, Array.getElem?_toList]
    refine ⟨b, ha, by unfold Hp.at; rw [hb]; exact hget, ⟨c, t, f, hb, by omega, fun j h1 h2 => hf j (by omega)⟩, fun v => ⟨⟨fun j x hj e => ?_, .inl rfl, fun j e => ?_⟩, ⟨by rw [List.length_set]; exact B.len, B.cap, .inr ⟨b, (setL c.toList k [v]).toArray, f, ha, wr_cells hb, ?_, ?_, ?_⟩⟩⟩⟩
    · have hjb : j ≠ b := fun q => hj 0 (by rw [q]; exact ha)
      unfold Hp.wr
      rw [if_neg hjb]
      exact e
    · unfold Hp.wr at e
      by_cases hjb : j = b
      · rw [if_pos hjb, hb] at e; cases e
      · rw [if_neg hjb] at e; exact e
    · simp only [List.size_toArray, setL_length, Array.length_toList]; exact hsz
    · intro j hj
      simp only [List.size_toArray, setL_length, Array.length_toList] at hj
      exact hf j hj
    · show (c.toList.set k v).take _ = _
      rw [List.length_set, List.take_set, ht]
theorem cut_a (s : Sl) (k m : Int) {sz : Nat} : (Sl.cut s sz 0 k m).a = s.a := by
  unfold Sl.cut
  simp only [Int.toNat_zero, Nat.zero_mul]
  split
  · rfl
  · cases s.a with
    | none => rfl
    | some a => simp [Addr.add]
theorem buf_cut2 {h : Hp} {s : Sl} {t : Nat} {vs : List Value} (B : Buf h s 1 t vs) {k : Nat} (hk : k ≤ s.n) : Buf h (Sl.cut s 1 0 (k : Int) (k : Int)) 1 t (vs.take k) := by
  have hn : (Sl.cut s 1 0 (k : Int) (k : Int)).n = k := by simp [Sl.cut]
  have hc : (Sl.cut s 1 0 (k : Int) (k : Int)).c = k := by simp [Sl.cut]
  have hl := B.len
  have hcap := B.cap
  refine ⟨by rw [hn, List.length_take]; omega, by rw [hn, hc]; exact Nat.le_refl _, ?_⟩
  rw [cut_a, hc]
  rcases B.own with h0 | ⟨b, c, f, ha, hb, hsz, hf, ht⟩
  · exact .inl ⟨h0.1, by omega⟩
  · refine .inr ⟨b, c, f, ha, hb, by omega, hf, ?_⟩
    rw [List.length_take, ← ht, List.take_take]
    congr 1
    rw [ht]
theorem buf_nil {h : Hp} {s : Sl} {sz t : Nat} {vs : List Value} (B : Buf h s sz t vs) (ha : s.a = none) : s.n = 0 := by
  rcases B.own with ⟨_, hc⟩ | ⟨b, c, f, ha', _⟩
  · have := B.cap; omega
  · rw [ha] at ha'; cases ha'
def fcell (x : Sl × FileR) : List Value := [.string x.2.nm, .slice x.1.a x.1.n x.1.c, .int .i64 (x.2.sure : Int)]
def fV (L : List (Sl × FileR)) : List Value := L.flatMap fcell
theorem fV_len (L : List (Sl × FileR)) : (fV L).length = L.length * 3 := by
  unfold fV
  induction L with
  | nil => rfl
  | cons c l ih => rw [List.flatMap_cons, List.length_append, ih, List.length_cons]; show 3 + _ = _; omega
theorem fV_app (L M : List (Sl × FileR)) : fV (L ++ M) = fV L ++ fV M := by unfold fV; simp
theorem fV_cons (x : Sl × FileR) (M : List (Sl × FileR)) : fV (x :: M) = Value.string x.2.nm :: .slice x.1.a x.1.n x.1.c :: .int .i64 (x.2.sure : Int) :: fV M := rfl
/-- A list of files, new since g. -/
structure FA (g h : Hp) (r : Sl) (L : List (Sl × FileR)) : Prop where
  b : Buf h r 3 60 (fV L)
  n : NewN g r
  d : ∀ x ∈ L, Buf h x.1 1 5 (bl x.2.data) ∧ NewN g x.1
  dj : L.Pairwise fun x y => Off x.1 y.1
theorem FA.mono {g g' h : Hp} {r : Sl} {L : List (Sl × FileR)} (F : FA g h r L) (d : ∀ k, g k = none → g' k = none) : FA g' h r L := ⟨F.b, F.n.mono d, fun x hx => ⟨(F.d x hx).1, (F.d x hx).2.mono d⟩, F.dj⟩
theorem FA.keep {g h h' : Hp} {r : Sl} {L : List (Sl × FileR)} (F : FA g h r L) (K : Keep h h') : FA g h' r L := ⟨F.b.keep K, F.n, fun x hx => ⟨(F.d x hx).1.keep K, (F.d x hx).2⟩, F.dj⟩
theorem FA.len {g h : Hp} {r : Sl} {L : List (Sl × FileR)} (F : FA g h r L) : r.n = L.length := by have := F.b.len; rw [fV_len] at this; omega
theorem set3a (a b c v : Value) (B : List Value) : ∀ A : List Value, (A ++ a :: b :: c :: B).set (A.length + 1) v = A ++ a :: v :: c :: B
  | [] => rfl
  | x :: A => by rw [List.length_cons, List.cons_append, List.set_cons_succ, set3a a b c v B A]; rfl
theorem set3b (a b c v : Value) (B : List Value) : ∀ A : List Value, (A ++ a :: b :: c :: B).set (A.length + 2) v = A ++ a :: b :: v :: B
  | [] => rfl
  | x :: A => by rw [List.length_cons, List.cons_append, show A.length + 1 + 2 = A.length + 2 + 1 from rfl, List.set_cons_succ, set3b a b c v B A]; rfl
theorem get3 (a b c : Value) (B : List Value) : ∀ A : List Value, (A ++ a :: b :: c :: B)[A.length]? = some a ∧ (A ++ a :: b :: c :: B)[A.length + 1]? = some b ∧ (A ++ a :: b :: c :: B)[A.length + 2]? = some c
  | [] => ⟨rfl, rfl, rfl⟩
  | x :: A => get3 a b c B A
/-- One file of a list. -/
theorem rec_at {h : Hp} {r : Sl} {L1 L2 : List (Sl × FileR)} {x : Sl × FileR} (B : Buf h r 3 60 (fV (L1 ++ x :: L2))) : ∃ b, r.a = some ⟨b, 0, none⟩ ∧ ((0 : Int) ≤ (L1.length : Int) ∧ (L1.length : Int) < (r.n : Int)) ∧
    h.at b (0 + (L1.length : Int).toNat * 3) = some (.string x.2.nm) ∧ h.at b ((0 + (L1.length : Int).toNat * 3) + 1) = some (.slice x.1.a x.1.n x.1.c) ∧ h.at b ((0 + (L1.length : Int).toNat * 3) + 2) = some (.int .i64 (x.2.sure : Int)) ∧
    h.canW b ((0 + (L1.length : Int).toNat * 3) + 1) 1 ∧ ∀ s : Sl, (h.wr b ((0 + (L1.length : Int).toNat * 3) + 1) [.slice s.a s.n s.c]).canW b ((0 + (L1.length : Int).toNat * 3) + 2) 1 ∧
      ∀ (n : Nat) (dt : List UInt8), Upd h ((h.wr b ((0 + (L1.length : Int).toNat * 3) + 1) [.slice s.a s.n s.c]).wr b ((0 + (L1.length : Int).toNat * 3) + 2) [.int .i64 (n : Int)]) r r ∧ Buf ((h.wr b ((0 + (L1.length : Int).toNat * 3) + 1) [.slice s.a s.n s.c]).wr b ((0 + (L1.length : Int).toNat * 3) + 2) [.int .i64 (n : Int)]) r 3 60 (fV (L1 ++ (s, ⟨x.2.nm, dt, n⟩) :: L2)) := by
  have hl := B.len
  have e0 : 0 + (L1.length : Int).toNat * 3 = (fV L1).length := by rw [fV_len]; omega
  have hlt : (L1.length : Int) < (r.n : Int) := by rw [fV_len, List.length_append, List.length_cons] at hl; omega
  rw [e0]
  rw [fV_app, fV_cons] at B hl
  rw [List.length_append] at hl
  simp only [List.length_cons] at hl
  obtain ⟨g0, g1, g2⟩ := get3 (.string x.2.nm) (.slice x.1.a x.1.n x.1.c) (.int .i64 (x.2.sure : Int)) (fV L2) (fV L1)
  have hlen : (fV L1 ++ Value.string x.2.nm :: .slice x.1.a x.1.n x.1.c :: .int .i64 (x.2.sure : Int) :: fV L2).length = (fV L1).length + (3 + (fV L2).length) := by simp only [List.length_append, List.length_cons]; omega
  obtain ⟨b, ha, hb0, _, _⟩ := buf_set B (k := (fV L1).length) (by omega)
  obtain ⟨b1, ha1, hb1, hw1, hu1⟩ := buf_set B (k := (fV L1).length + 1) (by omega)
  obtain ⟨b2, ha2, hb2, _, _⟩ := buf_set B (k := (fV L1).length + 2) (by omega)
  rw [ha] at ha1 ha2
  cases ha1; cases ha2
  refine ⟨b, ha, ⟨by omega, hlt⟩, hb0.trans g0, hb1.trans g1, hb2.trans g2, hw1, fun s => ?_⟩
  obtain ⟨U1, B1⟩ := hu1 (.slice s.a s.n s.c)
  rw [set3a] at B1
  obtain ⟨b3, ha3, _, hw3, hu3⟩ := buf_set B1 (k := (fV L1).length + 2) (by simp only [List.length_append, List.length_cons]; omega)
  rw [ha] at ha3
  cases ha3
  refine ⟨hw3, fun n dt => ?_⟩
  obtain ⟨U3, B3⟩ := hu3 (.int .i64 (n : Int))
  rw [set3b] at B3
  exact ⟨U1.trans U3, by rw [fV_app, fV_cons]; exact B3⟩
theorem sorted_eq : ∀ {us vs : List ByteArray}, us.Perm vs → us.Pairwise Le → vs.Pairwise Le → us = vs
  | [], vs, p, _, _ => p.nil_eq
  | u :: us, [], p, _, _ => absurd p.length_eq (by simp)
  | u :: us, v :: vs, p, hu, hv => by
    have hu' := List.pairwise_cons.1 hu
    have hv' := List.pairwise_cons.1 hv
    have e : u = v := by
      have h1 : Le v u := by
        rcases List.mem_cons.1 (p.subset List.mem_cons_self) with rfl | h
        · exact Le.refl _
        · exact hv'.1 _ h
      have h2 : Le u v := by
        rcases List.mem_cons.1 (p.symm.subset List.mem_cons_self) with rfl | h
        · exact Le.refl _
        · exact hu'.1 _ h
      rcases bl_tri u v with k | k | k
      · exact absurd k h1
      · exact absurd k h2
      · exact k
    subst e
    rw [sorted_eq p.cons_inv hu'.2 hv'.2]
theorem clone_p {h : Hp} {K : Value → Hp → Prop} {mb c : Nat} {es : Array MapEntry} (hm : h mb = some (.map es c)) (hK : ∀ b1, h b1 = none → K (.map (some b1)) (h.new b1 (.map es c))) : F44.T (some mb) h K :=
  ⟨fun h => (by cases h), fun b hb => by cases hb; exact ⟨es, c, hm, hK⟩⟩
def toldX (X : List FX) (x : ByteArray × Nat) : FileR := match X[x.2]? with | some y => ⟨x.1, y.f.data, y.f.sure⟩ | none => ⟨x.1, [], 0⟩
section
variable {h h' : Hp} {A : PA} {S S' : Dk} {Q : Value → Hp → Prop}
theorem PD.toldX (P : PD h A S) (x : ByteArray × Nat) : toldX A.X x = fileR S x := by
  unfold Go.Eng.Ytekflkpnpibneaa.toldX fileR
  rw [← P.fl, List.getElem?_map]
  cases A.X[x.2]? <;> rfl
theorem told_p {X : List FX} {mb c0 : Nat} {es : Array MapEntry} {d : Dir} (hm : h mb = some (.map es c0)) (M : SM es c0 d (pid (X.map (·.b)))) (F : Fls 100 h X) (D : DirOk X.length d) (hl : d.length ≤ 8388608) (hfl : ∀ x ∈ X, x.f.data.length ≤ 2147483648)
    (hQ : ∀ h' r L, Keep h h' → FA h h' r L → L.map (·.2) = d.map (toldX X) → Q (.slice r.a r.n r.c) h') : F43.T (some mb) h Q := by
  intro b hb
  have K0 := Keep.new hb (.cells ⟨[.map (some mb)]⟩ 75 (0, 0))
  have hx := new_at h b (.cells ⟨[.map (some mb)]⟩ 75 (0, 0))
  have hm1 := K0 _ _ hm
  obtain ⟨ks, hk, hp⟩ := M.keys D.s
  refine ⟨_, rfl, rfl, b, mb, es, c0, ks, rfl, hx, hm1, ⟨M.st, hk, fun k hk' => ?_⟩, ?_, fun h2 s us K2 B2 N2 hpu hsu => ⟨s, rfl, ?_⟩⟩
  · obtain ⟨x, hx, rfl⟩ := List.mem_map.1 (hp.subset hk')
    exact Nat.le_trans (D.k x hx) (by decide)
  · have := hp.length_eq
    rw [List.length_map] at this
    omega
  have hus : us = d.map (·.1) := sorted_eq (hpu.trans hp) hsu (List.pairwise_map.2 (D.s.imp fun h => Le.of h))
  subst hus
  have hsn : s.n = d.length := by have := B2.len; simp only [List.length_map] at this; omega
  refine ⟨fun l1 n h3 => ∃ d1 d2 L, d = d1 ++ d2 ∧ n = (d1.length : Int) ∧ Keep h2 h3 ∧ FA h2 h3 l1 L ∧ L.map (·.2) = d1.map (toldX X), fun _ n _ => d.length - n.toNat, ⟨[], d, [], rfl, rfl, Keep.refl _, ⟨Buf.nil _ _ _, NewN.nil _, fun x hx => (by cases hx), List.Pairwise.nil⟩, rfl⟩, ?_⟩
  rintro l1 n h3 ⟨d1, d2, L, rfl, rfl, K3, F3, e3⟩
  rw [List.length_append] at hsn hl
  refine ⟨fun hlt => ?_, fun hge => ?_⟩
  · rcases d2 with _ | ⟨x, d2⟩
    · exact absurd hlt (by simp at hsn; omega)
    rw [List.length_cons] at hsn hl
    have hmx : x ∈ d1 ++ x :: d2 := by simp
    obtain ⟨b', o, ha, hlt', hat⟩ := strs_rd (l := s) (A := d1.map (·.1)) (B := d2.map (·.1)) (s := x.1) (by have := (B2.keep K3).row; simpa using this)
    rw [List.length_map] at hlt' hat
    have hxl := D.i x hmx
    have hX : X[x.2]? = some X[x.2] := List.getElem?_eq_getElem hxl
    have hv : mget es (.string x.1) (.pointer none) = .pointer (some ⟨X[x.2].b, 0, none⟩) := by
      rw [M.get, mem_dget D.s (i := x.2) hmx]
      show pid _ _ = _
      unfold pid
      rw [List.getElem?_map, hX]; rfl
    have hm3 := K3 _ _ (K2 _ _ hm1)
    have FX3 : Fls 100 h3 X := F.mono fun k y _ e => K3 _ _ (K2 _ _ (K0 _ _ e))
    have hmX := List.mem_of_getElem? hX
    have hb3 := FX3.fb _ hmX
    have B3 := FX3.fd _ hmX
    have ht : toldX X x = ⟨x.1, X[x.2].f.data, X[x.2].f.sure⟩ := by unfold toldX; rw [hX]
    refine ⟨b', o, ha, ⟨by omega, by omega⟩, x.1, hat, es, c0, hm3, M.fit _, _, hv, X[x.2].b, 0, rfl, X[x.2].d, at_of hb3 0, es, c0, hm3, M.fit _, _, hv, X[x.2].b, 0, rfl, _, at_of hb3 1, ?_⟩
    refine clone_bytes B3.row B3.cap (buf_nil B3) (Nat.le_trans (hfl _ hmX) (by decide)) fun h4 l3 K4 B4 N4 => ⟨l3, rfl, ⟨es, c0, K4 _ _ hm3, M.fit _, hv⟩, at_of (K4 _ _ hb3) 1, ?_⟩
    have hln := F3.len
    have hLd : L.length = d1.length := by have := congrArg List.length e3; simpa using this
    refine append_buf (F3.b.keep K4) rfl rfl (by omega) fun l4 h5 B5 hn5 U5 => ?_
    have C5 := Ck.of_upd (F3.b.keep K4) U5
    obtain ⟨K5, N5⟩ := NewN.upd (K3.trans K4) F3.n U5
    rw [inc_i (n := 100000000) (by omega) (by omega)]
    refine ⟨⟨d1 ++ [x], d2, L ++ [(l3, toldX X x)], by simp, by simp, K5, ⟨?_, N5, fun y hy => ?_, ?_⟩, by simp [e3]⟩, by simp only [List.length_append, List.length_cons]; omega⟩
    · rw [fV_app, fV_cons, ht]; exact B5
    · rcases List.mem_append.1 hy with hy | hy
      · exact ⟨C5.buf (by decide) ((F3.d y hy).1.keep K4), (F3.d y hy).2⟩
      · rw [List.mem_singleton.1 hy, ht]
        exact ⟨C5.buf (by decide) B4, N4.mono K3.dom⟩
    · refine List.pairwise_append.2 ⟨F3.dj, List.pairwise_singleton _ _, fun y hy z hz => ?_⟩
      rw [List.mem_singleton.1 hz]
      exact (N4.off (F3.d y hy).1).1
  · have hd2 : d2 = [] := List.eq_nil_of_length_eq_zero (by omega)
    subst hd2
    rw [List.append_nil] at hQ
    exact hQ h3 l1 L (K0.trans (K2.trans K3)) (F3.mono fun k e => K0.dom k (K2.dom k e)) e3
theorem PD.xlen (P : PD h A S) : A.X.length = S.fl.length := by rw [← P.fl, List.length_map]
theorem files_p (P : PD h A S) (D : DOk S) (hQ : ∀ h' r L, Keep h h' → FA h h' r L → L.map (·.2) = dtold S S.now → Q (.slice r.a r.n r.c) h') : F14.T (some ⟨A.db, 0, none⟩) h Q := by
  obtain ⟨u, w, f, p, hrig, hd⟩ := P.dsk
  obtain ⟨es, c0, hm, M⟩ := P.now
  refine ⟨A.db, 0, rfl, some A.nb, at_of hd 1, told_p hm M P.fx (by rw [P.xlen]; exact D.now) D.len (fun x hx => (D.fl x.f (by rw [← P.fl]; exact List.mem_map_of_mem hx)).1) fun h1 r L K F e => ⟨r, rfl, hQ h1 r L K F ?_⟩⟩
  rw [e]
  exact List.map_congr_left fun x _ => P.toldX x
theorem syncdir_p (P : PD h A S) (D : DOk S) (hQ : ∀ h' A', A'.db = A.db → PD h' A' (kSyncDir S).2 → Tr2 A.own A'.own h h' → Q (.int .i64 (kSyncDir S).1) h') : F27.T (some ⟨A.db, 0, none⟩) h Q := by
  unfold F27.T F27.G
  refine begin_p (l := ⟨none, 0, 0⟩) (ns := []) P D ⟨rfl, .inl rfl⟩ (by simp) (fun s hs => by cases hs) fun h1 P1 T1 => ⟨_, rfl, fun e0 => ?_, fun e0 => ?_⟩
  · have e0 : (dbegin S true).1 = 0 := e0
    have P1 : PD h1 A (dbegin S true).2 := P1
    have hk : kSyncDir S = kFalls (dbegin S true).2 1 fun S2 => (0, { S2 with sure := S2.now, chg := [] }) := kThen_0 e0
    have D1 := D.begin true
    have hup := (begin_up e0).2.2
    rw [hk] at hQ
    generalize (dbegin S true).2 = S1 at P1 D1 hup hQ
    refine falls_p P1 D1 hup (by decide) (fun h2 e P2 T2 => ⟨0, false, ⟨fun h => (by cases h), fun _ => ⟨rfl, ?_⟩⟩⟩) (fun h2 m e _ _ P2 T2 => ⟨m, true, ⟨fun _ => ⟨rfl, ?_⟩, fun h => (by cases h)⟩⟩)
    · rw [kFalls_n e] at hQ
      obtain ⟨u, w, f, p, hrig, hd⟩ := P2.dsk
      obtain ⟨es, c0, hm, M⟩ := P2.now
      refine ⟨A.db, 0, rfl, some A.nb, at_of hd 1, clone_p hm fun b1 hb1 => ⟨some b1, rfl, ?_⟩⟩
      have K1 := Keep.new hb1 (.map es c0)
      have hx := new_at h2 b1 (.map es c0)
      have P3 := P2.keep K1
      have hd1 := K1 _ _ hd
      have hd2 := wr_cells (o := 0 + 2) (vs := [.map (some b1)]) hd1
      have C : Ck [82] (h2.new b1 (.map es c0)) _ := (Ck.wr (o := 0 + 2) (vs := [.map (some b1)]) hd1).trans (Ck.wr (o := 0 + 3) (vs := [.slice none 0 0]) hd2)
      refine ⟨A.db, 0, rfl, canW_new hd1 (by simp), A.db, 0, rfl, canW_new hd2 (by simp [setL]), hQ _ ⟨A.db, A.nb, b1, ⟨none, 0, 0⟩, A.X⟩ rfl ⟨⟨u, w, f, p, hrig, wr_cells hd2⟩, ⟨es, c0, C.keep _ _ (K1 _ _ hm) (by simp [kd]), M⟩, ⟨es, c0, C.keep _ _ hx (by simp [kd]), M⟩, ne_of hm hb1, Buf.nil _ _ _, P2.fl, P3.fx.mono fun k y hk e => ?_⟩ ?_⟩
      · obtain ⟨c, t, e', ht⟩ := P3.fx.alive hk
        rw [e] at e'; cases e'
        exact C.keep _ _ e (by rcases ht with ht | ht <;> simp [kd, ht])
      · have O := (one_wr (o := 0 + 2) (vs := [.map (some b1)]) hd1).trans (one_wr (o := 0 + 3) (vs := [.slice none 0 0]) hd2)
        refine T1.trans (T2.trans ⟨fun k x n e => O.keep k x (by rintro rfl; exact n (.inl rfl)) (K1 _ _ e), fun k e => K1.dom k (O.dom k e), fun k d => ?_⟩)
        rcases d with d | d | d | d | d
        · exact .inl (.inl d)
        · exact .inl (.inr (.inl d))
        · exact .inr (by rw [show k = b1 from d]; exact hb1)
        · exact (inS_nil k d).elim
        · exact .inl (.inr (.inr (.inr (.inr d))))
    · rw [kFalls_s e] at hQ
      exact hQ h2 A rfl P2 (T1.trans T2)
  · have e0 : ¬ (dbegin S true).1 = 0 := e0
    have hk : kSyncDir S = dbegin S true := kThen_1 e0
    rw [hk] at hQ
    exact hQ h1 A rfl P1 T1
end
end Go.Eng.Ytekflkpnpibneaa
end
section

/-
  SPECS OF THE DISK, 6: what a fall would leave.
-/
set_option linter.unusedSimpArgs false
set_option linter.unusedVariables false
set_option maxRecDepth 100000
namespace Go.Eng.Ytekflkpnpibneaa
theorem chV_at (bk : List Nat) : ∀ {l : List Cg} {k r : Nat} {c : Cg}, l[k]? = some c → r < 4 → (chV bk l)[k * 4 + r]? = (Cg.cells bk c)[r]?
  | [], k, r, c, h, _ => by simp at h
  | x :: l, 0, r, c, h, hr => by
    simp only [List.getElem?_cons_zero, Option.some.injEq] at h
    subst h
    show (Cg.cells bk x ++ chV bk l)[0 * 4 + r]? = _
    rw [List.getElem?_append_left (by show _ < 4; omega)]
    congr 1; omega
  | x :: l, k + 1, r, c, h, hr => by
    simp only [List.getElem?_cons_succ] at h
    show (Cg.cells bk x ++ chV bk l)[(k + 1) * 4 + r]? = _
    rw [List.getElem?_append_right (by show 4 ≤ _; omega), ← chV_at bk h hr]
    congr 1
    show (k + 1) * 4 + r - 4 = _
    omega
theorem leftAll_snoc (keep : List Int) (f : FileR) : ∀ (i : Nat) (R : List FileR), leftAll keep i (R ++ [f]) = leftAll keep i R ++ [leftOf keep (i + R.length) f]
  | i, [] => rfl
  | i, r :: R => by
    show leftOf keep i r :: leftAll keep (i + 1) (R ++ [f]) = _
    rw [leftAll_snoc keep f (i + 1) R, List.length_cons, show i + 1 + R.length = i + (R.length + 1) by omega]
    rfl
theorem leftAll_len (keep : List Int) : ∀ (i : Nat) (R : List FileR), (leftAll keep i R).length = R.length
  | i, [] => rfl
  | i, r :: R => by show (leftAll keep (i + 1) R).length + 1 = _; rw [leftAll_len keep (i + 1) R]; rfl
theorem dtold_ok {S : Dk} (D : DOk S) {d : Dir} : ∀ f ∈ dtold S d, f.data.length ≤ 2147483648 ∧ f.sure ≤ f.data.length := by
  intro f hf
  obtain ⟨x, hx, rfl⟩ := List.mem_map.1 hf
  unfold fileR
  split
  · next y hy => exact D.fl y (List.mem_of_getElem? hy)
  · exact ⟨Nat.zero_le _, Nat.le_refl _⟩
theorem leftOf_le {keep : List Int} {i : Nat} {f : FileR} (h : f.sure ≤ f.data.length) : (leftOf keep i f).sure ≤ f.data.length := by
  unfold leftOf
  dsimp only
  split
  · next k hk =>
    have h1 := (iMin_le (iMax k 0) ((f.data.length : Int) - f.sure)).2
    show f.sure + (iMin (iMax k 0) ((f.data.length : Int) - f.sure)).toNat ≤ f.data.length
    generalize iMin (iMax k 0) ((f.data.length : Int) - f.sure) = z at h1 ⊢
    omega
  · omega
theorem off_map {L1 L2 : List (Sl × FileR)} {x y : Sl × FileR} (h : (L1 ++ x :: L2).Pairwise fun x y => Off x.1 y.1) (e : y.1.a = x.1.a) : (L1 ++ y :: L2).Pairwise fun x y => Off x.1 y.1 := by
  have h1 : ((L1 ++ x :: L2).map fun x => x.1.a).Pairwise fun a b => ∀ k o o', a = some ⟨k, o, none⟩ → b ≠ some ⟨k, o', none⟩ := List.pairwise_map.2 h
  have h2 : (L1 ++ x :: L2).map (fun x => x.1.a) = (L1 ++ y :: L2).map fun x => x.1.a := by simp [e]
  rw [h2] at h1
  exact (List.pairwise_map (f := fun x : Sl × FileR => x.1.a) (R := fun a b => ∀ k o o', a = some ⟨k, o, none⟩ → b ≠ some ⟨k, o', none⟩)).1 h1
/-- One file of a list is cut. -/
theorem fa_cut {g h : Hp} {r : Sl} {L1 L2 : List (Sl × FileR)} {x : Sl × FileR} (F : FA g h r (L1 ++ x :: L2)) (K : Keep g h) : ∃ b, r.a = some ⟨b, 0, none⟩ ∧ ((0 : Int) ≤ (L1.length : Int) ∧ (L1.length : Int) < (r.n : Int)) ∧
    h.at b ((0 + (L1.length : Int).toNat * 3) + 1) = some (.slice x.1.a x.1.n x.1.c) ∧ h.at b ((0 + (L1.length : Int).toNat * 3) + 2) = some (.int .i64 (x.2.sure : Int)) ∧ x.1.n = x.2.data.length ∧
    ∀ n : Nat, n ≤ x.1.n → Sl.okCut x.1 0 (n : Int) (n : Int) ∧ h.canW b ((0 + (L1.length : Int).toNat * 3) + 1) 1 ∧
      (h.wr b ((0 + (L1.length : Int).toNat * 3) + 1) [.slice (Sl.cut x.1 1 0 (n : Int) (n : Int)).a (Sl.cut x.1 1 0 (n : Int) (n : Int)).n (Sl.cut x.1 1 0 (n : Int) (n : Int)).c]).canW b ((0 + (L1.length : Int).toNat * 3) + 2) 1 ∧
      FA g ((h.wr b ((0 + (L1.length : Int).toNat * 3) + 1) [.slice (Sl.cut x.1 1 0 (n : Int) (n : Int)).a (Sl.cut x.1 1 0 (n : Int) (n : Int)).n (Sl.cut x.1 1 0 (n : Int) (n : Int)).c]).wr b ((0 + (L1.length : Int).toNat * 3) + 2) [.int .i64 (n : Int)]) r (L1 ++ (Sl.cut x.1 1 0 (n : Int) (n : Int), ⟨x.2.nm, x.2.data.take n, n⟩) :: L2) ∧
      Keep g ((h.wr b ((0 + (L1.length : Int).toNat * 3) + 1) [.slice (Sl.cut x.1 1 0 (n : Int) (n : Int)).a (Sl.cut x.1 1 0 (n : Int) (n : Int)).n (Sl.cut x.1 1 0 (n : Int) (n : Int)).c]).wr b ((0 + (L1.length : Int).toNat * 3) + 2) [.int .i64 (n : Int)]) := by
  obtain ⟨b, ha, hr, h0, h1, h2, hw, hs⟩ := rec_at F.b
  have hx : x ∈ L1 ++ x :: L2 := by simp
  have Bx := (F.d x hx).1
  have hn : x.1.n = x.2.data.length := by have := Bx.len; rw [bl_len] at this; omega
  refine ⟨b, ha, hr, h1, h2, hn, fun n hle => ⟨⟨by omega, by omega, by omega, by have := Bx.cap; omega⟩, hw, ?_⟩⟩
  obtain ⟨hw2, hu⟩ := hs (Sl.cut x.1 1 0 (n : Int) (n : Int))
  obtain ⟨U, B⟩ := hu n (x.2.data.take n)
  have C := Ck.of_upd F.b U
  obtain ⟨K', N'⟩ := NewN.upd K F.n U
  refine ⟨hw2, ⟨B, F.n, fun y hy => ?_, off_map F.dj (cut_a _ _ _)⟩, K'⟩
  rcases List.mem_append.1 hy with hy | hy
  · have := F.d y (List.mem_append_left _ hy)
    exact ⟨C.buf (by decide) this.1, this.2⟩
  · rcases List.mem_cons.1 hy with rfl | hy
    · refine ⟨C.buf (by decide) ?_, ?_⟩
      · have := buf_cut2 Bx hle
        unfold bl at this ⊢
        rw [List.map_take]
        exact this
      · have := (F.d x hx).2
        unfold NewN at this ⊢
        dsimp only
        rw [cut_a]; exact this
    · have := F.d y (List.mem_append_right _ (List.mem_cons_of_mem _ hy))
      exact ⟨C.buf (by decide) this.1, this.2⟩
section
variable {h h' : Hp} {A : PA} {S S' : Dk} {Q : Value → Hp → Prop}
theorem image_p {dir : Int} {l : Sl} {keep : List Int} (P : PD h A S) (D : DOk S) (hcl : S.chg.length ≤ 1000000000) (hr : h.row l.a (l.n * 1) (keep.map fun k => Value.int .i64 k))
    (hQ : ∀ h' r L, Keep h h' → FA h h' r L → L.map (·.2) = kImage S dir keep → Q (.slice r.a r.n r.c) h') : F16.T (some ⟨A.db, 0, none⟩) dir l h Q := by
  obtain ⟨u, w, f, p, hrig, hd⟩ := P.dsk
  obtain ⟨es, c0, hm, M⟩ := P.sure
  have hcn : A.ch.n = S.chg.length := by have := P.ch.len; rw [chV_len] at this; omega
  have hln : l.n = keep.length := by have := hr.1; rw [List.length_map] at this; omega
  have hDs := (D.rest dir)
  have hDl : (drest S dir).length ≤ 8388608 := D.pre _
  refine ⟨A.db, 0, rfl, some A.sb, at_of hd 2, clone_p hm fun b1 hb1 => ⟨some b1, rfl, ?_⟩⟩
  have K1 := Keep.new hb1 (.map es c0)
  refine ⟨A.db, 0, rfl, A.ch, at_of (K1 _ _ hd) 3, A.db, 0, rfl, A.ch, at_of (K1 _ _ hd) 3, ?_⟩
  have hK0 : 0 ≤ iMin (iMax dir 0) (A.ch.n : Int) := by have := iMax_0 dir; unfold iMin; split <;> omega
  have hK1 := (iMin_le (iMax dir 0) (A.ch.n : Int)).2
  have hKt : S.chg.take (iMin (iMax dir 0) (A.ch.n : Int)).toNat = S.chg.take dir.toNat := by
    rw [List.take_eq_take_iff]
    unfold iMin iMax
    split <;> split <;> omega
  have hcap := P.ch.cap
  generalize iMin (iMax dir 0) (A.ch.n : Int) = K at hK0 hK1 hKt ⊢
  have hca : (Sl.cut A.ch 4 0 K (A.ch.c : Int)).a = A.ch.a := cut_a _ _ _
  have hcn2 : (Sl.cut A.ch 4 0 K (A.ch.c : Int)).n = K.toNat := by simp [Sl.cut]
  refine ⟨⟨by omega, by omega, by omega, by omega⟩, ?_⟩
  generalize Sl.cut A.ch 4 0 K (A.ch.c : Int) = cs at hca hcn2 ⊢
  refine ⟨fun n1 h2 => ∃ (k : Nat) (es' : Array MapEntry) (c' : Nat), n1 = (k : Int) ∧ k ≤ K.toNat ∧ h2 = h.new b1 (.map es' c') ∧ SM es' c' ((S.chg.take k).foldl dlay S.sure) (pid A.bk), fun n1 _ => K.toNat - n1.toNat, ⟨0, es, c0, rfl, Nat.zero_le _, rfl, M⟩, ?_⟩
  rintro n1 h2 ⟨k, es', c', rfl, hk, rfl, M'⟩
  have Dk : DirOk S.fl.length ((S.chg.take k).foldl dlay S.sure) := DirOk.fold _ D.sure fun c hc => D.chg c (List.mem_of_mem_take hc)
  refine ⟨fun hlt => ?_, fun hge => ?_⟩
  · have hkl : k < S.chg.length := by omega
    have hget : S.chg[k]? = some S.chg[k] := List.getElem?_eq_getElem hkl
    generalize S.chg[k] = c at hget
    obtain ⟨b3, o3, ha3, hat⟩ := row_get P.ch.row (i := k * 4) (by omega)
    obtain ⟨cc, ff, hal⟩ := buf_alive P.ch ⟨o3, ha3⟩
    have hat' : ∀ r, r < 4 → (h.new b1 (.map es' c')).at b3 ((o3 + (k : Int).toNat * 4) + r) = (Cg.cells A.bk c)[r]? := fun r hr => by
      rw [at_new_ne (ne_of hal hb1), Int.toNat_natCast, Nat.add_assoc, hat _ (by omega), chV_at A.bk hget hr]
    obtain ⟨p1, hp1⟩ : ∃ p1, (if c.kind = 0 then pid A.bk c.id else .pointer none) = .pointer p1 := by
      split
      · exact ⟨_, rfl⟩
      · exact ⟨_, rfl⟩
    refine ⟨b3, o3, hca.trans ha3, ⟨by omega, hlt⟩, c.kind, hat' 0 (by omega), c.nm, hat' 1 (by omega), c.to, hat' 2 (by omega), p1, (hat' 3 (by omega)).trans (by show some _ = _; rw [hp1]), ?_⟩
    refine lay_p (new_at _ _ _) M' Dk.s (Lays.nth D.lays hget) (fun k0 => by rw [if_pos k0] at hp1; exact hp1) fun es2 c2 M2 => ?_
    rw [inc_i (n := 9223372036854775807) (by omega) (by omega), new_new]
    refine ⟨⟨k + 1, es2, c2, rfl, by omega, rfl, ?_⟩, by dsimp only; omega⟩
    rw [List.take_add_one, hget, List.foldl_append]
    exact M2
  · have hkK : k = K.toNat := by omega
    subst hkK
    rw [hKt] at M' Dk
    have K2 : Keep h (h.new b1 (.map es' c')) := Keep.new hb1 _
    refine told_p (new_at _ _ _) M' (P.fx.mono fun k x _ e => K2 _ _ e) (by rw [P.xlen]; exact hDs) hDl (fun x hx => (D.fl x.f (by rw [← P.fl]; exact List.mem_map_of_mem hx)).1) fun h4 r L K4 F4 e4 => ⟨r, rfl, ?_⟩
    have e4' : L.map (·.2) = dtold S (drest S dir) := e4.trans (List.map_congr_left fun x _ => P.toldX x)
    have hok := dtold_ok D (d := drest S dir)
    have hRl : (dtold S (drest S dir)).length ≤ 8388608 := by unfold dtold; rw [List.length_map]; exact hDl
    unfold kImage at hQ
    generalize dtold S (drest S dir) = R at e4' hok hRl hQ
    have hLR : L.length = R.length := by have := congrArg List.length e4'; simpa using this
    have hrn : r.n = R.length := F4.len.trans hLR
    generalize h.new b1 (.map es' c') = h2 at K2 K4 F4
    refine ⟨fun n3 h5 => ∃ L1 L2 R1 R2, n3 = (L1.length : Int) ∧ R = R1 ++ R2 ∧ Keep h2 h5 ∧ FA h2 h5 r (L1 ++ L2) ∧ L1.map (·.2) = leftAll keep 0 R1 ∧ L2.map (·.2) = R2, fun n3 _ => R.length - n3.toNat, ⟨[], L, [], R, rfl, rfl, K4, F4, rfl, e4'⟩, ?_⟩
    rintro n3 h5 ⟨L1, L2, R1, R2, rfl, rfl, K5, F5, e5, e6⟩
    have hl1 : L1.length = R1.length := by have := congrArg List.length e5; rw [leftAll_len] at this; simpa using this
    rw [List.length_append] at hrn hRl
    refine ⟨fun hlt => ?_, fun hge => ?_⟩
    · rcases R2 with _ | ⟨f, R2⟩
      · exact absurd hlt (by simp at hrn; omega)
      rcases L2 with _ | ⟨x, L2⟩
      · simp at e6
      rw [List.map_cons, List.cons.injEq] at e6
      obtain ⟨rfl, e6⟩ := e6
      have hf := hok x.2 (by simp)
      obtain ⟨b, ha, hrg, h1, h2', hxn, hcut⟩ := fa_cut F5 K5
      have hstep : ∀ (n : Nat), n = (leftOf keep L1.length x.2).sure → ∀ h6, FA h2 h6 r (L1 ++ (Sl.cut x.1 1 0 (n : Int) (n : Int), ⟨x.2.nm, x.2.data.take n, n⟩) :: L2) → Keep h2 h6 →
          (∃ L1' L2' R1' R2', IntKind.wrap .i64 ((L1.length : Int) + 1) = (L1'.length : Int) ∧ R1 ++ x.2 :: R2 = R1' ++ R2' ∧ Keep h2 h6 ∧ FA h2 h6 r (L1' ++ L2') ∧ L1'.map (·.2) = leftAll keep 0 R1' ∧ L2'.map (·.2) = R2') ∧ (R1 ++ x.2 :: R2).length - (IntKind.wrap .i64 ((L1.length : Int) + 1)).toNat < (R1 ++ x.2 :: R2).length - (L1.length : Int).toNat := by
        rintro n hn h6 F6 K6
        simp only [List.length_cons] at hRl
        rw [inc_i (n := 100000000) (by omega) (by omega)]
        refine ⟨⟨L1 ++ [(Sl.cut x.1 1 0 (n : Int) (n : Int), ⟨x.2.nm, x.2.data.take n, n⟩)], L2, R1 ++ [x.2], R2, by simp, by simp, K6, by rw [List.append_assoc]; exact F6, ?_, e6⟩, by simp only [List.length_append, List.length_cons]; omega⟩
        rw [leftAll_snoc, List.map_append, e5, Nat.zero_add, ← hl1]
        congr 1
        rw [hn]
        rfl
      refine ⟨b, 0, ha, hrg, (x.2.sure : Int), h2', fun hpos => ?_, fun hnp => ?_⟩
      · have hml : L1.length % keep.length < keep.length := Nat.mod_lt _ (by omega)
        have htm : Int.tmod (L1.length : Int) (l.n : Int) = ((L1.length % keep.length : Nat) : Int) := by rw [hln]; rfl
        rw [htm]
        obtain ⟨b5, o5, ha5, hat5⟩ := row_get hr (i := L1.length % keep.length) (by omega)
        have hgk : keep[L1.length % keep.length]? = some keep[L1.length % keep.length] := List.getElem?_eq_getElem hml
        have hsz : x.1.n = x.2.data.length := hxn
        have hN0 : (leftOf keep L1.length x.2).sure = x.2.sure + (iMin (iMax keep[L1.length % keep.length] 0) ((x.2.data.length : Int) - x.2.sure)).toNat := by
          unfold leftOf
          dsimp only
          rw [hgk]
        have hN1 := leftOf_le (keep := keep) (i := L1.length) hf.2
        have hi0 : 0 ≤ iMin (iMax keep[L1.length % keep.length] 0) ((x.2.data.length : Int) - x.2.sure) := by
          have := iMax_0 keep[L1.length % keep.length]
          have := hf.2
          unfold iMin; split <;> omega
        have hi1 := (iMin_le (iMax keep[L1.length % keep.length] 0) ((x.2.data.length : Int) - x.2.sure)).2
        refine ⟨by omega, b5, o5, ha5, ⟨by omega, by omega⟩, keep[L1.length % keep.length], ?_, b, 0, ha, hrg, x.1, h1, b, 0, ha, hrg, x.1, h1, ?_⟩
        · rw [Int.toNat_natCast]
          have hk5 : h5.row l.a (l.n * 1) (keep.map fun k => Value.int .i64 k) := (K2.trans K5).row hr
          obtain ⟨b6, o6, ha6, hat6⟩ := row_get hk5 (i := L1.length % keep.length) (by omega)
          rw [ha5] at ha6
          cases ha6
          rw [hat6 _ (by omega), List.getElem?_map, hgk]; rfl
        · have hf2 := hf.2
          have hf1 := hf.1
          have hw1 : IntKind.wrap .i64 ((x.1.n : Int) - (x.2.sure : Int)) = (x.2.data.length : Int) - x.2.sure := by rw [wrap_i64 (by omega) (by omega), hsz]
          rw [hw1]
          have hw2 : IntKind.wrap .i64 ((x.2.sure : Int) + iMin (iMax keep[L1.length % keep.length] 0) ((x.2.data.length : Int) - x.2.sure)) = ((leftOf keep L1.length x.2).sure : Int) := by
            rw [wrap_i64 (by omega) (by omega), hN0]; omega
          rw [hw2]
          obtain ⟨c1, c2, c3, c4, c5⟩ := hcut (leftOf keep L1.length x.2).sure (by omega)
          exact ⟨c1, b, 0, ha, hrg, c2, b, 0, ha, hrg, c3, hstep _ rfl _ c4 c5⟩
      · have hN0 : (leftOf keep L1.length x.2).sure = x.2.sure := by
          unfold leftOf
          dsimp only
          rw [List.getElem?_eq_none (by omega)]
          rfl
        have hf2 := hf.2
        obtain ⟨c1, c2, c3, c4, c5⟩ := hcut x.2.sure (by omega)
        exact ⟨b, 0, ha, hrg, x.1, h1, c1, b, 0, ha, hrg, c2, b, 0, ha, hrg, c3, hstep _ hN0.symm _ c4 c5⟩
    · have hR2 : R2 = [] := List.eq_nil_of_length_eq_zero (by omega)
      subst hR2
      have hL2 : L2 = [] := by simpa using e6
      subst hL2
      rw [List.append_nil] at hQ F5
      exact hQ h5 r L1 (K2.trans K5) (F5.mono fun k e => K2.dom k e) e5
end
end Go.Eng.Ytekflkpnpibneaa
end
section

/-
  SPECS OF THE DISK, 7: a fall; a disk begins.
-/
set_option linter.unusedSimpArgs false
set_option linter.unusedVariables false
set_option maxRecDepth 100000
namespace Go.Eng.Ytekflkpnpibneaa
theorem putAll_app (l m : List FileR) : ∀ (i : Nat) (d : Dir), putAll i d (l ++ m) = putAll (i + l.length) (putAll i d l) m := by
  induction l with
  | nil => intro i d; rfl
  | cons f l ih =>
    intro i d
    show putAll (i + 1) (dins d f.nm i) (l ++ m) = putAll (i + (l.length + 1)) (putAll (i + 1) (dins d f.nm i) l) m
    rw [ih, show i + 1 + l.length = i + (l.length + 1) by omega]
theorem rawSum_app (l m : List RawF) : rawSum (l ++ m) = rawSum l + rawSum m := by unfold rawSum; rw [List.map_append, List.sum_append]
theorem rawSum_nn : ∀ l : List RawF, 0 ≤ rawSum l
  | [] => Int.le_refl _
  | f :: l => by have := rawSum_nn l; show 0 ≤ (f.data.length : Int) + rawSum l; omega
/-- A directory that is being built. -/
structure Bld (g h : Hp) (mb : Nat) (X : List FX) (d : Dir) : Prop where
  mp : ∃ es c, h mb = some (.map es c) ∧ SM es c d (pid (X.map (·.b)))
  mn : g mb = none
  fx : Fls 100 h X
  fn : ∀ k, ownX X k → g k = none
  ix : DirOk X.length d
theorem Bld.keep {g h h' : Hp} {mb : Nat} {X : List FX} {d : Dir} (W : Bld g h mb X d) (K : Keep h h') : Bld g h' mb X d := by
  obtain ⟨es, c, hm, M⟩ := W.mp
  exact ⟨⟨es, c, K _ _ hm, M⟩, W.mn, W.fx.mono fun k x _ e => K _ _ e, W.fn, W.ix⟩
theorem bld_put {g h h1 : Hp} {mb b4 : Nat} {X : List FX} {d : Dir} {s : Sl} {f : Fil} {nm : ByteArray} (W : Bld g h mb X d) (hb4 : h b4 = none) (hg4 : g b4 = none) (hn : nm.size ≤ 24) (B : Buf h s 1 5 (bl f.data)) (NS : NewN g s) (no : ∀ k, inS s k → ¬ ownX X k)
    (hx : h1 = h.new b4 (.cells ⟨[.slice s.a s.n s.c, .int .i64 (f.sure : Int)]⟩ 100 (0, 0))) :
    ∃ es c, h1 mb = some (.map es c) ∧ keysFit (.string nm) es ∧ Bld g (h1.new mb (mPut es c (.string nm) (.pointer (some ⟨b4, 0, none⟩)))) mb (X ++ [⟨b4, s, f⟩]) (dins d nm X.length) := by
  obtain ⟨es, c, hm, M⟩ := W.mp
  have K4 : Keep h h1 := by rw [hx]; exact Keep.new hb4 _
  have hx4 : h1 b4 = some (.cells ⟨[.slice s.a s.n s.c, .int .i64 (f.sure : Int)]⟩ 100 (0, 0)) := by rw [hx]; exact new_at _ _ _
  have hm1 := K4 _ _ hm
  have hbk : (X ++ [(⟨b4, s, f⟩ : FX)]).map (·.b) = X.map (·.b) ++ [b4] := by simp
  have hbl : (X.map (·.b)).length = X.length := List.length_map _
  have M1 : SM es c d (pid (X.map (·.b) ++ [b4])) := M.congr fun t i hi => (pid_app _ _ (by rw [hbl]; exact W.ix.i _ (dget_mem hi))).symm
  obtain ⟨es', c', e1, e2⟩ := M1.put nm X.length
  have hv : pid (X.map (·.b) ++ [b4]) X.length = .pointer (some ⟨b4, 0, none⟩) := by rw [← hbl]; exact pid_last _ _
  rw [hv] at e1
  refine ⟨es, c, hm1, M.fit _, ?_⟩
  rw [e1]
  have O : One mb h1 (h1.new mb (.map es' c')) := One.new _ (by rw [hm1]; simp)
  have C : Ck [0] h1 (h1.new mb (.map es' c')) := Ck.put hm1
  have hne : mb ≠ b4 := ne_of hm hb4
  have n4 : ¬ ownX X b4 := fun ho => by
    obtain ⟨cc, tt, al, _⟩ := W.fx.alive ho
    rw [hb4] at al; cases al
  refine ⟨⟨es', c', new_at _ _ _, by rw [hbk]; exact e2⟩, W.mn, (W.fx.mono fun k x hk e => ?_).snoc (O.keep _ _ (fun e => hne e.symm) hx4) (C.buf (by decide) (B.keep K4)) n4 no, fun k hk => ?_, ?_⟩
  · obtain ⟨cc, tt, al, _⟩ := W.fx.alive hk
    exact O.keep _ _ (ne_kd al hm (by simp [kd])) (K4 _ _ e)
  · rcases ownX_snoc hk with hk | rfl | hk
    · exact W.fn k hk
    · exact hg4
    · exact newN_in NS hk
  · rw [List.length_append]
    exact (W.ix.mono (Nat.le_succ _)).ins hn (Nat.lt_succ_self _)
theorem leftAll_nm (keep : List Int) : ∀ (i : Nat) (R : List FileR), (leftAll keep i R).map (·.nm) = R.map (·.nm)
  | i, [] => rfl
  | i, r :: R => by show r.nm :: (leftAll keep (i + 1) R).map (·.nm) = _; rw [leftAll_nm keep (i + 1) R]; rfl
theorem image_nm (S : Dk) (dir : Int) (keep : List Int) : (kImage S dir keep).map (·.nm) = (drest S dir).map (·.1) := by
  unfold kImage dtold
  rw [leftAll_nm, List.map_map]
  refine List.map_congr_left fun x _ => ?_
  show (fileR S x).nm = _
  unfold fileR
  split <;> rfl
theorem image_ok {S : Dk} (D : DOk S) (dir : Int) (keep : List Int) : (kImage S dir keep).length ≤ 8388608 ∧ (∀ f ∈ kImage S dir keep, f.nm.size ≤ 24) ∧ ∀ f ∈ kImage S dir keep, f.data.length ≤ 2147483648 ∧ f.sure = f.data.length := by
  refine ⟨?_, fun f hf => ?_, ?_⟩
  · have := congrArg List.length (image_nm S dir keep)
    rw [List.length_map, List.length_map] at this
    rw [this]; exact D.pre _
  · have h1 : f.nm ∈ (kImage S dir keep).map (·.nm) := List.mem_map_of_mem hf
    rw [image_nm] at h1
    obtain ⟨x, hx, e⟩ := List.mem_map.1 h1
    rw [← e]; exact (D.rest dir).k x hx
  · have key : ∀ (i : Nat) (R : List FileR), (∀ f ∈ R, f.data.length ≤ 2147483648 ∧ f.sure ≤ f.data.length) → ∀ f ∈ leftAll keep i R, f.data.length ≤ 2147483648 ∧ f.sure = f.data.length := by
      intro i R
      induction R generalizing i with
      | nil => intro _ f hf; cases hf
      | cons r R ih =>
        intro hR f hf
        rcases List.mem_cons.1 hf with rfl | hf
        · have hr := hR r List.mem_cons_self
          have hl := leftOf_le (keep := keep) (i := i) hr.2
          have e : (leftOf keep i r).data = r.data.take (leftOf keep i r).sure := rfl
          rw [e, List.length_take]
          omega
        · exact ih (i + 1) (fun f hf => hR f (List.mem_cons_of_mem _ hf)) f hf
    exact key 0 _ (dtold_ok D)
theorem putAll_ok {n : Nat} : ∀ (l : List FileR) (i : Nat) (d : Dir), DirOk n d → (∀ f ∈ l, f.nm.size ≤ 24) → i + l.length ≤ n → DirOk n (putAll i d l)
  | [], i, d, D, _, _ => D
  | f :: l, i, d, D, h, hn => putAll_ok l (i + 1) _ (D.ins (h f List.mem_cons_self) (by rw [List.length_cons] at hn; omega)) (fun g hg => h g (List.mem_cons_of_mem _ hg)) (by rw [List.length_cons] at hn; omega)
theorem putAll_len : ∀ (l : List FileR) (i : Nat) (d : Dir), (putAll i d l).length ≤ d.length + l.length
  | [], i, d => Nat.le_refl _
  | f :: l, i, d => by
    have h1 := putAll_len l (i + 1) (dins d f.nm i)
    have h2 := dins_len (d := d) f.nm i
    rw [List.length_cons]
    show (putAll (i + 1) (dins d f.nm i) l).length ≤ _
    omega
theorem fresh_ok {room : Int} {l : List FileR} (hr : 0 ≤ room ∧ room ≤ 9223372036854775807) (hl : l.length ≤ 8388608) (hn : ∀ f ∈ l, f.nm.size ≤ 24) (hd : ∀ f ∈ l, f.data.length ≤ 2147483648 ∧ f.sure ≤ f.data.length) : DN 0 (fresh room l) := by
  have hlen : (l.map fun f => (⟨f.data, f.sure⟩ : Fil)).length = l.length := List.length_map _
  have h1 : DirOk (l.map fun f => (⟨f.data, f.sure⟩ : Fil)).length (putAll 0 [] l) := putAll_ok l 0 [] (DirOk.nil _) hn (by rw [hlen]; omega)
  have h2 := putAll_len l 0 []
  rw [List.length_nil] at h2
  refine ⟨⟨h1, h1, fun f hf => ?_, fun c hc => (by cases hc), Nat.le_trans h2 (by omega), fun k => ?_, rfl, hr, ⟨Int.le_refl _, Int.le_refl _, Int.le_refl _, Int.le_refl _⟩, ⟨show (0 : Int) ≤ 9223372036854775807 by decide, show (0 : Int) ≤ 9223372036854775807 by decide, show (0 : Int) ≤ 9223372036854775807 by decide, show (0 : Int) ≤ 9223372036854775807 by decide⟩⟩, Nat.le_refl _, by show (l.map _).length ≤ _; rw [hlen]; omega⟩
  · obtain ⟨x, hx, rfl⟩ := List.mem_map.1 hf
    exact hd x hx
  · show ((List.take k []).foldl dlay _).length ≤ _
    rw [List.take_nil]
    exact Nat.le_trans h2 (by omega)
theorem DN.fall {n : Nat} {S : Dk} (D : DN n S) (dir : Int) (keep : List Int) : DN n (kFall S dir keep) := by
  have h := image_ok D.ok dir keep
  exact (fresh_ok D.ok.room h.1 h.2.1 fun f hf => ⟨(h.2.2 f hf).1, Nat.le_of_eq (h.2.2 f hf).2⟩).mono (Nat.zero_le _)
section
variable {h h' : Hp} {A : PA} {S S' : Dk} {Q : Value → Hp → Prop}
theorem fall_p {dir : Int} {l : Sl} {keep : List Int} (P : PD h A S) (D : DOk S) (hcl : S.chg.length ≤ 1000000000) (hr : h.row l.a (l.n * 1) (keep.map fun k => Value.int .i64 k))
    (hQ : ∀ h' A', A'.db = A.db → PD h' A' (kFall S dir keep) → Tr2 A.own A'.own h h' → Q (.tuple ⟨[]⟩) h') : F32.T (some ⟨A.db, 0, none⟩) dir l h Q := by
  have him := image_ok D dir keep
  unfold F32.T F32.G
  refine image_p P D hcl hr fun h1 r L K1 F1 e1 => ⟨r, rfl, fun b hb => ?_⟩
  unfold kFall at hQ
  generalize kImage S dir keep = R at e1 hQ him
  have hLR : L.length = R.length := by have := congrArg List.length e1; simpa using this
  have hrn : r.n = L.length := F1.len
  obtain ⟨u, w, f, p, hrig, hd⟩ := P.dsk
  have hd1 := K1 _ _ hd
  have K2 := Keep.new hb (.map #[] 0)
  have hb2 := new_at h1 b (.map #[] 0)
  have hd2 := K2 _ _ hd1
  have hd3 := wr_cells (o := 0 + 1) (vs := [.map (some b)]) hd2
  have O3 := one_wr (o := 0 + 1) (vs := [.map (some b)]) hd2
  have C3 : Ck [82] (h1.new b (.map #[] 0)) ((h1.new b (.map #[] 0)).wr A.db (0 + 1) [.map (some b)]) := Ck.wr (o := 0 + 1) (vs := [.map (some b)]) hd2
  refine ⟨A.db, 0, rfl, canW_new hd2 (by simp), ?_⟩
  generalize (h1.new b (.map #[] 0)).wr A.db (0 + 1) [.map (some b)] = h2 at hd3 O3 C3 ⊢
  have hbn : h b = none := K1.dom _ hb
  have hbdb : b ≠ A.db := fun e => by rw [e, hd] at hbn; cases hbn
  refine ⟨fun n1 h3 => ∃ L1 L2 X, L = L1 ++ L2 ∧ n1 = (L1.length : Int) ∧ Bld h h3 b X (putAll 0 [] (L1.map (·.2))) ∧ X.map (·.d) = L1.map (·.1) ∧ X.map (·.f) = L1.map (fun x => ⟨x.2.data, x.2.sure⟩) ∧ One A.db h h3 ∧ h3 A.db = some (.cells ⟨[.int .i64 S.room, .map (some b), .map (some A.sb), .slice A.ch.a A.ch.n A.ch.c, .int .i64 u, .int .i64 w, .int .i64 f, .int .i64 p, .bool S.down]⟩ 80 (0, 0)) ∧ Buf h3 r 3 60 (fV L) ∧ ∀ x ∈ L, Buf h3 x.1 1 5 (bl x.2.data), fun n1 _ => L.length - n1.toNat,
    ⟨[], L, [], rfl, rfl, ⟨⟨#[], 0, O3.keep _ _ hbdb hb2, SM.empty _ _⟩, hbn, ⟨fun x hx => (by cases hx), fun x hx => (by cases hx), fun i j x y hx => (by simp at hx)⟩, fun k hk => (by obtain ⟨x, hx, _⟩ := hk; cases hx), DirOk.nil _⟩, rfl, rfl, ⟨fun k x n e => O3.keep k x n (K2 _ _ (K1 _ _ e)), fun k e => K1.dom k (K2.dom k (O3.dom k e))⟩, hd3, C3.buf (by decide) (F1.b.keep K2), fun x hx => C3.buf (by decide) ((F1.d x hx).1.keep K2)⟩, ?_⟩
  rintro n1 h3 ⟨L1, L2, X, rfl, rfl, W, hXd, hXf, O, hdb, Br, Bd⟩
  rw [List.length_append] at hrn hLR
  refine ⟨fun hlt => ?_, fun hge => ?_⟩
  · rcases L2 with _ | ⟨x, L2⟩
    · exact absurd hlt (by simp at hrn; omega)
    rw [List.length_cons] at hrn hLR
    have hmx : x ∈ L1 ++ x :: L2 := by simp
    obtain ⟨b2, ha2, hrg, h0, h1', h2', _⟩ := rec_at Br
    have hxR : x.2 ∈ R := by rw [← e1]; exact List.mem_map_of_mem hmx
    refine ⟨b2, 0, ha2, hrg, x.2.nm, h0, x.1, h1', (x.2.sure : Int), h2', A.db, 0, rfl, some b, at_of hdb 1, fun b4 hb4 => ?_⟩
    have K4 := Keep.new hb4 (.cells ⟨[.slice x.1.a x.1.n x.1.c, .int .i64 (x.2.sure : Int)]⟩ 100 (0, 0))
    have hXl : X.length = L1.length := by have := congrArg List.length hXd; simpa using this
    obtain ⟨es1, c1, q1, q2, q3⟩ := bld_put W hb4 (O.dom _ hb4) (f := ⟨x.2.data, x.2.sure⟩) (nm := x.2.nm) (him.2.1 _ hxR) (Bd x hmx) (F1.d x hmx).2 (fun k hk ho => by
      obtain ⟨y, hy, hk2⟩ := ho
      rcases hk2 with rfl | hk2
      · obtain ⟨cc, ff, al⟩ := buf_alive (Bd x hmx) hk
        rw [W.fx.fb y hy] at al; cases al
      · have hyd : y.d ∈ L1.map (·.1) := by rw [← hXd]; exact List.mem_map_of_mem hy
        obtain ⟨z, hz, ez⟩ := List.mem_map.1 hyd
        have := (List.pairwise_append.1 F1.dj).2.2 z hz x List.mem_cons_self
        rw [ez] at this
        obtain ⟨o1, ho1⟩ := hk2
        obtain ⟨o2, ho2⟩ := hk
        exact this k o1 o2 ho1 ho2) rfl
    have O5 := One.new (h := h3.new b4 (.cells ⟨[.slice x.1.a x.1.n x.1.c, .int .i64 (x.2.sure : Int)]⟩ 100 (0, 0))) (b := b) (mPut es1 c1 (.string x.2.nm) (.pointer (some ⟨b4, 0, none⟩))) (by rw [q1]; simp)
    have C5 : Ck [0] _ _ := O5.ck q1
    refine ⟨at_of (K4 _ _ hdb) 1, b, es1, c1, rfl, q1, q2, ?_⟩
    rw [inc_i (n := 100000000) (by omega) (by omega)]
    refine ⟨⟨L1 ++ [x], L2, X ++ [⟨b4, x.1, ⟨x.2.data, x.2.sure⟩⟩], by simp, by simp, ?_, by simp [hXd], by simp [hXf], ⟨fun k y n e => ?_, fun k e => O.dom k (K4.dom k (O5.dom k e))⟩, O5.keep _ _ (fun e => hbdb e.symm) (K4 _ _ hdb), C5.buf (by decide) (Br.keep K4), fun y hy => C5.buf (by decide) ((Bd y hy).keep K4)⟩, by simp only [List.length_append, List.length_cons]; omega⟩
    · rw [List.map_append, putAll_app, Nat.zero_add, List.length_map, ← hXl]
      exact q3
    · exact O5.keep k y (fun e' => by rw [e', hbn] at e; cases e) (K4 _ _ (O.keep k y n e))
  · have hL2 : L2 = [] := List.eq_nil_of_length_eq_zero (by omega)
    subst hL2
    rw [List.append_nil] at e1
    obtain ⟨es, c, hm, M⟩ := W.mp
    refine ⟨A.db, 0, rfl, some b, at_of hdb 1, clone_p hm fun b' hb' => ⟨some b', rfl, ?_⟩⟩
    have K5 := Keep.new hb' (.map es c)
    have hx' := new_at h3 b' (.map es c)
    have g0 := K5 _ _ hdb
    have g1 := wr_cells (o := 0 + 2) (vs := [.map (some b')]) g0
    have g2 := wr_cells (o := 0 + 3) (vs := [.slice none 0 0]) g1
    have g3 := wr_cells (o := 0 + 4) (vs := [.int .i64 0, .int .i64 0, .int .i64 0, .int .i64 0]) g2
    have g4 := wr_cells (o := 0 + 8) (vs := [.bool false]) g3
    have OO := ((one_wr (o := 0 + 2) (vs := [.map (some b')]) g0).trans (one_wr (o := 0 + 3) (vs := [.slice none 0 0]) g1)).trans ((one_wr (o := 0 + 4) (vs := [.int .i64 0, .int .i64 0, .int .i64 0, .int .i64 0]) g2).trans (one_wr (o := 0 + 8) (vs := [.bool false]) g3))
    refine ⟨A.db, 0, rfl, canW_new g0 (by simp), A.db, 0, rfl, canW_new g1 (by simp [setL]), A.db, 0, rfl, canW_new g2 (by simp [setL]), A.db, 0, rfl, canW_new g3 (by simp [setL]), ?_⟩
    have CC := OO.ck g0
    generalize ((((h3.new b' (.map es c)).wr A.db (0 + 2) [.map (some b')]).wr A.db (0 + 3) [.slice none 0 0]).wr A.db (0 + 4) [.int .i64 0, .int .i64 0, .int .i64 0, .int .i64 0]).wr A.db (0 + 8) [.bool false] = h5 at g4 OO CC ⊢
    have W5 := W.keep K5
    have hfl : X.map (·.f) = (fresh S.room R).fl := by rw [hXf, ← e1]; unfold fresh; dsimp only; rw [List.map_map]; rfl
    rw [e1] at M
    refine hQ h5 ⟨A.db, b, b', ⟨none, 0, 0⟩, X⟩ rfl ⟨⟨0, 0, 0, 0, fun _ => ⟨rfl, rfl, rfl, rfl⟩, g4⟩, ⟨es, c, CC.keep _ _ (K5 _ _ hm) (by simp [kd]), M⟩, ⟨es, c, CC.keep _ _ hx' (by simp [kd]), M⟩, ne_of hm hb', Buf.nil _ _ _, hfl, W5.fx.mono fun k y hk e => ?_⟩ ⟨fun k y n e => ?_, fun k e => O.dom k (K5.dom k (OO.dom k e)), fun k d => ?_⟩
    · obtain ⟨cc, tt, al, ht⟩ := W5.fx.alive hk
      rw [e] at al; cases al
      exact CC.keep _ _ e (by rcases ht with ht | ht <;> simp [kd, ht])
    · have hk : k ≠ A.db := by rintro rfl; exact n (.inl rfl)
      exact OO.keep k y hk (K5 _ _ (O.keep k y hk e))
    · rcases d with d | d | d | d | d
      · exact .inl (.inl d)
      · exact .inr (by rw [show k = b from d]; exact hbn)
      · exact .inr (by rw [show k = b' from d]; exact O.dom _ hb')
      · exact (inS_nil k d).elim
      · exact .inr (W.fn k d)
/-! ### A disk begins -/
def rcell (x : Sl × RawF) : List Value := [.string x.2.nm, .slice x.1.a x.1.n x.1.c, .int .i64 x.2.sure]
def rV (L : List (Sl × RawF)) : List Value := L.flatMap rcell
theorem rV_len (L : List (Sl × RawF)) : (rV L).length = L.length * 3 := by
  unfold rV
  induction L with
  | nil => rfl
  | cons c l ih => rw [List.flatMap_cons, List.length_append, ih, List.length_cons]; show 3 + _ = _; omega
/-- Files as a caller holds them. -/
structure RA (h : Hp) (l : Sl) (L : List (Sl × RawF)) : Prop where
  b : h.row l.a (l.n * 3) (rV L)
  d : ∀ x ∈ L, h.row x.1.a (x.1.n * 1) (bl x.2.data) ∧ x.1.n ≤ x.1.c ∧ (x.1.a = none → x.1.n = 0)
theorem RA.keep {l : Sl} {L : List (Sl × RawF)} (R : RA h l L) (K : Keep h h') : RA h' l L := ⟨K.row R.b, fun x hx => ⟨K.row (R.d x hx).1, (R.d x hx).2⟩⟩
theorem RA.len {l : Sl} {L : List (Sl × RawF)} (R : RA h l L) : l.n = L.length := by have := R.b.1; rw [rV_len] at this; omega
theorem RA.at {l : Sl} {L1 L2 : List (Sl × RawF)} {x : Sl × RawF} (R : RA h l (L1 ++ x :: L2)) : ∃ b o, l.a = some ⟨b, o, none⟩ ∧ ((0 : Int) ≤ (L1.length : Int) ∧ (L1.length : Int) < (l.n : Int)) ∧
    h.at b (o + (L1.length : Int).toNat * 3) = some (.string x.2.nm) ∧ h.at b ((o + (L1.length : Int).toNat * 3) + 1) = some (.slice x.1.a x.1.n x.1.c) ∧ h.at b ((o + (L1.length : Int).toNat * 3) + 2) = some (.int .i64 x.2.sure) := by
  have hl := R.len
  rw [List.length_append, List.length_cons] at hl
  obtain ⟨b, o, ha, hat⟩ := row_get R.b (i := L1.length * 3) (by omega)
  have hv : rV (L1 ++ x :: L2) = rV L1 ++ Value.string x.2.nm :: .slice x.1.a x.1.n x.1.c :: .int .i64 x.2.sure :: rV L2 := by unfold rV; simp [rcell]
  obtain ⟨g0, g1, g2⟩ := get3 (.string x.2.nm) (.slice x.1.a x.1.n x.1.c) (.int .i64 x.2.sure) (rV L2) (rV L1)
  rw [← hv, rV_len] at g0 g1 g2
  rw [Int.toNat_natCast]
  exact ⟨b, o, ha, ⟨by omega, by omega⟩, (hat _ (by omega)).trans g0, by rw [Nat.add_assoc]; exact (hat _ (by omega)).trans g1, by rw [Nat.add_assoc]; exact (hat _ (by omega)).trans g2⟩
theorem new_p {room : Int} {l : Sl} {L : List (Sl × RawF)} (R : RA h l L) (hroom : room ≤ 9223372036854775807) (hnm : ∀ x ∈ L, x.2.nm.size ≤ 9223372036854775807)
    (hQn : newOk room (L.map (·.2)) = false → ∀ h', Keep h h' → Q (.tuple ⟨[.pointer none, .int .i64 36]⟩) h')
    (hQs : newOk room (L.map (·.2)) = true → ∀ h' A', Keep h h' → (∀ k, A'.own k → h k = none) → PD h' A' (fresh room (L.map fun x => x.2.f)) → Q (.tuple ⟨[.pointer (some ⟨A'.db, 0, none⟩), .int .i64 0]⟩) h') : F19.T room l h Q := by
  intro b hbn b1 hb1
  have hln := R.len
  have K0 := Keep.new hbn (.map #[] 0)
  have hmb := new_at h b (.map #[] 0)
  have Ka := Keep.new hb1 (.cells ⟨[.int .i64 room, .map (some b), .map none, .slice none 0 0, .int .i64 0, .int .i64 0, .int .i64 0, .int .i64 0, .bool false]⟩ 80 (0, 0))
  have hx1 := new_at (h.new b (.map #[] 0)) b1 (.cells ⟨[.int .i64 room, .map (some b), .map none, .slice none 0 0, .int .i64 0, .int .i64 0, .int .i64 0, .int .i64 0, .bool false]⟩ 80 (0, 0))
  have hb1n : h b1 = none := K0.dom _ hb1
  have hb1b : b1 ≠ b := fun e => by rw [e, hmb] at hb1; cases hb1
  have hmb2 := Ka _ _ hmb
  generalize (h.new b (.map #[] 0)).new b1 (.cells ⟨[.int .i64 room, .map (some b), .map none, .slice none 0 0, .int .i64 0, .int .i64 0, .int .i64 0, .int .i64 0, .bool false]⟩ 80 (0, 0)) = h0 at Ka hx1 hmb2 ⊢
  refine ⟨fun hneg => hQn (by unfold newOk; rw [decide_eq_false (by omega)]; rfl) h0 (K0.trans Ka), fun hpos => ⟨fun hbig => hQn (by unfold newOk; rw [List.length_map, decide_eq_false (by omega : ¬ (L.length : Int) ≤ 8388608)]; simp) h0 (K0.trans Ka), fun hsm => ?_⟩⟩
  refine ⟨fun all i h1 => ∃ L1 L2 X, L = L1 ++ L2 ∧ i = (L1.length : Int) ∧ all = rawSum (L1.map (·.2)) ∧ all ≤ (L1.length : Int) * 2147483648 ∧ 0 ≤ all ∧ Bld h h1 b X (putAll 0 [] (L1.map fun x => x.2.f)) ∧ X.map (·.f) = L1.map (fun x => ⟨x.2.f.data, x.2.f.sure⟩) ∧
    rawOk 0 [] (L.map (·.2)) = rawOk L1.length (putAll 0 [] (L1.map fun x => x.2.f)) (L2.map (·.2)) ∧ (room = 0 ∨ all ≤ room) ∧ Keep h h1 ∧ h1 b1 = some (.cells ⟨[.int .i64 room, .map (some b), .map none, .slice none 0 0, .int .i64 0, .int .i64 0, .int .i64 0, .int .i64 0, .bool false]⟩ 80 (0, 0)), fun _ i _ => L.length - i.toNat,
    ⟨[], L, [], rfl, rfl, rfl, Int.le_refl _, Int.le_refl _, ⟨⟨#[], 0, hmb2, SM.empty _ _⟩, hbn, ⟨fun x hx => (by cases hx), fun x hx => (by cases hx), fun i j x y hx => (by simp at hx)⟩, fun k hk => (by obtain ⟨x, hx, _⟩ := hk; cases hx), DirOk.nil _⟩, rfl, rfl, .inr (by omega), K0.trans Ka, hx1⟩, ?_⟩
  rintro all i h1 ⟨L1, L2, X, rfl, rfl, hall, hle, hall0, W, hXf, hraw, hrm, K1, hb1'⟩
  rw [List.length_append] at hln
  refine ⟨fun hlt => ?_, fun hge => ?_⟩
  · rcases L2 with _ | ⟨x, L2⟩
    · exact absurd hlt (by simp at hln; omega)
    rw [List.length_cons] at hln
    have hmx : x ∈ L1 ++ x :: L2 := by simp
    obtain ⟨b2, o, ha, hrg, g0, g1, g2⟩ := (R.keep K1).at
    have hxr := (R.keep K1).d x hmx
    have hxn : (x.1.n : Int) = (x.2.data.length : Int) := by have := hxr.1.1; rw [bl_len] at this; omega
    have bad : x.2.ok (putAll 0 [] (L1.map fun x => x.2.f)) = false → newOk room ((L1 ++ x :: L2).map (·.2)) = false := fun hx => by
      have : rawOk 0 [] ((L1 ++ x :: L2).map (·.2)) = false := by
        rw [hraw]
        show (x.2.ok _ && _) = false
        rw [hx]; rfl
      unfold newOk
      rw [this]; simp
    refine ⟨b2, o, ha, hrg, x.2.nm, g0, x.1, g1, x.2.sure, g2, name_spec (hnm x hmx) fun h2 K2 => ⟨nameOk x.2.nm, rfl, fun hnok => ?_, fun hnok => hQn (bad (by unfold RawF.ok; rw [hnok]; rfl)) h2 (K1.trans K2)⟩⟩
    obtain ⟨es, c, hm, M⟩ := W.mp
    have hm2 := K2 _ _ hm
    have hb2 := K2 _ _ hb1'
    refine ⟨some b, at_of hb2 1, es, c, hm2, M.fit _, ?_⟩
    rw [M.get]
    cases hg : dget (putAll 0 [] (L1.map fun x => x.2.f)) x.2.nm with
    | some j =>
      have hj := W.ix.i _ (dget_mem hg)
      have hXj : X[j]? = some X[j] := List.getElem?_eq_getElem hj
      refine ⟨some ⟨X[j].b, 0, none⟩, by show pid _ _ = _; unfold pid; rw [List.getElem?_map, hXj]; rfl, okPtr_none _ _, fun h => (by cases h), fun _ => hQn (bad (by unfold RawF.ok; rw [hg]; simp)) h2 (K1.trans K2)⟩
    | none =>
      refine ⟨none, rfl, okPtr_none _ _, fun _ => ?_, fun h => absurd rfl h⟩
      rw [hxn]
      refine ⟨fun h31 => hQn (bad (by unfold RawF.ok; rw [decide_eq_false (by omega : ¬ (x.2.data.length : Int) ≤ 2147483648)]; simp)) h2 (K1.trans K2), fun h31 => ⟨fun hs0 => hQn (bad (by unfold RawF.ok; rw [decide_eq_false (by omega : ¬ 0 ≤ x.2.sure)]; simp)) h2 (K1.trans K2), fun hs0 => ⟨fun hs1 => hQn (bad (by unfold RawF.ok; rw [decide_eq_false (by omega : ¬ x.2.sure ≤ (x.2.data.length : Int))]; simp)) h2 (K1.trans K2), fun hs1 => ?_⟩⟩⟩
      have hxok : x.2.ok (putAll 0 [] (L1.map fun x => x.2.f)) = true := by
        unfold RawF.ok
        rw [hnok, hg, decide_eq_true (by omega : (x.2.data.length : Int) ≤ 2147483648), decide_eq_true (by omega : 0 ≤ x.2.sure), decide_eq_true (by omega : x.2.sure ≤ (x.2.data.length : Int))]; rfl
      rw [wrap_i64 (by omega) (by omega)]
      refine ⟨fun hr0 => ?_, fun hr0 => ⟨fun hover => hQn ?_ h2 (K1.trans K2), fun hfit => ?_⟩⟩
      · have hroom' : room = 0 ∨ all + (x.2.data.length : Int) ≤ room := .inl hr0
        refine ⟨some b, at_of hb2 1, ?_⟩
        refine clone_bytes (h := h2) (v := x.2.data) (K2.row hxr.1) hxr.2.1 hxr.2.2 (by omega) fun h3 l2 K3 B3 N3 => ⟨l2, rfl, at_of (K3 _ _ hb2) 1, fun b4 hb4 => ?_⟩
        have K4 := Keep.new hb4 (.cells ⟨[.slice l2.a l2.n l2.c, .int .i64 x.2.sure]⟩ 100 (0, 0))
        have hb5 := K4 _ _ (K3 _ _ hb2)
        have Kh3 : Keep h h3 := K1.trans (K2.trans K3)
        have Wk := (W.keep K2).keep K3
        have hs0 : (x.2.f.sure : Int) = x.2.sure := by show ((x.2.sure.toNat : Nat) : Int) = _; omega
        obtain ⟨es1, c1, e1, e2, e3⟩ := bld_put Wk hb4 (Kh3.dom _ hb4) (f := ⟨x.2.f.data, x.2.f.sure⟩) (nm := x.2.nm) (name_size hnok) B3 (N3.mono (fun k e => K1.dom k (K2.dom k e))) (fun k hk ho => by
          obtain ⟨cc, tt, al, _⟩ := (W.keep K2).fx.alive ho
          rw [newN_in N3 hk] at al; cases al) (h1 := h3.new b4 (.cells ⟨[.slice l2.a l2.n l2.c, .int .i64 x.2.sure]⟩ 100 (0, 0))) (by dsimp only; rw [hs0])
        refine ⟨at_of hb5 1, b, es1, c1, rfl, e1, e2, ?_⟩
        have O5 := One.new (h := h3.new b4 (.cells ⟨[.slice l2.a l2.n l2.c, .int .i64 x.2.sure]⟩ 100 (0, 0))) (b := b) (mPut es1 c1 (.string x.2.nm) (.pointer (some ⟨b4, 0, none⟩))) (by rw [e1]; simp)
        rw [inc_i (n := 100000000) (by omega) (by omega)]
        refine ⟨⟨L1 ++ [x], L2, X ++ [⟨b4, l2, ⟨x.2.f.data, x.2.f.sure⟩⟩], by simp, by simp, by rw [List.map_append, rawSum_app, ← hall]; show _ = _ + ((x.2.data.length : Int) + 0); omega, by simp only [List.length_append, List.length_singleton]; omega, by omega, ?_, by simp [hXf, RawF.f], ?_, hroom', (Kh3.trans K4).one O5 hbn, O5.keep _ _ hb1b hb5⟩, by simp only [List.length_append, List.length_cons]; omega⟩
        · rw [List.map_append, putAll_app, Nat.zero_add, List.length_map]
          have hXl : X.length = L1.length := by have := congrArg List.length hXf; simpa using this
          rw [← hXl]
          exact e3
        · rw [hraw]
          show (x.2.ok _ && rawOk _ _ _) = _
          rw [hxok, Bool.true_and, List.map_append, putAll_app, List.length_append, Nat.zero_add, List.length_map]
          rfl
      · have hsum : rawSum ((L1 ++ x :: L2).map (·.2)) = all + ((x.2.data.length : Int) + rawSum (L2.map (·.2))) := by rw [List.map_append, rawSum_app, ← hall]; rfl
        have := rawSum_nn (L2.map (·.2))
        unfold newOk
        have hno : ¬ all + ((x.2.data.length : Int) + rawSum (L2.map (·.2))) ≤ room := by omega
        rw [hsum, decide_eq_false hr0, decide_eq_false hno]
        simp
      · have hroom' : room = 0 ∨ all + (x.2.data.length : Int) ≤ room := .inr (by omega)
        refine ⟨some b, at_of hb2 1, ?_⟩
        refine clone_bytes (h := h2) (v := x.2.data) (K2.row hxr.1) hxr.2.1 hxr.2.2 (by omega) fun h3 l2 K3 B3 N3 => ⟨l2, rfl, at_of (K3 _ _ hb2) 1, fun b4 hb4 => ?_⟩
        have K4 := Keep.new hb4 (.cells ⟨[.slice l2.a l2.n l2.c, .int .i64 x.2.sure]⟩ 100 (0, 0))
        have hb5 := K4 _ _ (K3 _ _ hb2)
        have Kh3 : Keep h h3 := K1.trans (K2.trans K3)
        have Wk := (W.keep K2).keep K3
        have hs0 : (x.2.f.sure : Int) = x.2.sure := by show ((x.2.sure.toNat : Nat) : Int) = _; omega
        obtain ⟨es1, c1, e1, e2, e3⟩ := bld_put Wk hb4 (Kh3.dom _ hb4) (f := ⟨x.2.f.data, x.2.f.sure⟩) (nm := x.2.nm) (name_size hnok) B3 (N3.mono (fun k e => K1.dom k (K2.dom k e))) (fun k hk ho => by
          obtain ⟨cc, tt, al, _⟩ := (W.keep K2).fx.alive ho
          rw [newN_in N3 hk] at al; cases al) (h1 := h3.new b4 (.cells ⟨[.slice l2.a l2.n l2.c, .int .i64 x.2.sure]⟩ 100 (0, 0))) (by dsimp only; rw [hs0])
        refine ⟨at_of hb5 1, b, es1, c1, rfl, e1, e2, ?_⟩
        have O5 := One.new (h := h3.new b4 (.cells ⟨[.slice l2.a l2.n l2.c, .int .i64 x.2.sure]⟩ 100 (0, 0))) (b := b) (mPut es1 c1 (.string x.2.nm) (.pointer (some ⟨b4, 0, none⟩))) (by rw [e1]; simp)
        rw [inc_i (n := 100000000) (by omega) (by omega)]
        refine ⟨⟨L1 ++ [x], L2, X ++ [⟨b4, l2, ⟨x.2.f.data, x.2.f.sure⟩⟩], by simp, by simp, by rw [List.map_append, rawSum_app, ← hall]; show _ = _ + ((x.2.data.length : Int) + 0); omega, by simp only [List.length_append, List.length_singleton]; omega, by omega, ?_, by simp [hXf, RawF.f], ?_, hroom', (Kh3.trans K4).one O5 hbn, O5.keep _ _ hb1b hb5⟩, by simp only [List.length_append, List.length_cons]; omega⟩
        · rw [List.map_append, putAll_app, Nat.zero_add, List.length_map]
          have hXl : X.length = L1.length := by have := congrArg List.length hXf; simpa using this
          rw [← hXl]
          exact e3
        · rw [hraw]
          show (x.2.ok _ && rawOk _ _ _) = _
          rw [hxok, Bool.true_and, List.map_append, putAll_app, List.length_append, Nat.zero_add, List.length_map]
          rfl
  · have hL2 : L2 = [] := List.eq_nil_of_length_eq_zero (by omega)
    subst hL2
    rw [List.append_nil] at hraw hQs
    obtain ⟨es, c, hm, M⟩ := W.mp
    refine ⟨some b, at_of hb1' 1, clone_p hm fun b' hb' => ⟨some b', rfl, ?_⟩⟩
    have K5 := Keep.new hb' (.map es c)
    have hx' := new_at h1 b' (.map es c)
    have q0 := K5 _ _ hb1'
    have q1 := wr_cells (o := 2) (vs := [.map (some b')]) q0
    have O := one_wr (o := 2) (vs := [.map (some b')]) q0
    have C := O.ck q0
    refine ⟨canW_new q0 (by simp), ?_⟩
    generalize (h1.new b' (.map es c)).wr b1 2 [.map (some b')] = h5 at q1 O C ⊢
    have hok : newOk room (L1.map (·.2)) = true := by
      have hraw' : rawOk 0 [] (L1.map (·.2)) = true := hraw
      unfold newOk
      rw [hraw', ← hall, List.length_map, decide_eq_true (by omega : 0 ≤ room), decide_eq_true (by simp at hln; omega : (L1.length : Int) ≤ 8388608)]
      rcases hrm with h | h
      · rw [decide_eq_true h]; rfl
      · rw [decide_eq_true h, Bool.or_true]; rfl
    have W5 := W.keep K5
    refine hQs hok h5 ⟨b1, b, b', ⟨none, 0, 0⟩, X⟩ ((K1.trans K5).one O hb1n) (fun k d => ?_) ⟨⟨0, 0, 0, 0, fun _ => ⟨rfl, rfl, rfl, rfl⟩, q1⟩, ⟨es, c, C.keep _ _ (K5 _ _ hm) (by simp [kd]), M⟩, ⟨es, c, C.keep _ _ hx' (by simp [kd]), M⟩, ne_of hm hb', Buf.nil _ _ _, by rw [hXf]; unfold fresh; dsimp only; rw [List.map_map]; rfl, W5.fx.mono fun k y hk e => ?_⟩
    · rcases d with d | d | d | d | d
      · rw [show k = b1 from d]; exact hb1n
      · rw [show k = b from d]; exact hbn
      · rw [show k = b' from d]; exact K1.dom _ hb'
      · exact (inS_nil k d).elim
      · exact W.fn k d
    · obtain ⟨cc, tt, al, ht⟩ := W5.fx.alive hk
      rw [e] at al; cases al
      exact C.keep _ _ e (by rcases ht with ht | ht <;> simp [kd, ht])
end
end Go.Eng.Ytekflkpnpibneaa
end
section

/-
  SPECS OF THE DISK, 8: the document's directories: find, with, without, twin.
-/
set_option linter.unusedSimpArgs false
set_option linter.unusedVariables false
set_option maxRecDepth 100000
namespace Go.Eng.Ytekflkpnpibneaa
def ecell (x : ByteArray × Nat) : List Value := [.string x.1, .int .i64 (x.2 : Int)]
def eV (d : Dir) : List Value := d.flatMap ecell
section
variable {h h' : Hp} {Q : Value → Hp → Prop} {d : Dir} {l : Sl} {s : ByteArray}
end
end Go.Eng.Ytekflkpnpibneaa
end
section

/-
  SPECS OF THE DISK, 9: the document's disk in memory; what begins a call; falls; names.
-/
set_option linter.unusedSimpArgs false
set_option linter.unusedVariables false
set_option maxRecDepth 100000
namespace Go.Eng.Ytekflkpnpibneaa
structure RB where
  db : Nat
  fs : Sl
  nw : Sl
  sr : Sl
  cs : Sl
  X : List FX
def pV (X : List FX) : List Value := X.map fun x => .pointer (some ⟨x.b, 0, none⟩)
def ccell (c : Cg) : List Value := [.int .i64 (c.kind + 1), .string c.nm, .string c.to, .int .i64 (if c.kind = 0 then (c.id : Int) else 0)]
def cV (l : List Cg) : List Value := l.flatMap ccell
def RB.cells (B : RB) (S : Dk) : List Value := [.int .i64 S.room, .slice B.fs.a B.fs.n B.fs.c, .slice B.nw.a B.nw.n B.nw.c, .slice B.sr.a B.sr.n B.sr.c, .slice B.cs.a B.cs.n B.cs.c, .int .i64 S.left, .int .i64 S.well, .int .i64 S.fails, .int .i64 S.part, .bool S.down]
/-- The document's disk. -/
structure RD (h : Hp) (B : RB) (S : Dk) : Prop where
  dsk : h B.db = some (.cells ⟨[.int .i64 S.room, .slice B.fs.a B.fs.n B.fs.c, .slice B.nw.a B.nw.n B.nw.c, .slice B.sr.a B.sr.n B.sr.c, .slice B.cs.a B.cs.n B.cs.c, .int .i64 S.left, .int .i64 S.well, .int .i64 S.fails, .int .i64 S.part, .bool S.down]⟩ 85 (0, 0))
  fs : Buf h B.fs 1 86 (pV B.X)
  nw : Buf h B.nw 2 88 (eV S.now)
  sr : Buf h B.sr 2 88 (eV S.sure)
  cs : Buf h B.cs 4 116 (cV S.chg)
  fl : B.X.map (·.f) = S.fl
  fx : Fls 90 h B.X
  dj : Off B.nw B.sr
def RB.own (B : RB) (k : Nat) : Prop := k = B.db ∨ inS B.fs k ∨ inS B.nw k ∨ inS B.sr k ∨ inS B.cs k ∨ ownX B.X k
section
variable {h h' h1 h2 : Hp} {B : RB} {S S' : Dk} {Q : Value → Hp → Prop} {s : ByteArray}
end
end Go.Eng.Ytekflkpnpibneaa
end
section

/-
  SPECS OF THE DISK, 10: what the document's calls do to its disk.
-/
set_option linter.unusedSimpArgs false
set_option linter.unusedVariables false
set_option maxRecDepth 100000
namespace Go.Eng.Ytekflkpnpibneaa
section
variable {h h' h1 h2 : Hp} {B : RB} {S S' : Dk} {Q : Value → Hp → Prop} {s : ByteArray}
end
end Go.Eng.Ytekflkpnpibneaa
end
section

/-
  SPECS OF THE DISK, 11: what the document's disk does with bytes, and what it tells.
-/
set_option linter.unusedSimpArgs false
set_option linter.unusedVariables false
set_option maxRecDepth 100000
namespace Go.Eng.Ytekflkpnpibneaa
section
variable {h h' h1 h2 : Hp} {B : RB} {S S' : Dk} {Q : Value → Hp → Prop} {s : ByteArray}
end
end Go.Eng.Ytekflkpnpibneaa
end
section

/-
  SPECS OF THE DISK, 12: what a fall leaves of the document's disk; the fall; a disk begins.
-/
set_option linter.unusedSimpArgs false
set_option linter.unusedVariables false
set_option maxRecDepth 100000
namespace Go.Eng.Ytekflkpnpibneaa
section
variable {h h' h1 h2 : Hp} {B : RB} {S S' : Dk} {Q : Value → Hp → Prop} {s : ByteArray}
end
end Go.Eng.Ytekflkpnpibneaa
end
section

/-
  SPECS OF THE DISK, 13: the document's fall; its disk begins.
-/
set_option linter.unusedSimpArgs false
set_option linter.unusedVariables false
set_option maxRecDepth 100000
namespace Go.Eng.Ytekflkpnpibneaa
theorem image_srt {S : Dk} (D : DOk S) (dir : Int) (keep : List Int) : (kImage S dir keep).Pairwise fun f g => Bl f.nm g.nm := by
  have h1 : ((kImage S dir keep).map (·.nm)).Pairwise Bl := by
    rw [image_nm]
    exact List.pairwise_map.2 (D.rest dir).s
  exact List.pairwise_map.1 h1
section
variable {h h' h1 h2 : Hp} {B : RB} {S S' : Dk} {Q : Value → Hp → Prop} {s : ByteArray}
/-- A disk that is being begun. -/
def part (room : Int) (L : List RawF) : Dk := ⟨room, L.map fun f => ⟨f.data, f.sure.toNat⟩, putAll 0 [] (L.map RawF.f), [], [], 0, 0, 0, 0, false⟩
end
end Go.Eng.Ytekflkpnpibneaa
end
section

/-
  SPECS OF THE DISK, 14: the bench's own: lists of files compared, copied, counted; both disks.
-/
set_option linter.unusedSimpArgs false
set_option linter.unusedVariables false
set_option maxRecDepth 100000
namespace Go.Eng.Ytekflkpnpibneaa
def ba (v : List UInt8) : ByteArray := ⟨⟨v⟩⟩
theorem bytesV_ba (v : List UInt8) : bytesV (ba v) = bl v := rfl
section
variable {h h' h1 h2 : Hp} {Q : Value → Hp → Prop}
theorem sameB {l l1 : Sl} {v : List UInt8} (h1 : h.row l.a l.n (bl v)) (h2 : h.row l1.a l1.n (bl v)) (hQ : Q (.bool true) h) : F42.T l l1 h Q :=
  ⟨ba v, by rw [bytesV_ba]; exact h1, ba v, by rw [bytesV_ba]; exact h2, fun _ => hQ, fun hne => absurd rfl hne⟩
theorem row1 {l : Sl} {vs : List Value} (B : h.row l.a (l.n * 1) vs) : h.row l.a l.n vs := by rwa [Nat.mul_one] at B
theorem sameF {g g' : Hp} {r r' : Sl} {L L' : List (Sl × FileR)} (F : FA g h r L) (F' : FA g' h r' L') (e : L.map (·.2) = L'.map (·.2)) (hQ : Q (.bool true) h) (hl : L.length ≤ 100000000) : F13.T r r' h Q := by
  have hn := F.len
  have hn' := F'.len
  have hll : L.length = L'.length := by have := congrArg List.length e; simpa using this
  unfold F13.T F13.G
  refine ⟨fun _ => ⟨fun n g1 => g1 = h ∧ ∃ L1 L2 M1 M2, L = L1 ++ L2 ∧ L' = M1 ++ M2 ∧ n = (L1.length : Int) ∧ L1.length = M1.length ∧ L2.map (·.2) = M2.map (·.2), fun n _ => L.length - n.toNat, ⟨rfl, [], L, [], L', rfl, rfl, rfl, rfl, e⟩, ?_⟩, fun hne => absurd (by omega) hne⟩
  rintro n g1 ⟨rfl, L1, L2, M1, M2, rfl, rfl, rfl, hlm, e2⟩
  rw [List.length_append] at hn hll hl
  rw [List.length_append] at hn' hll
  refine ⟨fun hlt => ?_, fun _ => hQ⟩
  rcases L2 with _ | ⟨x, L2⟩
  · exact absurd hlt (by simp at hn; omega)
  rcases M2 with _ | ⟨y, M2⟩
  · simp at e2
  rw [List.map_cons, List.map_cons, List.cons.injEq] at e2
  obtain ⟨exy, e2⟩ := e2
  rw [List.length_cons] at hn hl
  obtain ⟨b, ha, hr, g0, k1, k2, _⟩ := rec_at F.b
  obtain ⟨b', ha', hr', g0', k1', k2', _⟩ := rec_at F'.b
  rw [← hlm] at hr' g0' k1' k2'
  refine ⟨b, 0, ha, hr, x.2.nm, g0, b', 0, ha', hr', y.2.nm, g0', fun _ => ⟨b, 0, ha, hr, _, k2, b', 0, ha', hr', _, k2', fun _ => ⟨b, 0, ha, hr, x.1, k1, b', 0, ha', hr', y.1, k1', ?_⟩, fun hne => absurd (by rw [exy]) hne⟩, fun hne => absurd (by rw [exy]) hne⟩
  refine sameB (v := x.2.data) (row1 (F.d x (by simp)).1.row) (by rw [exy]; exact row1 (F'.d y (by simp)).1.row) ⟨true, rfl, fun _ => ?_, fun h => (by cases h)⟩
  rw [inc_i (n := 200000000) (by omega) (by omega)]
  exact ⟨⟨rfl, L1 ++ [x], L2, M1 ++ [y], M2, by simp, by simp, by simp, by simp [hlm], e2⟩, by simp only [List.length_append, List.length_cons]; omega⟩
end
end Go.Eng.Ytekflkpnpibneaa
end
section

/-
  SPECS OF THE DISK, 15: one call of both disks.
-/
set_option linter.unusedSimpArgs false
set_option linter.unusedVariables false
set_option maxRecDepth 100000
namespace Go.Eng.Ytekflkpnpibneaa
/-- Both disks, new since g. -/
structure PR (g h : Hp) (pb : Nat) (A : PA) (B : RB) (S : Dk) : Prop where
  P : PD h A S
  R : RD h B S
  d : ∀ k, A.own k → ¬ B.own k
  pbe : h pb = some (.cells ⟨[.pointer (some ⟨A.db, 0, none⟩), .pointer (some ⟨B.db, 0, none⟩)]⟩ 32 (0, 0))
  np : ¬ A.own pb
  nr : ¬ B.own pb
  K : Keep g h
  na : ∀ k, A.own k → g k = none
  nb : ∀ k, B.own k → g k = none
  npb : g pb = none
structure OpP where
  kind : Int
  nm : ByteArray
  to : ByteArray
  data : List UInt8
  a : Int
  b : Int
  c : Int
  keep : List Int
def kStep (S : Dk) (o : OpP) : Dk :=
  if o.kind = 1 then (kCreate S o.nm).2 else if o.kind = 2 then (kAppend S o.nm o.data).2 else if o.kind = 3 then (kSync S o.nm).2 else if o.kind = 4 then (kRename S o.nm o.to).2 else if o.kind = 5 then (kDelete S o.nm).2 else
  if o.kind = 6 then (kSyncDir S).2 else if o.kind = 10 then kFall S o.a o.keep else if o.kind = 11 then kArm S o.a else if o.kind = 12 then kFail S o.a o.b o.c else S
section
variable {g h h' h1 h2 : Hp} {A A' : PA} {B : RB} {S S' : Dk} {Q : Value → Hp → Prop} {pb : Nat}
theorem copy_any {l : Sl} {t w n : Nat} {z vs : List Value} {K : Sl → Hp → Prop} (hr : h.row l.a (n * 1) vs) (ho : ∀ v ∈ vs, Value.oneCell' v = true) (hz : z.length = 1) (hw : n * w ≤ 140737488355328) (hK : ∀ h' r, Keep h h' → Buf h' r 1 t vs → NewN h r → K r h') :
    ∃ vs, h.row l.a (n * 1) vs ∧ (∀ v ∈ vs, Value.oneCell' v = true) ∧ appendD ⟨none, 0, 0⟩ t 1 w z n vs h K := by
  refine ⟨vs, hr, ho, append_buf (Buf.nil _ _ _) hz hr.1 (by rw [Nat.zero_add]; exact hw) fun r h' B' hn' U' => ?_⟩
  obtain ⟨K', N'⟩ := NewN.upd (Keep.refl h) (NewN.nil h) U'
  exact hK h' r K' (by simpa using B') N'
theorem ints_one (v : List Int) : ∀ x ∈ v.map (fun k => Value.int .i64 k), Value.oneCell' x = true := fun x hx => by
  obtain ⟨k, _, rfl⟩ := List.mem_map.1 hx; rfl
end
end Go.Eng.Ytekflkpnpibneaa
end
section

/-
  SPECS OF THE DISK, 16: both disks begin; small scripts.
-/
set_option linter.unusedSimpArgs false
set_option linter.unusedVariables false
set_option maxRecDepth 100000
namespace Go.Eng.Ytekflkpnpibneaa
section
variable {h h' h1 h2 : Hp} {Q : Value → Hp → Prop}
/-! ### Scripts -/
structure OpR where
  d : Sl
  k : Sl
  o : OpP
def ocell (x : OpR) : List Value := [.int .i64 x.o.kind, .string x.o.nm, .string x.o.to, .slice x.d.a x.d.n x.d.c, .int .i64 x.o.a, .int .i64 x.o.b, .int .i64 x.o.c, .slice x.k.a x.k.n x.k.c]
def oV (l : List OpR) : List Value := l.flatMap ocell
theorem oV_len (l : List OpR) : (oV l).length = l.length * 8 := by
  unfold oV
  induction l with
  | nil => rfl
  | cons c l ih => rw [List.flatMap_cons, List.length_append, ih, List.length_cons]; show 8 + _ = _; omega
theorem oV_at : ∀ {l : List OpR} {k r : Nat} {c : OpR}, l[k]? = some c → r < 8 → (oV l)[k * 8 + r]? = (ocell c)[r]?
  | [], k, r, c, h, _ => by simp at h
  | x :: l, 0, r, c, h, hr => by
    simp only [List.getElem?_cons_zero, Option.some.injEq] at h
    subst h
    show (ocell x ++ oV l)[0 * 8 + r]? = _
    rw [List.getElem?_append_left (by show _ < 8; omega)]
    congr 1; omega
  | x :: l, k + 1, r, c, h, hr => by
    simp only [List.getElem?_cons_succ] at h
    show (ocell x ++ oV l)[(k + 1) * 8 + r]? = _
    rw [List.getElem?_append_right (by show 8 ≤ _; omega), ← oV_at h hr]
    congr 1
    show (k + 1) * 8 + r - 8 = _
    omega
/-- A script as a caller holds it. -/
structure OA (h : Hp) (l : Sl) (O : List OpR) : Prop where
  b : h.row l.a (l.n * 8) (oV O)
  d : ∀ x ∈ O, h.row x.d.a (x.d.n * 1) (bl x.o.data) ∧ x.d.n ≤ x.d.c ∧ h.row x.k.a (x.k.n * 1) (x.o.keep.map fun k => Value.int .i64 k)
  z : ∀ x ∈ O, x.o.nm.size ≤ 9223372036854775807 ∧ x.o.to.size ≤ 9223372036854775807 ∧ x.o.a ≤ 9223372036854775807 ∧ x.o.b ≤ 9223372036854775807 ∧ x.o.c ≤ 9223372036854775807 ∧ x.o.data.length ≤ 140737488355328 ∧ x.o.keep.length ≤ 140737488355328
theorem OA.keep {l : Sl} {O : List OpR} (R : OA h l O) (K : Keep h h') : OA h' l O := ⟨K.row R.b, fun x hx => ⟨K.row (R.d x hx).1, (R.d x hx).2.1, K.row (R.d x hx).2.2⟩, R.z⟩
theorem OA.len {l : Sl} {O : List OpR} (R : OA h l O) : l.n = O.length := by have := R.b.1; rw [oV_len] at this; omega
theorem OA.at {l : Sl} {O : List OpR} {k : Nat} {x : OpR} (R : OA h l O) (hk : O[k]? = some x) : ∃ b o, l.a = some ⟨b, o, none⟩ ∧ ((0 : Int) ≤ (k : Int) ∧ (k : Int) < (l.n : Int)) ∧ ∀ r, r < 8 → h.at b ((o + (k : Int).toNat * 8) + r) = (ocell x)[r]? := by
  have hl := R.len
  have hkl := (List.getElem?_eq_some_iff.1 hk).1
  obtain ⟨b, o, ha, hat⟩ := row_get R.b (i := k * 8) (by omega)
  refine ⟨b, o, ha, ⟨by omega, by omega⟩, fun r hr => ?_⟩
  rw [Int.toNat_natCast, Nat.add_assoc, hat _ (by omega), oV_at hk hr]
theorem small_s {l l1 : Sl} {L : List (Sl × RawF)} {O : List OpR} (R : RA h l L) (R1 : OA h l1 O) (hd : ∀ x ∈ L, x.2.data.length ≤ 140737488355328) (hLl : L.length ≤ 140737488355328) (hOl : O.length ≤ 140737488355328)
    (hF : Q (.bool false) h) (hT : (∀ x ∈ L, x.2.data.length ≤ 1048576) → (∀ x ∈ O, x.o.data.length ≤ 1048576 ∧ x.o.keep.length ≤ 1048576) → O.length ≤ 400 → Q (.bool true) h) : F11.T l l1 h Q := by
  have hln := R.len
  have hln1 := R1.len
  refine ⟨fun n n1 h1 => h1 = h ∧ ∃ L1 L2, L = L1 ++ L2 ∧ n1 = (L1.length : Int) ∧ 0 ≤ n ∧ n ≤ 1048576 ∧ ∀ x ∈ L1, x.2.data.length ≤ 1048576, fun _ n1 _ => L.length - n1.toNat, ⟨rfl, [], L, rfl, rfl, Int.le_refl _, by decide, fun x hx => (by cases hx)⟩, ?_⟩
  rintro n n1 h1 ⟨rfl, L1, L2, rfl, rfl, hn0, hn1, hs⟩
  rw [List.length_append] at hln hLl
  refine ⟨fun hlt => ?_, fun hge => ?_⟩
  · rcases L2 with _ | ⟨x, L2⟩
    · exact absurd hlt (by simp at hln; omega)
    rw [List.length_cons] at hln hLl
    have hmx : x ∈ L1 ++ x :: L2 := by simp
    obtain ⟨b, o, ha, hrg, g0, g1, g2⟩ := R.at
    have hxr := R.d x hmx
    have hxn : x.1.n = x.2.data.length := by have := hxr.1.1; rw [bl_len] at this; omega
    have hdx := hd x hmx
    refine ⟨b, o, ha, hrg, x.1, g1, ?_⟩
    rw [wrap_i64 (by omega) (by omega)]
    refine ⟨fun _ => hF, fun hle => ?_⟩
    rw [inc_i (n := 140737488355329) (by omega) (by omega)]
    refine ⟨⟨rfl, L1 ++ [x], L2, by simp, by simp, by omega, by omega, fun y hy => ?_⟩, by simp only [List.length_append, List.length_cons]; omega⟩
    rcases List.mem_append.1 hy with hy | hy
    · exact hs y hy
    · rw [List.mem_singleton.1 hy]; omega
  · have hL2 : L2 = [] := List.eq_nil_of_length_eq_zero (by omega)
    subst hL2
    rw [List.append_nil] at hT
    refine ⟨fun n2 n3 h2 => h2 = h1 ∧ ∃ k : Nat, n3 = (k : Int) ∧ k ≤ O.length ∧ 0 ≤ n2 ∧ n2 ≤ 1048576 ∧ ∀ j x, j < k → O[j]? = some x → x.o.data.length ≤ 1048576 ∧ x.o.keep.length ≤ 1048576, fun _ n3 _ => O.length - n3.toNat, ⟨rfl, 0, rfl, Nat.zero_le _, hn0, hn1, fun j x hj => by omega⟩, ?_⟩
    rintro n2 n3 h2 ⟨rfl, k, rfl, hk, hm0, hm1, hks⟩
    refine ⟨fun hlt => ?_, fun hge => ⟨fun h4 => hT hs (fun x hx => ?_) (by omega), fun _ => hF⟩⟩
    · have hget : O[k]? = some O[k] := List.getElem?_eq_getElem (by omega)
      generalize O[k] = x at hget
      obtain ⟨b, o, ha, hrg, hat⟩ := R1.at hget
      have hxd := R1.d x (List.mem_of_getElem? hget)
      have hxz := R1.z x (List.mem_of_getElem? hget)
      have e1 : x.d.n = x.o.data.length := by have := hxd.1.1; rw [bl_len] at this; omega
      have e2 : x.k.n = x.o.keep.length := by have := hxd.2.2.1; rw [List.length_map] at this; omega
      refine ⟨b, o, ha, hrg, x.d, hat 3 (by omega), b, o, ha, hrg, x.k, hat 7 (by omega), ?_⟩
      rw [wrap_i64 (n := n2 + (x.d.n : Int)) (by omega) (by omega), wrap_i64 (by omega) (by omega)]
      refine ⟨fun _ => hF, fun hle => ?_⟩
      rw [inc_i (n := 140737488355329) (by omega) (by omega)]
      refine ⟨⟨rfl, k + 1, rfl, by omega, by omega, by omega, fun j y hj hy => ?_⟩, by dsimp only; omega⟩
      by_cases hjk : j = k
      · subst hjk; rw [hget] at hy; cases hy; omega
      · exact hks j y (by omega) hy
    · obtain ⟨j, hj⟩ := List.mem_iff_getElem?.1 hx
      exact hks j x (by have := (List.getElem?_eq_some_iff.1 hj).1; omega) hj
end
end Go.Eng.Ytekflkpnpibneaa
end
section

/-
  SPECS OF THE DISK, 17: the document's two examples, run.
-/
set_option linter.unusedSimpArgs false
set_option linter.unusedVariables false
set_option maxRecDepth 100000
open Go.Proofs
namespace Go.Eng.Ytekflkpnpibneaa
def xa : ByteArray := ByteArray.mk #[97]
def xx : ByteArray := ByteArray.mk #[120]
def xy : ByteArray := ByteArray.mk #[121]
def sa0 : Dk := fresh 0 []
def sa1 : Dk := (kCreate sa0 xa).2
def sa2 : Dk := (kAppend sa1 xa [120, 121, 122]).2
def sa3 : Dk := (kSync sa2 xa).2
def sa4 : Dk := (kAppend sa3 xa [117, 118]).2
def sb1 : Dk := kFail sa0 1 2 2
def sb2 : Dk := (kCreate sb1 xx).2
def sb3 : Dk := (kAppend sb2 xx [49, 50, 51, 52, 53]).2
def sb4 : Dk := (kDelete sb3 xy).2
def sb5 : Dk := (kDelete sb4 xy).2
theorem ra1 : (kCreate sa0 xa).1 = 0 := by kernel_rfl
theorem ra2 : (kAppend sa1 xa [120, 121, 122]).1 = 0 := by kernel_rfl
theorem ra3 : (kSync sa2 xa).1 = 0 := by kernel_rfl
theorem ra4 : (kAppend sa3 xa [117, 118]).1 = 0 := by kernel_rfl
theorem ra5 : dtold sa4 sa4.now = [⟨xa, [120, 121, 122, 117, 118], 3⟩] := by kernel_rfl
theorem ra6 : kImage sa4 0 [] = [] := by kernel_rfl
theorem ra7 : kImage sa4 1 [1] = [⟨xa, [120, 121, 122, 117], 4⟩] := by kernel_rfl
theorem rb2 : (kCreate sb1 xx).1 = 0 := by kernel_rfl
theorem rb3 : (kAppend sb2 xx [49, 50, 51, 52, 53]).1 = 31 := by kernel_rfl
theorem rb4 : (kDelete sb3 xy).1 = 31 := by kernel_rfl
theorem rb5 : (kDelete sb4 xy).1 = 34 := by kernel_rfl
theorem rb6 : kRead sb5 xx = (0, [49, 50]) := by kernel_rfl
theorem rn0 : newOk 0 [] = true := by kernel_rfl
theorem da0 : DN 0 sa0 := fresh_ok ⟨Int.le_refl _, by decide⟩ (by simp) (fun f hf => by cases hf) (fun f hf => by cases hf)
theorem da1 : DN 1 sa1 := da0.create xa
theorem da2 : DN 1 sa2 := da1.append xa _
theorem da3 : DN 1 sa3 := da2.sync xa
theorem da4 : DN 1 sa4 := da3.append xa _
theorem db1 : DN 0 sb1 := da0.fail (by decide) (by decide) (by decide)
theorem db2 : DN 1 sb2 := db1.create xx
theorem db3 : DN 1 sb3 := db2.append xx _
theorem db4 : DN 2 sb4 := db3.delete xy
theorem db5 : DN 3 sb5 := db4.delete xy
section
variable {g h h' h1 h2 : Hp} {A : PA} {S : Dk} {Q : Value → Hp → Prop}
/-- The program's disk, new since g. -/
structure PN (g h : Hp) (A : PA) (S : Dk) : Prop where
  P : PD h A S
  K : Keep g h
  n : ∀ k, A.own k → g k = none
theorem PN.keep (X : PN g h A S) (K : Keep h h') : PN g h' A S := ⟨X.P.keep K, X.K.trans K, X.n⟩
theorem PN.step {A' : PA} {S' : Dk} (X : PN g h A S) (P' : PD h1 A' S') (T : Tr2 A.own A'.own h h1) : PN g h1 A' S' := ⟨P', T.base X.K X.n, T.newer X.K X.n⟩
theorem lit_append {s : ByteArray} {v : List UInt8} (X : PN g h A S) (D : DOk S) (hs : s.size ≤ 9223372036854775807) (hv : v.length ≤ 1073741824)
    (hQ : ∀ h' A', A'.db = A.db → PN g h' A' (kAppend S s v).2 → Q (.int .i64 (kAppend S s v).1) h') : ∀ b1, h b1 = none → ∃ cs t, (h.new b1 (.cells ⟨bl v⟩ 5 (0, 0))) b1 = some (.cells cs t (0, 0)) ∧ F22.T (some ⟨A.db, 0, none⟩) s ⟨(some ⟨b1, 0, none⟩), v.length, v.length⟩ ((h.new b1 (.cells ⟨bl v⟩ 5 (0, 0))).new b1 (.cells cs t (cs.size, cs.size + 1))) Q := by
  intro b1 hb
  refine ⟨_, _, new_at _ _ _, ?_⟩
  rw [new_new]
  have K := Keep.new hb (.cells ⟨bl v⟩ 5 ((⟨bl v⟩ : Array Value).size, (⟨bl v⟩ : Array Value).size + 1))
  have hx := new_at h b1 (.cells ⟨bl v⟩ 5 ((⟨bl v⟩ : Array Value).size, (⟨bl v⟩ : Array Value).size + 1))
  have X1 := X.keep K
  refine append_p X1.P D hs ⟨by rw [bl_len]; simp, Nat.le_refl _, .inr ⟨b1, _, _, rfl, hx, by simp [bl_len], fun j hj => by omega, ?_⟩⟩ (fun k hk ho => ?_) hv fun h' A' eA P' T => hQ h' A' eA (X1.step P' T)
  · show (bl v).take (bl v).length = _
    exact List.take_length
  · obtain ⟨o, ho'⟩ := hk
    simp only [Option.some.injEq, Addr.mk.injEq, and_true] at ho'
    obtain ⟨o2, e⟩ := X.P.alive ho
    rw [← ho'.1, hb] at e; cases e
theorem one_list {L : List (Sl × FileR)} {f : FileR} (e : L.map (·.2) = [f]) : ∃ d, L = [(d, f)] := by
  rcases L with _ | ⟨⟨d, x⟩, _ | ⟨y, L⟩⟩
  · cases e
  · simp at e; exact ⟨d, by rw [e]⟩
  · simp at e
theorem known_s (hQ : ∀ h', Keep h h' → Q (.bool true) h') : F10.T h Q := by
  have R0 : ∀ h : Hp, RA h ⟨none, 0, 0⟩ [] := fun h => ⟨⟨rfl, .inl rfl⟩, fun x hx => by cases hx⟩
  unfold F10.T F10.G
  refine new_p (R0 h) (by decide) (fun x hx => by cases hx) (fun hno => by rw [show newOk 0 (([] : List (Sl × RawF)).map (·.2)) = true from rn0] at hno; cases hno) (fun _ h1 A K1 n1 P1 => ⟨_, 0, rfl, okPtr_none _ _, fun he => (by cases he), fun _ => ⟨fun _ => ?_, fun hne => absurd rfl hne⟩⟩)
  have X1 : PN h h1 A sa0 := ⟨P1, K1, n1⟩
  refine down_p X1.P ⟨false, rfl, fun he => (by cases he), fun _ => ?_⟩
  refine create_p X1.P da0.ok (by decide) (by decide) fun h2 A2 e2 P2 T2 => ⟨_, rfl, fun _ => ?_, fun hne => absurd ra1 hne⟩
  have X2 : PN h h2 A2 sa1 := X1.step P2 T2
  rw [← e2]
  refine lit_append (v := [120, 121, 122]) X2 da1.ok (by decide) (by decide) fun h3 A3 e3 X3 => ⟨_, rfl, fun _ => ?_, fun hne => absurd ra2 hne⟩
  have X3 : PN h h3 A3 sa2 := X3
  rw [← e3]
  refine sync_p X3.P da2.ok (by decide) fun h4 A4 e4 P4 T4 => ⟨_, rfl, fun _ => ?_, fun hne => absurd ra3 hne⟩
  have X4 : PN h h4 A4 sa3 := X3.step P4 T4
  rw [← e4]
  refine lit_append (v := [117, 118]) X4 da3.ok (by decide) (by decide) fun h5 A5 e5 X5 => ⟨_, rfl, fun _ => ?_, fun hne => absurd ra4 hne⟩
  have X5 : PN h h5 A5 sa4 := X5
  rw [← e5]
  refine files_p X5.P da4.ok fun h6 r6 L6 K6 F6 q6 => ⟨r6, rfl, ?_⟩
  have X6 := X5.keep K6
  rw [ra5] at q6
  obtain ⟨d6, rfl⟩ := one_list q6
  have n6 := F6.len
  have bd6 := (F6.d _ (List.mem_singleton.2 rfl)).1
  obtain ⟨b6, ha6, hr6, g0, g1, g2, _⟩ := rec_at (L1 := []) F6.b
  refine ⟨fun _ => ⟨b6, 0, ha6, hr6, xa, g0, fun _ => ⟨b6, 0, ha6, hr6, d6, g1, ba [120, 121, 122, 117, 118], row1 bd6.row, fun _ => ⟨b6, 0, ha6, hr6, 3, g2, fun _ => ?_, fun hne => absurd rfl hne⟩, fun hne => absurd rfl hne⟩, fun hne => absurd rfl hne⟩, fun hne => absurd (by rw [n6]; rfl) hne⟩
  refine image_p (keep := []) X6.P da4.ok (by have := da4.c; omega) ⟨rfl, .inl rfl⟩ fun h7 r7 L7 K7 F7 q7 => ⟨r7, rfl, ?_⟩
  have X7 := X6.keep K7
  rw [ra6] at q7
  have n7 := F7.len
  have hL7 : L7 = [] := by simpa using q7
  refine ⟨fun _ b8 hb8 => ?_, fun hne => absurd (by rw [n7, hL7]; rfl) hne⟩
  have K8 := Keep.new hb8 (.cells ⟨[.int .i64 1]⟩ 3 (0, 0))
  have hx8 := new_at h7 b8 (.cells ⟨[.int .i64 1]⟩ 3 (0, 0))
  have X8 := X7.keep K8
  refine image_p (keep := [1]) X8.P da4.ok (by have := da4.c; omega) ⟨rfl, .inr ⟨b8, 0, rfl, fun j hj => ?_⟩⟩ fun h9 r9 L9 K9 F9 q9 => ⟨r9, rfl, ?_⟩
  · have : j = 0 := by (try dsimp only at hj); omega
    subst this
    exact at_of hx8 0
  have X9 := X8.keep K9
  rw [ra7] at q9
  obtain ⟨d9, rfl⟩ := one_list q9
  have n9 := F9.len
  have bd9 := (F9.d _ (List.mem_singleton.2 rfl)).1
  obtain ⟨b9, ha9, hr9, g3, g4, g5, _⟩ := rec_at (L1 := []) F9.b
  refine ⟨fun _ => ⟨b9, 0, ha9, hr9, d9, g4, ba [120, 121, 122, 117], row1 bd9.row, fun _ => ⟨b9, 0, ha9, hr9, 4, g5, fun _ => ?_, fun hne => absurd rfl hne⟩, fun hne => absurd rfl hne⟩, fun hne => absurd (by rw [n9]; rfl) hne⟩
  refine new_p (R0 h9) (by decide) (fun x hx => by cases hx) (fun hno => by rw [show newOk 0 (([] : List (Sl × RawF)).map (·.2)) = true from rn0] at hno; cases hno) (fun _ k1 C kk1 m1 y1 => ⟨_, 0, rfl, okPtr_none _ _, fun he => (by cases he), fun _ => ⟨fun _ => ?_, fun hne => absurd rfl hne⟩⟩)
  have Y1 : PN h k1 C sa0 := ⟨y1, X9.K.trans kk1, fun k hk => X9.K.dom k (m1 k hk)⟩
  refine fail_p Y1.P fun k2 y2 t2 => ?_
  have Y2 : PN h k2 C sb1 := Y1.step y2 t2
  refine create_p Y2.P db1.ok (by decide) (by decide) fun k3 C3 c3 y3 t3 => ⟨_, rfl, fun _ => ?_, fun hne => absurd rb2 hne⟩
  have Y3 : PN h k3 C3 sb2 := Y2.step y3 t3
  rw [← c3]
  refine lit_append (v := [49, 50, 51, 52, 53]) Y3 db2.ok (by decide) (by decide) fun k4 C4 c4 Y4 => ⟨_, rfl, fun _ => ?_, fun hne => absurd rb3 hne⟩
  have Y4 : PN h k4 C4 sb3 := Y4
  rw [← c4]
  refine delete_p Y4.P db3.ok (by decide) (by have := db3.c; omega) fun k5 C5 c5 y5 t5 => ⟨_, rfl, fun _ => ?_, fun hne => absurd rb4 hne⟩
  have Y5 : PN h k5 C5 sb4 := Y4.step y5 t5
  rw [← c5]
  refine delete_p Y5.P db4.ok (by decide) (by have := db4.c; omega) fun k6 C6 c6 y6 t6 => ⟨_, rfl, fun _ => ?_, fun hne => absurd rb5 hne⟩
  have Y6 : PN h k6 C6 sb5 := Y5.step y6 t6
  rw [← c6]
  refine read_p (s := xx) Y6.P db5.ok (by decide) fun k7 r7 kk7 b7 _ => ⟨r7, _, rfl, fun _ => ⟨ba [49, 50], ?_, fun _ => hQ k7 (Y6.K.trans kk7), fun hne => absurd rfl hne⟩, fun hne => absurd (by rw [rb6]) hne⟩
  rw [rb6] at b7
  exact row1 b7.row
end
end Go.Eng.Ytekflkpnpibneaa
end
section

set_option maxRecDepth 100000
set_option linter.unusedVariables false
open Go.Proofs
namespace Go.Eng.Ytekflkpnpibneaa
def F4.an : List (Nat × Ann) := [(126, .order [0, 1, 2, 3, 5, 6, 7, 8, 4, 9, 10, 11, 12, 13, 14, 15, 17, 18, 19, 20, 16, 21, 22, 23, 24, 25, 26, 27, 28, 29, 30, 31, 32])]
def F4.G (T10 : PT) (T11 : Sl → Sl → PT) (T12 : Int → Sl → PT) (T13 : Sl → Sl → PT) (T14 : Option Addr → PT) (T15 : Option Addr → PT) (T16 : Option Addr → Int → Sl → PT) (T17 : Option Addr → Int → Sl → PT) (T18 : Option Addr → PT) (n : Int) (l : Sl) : PT := fun h Q =>
  T10 h fun r h1 => ∃ b : Bool, r = .bool b ∧ parB b (T11 l ⟨none, 0, 0⟩ h1 fun r1 h2 => ∃ b1 : Bool, r1 = .bool b1 ∧ parB b1 (T12 n l h2 fun r2 h3 => ∃ p : Option Addr, ∃ b2 : Bool, parB b2 (r2 = .tuple ⟨[.pointer p, .bool true]⟩ ∧ okPtr h3 p none ∧ par ((p : Option Addr) = none) (Q (.bool true) h3) (∃ b3 o, (p : Option Addr) = some ⟨b3, o, none⟩ ∧ ∃ p1 : Option Addr, h3.at b3 o = some (.pointer p1) ∧ ∃ b4 o1, (p : Option Addr) = some ⟨b4, o1, none⟩ ∧ ∃ p2 : Option Addr, h3.at b4 (o1 + 1) = some (.pointer p2) ∧ T14 p1 h3 fun r3 h4 => ∃ l1 : Sl, r3 = .slice l1.a l1.n l1.c ∧ h4.at b4 (o1 + 1) = some (.pointer p2) ∧ T15 p2 h4 fun r4 h5 => ∃ l2 : Sl, r4 = .slice l2.a l2.n l2.c ∧ T13 l1 l2 h5 fun r5 h6 => ∃ b5 : Bool, r5 = .bool b5 ∧ parB b5 (∃ b6 o2, (p : Option Addr) = some ⟨b6, o2, none⟩ ∧ ∃ p3 : Option Addr, h6.at b6 o2 = some (.pointer p3) ∧ ∃ b7 o3, (p : Option Addr) = some ⟨b7, o3, none⟩ ∧ ∃ p4 : Option Addr, h6.at b7 (o3 + 1) = some (.pointer p4) ∧ T16 p3 0 ⟨none, 0, 0⟩ h6 fun r6 h7 => ∃ l3 : Sl, r6 = .slice l3.a l3.n l3.c ∧ h7.at b7 (o3 + 1) = some (.pointer p4) ∧ T17 p4 0 ⟨none, 0, 0⟩ h7 fun r7 h8 => ∃ l4 : Sl, r7 = .slice l4.a l4.n l4.c ∧ T13 l3 l4 h8 fun r8 h9 => ∃ b8 : Bool, r8 = .bool b8 ∧ parB b8 (∃ b9 o4, (p : Option Addr) = some ⟨b9, o4, none⟩ ∧ ∃ p5 : Option Addr, h9.at b9 o4 = some (.pointer p5) ∧ T18 p5 h9 fun r9 h10 => ∃ b10 : Bool, r9 = .bool b10 ∧ parB b10 (Q (.bool false) h10) (Q (.bool true) h10)) (Q (.bool false) h9)) (Q (.bool false) h6))) (r2 = .tuple ⟨[.pointer p, .bool false]⟩ ∧ okPtr h3 p none ∧ par ((p : Option Addr) = none) (Q (.bool false) h3) (Q (.bool false) h3))) (Q (.bool true) h2)) (Q (.bool false) h1)
def F4.T (n : Int) (l : Sl) : PT := F4.G F10.T F11.T F12.T F13.T F14.T F15.T F16.T F17.T F18.T n l
def F4.W (T4 : Int → Sl → PT) (args : List Value) : PT := match args with
  | [.int .i64 n, .slice l_a l_n l_c] => T4 n ⟨l_a, l_n, l_c⟩
  | _ => fun _ _ => False
def F4.V : List Value → PT := F4.W F4.T
def F6.an : List (Nat × Ann) := [(506, .loop [(10, .int .i64)] [])]
def F6.G (T10 : PT) (T11 : Sl → Sl → PT) (T12 : Int → Sl → PT) (T33 : Option Addr → Int → ByteArray → ByteArray → Sl → Int → Int → Int → Sl → PT) (n : Int) (l : Sl) (l1 : Sl) : PT := fun h Q =>
  T10 h fun r h1 => ∃ b : Bool, r = .bool b ∧ parB b (T11 l l1 h1 fun r1 h2 => ∃ b1 : Bool, r1 = .bool b1 ∧ parB b1 (T12 n l h2 fun r2 h3 => ∃ p : Option Addr, ∃ b2 : Bool, parB b2 (r2 = .tuple ⟨[.pointer p, .bool true]⟩ ∧ okPtr h3 p none ∧ par ((p : Option Addr) = none) (Q (.bool true) h3) (∃ (I : Int → Hp → Prop) (m : Int → Hp → Nat), I 0 h3 ∧ (∀ n1 : Int, ∀ h4 : Hp, I n1 h4 → par (n1 < (l1.n : Int)) (∃ b3 o, (l1.a : Option Addr) = some ⟨b3, o, none⟩ ∧ ((0 : Int) ≤ n1 ∧ n1 < (l1.n : Int)) ∧ ∃ n2 : Int, h4.at b3 (o + n1.toNat * 8) = some (.int .i64 n2) ∧ ∃ s : ByteArray, h4.at b3 ((o + n1.toNat * 8) + 1) = some (.string s) ∧ ∃ s1 : ByteArray, h4.at b3 ((o + n1.toNat * 8) + 2) = some (.string s1) ∧ ∃ l2 : Sl, h4.at b3 ((o + n1.toNat * 8) + 3) = some (.slice l2.a l2.n l2.c) ∧ ∃ n3 : Int, h4.at b3 ((o + n1.toNat * 8) + 4) = some (.int .i64 n3) ∧ ∃ n4 : Int, h4.at b3 ((o + n1.toNat * 8) + 5) = some (.int .i64 n4) ∧ ∃ n5 : Int, h4.at b3 ((o + n1.toNat * 8) + 6) = some (.int .i64 n5) ∧ ∃ l3 : Sl, h4.at b3 ((o + n1.toNat * 8) + 7) = some (.slice l3.a l3.n l3.c) ∧ T33 p n2 s s1 l2 n3 n4 n5 l3 h4 fun r3 h5 => ∃ b4 : Bool, r3 = .bool b4 ∧ parB b4 (I (IntKind.wrap .i64 (n1 + 1)) h5 ∧ m (IntKind.wrap .i64 (n1 + 1)) h5 < m n1 h4) (Q (.bool false) h5)) (Q (.bool true) h4)))) (r2 = .tuple ⟨[.pointer p, .bool false]⟩ ∧ okPtr h3 p none ∧ par ((p : Option Addr) = none) (Q (.bool false) h3) (Q (.bool false) h3))) (Q (.bool true) h2)) (Q (.bool false) h1)
def F6.T (n : Int) (l : Sl) (l1 : Sl) : PT := F6.G F10.T F11.T F12.T F33.T n l l1
def F6.W (T6 : Int → Sl → Sl → PT) (args : List Value) : PT := match args with
  | [.int .i64 n, .slice l_a l_n l_c, .slice l1_a l1_n l1_c] => T6 n ⟨l_a, l_n, l_c⟩ ⟨l1_a, l1_n, l1_c⟩
  | _ => fun _ _ => False
def F6.V : List Value → PT := F6.W F6.T
def F8.an : List (Nat × Ann) := [(2042, .loop [(12, .int .i64)] []), (2044, .order [0, 1, 2, 3, 5, 6, 7, 8, 4, 9, 10, 11]), (8190, .order [0, 1, 2, 3, 4, 5, 6, 7, 8, 9, 10, 12, 13, 14, 15, 11, 16, 17, 18, 19, 20, 21, 22, 23, 25, 26, 27, 28, 24, 29, 30, 31, 32]), (261414, .order [0, 1, 2, 3, 4, 5, 6, 7, 8, 10, 11, 12, 13, 9, 14, 15, 16])]
def F8.G (T10 : PT) (T11 : Sl → Sl → PT) (T12 : Int → Sl → PT) (T13 : Sl → Sl → PT) (T14 : Option Addr → PT) (T15 : Option Addr → PT) (T18 : Option Addr → PT) (T20 : Option Addr → ByteArray → PT) (T32 : Option Addr → Int → Sl → PT) (T33 : Option Addr → Int → ByteArray → ByteArray → Sl → Int → Int → Int → Sl → PT) (T34 : Option Addr → PT) (T35 : Option Addr → Int → PT) (T36 : Option Addr → Int → PT) (T37 : Option Addr → Int → Sl → PT) (T38 : Option Addr → ByteArray → PT) (n : Int) (l : Sl) (l1 : Sl) (n1 : Int) : PT := fun h Q =>
  T10 h fun r h1 => ∃ b : Bool, r = .bool b ∧ parB b (T11 l l1 h1 fun r1 h2 => ∃ b1 : Bool, r1 = .bool b1 ∧ parB b1 (par ((60 : Int) < (l1.n : Int)) (Q (.bool true) h2) (T12 n l h2 fun r2 h3 => ∃ p : Option Addr, ∃ b2 : Bool, parB b2 (r2 = .tuple ⟨[.pointer p, .bool true]⟩ ∧ okPtr h3 p none ∧ par ((p : Option Addr) = none) (Q (.bool true) h3) (∃ b3 o, (p : Option Addr) = some ⟨b3, o, none⟩ ∧ ∃ p1 : Option Addr, h3.at b3 o = some (.pointer p1) ∧ T35 p1 n1 h3 fun r3 h4 => ∃ b4 o1, (p : Option Addr) = some ⟨b4, o1, none⟩ ∧ ∃ p2 : Option Addr, h4.at b4 (o1 + 1) = some (.pointer p2) ∧ T36 p2 n1 h4 fun r4 h5 => ∃ (I : Int → Hp → Prop) (m : Int → Hp → Nat), I 0 h5 ∧ (∀ n2 : Int, ∀ h6 : Hp, I n2 h6 → par (n2 < (l1.n : Int)) (∃ b5 o2, (l1.a : Option Addr) = some ⟨b5, o2, none⟩ ∧ ((0 : Int) ≤ n2 ∧ n2 < (l1.n : Int)) ∧ ∃ n3 : Int, h6.at b5 (o2 + n2.toNat * 8) = some (.int .i64 n3) ∧ ∃ s : ByteArray, h6.at b5 ((o2 + n2.toNat * 8) + 1) = some (.string s) ∧ ∃ s1 : ByteArray, h6.at b5 ((o2 + n2.toNat * 8) + 2) = some (.string s1) ∧ ∃ l2 : Sl, h6.at b5 ((o2 + n2.toNat * 8) + 3) = some (.slice l2.a l2.n l2.c) ∧ ∃ n4 : Int, h6.at b5 ((o2 + n2.toNat * 8) + 4) = some (.int .i64 n4) ∧ ∃ n5 : Int, h6.at b5 ((o2 + n2.toNat * 8) + 5) = some (.int .i64 n5) ∧ ∃ n6 : Int, h6.at b5 ((o2 + n2.toNat * 8) + 6) = some (.int .i64 n6) ∧ ∃ l3 : Sl, h6.at b5 ((o2 + n2.toNat * 8) + 7) = some (.slice l3.a l3.n l3.c) ∧ par (n3 = 10) (I (IntKind.wrap .i64 (n2 + 1)) h6 ∧ m (IntKind.wrap .i64 (n2 + 1)) h6 < m n2 h6) (par (n3 = 11) (I (IntKind.wrap .i64 (n2 + 1)) h6 ∧ m (IntKind.wrap .i64 (n2 + 1)) h6 < m n2 h6) (T33 p n3 s s1 l2 n4 n5 n6 l3 h6 fun r5 h7 => ∃ b6 : Bool, r5 = .bool b6 ∧ parB b6 (∃ b7 o3, (p : Option Addr) = some ⟨b7, o3, none⟩ ∧ ∃ p3 : Option Addr, h7.at b7 o3 = some (.pointer p3) ∧ ∃ b8 o4, (p : Option Addr) = some ⟨b8, o4, none⟩ ∧ ∃ p4 : Option Addr, h7.at b8 (o4 + 1) = some (.pointer p4) ∧ T18 p3 h7 fun r6 h8 => ∃ b9 : Bool, r6 = .bool b9 ∧ parB b9 (h8.at b8 (o4 + 1) = some (.pointer p4) ∧ T34 p4 h8 fun r7 h9 => ∃ b10 : Bool, r7 = .bool b10 ∧ parB b10 (par ((true : Bool) = true) (I (IntKind.wrap .i64 (n2 + 1)) h9 ∧ m (IntKind.wrap .i64 (n2 + 1)) h9 < m n2 h6) (Q (.bool false) h9)) (par ((true : Bool) = false) (I (IntKind.wrap .i64 (n2 + 1)) h9 ∧ m (IntKind.wrap .i64 (n2 + 1)) h9 < m n2 h6) (Q (.bool false) h9))) (h8.at b8 (o4 + 1) = some (.pointer p4) ∧ T34 p4 h8 fun r8 h10 => ∃ b11 : Bool, r8 = .bool b11 ∧ parB b11 (par ((false : Bool) = true) (I (IntKind.wrap .i64 (n2 + 1)) h10 ∧ m (IntKind.wrap .i64 (n2 + 1)) h10 < m n2 h6) (Q (.bool false) h10)) (par ((false : Bool) = false) (I (IntKind.wrap .i64 (n2 + 1)) h10 ∧ m (IntKind.wrap .i64 (n2 + 1)) h10 < m n2 h6) (Q (.bool false) h10)))) (Q (.bool false) h7)))) (∃ b12 o5, (p : Option Addr) = some ⟨b12, o5, none⟩ ∧ ∃ p5 : Option Addr, h6.at b12 o5 = some (.pointer p5) ∧ ∃ b13 o6, (p : Option Addr) = some ⟨b13, o6, none⟩ ∧ ∃ p6 : Option Addr, h6.at b13 (o6 + 1) = some (.pointer p6) ∧ T14 p5 h6 fun r9 h11 => ∃ l4 : Sl, r9 = .slice l4.a l4.n l4.c ∧ h11.at b13 (o6 + 1) = some (.pointer p6) ∧ T15 p6 h11 fun r10 h12 => ∃ l5 : Sl, r10 = .slice l5.a l5.n l5.c ∧ T13 l4 l5 h12 fun r11 h13 => ∃ b14 : Bool, r11 = .bool b14 ∧ parB b14 (∃ b15 o7, (p : Option Addr) = some ⟨b15, o7, none⟩ ∧ ∃ p7 : Option Addr, h13.at b15 o7 = some (.pointer p7) ∧ ∀ b16, h13 b16 = none → T32 p7 2 ⟨(some ⟨b16, 0, none⟩), 2, 2⟩ (h13.new b16 (.cells ⟨[.int .i64 3, .int .i64 0]⟩ 3 (0, 0))) fun r12 h14 => ∃ b17 o8, (p : Option Addr) = some ⟨b17, o8, none⟩ ∧ ∃ p8 : Option Addr, h14.at b17 (o8 + 1) = some (.pointer p8) ∧ ∀ b18, h14 b18 = none → T37 p8 2 ⟨(some ⟨b18, 0, none⟩), 2, 2⟩ (h14.new b18 (.cells ⟨[.int .i64 3, .int .i64 0]⟩ 3 (0, 0))) fun r13 h15 => ∃ b19 o9, (p : Option Addr) = some ⟨b19, o9, none⟩ ∧ ∃ p9 : Option Addr, h15.at b19 o9 = some (.pointer p9) ∧ T18 p9 h15 fun r14 h16 => ∃ b20 : Bool, r14 = .bool b20 ∧ parB b20 (Q (.bool false) h16) (∃ b21 o10, (p : Option Addr) = some ⟨b21, o10, none⟩ ∧ ∃ p10 : Option Addr, h16.at b21 o10 = some (.pointer p10) ∧ ∃ b22 o11, (p : Option Addr) = some ⟨b22, o11, none⟩ ∧ ∃ p11 : Option Addr, h16.at b22 (o11 + 1) = some (.pointer p11) ∧ T14 p10 h16 fun r15 h17 => ∃ l6 : Sl, r15 = .slice l6.a l6.n l6.c ∧ h17.at b22 (o11 + 1) = some (.pointer p11) ∧ T15 p11 h17 fun r16 h18 => ∃ l7 : Sl, r16 = .slice l7.a l7.n l7.c ∧ T13 l6 l7 h18 fun r17 h19 => ∃ b23 : Bool, r17 = .bool b23 ∧ parB b23 (∃ b24 o12, (p : Option Addr) = some ⟨b24, o12, none⟩ ∧ ∃ p12 : Option Addr, h19.at b24 o12 = some (.pointer p12) ∧ ∃ b25 o13, (p : Option Addr) = some ⟨b25, o13, none⟩ ∧ ∃ p13 : Option Addr, h19.at b25 (o13 + 1) = some (.pointer p13) ∧ T20 p12 (ByteArray.mk #[102, 114, 101, 115, 104]) h19 fun r18 h20 => ∃ n7 : Int, r18 = .int .i64 n7 ∧ h20.at b25 (o13 + 1) = some (.pointer p13) ∧ T38 p13 (ByteArray.mk #[102, 114, 101, 115, 104]) h20 fun r19 h21 => ∃ n8 : Int, r19 = .int .i64 n8 ∧ par (n7 = n8) (Q (.bool true) h21) (Q (.bool false) h21)) (Q (.bool false) h19))) (Q (.bool false) h13))))) (r2 = .tuple ⟨[.pointer p, .bool false]⟩ ∧ okPtr h3 p none ∧ par ((p : Option Addr) = none) (Q (.bool false) h3) (Q (.bool false) h3)))) (Q (.bool true) h2)) (Q (.bool false) h1)
def F8.T (n : Int) (l : Sl) (l1 : Sl) (n1 : Int) : PT := F8.G F10.T F11.T F12.T F13.T F14.T F15.T F18.T F20.T F32.T F33.T F34.T F35.T F36.T F37.T F38.T n l l1 n1
def F8.W (T8 : Int → Sl → Sl → Int → PT) (args : List Value) : PT := match args with
  | [.int .i64 n, .slice l_a l_n l_c, .slice l1_a l1_n l1_c, .int .i64 n1] => T8 n ⟨l_a, l_n, l_c⟩ ⟨l1_a, l1_n, l1_c⟩ n1
  | _ => fun _ _ => False
def F8.V : List Value → PT := F8.W F8.T
def F9.an : List (Nat × Ann) := [(250, .loop [(8, .sl), (9, .int .i64)] []), (506, .loop [(12, .int .i64)] []), (1018, .loop [(13, .int .i64)] []), (16200, .order [0, 1, 2, 3, 4, 5, 6, 7, 8, 9, 10, 11, 12, 13, 14, 15]), (32584, .order [0, 1, 2, 3, 4, 5, 6, 8, 9, 10, 11, 12, 13, 14, 7, 15, 16, 17, 18, 19, 20, 21, 22, 23, 24, 25, 27, 28, 29, 30, 31, 32, 33, 26, 34, 35, 36, 37])]
def F9.G (T10 : PT) (T11 : Sl → Sl → PT) (T12 : Int → Sl → PT) (T13 : Sl → Sl → PT) (T14 : Option Addr → PT) (T15 : Option Addr → PT) (T16 : Option Addr → Int → Sl → PT) (T17 : Option Addr → Int → Sl → PT) (T33 : Option Addr → Int → ByteArray → ByteArray → Sl → Int → Int → Int → Sl → PT) (l : Sl) (l1 : Sl) (n : Int) : PT := fun h Q =>
  T10 h fun r h1 => ∃ b : Bool, r = .bool b ∧ parB b (T11 l l1 h1 fun r1 h2 => ∃ b1 : Bool, r1 = .bool b1 ∧ parB b1 (par (n < 2) (Q (.bool true) h2) (par ((24 : Int) < n) (Q (.bool true) h2) (∃ (I : Sl → Int → Hp → Prop) (m : Sl → Int → Hp → Nat), I ⟨none, 0, 0⟩ 0 h2 ∧ (∀ l2 : Sl, ∀ n1 : Int, ∀ h3 : Hp, I l2 n1 h3 → par (n1 < n) (T12 0 l h3 fun r2 h4 => ∃ p : Option Addr, ∃ b2 : Bool, parB b2 (r2 = .tuple ⟨[.pointer p, .bool true]⟩ ∧ okPtr h4 p none ∧ par ((p : Option Addr) = none) (Q (.bool true) h4) (appendD l2 25 1 8 [.pointer none] 1 [.pointer p] h4 fun l3 h5 => I l3 (IntKind.wrap .i64 (n1 + 1)) h5 ∧ m l3 (IntKind.wrap .i64 (n1 + 1)) h5 < m l2 n1 h3)) (r2 = .tuple ⟨[.pointer p, .bool false]⟩ ∧ okPtr h4 p none ∧ par ((p : Option Addr) = none) (Q (.bool false) h4) (Q (.bool false) h4))) (∃ (I1 : Int → Hp → Prop) (m1 : Int → Hp → Nat), I1 0 h3 ∧ (∀ n2 : Int, ∀ h6 : Hp, I1 n2 h6 → par (n2 < (l1.n : Int)) ((5 : Int) ≠ 0 ∧ n ≠ 0 ∧ ∃ b3 o, (l2.a : Option Addr) = some ⟨b3, o, none⟩ ∧ ((0 : Int) ≤ (Int.tmod (IntKind.wrap .i64 ((IntKind.wrap .i64 (n2 * 7)) + (IntKind.wrap .i64 (Int.tdiv n2 5)))) n) ∧ (Int.tmod (IntKind.wrap .i64 ((IntKind.wrap .i64 (n2 * 7)) + (IntKind.wrap .i64 (Int.tdiv n2 5)))) n) < (l2.n : Int)) ∧ ∃ p1 : Option Addr, h6.at b3 (o + ((Int.tmod (IntKind.wrap .i64 ((IntKind.wrap .i64 (n2 * 7)) + (IntKind.wrap .i64 (Int.tdiv n2 5)))) n)).toNat) = some (.pointer p1) ∧ ∃ b4 o1, (l1.a : Option Addr) = some ⟨b4, o1, none⟩ ∧ ((0 : Int) ≤ n2 ∧ n2 < (l1.n : Int)) ∧ ∃ n3 : Int, h6.at b4 (o1 + n2.toNat * 8) = some (.int .i64 n3) ∧ ∃ s : ByteArray, h6.at b4 ((o1 + n2.toNat * 8) + 1) = some (.string s) ∧ ∃ s1 : ByteArray, h6.at b4 ((o1 + n2.toNat * 8) + 2) = some (.string s1) ∧ ∃ l4 : Sl, h6.at b4 ((o1 + n2.toNat * 8) + 3) = some (.slice l4.a l4.n l4.c) ∧ ∃ n4 : Int, h6.at b4 ((o1 + n2.toNat * 8) + 4) = some (.int .i64 n4) ∧ ∃ n5 : Int, h6.at b4 ((o1 + n2.toNat * 8) + 5) = some (.int .i64 n5) ∧ ∃ n6 : Int, h6.at b4 ((o1 + n2.toNat * 8) + 6) = some (.int .i64 n6) ∧ ∃ l5 : Sl, h6.at b4 ((o1 + n2.toNat * 8) + 7) = some (.slice l5.a l5.n l5.c) ∧ T33 p1 n3 s s1 l4 n4 n5 n6 l5 h6 fun r3 h7 => ∃ b5 : Bool, r3 = .bool b5 ∧ parB b5 (I1 (IntKind.wrap .i64 (n2 + 1)) h7 ∧ m1 (IntKind.wrap .i64 (n2 + 1)) h7 < m1 n2 h6) (Q (.bool false) h7)) (∃ (I2 : Int → Hp → Prop) (m2 : Int → Hp → Nat), I2 0 h6 ∧ (∀ n7 : Int, ∀ h8 : Hp, I2 n7 h8 → par (n7 < n) (∃ b6 o2, (l2.a : Option Addr) = some ⟨b6, o2, none⟩ ∧ ((0 : Int) ≤ n7 ∧ n7 < (l2.n : Int)) ∧ ∃ p2 : Option Addr, h8.at b6 (o2 + n7.toNat) = some (.pointer p2) ∧ ∃ b7 o3, (p2 : Option Addr) = some ⟨b7, o3, none⟩ ∧ ∃ p3 : Option Addr, h8.at b7 o3 = some (.pointer p3) ∧ ∃ b8 o4, (l2.a : Option Addr) = some ⟨b8, o4, none⟩ ∧ ((0 : Int) ≤ n7 ∧ n7 < (l2.n : Int)) ∧ ∃ p4 : Option Addr, h8.at b8 (o4 + n7.toNat) = some (.pointer p4) ∧ ∃ b9 o5, (p4 : Option Addr) = some ⟨b9, o5, none⟩ ∧ ∃ p5 : Option Addr, h8.at b9 (o5 + 1) = some (.pointer p5) ∧ T14 p3 h8 fun r4 h9 => ∃ l6 : Sl, r4 = .slice l6.a l6.n l6.c ∧ h9.at b8 (o4 + n7.toNat) = some (.pointer p4) ∧ h9.at b9 (o5 + 1) = some (.pointer p5) ∧ T15 p5 h9 fun r5 h10 => ∃ l7 : Sl, r5 = .slice l7.a l7.n l7.c ∧ T13 l6 l7 h10 fun r6 h11 => ∃ b10 : Bool, r6 = .bool b10 ∧ parB b10 (∃ b11 o6, (l2.a : Option Addr) = some ⟨b11, o6, none⟩ ∧ ((0 : Int) ≤ n7 ∧ n7 < (l2.n : Int)) ∧ ∃ p6 : Option Addr, h11.at b11 (o6 + n7.toNat) = some (.pointer p6) ∧ ∃ b12 o7, (p6 : Option Addr) = some ⟨b12, o7, none⟩ ∧ ∃ p7 : Option Addr, h11.at b12 o7 = some (.pointer p7) ∧ ∃ b13 o8, (l2.a : Option Addr) = some ⟨b13, o8, none⟩ ∧ ((0 : Int) ≤ n7 ∧ n7 < (l2.n : Int)) ∧ ∃ p8 : Option Addr, h11.at b13 (o8 + n7.toNat) = some (.pointer p8) ∧ ∃ b14 o9, (p8 : Option Addr) = some ⟨b14, o9, none⟩ ∧ ∃ p9 : Option Addr, h11.at b14 (o9 + 1) = some (.pointer p9) ∧ T16 p7 1 ⟨none, 0, 0⟩ h11 fun r7 h12 => ∃ l8 : Sl, r7 = .slice l8.a l8.n l8.c ∧ h12.at b13 (o8 + n7.toNat) = some (.pointer p8) ∧ h12.at b14 (o9 + 1) = some (.pointer p9) ∧ T17 p9 1 ⟨none, 0, 0⟩ h12 fun r8 h13 => ∃ l9 : Sl, r8 = .slice l9.a l9.n l9.c ∧ T13 l8 l9 h13 fun r9 h14 => ∃ b15 : Bool, r9 = .bool b15 ∧ parB b15 (I2 (IntKind.wrap .i64 (n7 + 1)) h14 ∧ m2 (IntKind.wrap .i64 (n7 + 1)) h14 < m2 n7 h8) (Q (.bool false) h14)) (Q (.bool false) h11)) (Q (.bool true) h8))))))))) (Q (.bool true) h2)) (Q (.bool false) h1)
def F9.T (l : Sl) (l1 : Sl) (n : Int) : PT := F9.G F10.T F11.T F12.T F13.T F14.T F15.T F16.T F17.T F33.T l l1 n
def F9.W (T9 : Sl → Sl → Int → PT) (args : List Value) : PT := match args with
  | [.slice l_a l_n l_c, .slice l1_a l1_n l1_c, .int .i64 n] => T9 ⟨l_a, l_n, l_c⟩ ⟨l1_a, l1_n, l1_c⟩ n
  | _ => fun _ _ => False
def F9.V : List Value → PT := F9.W F9.T
end Go.Eng.Ytekflkpnpibneaa
end
section

/-
  SPECS OF THE DISK, 18: the laws News and Plays.
-/
set_option linter.unusedSimpArgs false
set_option linter.unusedVariables false
set_option maxRecDepth 100000
namespace Go.Eng.Ytekflkpnpibneaa
/-- What a caller hands the laws. -/
structure LA (h : Hp) (room : Int) (l : Sl) (L : List (Sl × RawF)) : Prop where
  R : RA h l L
  room : room ≤ 9223372036854775807
  nm : ∀ x ∈ L, x.2.nm.size ≤ 9223372036854775807
  len : L.length * 48 ≤ 140737488355328
  data : ∀ x ∈ L, x.2.data.length ≤ 140737488355328
section
variable {h h' h1 h2 : Hp} {Q : Value → Hp → Prop} {room : Int} {l l1 : Sl} {L : List (Sl × RawF)} {O : List OpR}
end
end Go.Eng.Ytekflkpnpibneaa
end
section

/-
  ROWS OF THE DISK: arguments that are lists of files, of calls.
-/
set_option linter.unusedSimpArgs false
set_option linter.unusedVariables false
open Go.Proofs
namespace Go.Eng.Ytekflkpnpibneaa
open Go.ChangeShapes Go.WideShapes Go.RowKit
/-- All that a world's memory holds. -/
def wh (W : World) : Hp := fun b => W.heap[b]?
theorem own_wh (W : World) : Own (fun _ => none) (wh W) W := ⟨fun _ _ h => h, fun _ _ h => (by cases h), fun _ => .inr rfl⟩
theorem below_of {W W' : World} {h' : Hp} (hw : Wr W W') (ho : Own (fun _ => none) h' W') (K : Keep (wh W) h') : Below W.heap.size W W' := by
  refine ⟨hw.os, hw.tape, hw.output, hw.size, fun k hk => ?_⟩
  have h1 : wh W k = some W.heap[k] := by unfold wh; exact Array.getElem?_eq_getElem hk
  have h2 := ho.hh k _ (K k _ h1)
  rw [h2, Array.getElem?_eq_getElem hk]
theorem cell_at {W : World} {b o : Nat} {v : Value} (h : W.cell? ⟨b, o, none⟩ = some v) : (wh W).at b o = some v := by
  unfold World.cell? at h
  unfold Hp.at wh
  cases hb : W.heap[b]? with
  | none => rw [hb] at h; cases h
  | some x =>
    rw [hb] at h
    cases x with
    | cells c t f => simpa using h
    | _ => cases h
theorem spot_none {W : World} {a : Addr} {v : Value} (h : W.cell? (a.add 0) = some v) : a = ⟨a.block, a.off, none⟩ := by
  obtain ⟨b, o, p⟩ := a
  cases p with
  | none => rfl
  | some p =>
    exfalso
    unfold World.cell? at h
    simp only [Addr.add, if_pos] at h
    cases hb : W.heap[b]? with
    | none => rw [hb] at h; cases h
    | some x =>
      rw [hb] at h
      cases x with
      | cells c t f => simp at h
      | _ => cases h
/-- Cells from an address on are a row. -/
theorem row_of_cells {W : World} {a : Addr} {n : Nat} {vs : List Value} (hl : vs.length = n) (h : ∀ i, (hi : i < n) → W.cell? (a.add i) = vs[i]?) : (wh W).row (some a) n vs := by
  refine ⟨hl, ?_⟩
  by_cases h0 : n = 0
  · exact .inl h0
  right
  have hz := h 0 (by omega)
  rw [List.getElem?_eq_getElem (by omega)] at hz
  have ha := spot_none hz
  refine ⟨a.block, a.off, by rw [← ha], fun j hj => ?_⟩
  have hj' := h j hj
  rw [List.getElem?_eq_getElem (by omega)] at hj' ⊢
  rw [ha, addr_add] at hj'
  exact cell_at hj'
theorem flat_get {α : Type} (f : α → List Value) (n : Nat) (hf : ∀ x, (f x).length = n) : ∀ (l : List α) (i j : Nat) (hi : i < l.length), j < n → (l.flatMap f)[i * n + j]? = (f l[i])[j]?
  | [], i, j, hi, _ => by simp at hi
  | x :: l, 0, j, hi, hj => by
    simp only [List.flatMap_cons, Nat.zero_mul, Nat.zero_add, List.getElem_cons_zero]
    rw [List.getElem?_append_left (by rw [hf]; exact hj)]
  | x :: l, i + 1, j, hi, hj => by
    simp only [List.flatMap_cons, List.getElem_cons_succ]
    rw [List.getElem?_append_right (by rw [hf, Nat.add_mul]; omega), hf, show (i + 1) * n + j - n = i * n + j by rw [Nat.add_mul]; omega]
    exact flat_get f n hf l i j (by simpa using hi) hj
theorem flat_length {α : Type} (f : α → List Value) (n : Nat) (hf : ∀ x, (f x).length = n) (l : List α) : (l.flatMap f).length = l.length * n := by
  induction l with
  | nil => simp
  | cons x l ih => simp only [List.flatMap_cons, List.length_append, hf, ih, List.length_cons, Nat.add_mul]; omega
theorem add_add' (a : Addr) (m n : Nat) : (a.add m).add n = a.add (m + n) := by
  unfold Addr.add
  by_cases h1 : m = 0
  · subst h1; simp
  · by_cases h2 : n = 0
    · subst h2; simp [h1]
    · simp [h1, h2, Nat.add_assoc]
def iI (n : Int) : Prop := -9223372036854775808 ≤ n ∧ n < 9223372036854775808
theorem wf_i64 {n : Int} (h : (Lit.int .i64 n).wf = true) : iI n := by
  simp [Lit.wf, IntKind.min, IntKind.max, IntKind.signed, IntKind.bits] at h
  exact ⟨by omega, by omega⟩
theorem wf_u8 {n : Int} (h : (Lit.int .u8 n).wf = true) : 0 ≤ n ∧ n < 256 := by
  simp [Lit.wf, IntKind.min, IntKind.max, IntKind.signed, IntKind.bits] at h
  omega
theorem weights_mem_all {H : Type} {P : Program} {e : TypeId} : ∀ {E : List (DataW H)} {d : DataW H}, d ∈ E → ∀ n ∈ d.weights P e, n ∈ DataW.weightsAll P e E
  | x :: E, d, hd, n, hn => by
    simp only [DataW.weightsAll, List.mem_append]
    rcases List.mem_cons.1 hd with rfl | hd
    · exact .inl hn
    · exact .inr (weights_mem_all hd n hn)
def WB {H : Type} (P : Program) (t : TypeId) (d : DataW H) : Prop := ∀ n ∈ d.weights P t, n ≤ reachBytes
theorem reach_le {n : Nat} (h : n ≤ reachBytes) : n ≤ 140737488355328 := by have := reachBytes_lt; omega
section
variable {H : Type} {enc : TypeId × Value → H} {P : Program} {W : World} {base : Nat} {held : Bool}
theorem slice_rowsW {α : Type} {t e : TypeId} {fuel : Nat} {s : Sl} {y : DataW H × List MemPlace} (sz : Nat) (f : α → List Value) (ok : α → Prop) (hsz : 0 < sz) (ht : P.underlying t = some (.slice e)) (hc : P.cellsOf e = sz) (hf : ∀ x, (f x).length = sz)
    (each : ∀ (fuel : Nat) (cs : List Value) (z : DataW H × List MemPlace), cs.length = sz → DataW.trod enc P W base (fun _ => true) held fuel e cs = some z → WB P e z.1 → ∃ a, cs = f a ∧ ok a)
    (h : DataW.trod enc P W base (fun _ => true) held fuel t [.slice s.a s.n s.c] = some y) (hw : WB P t y.1) : ∃ l : List α, (wh W).row s.a (s.n * sz) (l.flatMap f) ∧ s.n ≤ s.c ∧ (s.a = none → s.n = 0) ∧ l.length = s.n ∧ (s.n * P.bytesOf e ≤ reachBytes) ∧ ∀ a ∈ l, ok a := by
  rcases DataW.trod_slice ht h with ⟨hcs, _⟩ | ⟨x, len, cap, elems, rest, n, _, hcs, hyy, hb, hl, hm, hlen, hel, _, _⟩
  · simp only [List.cons.injEq, Value.slice.injEq, and_true] at hcs
    obtain ⟨h1, h2, h3⟩ := hcs
    exact ⟨[], by rw [h1, h2]; exact ⟨by simp, .inl (by simp)⟩, by omega, fun _ => h2, by rw [h2]; rfl, by rw [h2]; omega, fun a ha => (by cases ha)⟩
  · simp only [List.cons.injEq, Value.slice.injEq, and_true] at hcs
    obtain ⟨h1, h2, h3⟩ := hcs
    have hwl : ∀ n ∈ (DataW.slice (elems.map (·.1)) (rest.map (·.1))).weights P t, n ≤ reachBytes := by rw [hyy] at hw; exact hw
    have hws : (DataW.slice (elems.map (·.1)) (rest.map (·.1))).weights P t = ((elems.map (·.1)).length + (rest.map (·.1)).length) * P.bytesOf e :: (DataW.weightsAll P e (elems.map (·.1)) ++ DataW.weightsAll P e (rest.map (·.1))) := by simp [DataW.weights, ht]
    have ea : ∀ i : Fin len, ∃ a : α, (∀ j, j < sz → W.cell? (x.add (i.1 * sz + j)) = (f a)[j]?) ∧ ok a := by
      rintro ⟨i, hi⟩
      have q := hel i hi
      rw [hc, List.getElem?_eq_getElem (by omega), Option.bind_eq_some_iff] at q
      obtain ⟨cs', hcs', hy⟩ := q
      obtain ⟨_, hcl, hcell⟩ := World.cells?_some hcs'
      obtain ⟨a, rfl, hok⟩ := each _ _ _ hcl hy (fun m hm => hwl m (by
        rw [hws]
        refine List.mem_cons_of_mem _ (List.mem_append_left _ (weights_mem_all (List.mem_map_of_mem (List.getElem_mem (l := elems) (n := i) (by omega))) m hm))))
      refine ⟨a, fun j hj => ?_, hok⟩
      rw [← hcell j hj, add_add']
    obtain ⟨g, hg⟩ := Classical.axiomOfChoice ea
    refine ⟨List.ofFn g, ?_, by omega, fun hn => (by rw [h1] at hn; cases hn), by rw [List.length_ofFn]; omega, ?_, fun a ha => ?_⟩
    · rw [h1, h2]
      have hll : ((List.ofFn g).flatMap f).length = len * sz := by rw [flat_length f sz hf, List.length_ofFn]
      refine row_of_cells hll fun k hk => ?_
      have hi : k / sz < len := Nat.div_lt_of_lt_mul (by rw [Nat.mul_comm]; exact hk)
      have hj : k % sz < sz := Nat.mod_lt _ hsz
      have hkk : k = k / sz * sz + k % sz := by rw [Nat.mul_comm]; exact (Nat.div_add_mod k sz).symm
      have q := (hg ⟨k / sz, hi⟩).1 (k % sz) hj
      have q2 := flat_get f sz hf (List.ofFn g) (k / sz) (k % sz) (by rw [List.length_ofFn]; exact hi) hj
      simp only at q
      rw [← hkk] at q q2
      rw [q, q2]
      simp
    · have := hwl _ (by rw [hws]; exact List.mem_cons_self)
      rw [List.length_map, List.length_map] at this
      exact Nat.le_trans (Nat.mul_le_mul_right _ (by omega)) this
    · obtain ⟨i, rfl⟩ := (List.mem_ofFn ..).1 ha
      exact (hg i).2
theorem some_at {xs : List (DataW H × List MemPlace)} {n i : Nat} (h : xs.length = n) (hi : i < n) : ∃ y, xs[i]? = some y := ⟨_, List.getElem?_eq_getElem (by omega)⟩
theorem is_slice {t e : TypeId} {fuel : Nat} {c : Value} {y : DataW H × List MemPlace} (ht : P.underlying t = some (.slice e)) (h : DataW.trod enc P W base (fun _ => true) held fuel t [c] = some y) : ∃ s : Sl, c = .slice s.a s.n s.c := by
  rcases DataW.trod_slice ht h with ⟨hcs, _⟩ | ⟨x, len, cap, elems, rest, n, _, hcs, _⟩
  · exact ⟨⟨none, 0, 0⟩, by simpa using hcs⟩
  · exact ⟨⟨some x, len, cap⟩, by simpa using hcs⟩
theorem part_wb {t : TypeId} {fs : Array Field} {xs : List (DataW H × List MemPlace)} {i : Nat} {f : Field} {y : DataW H × List MemPlace} (ht : P.underlying t = some (.struct fs)) (hw : WB P t (.agg (xs.map (·.1)))) (hf : fs[i]? = some f) (hy : xs[i]? = some y) : WB P f.type y.1 := fun n hn => hw n (by
  have e : (DataW.agg (xs.map (·.1))).weights P t = DataW.weightsEach P (fs.toList.map (·.type)) (xs.map (·.1)) := by simp [DataW.weights, ht]
  rw [e]
  exact DataW.weights_mem_each (j := i) (t := f.type) (d := y.1) (by rw [List.getElem?_map, Array.getElem?_toList, hf]; rfl) (by rw [List.getElem?_map, hy]; rfl) n hn)
end
section
variable {H : Type} {enc : TypeId × Value → H} {W : World} {base : Nat} {held : Bool}
theorem flat_one {α : Type} (g : α → Value) : ∀ l : List α, l.flatMap (fun x => [g x]) = l.map g
  | [] => rfl
  | a :: l => by rw [List.flatMap_cons, flat_one g l]; rfl
theorem c3 : Try.prog.cellsOf 3 = 1 := by kernel_rfl
theorem c5 : Try.prog.cellsOf 5 = 1 := by kernel_rfl
theorem c9 : Try.prog.cellsOf 9 = 1 := by kernel_rfl
theorem c37 : Try.prog.cellsOf 37 = 1 := by kernel_rfl
theorem c43 : Try.prog.cellsOf 43 = 1 := by kernel_rfl
theorem c45 : Try.prog.cellsOf 45 = 8 := by kernel_rfl
theorem b3 : Try.prog.bytesOf 3 = 8 := by kernel_rfl
theorem b5 : Try.prog.bytesOf 5 = 1 := by kernel_rfl
theorem b45 : Try.prog.bytesOf 45 = 112 := by kernel_rfl
theorem int_cell {fuel : Nat} {c : Value} {y : DataW H × List MemPlace} (h : DataW.trod enc Try.prog W base (fun _ => true) held fuel 3 [c] = some y) : ∃ n, c = .int .i64 n ∧ iI n := by
  obtain ⟨n, hn, _, hw⟩ := DataW.trod_int Try.underlying3 h
  exact ⟨n, by simpa using hn, wf_i64 hw⟩
theorem str_cell {fuel : Nat} {c : Value} {y : DataW H × List MemPlace} (h : DataW.trod enc Try.prog W base (fun _ => true) held fuel 9 [c] = some y) : ∃ s : ByteArray, c = .string s ∧ s.size ≤ 9223372036854775807 := by
  obtain ⟨s, hn, _, hw⟩ := DataW.trod_string Try.underlying9 h
  exact ⟨s, by simpa using hn, by have : maxLen = 9223372036854775807 := by decide
                                  omega⟩
theorem bytes_cell {fuel : Nat} {c : Value} {y : DataW H × List MemPlace} (h : DataW.trod enc Try.prog W base (fun _ => true) held fuel 43 [c] = some y) (hw : WB Try.prog 43 y.1) : ∃ (s : Sl) (v : List UInt8), c = .slice s.a s.n s.c ∧ (wh W).row s.a (s.n * 1) (bl v) ∧ s.n ≤ s.c ∧ (s.a = none → s.n = 0) ∧ v.length ≤ 140737488355328 := by
  obtain ⟨s, rfl⟩ := is_slice Try.underlying43 h
  obtain ⟨l, r, hc, hn, hl, hb, _⟩ := slice_rowsW 1 (fun b : UInt8 => [Value.int .u8 (b.toNat : Int)]) (fun _ => True) (by decide) Try.underlying43 c5 (fun _ => rfl) (fun fuel cs z hl h _ => by
    rcases cs with _ | ⟨a, _ | ⟨a1, cs⟩⟩
    · cases hl
    · obtain ⟨n, hn, _, hw⟩ := DataW.trod_int Try.underlying5 h
      have hb := wf_u8 hw
      refine ⟨UInt8.ofNat n.toNat, ?_, trivial⟩
      have e : ((UInt8.ofNat n.toNat).toNat : Int) = n := by
        have : (UInt8.ofNat n.toNat).toNat = n.toNat := by
          rw [UInt8.toNat_ofNat']
          omega
        rw [this]; omega
      rw [e]; exact hn
    · simp at hl) h hw
  rw [b5, Nat.mul_one] at hb
  refine ⟨s, l, rfl, ?_, hc, hn, by rw [hl]; exact reach_le hb⟩
  rw [flat_one] at r
  exact r
theorem ints_cell {fuel : Nat} {c : Value} {y : DataW H × List MemPlace} (h : DataW.trod enc Try.prog W base (fun _ => true) held fuel 37 [c] = some y) (hw : WB Try.prog 37 y.1) : ∃ (s : Sl) (v : List Int), c = .slice s.a s.n s.c ∧ (wh W).row s.a (s.n * 1) (v.map fun k => Value.int .i64 k) ∧ v.length ≤ 140737488355328 := by
  obtain ⟨s, rfl⟩ := is_slice Try.underlying37 h
  obtain ⟨l, r, hc, hn, hl, hb, _⟩ := slice_rowsW 1 (fun k : Int => [Value.int .i64 k]) (fun _ => True) (by decide) Try.underlying37 c3 (fun _ => rfl) (fun fuel cs z hl h _ => by
    rcases cs with _ | ⟨a, _ | ⟨a1, cs⟩⟩
    · cases hl
    · obtain ⟨n, rfl, _⟩ := int_cell h
      exact ⟨n, rfl, trivial⟩
    · simp at hl) h hw
  rw [b3] at hb
  refine ⟨s, l, rfl, ?_, by have := reach_le hb; omega⟩
  rw [flat_one] at r
  exact r
def okF (W : World) (x : Sl × RawF) : Prop := (wh W).row x.1.a (x.1.n * 1) (bl x.2.data) ∧ x.1.n ≤ x.1.c ∧ (x.1.a = none → x.1.n = 0) ∧ x.2.nm.size ≤ 9223372036854775807 ∧ x.2.data.length ≤ 140737488355328
def okO (W : World) (x : OpR) : Prop := ((wh W).row x.d.a (x.d.n * 1) (bl x.o.data) ∧ x.d.n ≤ x.d.c ∧ (wh W).row x.k.a (x.k.n * 1) (x.o.keep.map fun k => Value.int .i64 k)) ∧ x.o.nm.size ≤ 9223372036854775807 ∧ x.o.to.size ≤ 9223372036854775807 ∧ x.o.a ≤ 9223372036854775807 ∧ x.o.b ≤ 9223372036854775807 ∧ x.o.c ≤ 9223372036854775807 ∧ x.o.data.length ≤ 140737488355328 ∧ x.o.keep.length ≤ 140737488355328
theorem op_each (fuel : Nat) (cs : List Value) (z : DataW H × List MemPlace) (hl : cs.length = 8) (h : DataW.trod enc Try.prog W base (fun _ => true) held fuel 45 cs = some z) (hw : WB Try.prog 45 z.1) : ∃ x : OpR, cs = ocell x ∧ okO W x := by
  obtain ⟨xs, n, _, rfl, _, hxs, hf⟩ := DataW.trod_struct Try.underlying45 h
  rcases cs with _ | ⟨a0, _ | ⟨a1, _ | ⟨a2, _ | ⟨a3, _ | ⟨a4, _ | ⟨a5, _ | ⟨a6, _ | ⟨a7, _ | ⟨a8, cs⟩⟩⟩⟩⟩⟩⟩⟩⟩
  case cons.cons.cons.cons.cons.cons.cons.cons.nil =>
    obtain ⟨y0, h0⟩ := some_at hxs (i := 0) (by decide)
    have f0 : DataW.trod enc Try.prog W base (fun _ => true) held n 3 (([a0, a1, a2, a3, a4, a5, a6, a7].drop 0).take (Try.prog.cellsOf 3)) = xs[0]? := hf 0 _ rfl
    rw [c3, h0] at f0
    obtain ⟨y1, h1⟩ := some_at hxs (i := 1) (by decide)
    have f1 : DataW.trod enc Try.prog W base (fun _ => true) held n 9 (([a0, a1, a2, a3, a4, a5, a6, a7].drop 1).take (Try.prog.cellsOf 9)) = xs[1]? := hf 1 _ rfl
    rw [c9, h1] at f1
    obtain ⟨y2, h2⟩ := some_at hxs (i := 2) (by decide)
    have f2 : DataW.trod enc Try.prog W base (fun _ => true) held n 9 (([a0, a1, a2, a3, a4, a5, a6, a7].drop 2).take (Try.prog.cellsOf 9)) = xs[2]? := hf 2 _ rfl
    rw [c9, h2] at f2
    obtain ⟨y3, h3⟩ := some_at hxs (i := 3) (by decide)
    have f3 : DataW.trod enc Try.prog W base (fun _ => true) held n 43 (([a0, a1, a2, a3, a4, a5, a6, a7].drop 3).take (Try.prog.cellsOf 43)) = xs[3]? := hf 3 _ rfl
    rw [c43, h3] at f3
    obtain ⟨y4, h4⟩ := some_at hxs (i := 4) (by decide)
    have f4 : DataW.trod enc Try.prog W base (fun _ => true) held n 3 (([a0, a1, a2, a3, a4, a5, a6, a7].drop 4).take (Try.prog.cellsOf 3)) = xs[4]? := hf 4 _ rfl
    rw [c3, h4] at f4
    obtain ⟨y5, h5⟩ := some_at hxs (i := 5) (by decide)
    have f5 : DataW.trod enc Try.prog W base (fun _ => true) held n 3 (([a0, a1, a2, a3, a4, a5, a6, a7].drop 5).take (Try.prog.cellsOf 3)) = xs[5]? := hf 5 _ rfl
    rw [c3, h5] at f5
    obtain ⟨y6, h6⟩ := some_at hxs (i := 6) (by decide)
    have f6 : DataW.trod enc Try.prog W base (fun _ => true) held n 3 (([a0, a1, a2, a3, a4, a5, a6, a7].drop 6).take (Try.prog.cellsOf 3)) = xs[6]? := hf 6 _ rfl
    rw [c3, h6] at f6
    obtain ⟨y7, h7⟩ := some_at hxs (i := 7) (by decide)
    have f7 : DataW.trod enc Try.prog W base (fun _ => true) held n 37 (([a0, a1, a2, a3, a4, a5, a6, a7].drop 7).take (Try.prog.cellsOf 37)) = xs[7]? := hf 7 _ rfl
    rw [c37, h7] at f7
    obtain ⟨k0, rfl, _⟩ := int_cell (c := a0) f0
    obtain ⟨s1, rfl, z1⟩ := str_cell (c := a1) f1
    obtain ⟨s2, rfl, z2⟩ := str_cell (c := a2) f2
    obtain ⟨d, v, rfl, hr, hc, hn, hv⟩ := bytes_cell (c := a3) f3 (part_wb Try.underlying45 hw (i := 3) rfl h3)
    obtain ⟨k4, rfl, z4⟩ := int_cell (c := a4) f4
    obtain ⟨k5, rfl, z5⟩ := int_cell (c := a5) f5
    obtain ⟨k6, rfl, z6⟩ := int_cell (c := a6) f6
    obtain ⟨q, u, rfl, hr7, hu⟩ := ints_cell (c := a7) f7 (part_wb Try.underlying45 hw (i := 7) rfl h7)
    unfold iI at z4 z5 z6
    exact ⟨⟨d, q, ⟨k0, s1, s2, v, k4, k5, k6, u⟩⟩, rfl, ⟨hr, hc, hr7⟩, z1, z2, by show k4 ≤ _; omega, by show k5 ≤ _; omega, by show k6 ≤ _; omega, hv, hu⟩
  all_goals simp at hl
theorem open_ops {fuel : Nat} {a : Option Addr} {len cap : Nat} {y : DataW H × List MemPlace} (h : DataW.trod enc Try.prog W base (fun _ => true) held fuel 36 [.slice a len cap] = some y) (hw : WB Try.prog 36 y.1) : ∃ O, OA (wh W) ⟨a, len, cap⟩ O ∧ O.length ≤ 140737488355328 := by
  obtain ⟨O, r, _, _, hl, hb, k⟩ := slice_rowsW (s := ⟨a, len, cap⟩) 8 ocell (okO W) (by decide) Try.underlying36 c45 (fun _ => rfl) op_each h hw
  rw [b45] at hb
  exact ⟨O, ⟨r, fun x hx => (k x hx).1, fun x hx => (k x hx).2⟩, by have := reach_le hb; omega⟩
theorem wb_arg {ts : List TypeId} {ds : List (DataW H)} (h : (DataW.weightsEach Try.prog ts ds).all (· ≤ reachBytes) = true) {j : Nat} {t : TypeId} {d : DataW H} (ht : ts[j]? = some t) (hd : ds[j]? = some d) : WB Try.prog t d := fun n hn => by
  have := List.all_eq_true.1 h _ (DataW.weights_mem_each ht hd n hn)
  simpa using this
end
end Go.Eng.Ytekflkpnpibneaa
end
