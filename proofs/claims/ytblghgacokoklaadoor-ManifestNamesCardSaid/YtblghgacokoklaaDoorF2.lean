/-
  THE ENGINE, 19: a region whose order is drawn is what it denotes.
-/
import Derived.Test.YtblghgacokoklaaDoorF1
import Derived.Test.YtblghgacokoklaaDoorE15
set_option linter.unusedSimpArgs false
set_option linter.unusedVariables false
namespace Go.Eng
section
variable {P : Program} {lo : List Nat} {G : List (Nat × (List Value → PT))} {V : Value → List Value → PT} {fr : Hp} {ops : Array Oper}

/-! ### What is loaded from a block that stays -/
def OnlyB {α : Type} (b : Nat) : Sem α → Prop
  | .pure _ => True
  | .load _ ad k => ad.block = b ∧ ∀ v, OnlyB b (k v)
  | .program k => ∀ p, OnlyB b (k p)
  | .mark _ k => OnlyB b k
  | .halt _ => True
  | _ => False
theorem OnlyB.bind {α β : Type} {b : Nat} {s : Sem α} {f : α → Sem β} (hs : OnlyB b s) (hf : ∀ a, OnlyB b (f a)) : OnlyB b (s >>= f) := by
  show OnlyB b (s.bind f)
  induction s with
  | pure a => exact hf a
  | load m ad k ih => exact ⟨hs.1, fun v => ih v (hs.2 v)⟩
  | program k ih => exact fun p => ih p (hs p)
  | mark m k ih => exact ih hs
  | halt x => trivial
  | _ => exact hs.elim
theorem OnlyB.run {α : Type} {b : Nat} {s : Sem α} (hs : OnlyB b s) {w w' w1 : World} {v : α} {c : Array Value} {t : TypeId} {f : Nat × Nat} (h1 : w.heap[b]? = some (.cells c t f)) (h2 : w'.heap[b]? = some (.cells c t f)) (hr : s.run P w = .ok v w1) : s.run P w' = .ok v w' := by
  induction s with
  | pure a => simp only [Sem.run] at hr ⊢; cases hr; rfl
  | load m ad k ih =>
    obtain ⟨rfl, hk⟩ := hs
    have hc : w'.cell? ad = w.cell? ad := by simp only [World.cell?, h1, h2]
    simp only [Sem.run] at hr ⊢
    rw [hc]
    cases hcell : w.cell? ad with
    | some u => rw [hcell] at hr; exact ih u (hk u) hr
    | none =>
      rw [hcell] at hr
      simp only [World.farLoad, h1] at hr
      cases hr
  | program k ih => simp only [Sem.run] at hr ⊢; exact ih P (hs P) hr
  | mark m k ih => simp only [Sem.run] at hr ⊢; exact ih hs hr
  | halt x => simp only [Sem.run] at hr; cases hr
  | _ => exact hs.elim
theorem OnlyB.underlying (b : Nat) (t : TypeId) : OnlyB b (underlying t) := by
  unfold Go.underlying
  refine OnlyB.bind (fun p => trivial) fun p => ?_
  split <;> trivial
theorem OnlyB.sizeOf (b : Nat) (t : TypeId) : OnlyB b (sizeOf t) := by
  unfold Go.sizeOf Go.typeInfo
  refine OnlyB.bind (OnlyB.bind (fun p => trivial) fun p => ?_) fun _ => trivial
  split <;> trivial
theorem OnlyB.load (b o : Nat) : OnlyB b (load ⟨b, o, none⟩) := ⟨rfl, fun v => trivial⟩
theorem OnlyB.from (b o : Nat) : ∀ (n i : Nat) (acc : Array Value), OnlyB b (loadCellsFrom ⟨b, o, none⟩ i n acc)
  | 0, i, acc => trivial
  | n + 1, i, acc => by
    unfold loadCellsFrom
    refine OnlyB.bind ?_ fun v => OnlyB.from b o n (i + 1) _
    rw [addr_add]
    exact OnlyB.load b (o + i)
theorem OnlyB.loadAt (b o : Nat) (t : TypeId) : OnlyB b (Instr.loadAt t (.pointer (some ⟨b, o, none⟩))) := by
  show OnlyB b (loadVar t ⟨b, o, none⟩)
  unfold loadVar isAgg
  refine OnlyB.bind (OnlyB.bind (OnlyB.underlying b t) fun d => ?_) fun c => ?_
  · split <;> trivial
  · split
    · exact OnlyB.bind (OnlyB.sizeOf b t) fun n => OnlyB.bind (OnlyB.from b o n 0 #[]) fun _ => trivial
    · exact OnlyB.load b o

/-! ### Steps -/
theorem stepD_cases {ops : Array Oper} {g : Nat → Nat} {A : Env} {L : List LE} {h : Hp} {a : Act} {o : Oper} {K : KS} (F : FO g A a) (hk : stepD P lo G V ops.toList o A L h K) :
    (Region.wanted o (yielded ops a.tmps) = true ∧ opD P lo G V o.dst o.type o.op A L h fun x L' h' => K (putD (killA lo o.dst o.op A) o.dst x) L' h') ∨
    (Region.wanted o (yielded ops a.tmps) = false ∧ K (putD A o.dst (.v undef)) L h) := by
  unfold stepD at hk
  cases hg : o.guard with
  | none => rw [hg] at hk; exact .inl ⟨by simp [Region.wanted, hg], hk⟩
  | some gw =>
    obtain ⟨j, want⟩ := gw
    rw [hg] at hk
    dsimp only at hk
    cases hd : dstOf ops.toList j with
    | none => rw [hd] at hk; exact False.elim hk
    | some d =>
      rw [hd] at hk
      dsimp only at hk
      have hat := F.at_ d
      have hwanted : ∀ r : Option Bool, yielded ops a.tmps j = r → Region.wanted o (yielded ops a.tmps) = (r == some want) := by
        intro r hr; simp [Region.wanted, hg, hr]
      cases hA : getE A d with
      | v x =>
        rw [hA] at hk hat
        have hy := yielded_eq hd hat
        cases x with
        | bool b =>
          simp only [boolOf] at hy
          have hw := hwanted _ hy
          cases b <;> cases want <;> simp only at hk hw
          · exact .inl ⟨by rw [hw]; rfl, hk⟩
          · exact .inr ⟨by rw [hw]; rfl, hk⟩
          · exact .inr ⟨by rw [hw]; rfl, hk⟩
          · exact .inl ⟨by rw [hw]; rfl, hk⟩
        | tuple vs =>
          have hw := hwanted _ hy
          exact .inr ⟨by rw [hw]; rfl, hk⟩
        | _ => exact False.elim hk
      | _ => rw [hA] at hk; exact False.elim hk
/-- A load at a box's or a block's address leaves the world as it is. -/
theorem exec_load {g : Nat → Nat} {A : Env} {L : List LE} {h : Hp} {a : Act} {w : World} {o : Oper} {t : Nat} {ad : Operand} (ho : o.op = .load t ad) {K : KO} (F : FO g A a) (H : HO fr g L h w) (hk : opD P lo G V o.dst o.type o.op A L h K) :
    ∃ x v, (execOp a.eval o).run P w = .ok (.value v) w ∧ x.is g v ∧ K x L h := by
  rw [ho] at hk
  obtain ⟨x, v, hr, hx, hK⟩ := load_okQ H (K := K) hk (ev_is F ad)
  refine ⟨x, v, ?_, hx, hK⟩
  unfold execOp
  rw [ho]
  simp only [Sem.run_bind, hr, Result.andThen_ok, Sem.run_pure]
/-- A string of bytes that are read. -/
theorem conv_row {h : Hp} {w : World} (hh : ∀ b o, h b = some o → w.heap[b]? = some o) {src dst e : TypeId} (hus : P.underlying src = some (.slice e)) (hue : P.underlying e = some (.int .u8)) (hut : P.underlying dst = some .string) {a : Option Addr} {n c : Nat} {s : ByteArray} (hr : h.row a n (bytesV s)) :
    (convert src dst (.slice a n c)).run P w = .ok (.string s) w := by
  obtain ⟨hl, hrow⟩ := hr
  rw [bytesV_length] at hl
  subst hl
  have sn : strOfNums (s.data.toList.map fun b => (b.toNat : Int)) = s := by
    unfold strOfNums
    apply ByteArray.ext
    apply Array.ext'
    simp only [List.map_map]
    have : ((fun n : Int => UInt8.ofNat n.toNat) ∘ fun b : UInt8 => (b.toNat : Int)) = id := by funext b; simp
    rw [this]
    simp
  rcases hrow with h0 | ⟨b, o, rfl, hat⟩
  · have hse : s = ByteArray.empty := by
      apply ByteArray.ext
      apply Array.ext'
      have : s.data.toList.length = 0 := by rw [Array.length_toList]; exact h0
      rw [List.eq_nil_of_length_eq_zero this]
      rfl
    cases a with
    | none => rw [hse]; exact run_convert_bytes_nil w src e hus hue _ _ dst hut
    | some ad =>
      have hr := run_convert_bytes_string w src dst e (some ad) s.size c hus hue hut
      rw [hr, h0, hse]
      simp [Conv.bytesToString, loadCells, loadCellsFrom]
  · have := run_convert_bytes_arg (P := P) w src e hus hue b o s.size c (s.data.toList.map fun b => (b.toNat : Int)) (by rw [List.length_map, Array.length_toList]; rfl)
      (fun i hi => by
        have h1 := hat i hi
        have hil : i < s.data.toList.length := by rw [Array.length_toList]; exact hi
        have h2 : (bytesV s)[i]? = some (.int .u8 ((s.data.toList.map fun b => (b.toNat : Int)).getD i 0)) := by
          simp [bytesV, List.getD_eq_getElem?_getD, List.getElem?_eq_getElem hil]
        rw [h2] at h1
        exact cell_of hh h1) dst hut
    rw [sn] at this
    exact this
theorem isConv_spec {o : Op} (hl : isConv P o = true) : ∃ s t y e, o = .convert s t y ∧ P.underlying s = some (.slice e) ∧ P.underlying e = some (.int .u8) ∧ P.underlying t = some .string := by
  cases o with
  | convert s t y =>
    have h1 : bytesT P s = true ∧ strT P t = true := by simpa [isConv] using hl
    obtain ⟨h1, h2⟩ := h1
    unfold bytesT at h1
    unfold strT at h2
    cases hs : under P s <;> rw [hs] at h1 <;> first | exact absurd h1 Bool.false_ne_true | skip
    rename_i e
    dsimp only at h1
    cases he : under P e <;> rw [he] at h1 <;> first | exact absurd h1 Bool.false_ne_true | skip
    rename_i k
    cases k <;> first | exact absurd h1 Bool.false_ne_true | skip
    cases ht : under P t <;> rw [ht] at h2 <;> first | exact absurd h2 Bool.false_ne_true | skip
    exact ⟨s, t, y, e, rfl, under_some hs (by simp), under_some he (by simp), under_some ht (by simp)⟩
  | _ => exact absurd hl Bool.false_ne_true
theorem exec_conv {g : Nat → Nat} {A : Env} {L : List LE} {h : Hp} {a : Act} {w : World} {o : Oper} (hc : isConv P o.op = true) {K : KO} (F : FO g A a) (H : HO fr g L h w) (hk : opD P lo G V o.dst o.type o.op A L h K) :
    ∃ x v, (execOp a.eval o).run P w = .ok (.value v) w ∧ x.is g v ∧ K x L h := by
  obtain ⟨s, t, y, e, ho, hus, hue, hut⟩ := isConv_spec hc
  rw [ho] at hk
  replace hk : dConv P s t (ev A y) L h K := hk
  have hy := ev_is F y
  have u1 : under P t = .string := by unfold under; rw [hut]; rfl
  have u2 : under P s = .slice e := by unfold under; rw [hus]; rfl
  have u3 : under P e = .int .u8 := by unfold under; rw [hue]; rfl
  unfold dConv at hk
  rw [u1, u2] at hk
  dsimp only at hk
  split at hk
  · exact hk.elim
  · rename_i A0 n c hA
    rw [u3] at hk
    dsimp only at hk
    obtain ⟨bs, hr, hk⟩ := hk
    rw [hA] at hy
    have hy : a.eval y = .slice A0 n c := hy
    refine ⟨.v (.string bs), .string bs, ?_, rfl, hk⟩
    unfold execOp
    rw [ho]
    simp only [Sem.run_bind, hy, conv_row H.hh hus hue hut hr, Result.andThen_ok, Sem.run_pure]
  · exact hk.elim
theorem makes_quiet {o : Op} (h : quietB P o = true) : makes o = false := by cases o <;> first | rfl | (exact absurd h Bool.false_ne_true)
/-- What only reads, once. -/
theorem quiet_step (hG : GOk P G) (hV : VOk P V) {g : Nat → Nat} {A : Env} {L : List LE} {h : Hp} {a : Act} {w : World} {o : Oper} {K : KS} (F : FO g A a) (H : HO fr g L h w) (hq : quietO P o = true) (hk : stepD P lo G V ops.toList o A L h K) :
    ∃ v, Yat P ops o v a w ∧ (isRead P o.op = false → ∀ w', Yat P ops o v a w') ∧ Rel (dW o.dst) fr g L a w K (a.put o.dst v) w := by
  unfold quietO at hq
  rw [Bool.and_eq_true] at hq
  rcases stepD_cases F hk with ⟨hw, ho⟩ | ⟨hw, hk⟩
  · by_cases hl : isLoad o.op = true
    · have : ∃ t ad, o.op = .load t ad := by
        cases hop : o.op <;> rw [hop] at hl <;> first | exact ⟨_, _, rfl⟩ | exact absurd hl Bool.false_ne_true
      obtain ⟨t, ad, hop⟩ := this
      obtain ⟨x, v, hr, hx, hK⟩ := exec_load hop F H ho
      rw [killA_no (makes_quiet hq.2)] at hK
      exact ⟨v, .inl ⟨hw, hr⟩, fun e => (by unfold isRead at e; rw [hl] at e; cases e), put_rel F hx H (Wr.refl w) (Kp.refl L) hK⟩
    · have hl1 : isLoad o.op = false := by simpa using hl
      by_cases hcv : isConv P o.op = true
      · obtain ⟨x, v, hr, hx, hK⟩ := exec_conv hcv F H ho
        rw [killA_no (makes_quiet hq.2)] at hK
        exact ⟨v, .inl ⟨hw, hr⟩, fun e => (by unfold isRead at e; rw [hcv, Bool.or_true] at e; cases e), put_rel F hx H (Wr.refl w) (Kp.refl L) hK⟩
      have hl : isRead P o.op = false := by unfold isRead; rw [hl1]; simpa using hcv
      have hwp := op_ok (Q := fun _ _ _ => False) hG hV H F ho
      rcases quiet_flat F hq.2 hl ho with ⟨v, hv⟩ | hd
      · refine ⟨v, .inl ⟨hw, hv w⟩, fun _ w' => .inl ⟨hw, hv w'⟩, ?_⟩
        unfold Oper.wp at hwp
        rw [hv w] at hwp
        exact hwp
      · exfalso
        unfold Oper.wp at hwp
        cases hr : (execOp a.eval o).run P w with
        | ok v w' => exact hd _ _ _ hr
        | halt x w' => rw [hr] at hwp; cases x <;> exact hwp
  · exact ⟨undef, .inr ⟨hw, rfl⟩, fun _ w' => .inr ⟨hw, rfl⟩, put_rel (x := .v undef) F rfl H (Wr.refl w) (Kp.refl L) hk⟩

/-- Read, and still so. -/
def Live (P : Program) (ops : Array Oper) (x : Nat) (a : Act) (w : World) : Prop :=
  ∃ o v, ops[x]? = some o ∧ a.put o.dst v = a ∧ Yat P ops o v a w ∧ (isRead P o.op = false → ∀ w', Yat P ops o v a w')
theorem Live.chk {x : Nat} {a : Act} {w : World} (h : Live P ops x a w) : Chk P ops x a w := let ⟨o, v, h1, h2, h3, _⟩ := h; ⟨o, v, h1, h3, h2⟩
theorem Live.put {x : Nat} (hsel : ∀ (j : Nat) (o : Oper) cs b, ops[j]? = some o → o.op ≠ .select cs b) {i : Nat} {oi : Oper} (hi : ops[i]? = some oi) (hix : Ind ops i x) {a : Act} {w : World} {u : Value} (h : Live P ops x a w) : Live P ops x (a.put oi.dst u) w := by
  obtain ⟨o, v, h1, h2, h3, h4⟩ := h
  have hl : ∀ d, oi.dst = some d → d ∉ o.looksAt ops := fun d hd => (hix oi o hi h1 d hd).1
  refine ⟨o, v, h1, ?_, (Yat.put (hsel x o · · h1) hl).2 h3, fun e w' => (Yat.put (hsel x o · · h1) hl).2 (h4 e w')⟩
  rw [Act.put_comm a u v (fun d hd => (hix oi o hi h1 d hd).2), h2]
theorem put_of {a a' : Act} {d : Option Tmp} (h : ∀ i, memN i (dW d) = false → a'.tmps.getD i undef = a.tmps.getD i undef) (hs : a'.tmps.size = a.tmps.size) (hd : a'.defers = a.defers) : ∃ u, a' = a.put d u := by
  obtain ⟨t', d'⟩ := a'
  obtain ⟨t, d0⟩ := a
  simp only at h hs hd
  subst hd
  have ext : ∀ t2 : Array Value, t'.size = t2.size → (∀ i, i < t'.size → t'.getD i undef = t2.getD i undef) → t' = t2 := by
    intro t2 hsz hh
    apply Array.ext hsz
    intro i h1 h2
    have := hh i h1
    simpa [Array.getD, h1, h2] using this
  cases d with
  | none =>
    refine ⟨undef, ?_⟩
    rw [show t' = t from ext t hs fun i _ => h i rfl]
    rfl
  | some d =>
    refine ⟨t'.getD d undef, ?_⟩
    show _ = (⟨t.setIfInBounds d (t'.getD d undef), _⟩ : Act)
    congr 1
    refine ext _ (by simp [hs]) fun i hi => ?_
    by_cases hdi : d = i
    · subst hdi
      have : d < t.size := hs ▸ hi
      simp [this]
    · rw [h i (by simp [dW, memN, Ne.symm hdi])]
      simp [Array.getElem?_setIfInBounds_ne hdi]
/-! ### What is looked at again -/
theorem rowsAt_spec {h : Hp} {b o : Nat} : ∀ {vs : List Value} {j : Nat} {p : Prop}, rowsAt h b o j vs p → (∀ i v, vs[i]? = some v → h.at b (o + j + i) = some v) ∧ p
  | [], j, p, hk => ⟨fun i v e => by simp at e, hk⟩
  | v :: vs, j, p, hk => by
    obtain ⟨h1, h2⟩ := hk
    obtain ⟨h3, h4⟩ := rowsAt_spec h2
    refine ⟨fun i u e => ?_, h4⟩
    cases i with
    | zero => simp at e; subst e; rw [addo_eq] at h1; exact h1
    | succ i => have := h3 i u (by simpa using e); rwa [show o + (j + 1) + i = o + j + (i + 1) by omega] at this
theorem stillAt_spec {h : Hp} {w : World} (hh : ∀ b o, h b = some o → w.heap[b]? = some o) {b o t : Nat} {x : AV} {p : Prop} (hi : hasInfo P t = true) (hu : hasUnder P t = true) (hk : stillAt P h b o t x p) :
    (∃ v, x = .v v ∧ (Instr.loadAt t (.pointer (some ⟨b, o, none⟩))).run P w = .ok v w) ∧ p := by
  unfold stillAt at hk
  cases ha : isAggB P t with
  | true =>
    rw [ha] at hk
    dsimp only at hk
    split at hk
    · rename_i vs
      obtain ⟨hl, hk⟩ := grd_spec hk
      obtain ⟨hat, hp⟩ := rowsAt_spec hk
      have hl : vs.length = P.cellsOf t := by simpa [stillAt.lenB'] using hl
      refine ⟨⟨_, rfl, ?_⟩, hp⟩
      have := run_loadVar' hi hu hl (fun i v hv => cell_of (w := w) hh (by simpa using hat i v hv)) (.inl ha)
      unfold Instr.loadAt
      simp only [Instr.sureAddr, Sem.run_bind, Sem.run_pure, Result.andThen_ok, this, mkv_agg ha]
    · exact hk.elim
  | false =>
    rw [ha] at hk
    dsimp only at hk
    split at hk
    · rename_i v
      refine ⟨⟨v, rfl, ?_⟩, hk.2⟩
      unfold Instr.loadAt loadVar
      simp only [Instr.sureAddr, Sem.run_bind, Sem.run_pure, Result.andThen_ok, run_isAgg hu, ha, Bool.false_eq_true, if_false]
      exact run_load1 (cell_of hh hk.1)
    · exact hk.elim
/-- What is known of a load that is looked at again. -/
def Again (P : Program) (L : List LE) (no : List Nat) (A : Env) (w : World) (x : Oper) : Prop :=
  (∃ t ad, x.op = .load t ad ∧ ((∃ b o d v, ev A ad = .p b o ∧ x.dst = some d ∧ getE A d = .v v ∧ (Instr.loadAt t (.pointer (some ⟨b, o, none⟩))).run P w = .ok v w) ∨ ∃ l off e, ev A ad = .loc l off ∧ findL L l = some e ∧ memN l no = false)) ∨
  ∃ s t y u d v, x.op = .convert s t y ∧ ev A y = .v u ∧ x.dst = some d ∧ getE A d = .v v ∧ (convert s t u).run P w = .ok v w
theorem reLoad_spec {L : List LE} {no : List Nat} {A : Env} {h : Hp} {w : World} (hh : ∀ b o, h b = some o → w.heap[b]? = some o) {x : Oper} (hl : isRead P x.op = true) {p : Prop} (hk : reLoad P L no A h x p) : Again P L no A w x ∧ p := by
  by_cases hcv : isConv P x.op = true
  · obtain ⟨s, t, y, e, hop, hus, hue, hut⟩ := isConv_spec hcv
    unfold reLoad at hk
    rw [hop] at hk
    dsimp only at hk
    split at hk
    · rename_i A0 n c hA
      split at hk
      · rename_i d hd
        split at hk
        · rename_i bs hg
          exact ⟨.inr ⟨s, t, y, _, d, _, hop, hA, hd, hg, conv_row hh hus hue hut hk.1⟩, hk.2⟩
        · exact hk.elim
      · exact hk.elim
    · exact hk.elim
  have hl : isLoad x.op = true := by unfold isRead at hl; simpa [hcv] using hl
  have : ∃ t ad, x.op = .load t ad := by
    cases hop : x.op <;> rw [hop] at hl <;> first | exact ⟨_, _, rfl⟩ | exact absurd hl Bool.false_ne_true
  obtain ⟨t, ad, hop⟩ := this
  unfold reLoad at hk
  rw [hop] at hk
  dsimp only at hk
  split at hk
  · rename_i b o hA
    split at hk
    · rename_i d hd
      have hq := grd_spec hk
      clear hk
      obtain ⟨hb, hk⟩ := hq
      rw [Bool.and_eq_true] at hb
      obtain ⟨⟨v, hv, hr⟩, hp⟩ := stillAt_spec hh hb.1 hb.2 hk
      exact ⟨.inl ⟨t, ad, hop, .inl ⟨b, o, d, v, hA, hd, hv, hr⟩⟩, hp⟩
    · exact hk.elim
  · rename_i l off hA
    split at hk
    · rename_i e hf
      split at hk
      · exact hk.elim
      · rename_i hm
        exact ⟨.inl ⟨t, ad, hop, .inr ⟨l, off, e, hA, hf, hm⟩⟩, hk⟩
    · exact hk.elim
  · exact hk.elim
theorem reOne_spec {L : List LE} {no : List Nat} {g : Nat → Nat} {A : Env} {h : Hp} {a : Act} {w : World} (F : FO g A a) (hh : ∀ b o, h b = some o → w.heap[b]? = some o) {x : Oper} {p : Prop} (hk : reOne P ops.toList L no A h x p) :
    (isRead P x.op = true → Region.wanted x (yielded ops a.tmps) = true → Again P L no A w x) ∧ p := by
  unfold reOne at hk
  split at hk
  · rename_i hl
    exact ⟨fun e => (by rw [hl] at e; cases e), hk⟩
  · rename_i hl
    split at hk
    · obtain ⟨h1, h2⟩ := reLoad_spec hh hl hk
      exact ⟨fun _ _ => h1, h2⟩
    · rename_i j want hg
      split at hk
      · rename_i d hd
        have hat := F.at_ d
        have hwanted : ∀ r : Option Bool, yielded ops a.tmps j = r → Region.wanted x (yielded ops a.tmps) = (r == some want) := by
          intro r hr; simp [Region.wanted, hg, hr]
        split at hk
        · rename_i b hA
          rw [hA] at hat
          have hw := hwanted _ (yielded_eq hd hat)
          simp only [boolOf] at hw
          cases b <;> cases want <;> simp only at hk hw
          · obtain ⟨h1, h2⟩ := reLoad_spec hh hl hk; exact ⟨fun _ _ => h1, h2⟩
          · exact ⟨fun _ e => (by rw [hw] at e; exact absurd e (by decide)), hk⟩
          · exact ⟨fun _ e => (by rw [hw] at e; exact absurd e (by decide)), hk⟩
          · obtain ⟨h1, h2⟩ := reLoad_spec hh hl hk; exact ⟨fun _ _ => h1, h2⟩
        · rename_i vs hA
          rw [hA] at hat
          have hw := hwanted _ (yielded_eq hd hat)
          exact ⟨fun _ e => (by rw [hw] at e; simp [boolOf] at e), hk⟩
        · exact hk.elim
      · exact hk.elim
theorem reAll_spec {L : List LE} {no : List Nat} {g : Nat → Nat} {A : Env} {h : Hp} {a : Act} {w : World} (F : FO g A a) (hh : ∀ b o, h b = some o → w.heap[b]? = some o) : ∀ {l : List Nat} {p : Prop}, reAll P ops.toList L no A h l p →
    (∀ i ∈ l, ∃ x, ops[i]? = some x ∧ (isRead P x.op = true → Region.wanted x (yielded ops a.tmps) = true → Again P L no A w x)) ∧ p
  | [], p, hk => ⟨fun i hi => (by cases hi), hk⟩
  | i :: l, p, hk => by
    unfold reAll at hk
    rw [Array.getElem?_toList] at hk
    cases hx : ops[i]? with
    | none => rw [hx] at hk; exact hk.elim
    | some x =>
      rw [hx] at hk
      obtain ⟨h1, h2⟩ := reOne_spec F hh hk
      obtain ⟨h3, h4⟩ := reAll_spec F hh h2
      refine ⟨fun k hkm => ?_, h4⟩
      rcases List.mem_cons.1 hkm with rfl | hkm
      · exact ⟨x, hx, h1⟩
      · exact h3 k hkm
/-- Behind what acts: what has been read may be read still. -/
theorem Live.past {x i : Nat} {oi : Oper} (hsel : ∀ (j : Nat) (o : Oper) cs b, ops[j]? = some o → o.op ≠ .select cs b) (hi : ops[i]? = some oi) (hix : Ind ops i x) {g g' : Nat → Nat} {A A' : Env} {L L' : List LE} {h h' : Hp} {a a' : Act} {w w' : World} {keep : List Nat}
    (F : FO g A a) (H : HO fr g L h w) (F' : FO g' A' a') (H' : HO fr g' L' h' w') (T : Tr (dW oi.dst) g (freezeL (keepLs keep) L) a w g' L' a' w')
    (hl : Live P ops x a w) (hag : ∃ o, ops[x]? = some o ∧ (isRead P o.op = true → Region.wanted o (yielded ops a'.tmps) = true → Again P L (dsts oi.dst ++ keep) A' w' o)) : Live P ops x a' w' := by
  obtain ⟨u, rfl⟩ := put_of T.un T.sz (F'.df.trans F.df.symm)
  obtain ⟨o, v, h1, h2, h3, h4⟩ := Live.put hsel hi hix (u := u) hl
  obtain ⟨o', ho', hag⟩ := hag
  rw [h1] at ho'
  cases ho'
  cases hlo : isRead P o.op with
  | false => exact ⟨o, v, h1, h2, h4 hlo w', fun e w2 => h4 e w2⟩
  | true =>
    rcases h3 with ⟨hw, hr⟩ | ⟨hw, rfl⟩
    · rcases hag hlo hw with ⟨t, ad, hop, hc⟩ | ⟨s, t, y, u1, d, val, hop, hA, hd, hv, hload⟩
      rotate_left
      · have hev := ev_is F' y
        rw [hA] at hev
        have hev : (a.put oi.dst u).eval y = u1 := hev
        have hdv := F'.at_ d
        rw [hv] at hdv
        have hdv : (a.put oi.dst u).tmps.getD d undef = val := hdv
        have hrun : (execOp (a.put oi.dst u).eval o).run P w' = .ok (.value val) w' := by
          unfold execOp
          rw [hop]
          simp only [Sem.run_bind, hev, hload, Result.andThen_ok, Sem.run_pure]
        refine ⟨o, val, h1, ?_, .inl ⟨hw, hrun⟩, fun e => (by rw [hlo] at e; cases e)⟩
        rw [hd]
        show ({ (a.put oi.dst u) with tmps := (a.put oi.dst u).tmps.setIfInBounds d val } : Act) = _
        have : (a.put oi.dst u).tmps.setIfInBounds d val = (a.put oi.dst u).tmps := by
          apply Array.ext_getElem?
          intro k
          by_cases hdk : d = k
          · subst hdk
            by_cases hds : d < (a.put oi.dst u).tmps.size
            · rw [← hdv]; simp [hds]
            · simp [hds]
          · rw [Array.getElem?_setIfInBounds_ne hdk]
        rw [this]
      have hrun : ∀ w2 v2, (Instr.loadAt t ((a.put oi.dst u).eval ad)).run P w2 = .ok v2 w2 → (execOp (a.put oi.dst u).eval o).run P w2 = .ok (.value v2) w2 := by
        intro w2 v2 e
        unfold execOp
        rw [hop]
        simp only [Sem.run_bind, e, Result.andThen_ok, Sem.run_pure]
      have hback : ∃ w3, (Instr.loadAt t ((a.put oi.dst u).eval ad)).run P w = .ok v w3 := by
        unfold execOp at hr
        rw [hop] at hr
        simp only [Sem.run_bind] at hr
        cases he : (Instr.loadAt t ((a.put oi.dst u).eval ad)).run P w with
        | ok v3 w3 => rw [he] at hr; simp at hr; exact ⟨w3, by rw [hr.1]⟩
        | halt y w3 => rw [he] at hr; simp at hr
      have hev := ev_is F' ad
      rcases hc with ⟨b, q, d, val, hA, hd, hv, hload⟩ | ⟨l, off, e, hA, hf, hno⟩
      · rw [hA] at hev
        have hev : (a.put oi.dst u).eval ad = .pointer (some ⟨b, q, none⟩) := hev
        rw [hev] at hrun
        have hdv := F'.at_ d
        rw [hv] at hdv
        have hdv : (a.put oi.dst u).tmps.getD d undef = val := hdv
        refine ⟨o, val, h1, ?_, .inl ⟨hw, hrun w' val hload⟩, fun e => (by rw [hlo] at e; cases e)⟩
        rw [hd]
        show ({ (a.put oi.dst u) with tmps := (a.put oi.dst u).tmps.setIfInBounds d val } : Act) = _
        have : (a.put oi.dst u).tmps.setIfInBounds d val = (a.put oi.dst u).tmps := by
          apply Array.ext_getElem?
          intro k
          by_cases hdk : d = k
          · subst hdk
            by_cases hds : d < (a.put oi.dst u).tmps.size
            · rw [← hdv]; simp [hds]
            · simp [hds]
          · rw [Array.getElem?_setIfInBounds_ne hdk]
        rw [this]
      · rw [hA] at hev
        have hev : (a.put oi.dst u).eval ad = .pointer (some ⟨g' l, off, none⟩) := hev
        obtain ⟨w3, hback⟩ := hback
        rw [hev] at hrun hback
        have hno1 : memN l (dsts oi.dst) = false := memN_l hno
        have hno2 : memN l keep = false := memN_r hno
        have hgl : g' l = g l := T.gg l hno1
        obtain ⟨hem, hel⟩ := findL_mem hf
        have hem' : (⟨e.l, false, e.t, e.cs⟩ : LE) ∈ L' := T.kp _ (freezeL_mem hem (.inr (by
          intro hmem
          have : e.l ∈ keep := by simpa [keepLs] using hmem
          rw [hel] at this
          rw [memN_iff.2 this] at hno2; cases hno2))) rfl
        obtain ⟨cs, q⟩ := H.ll e hem
        obtain ⟨cs', q'⟩ := H'.ll _ hem'
        have hcs : cs' = cs := by
          apply Array.ext (by rw [q.sz, q'.sz])
          intro k hk1 hk2
          have hk3 : k < e.cs.length := by rw [← q.sz]; exact hk2
          have e1 := q.is_ k hk3
          have e2 := q'.is_ k hk3
          have hp : (getN e.cs k).plain = true := by rw [getN_eq, List.getElem?_eq_getElem hk3]; exact q.pl _ (List.getElem_mem _)
          have := is_unique hp e1 (AV.is_plain (g' := g) hp e2)
          simp only [Array.getD, hk1, hk2, dif_pos] at this
          exact this.symm
        have hb1 : w.heap[g l]? = some (.cells cs e.t (0, 0)) := by rw [← hel]; exact q.at_
        have hb2 : w'.heap[g l]? = some (.cells cs e.t (0, 0)) := by rw [← hgl, ← hel, ← hcs]; exact q'.at_
        rw [hgl] at hback hrun
        refine ⟨o, v, h1, h2, .inl ⟨hw, hrun w' v (OnlyB.run (OnlyB.loadAt _ _ t) hb1 hb2 hback)⟩, fun e => (by rw [hlo] at e; cases e)⟩
    · exact ⟨o, undef, h1, h2, .inr ⟨hw, rfl⟩, fun e => (by rw [hlo] at e; cases e)⟩
where
  memN_l {i : Nat} {l k : List Nat} (h : memN i (l ++ k) = false) : memN i l = false := by rw [memN_append] at h; simp at h; exact h.1
  memN_r {i : Nat} {l k : List Nat} (h : memN i (l ++ k) = false) : memN i k = false := by rw [memN_append] at h; simp at h; exact h.2
end
end Go.Eng
