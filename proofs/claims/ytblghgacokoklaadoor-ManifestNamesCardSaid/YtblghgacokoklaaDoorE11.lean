/-
  THE ENGINE, 12: binary operators whole; conversions; least and greatest.
-/
import Derived.Test.YtblghgacokoklaaDoorE10
set_option linter.unusedSimpArgs false
set_option linter.unusedVariables false
namespace Go.Eng
section
variable {P : Program} {lo : List Nat} {fr : Hp} {g : Nat → Nat} {L : List LE} {h : Hp} {w : World} {K : KO}

theorem run_sameAddr (H : HO fr g L h w) {a b : Addr} (hs : a.block ≠ b.block → solid h a ∧ solid h b) : (sameAddr a b).run P w = .ok (decide (a = b)) w := by
  unfold sameAddr
  by_cases hb : a.block = b.block
  · simp [hb, Sem.run_pure]
    by_cases hab : a = b <;> simp [hab]
  · obtain ⟨⟨c, t, hc, h0⟩, ⟨c', t', hc', h0'⟩⟩ := hs hb
    have e1 := H.hh _ _ hc
    have e2 := H.hh _ _ hc'
    have hne : a ≠ b := fun e => hb (by rw [e])
    have f1 : ∀ x : Addr, x.block = a.block → w.frozen? x = false := fun x hx => by simp [World.frozen?, hx, e1]
    have f2 : ∀ x : Addr, x.block = b.block → w.frozen? x = false := fun x hx => by simp [World.frozen?, hx, e2]
    have s1 : w.shape? a.block = some (t, c.size) := by simp [World.shape?, e1]
    have s2 : w.shape? b.block = some (t', c'.size) := by simp [World.shape?, e2]
    have v1 : (noView a).run P w = .ok () w := by simp [noView, viewAt, shape, Sem.run, s1]
    have v2 : (noView b).run P w = .ok () w := by simp [noView, viewAt, shape, Sem.run, s2]
    have t1 : (stringish a).run P w = .ok false w := by simp [stringish, frozen, shape, Sem.run, s1, f1 a rfl, f1 ⟨a.block, c.size, none⟩ rfl]
    have t2 : (stringish b).run P w = .ok false w := by simp [stringish, frozen, shape, Sem.run, s2, f2 b rfl, f2 ⟨b.block, c'.size, none⟩ rfl]
    have m : (mayBeOne a b).run P w = .ok false w := by simp [mayBeOne, t1, t2]
    have fz : (frozen a).run P w = .ok false w := by simp [frozen, Sem.run, f1 a rfl]
    have fz2 : (frozen b).run P w = .ok false w := by simp [frozen, Sem.run, f2 b rfl]
    simp [hb, fz, fz2, v1, v2, m, hne]
theorem equal_succ (t : Nat) (x y : Value) : ∃ d, Op.equal t x y = Op.equalIn (d + 1) t x y := ⟨9999, rfl⟩
theorem eq_ok' (H : HO fr g L h w) {op : BinOp} {t : Nat} {c : Prop} {b : Bool} {x y : Value} (hne : op = .eql ∨ op = .neq)
    (hgd : ∀ u v, (eqGuard op t u v x y).run P w = .ok () w) (hb : (Op.equal t x y).run P w = .ok b w) (hbc : b = true ↔ c)
    (hbin : (binOp op t x y).run P w = ((Op.equal t x y).run P w).andThen fun b w' => .ok (.bool (if op = .eql then b else !b)) w') (hk : tf op c L h K) (u v : Operand) :
    Out fr g L w ((do eqGuard op t u v x y; binOp op t x y : Sem Value).run P w) K := by
  have hr : (do eqGuard op t u v x y; binOp op t x y : Sem Value).run P w = .ok (.bool (if op = .eql then b else !b)) w := by
    simp only [Sem.run_bind, hgd, Result.andThen_ok, hbin, hb]
  rcases hne with rfl | rfl
  · exact Out.tf H hr (by simpa using hbc) hk
  · refine Out.ft H hr ?_ hk
    simp only [reduceCtorEq, if_false, Bool.not_eq_true']
    rw [← Bool.not_eq_true]
    exact not_congr hbc
theorem tf_op {op : BinOp} {c : Prop} (hk : tf op c L h K) : op = .eql ∨ op = .neq := by
  cases op <;> first | exact .inl rfl | exact .inr rfl | exact False.elim hk
theorem eq_ok (H : HO fr g L h w) {op : BinOp} {t : Nat} {x y : Value} (hk : dEq P op t x y L h K) (u v : Operand) : Out fr g L w ((do eqGuard op t u v x y; binOp op t x y : Sem Value).run P w) K := by
  unfold dEq at hk
  cases hd : under P t <;> rw [hd] at hk <;> try exact False.elim hk
  all_goals have hut := under_some hd (by simp)
  case bool =>
    cases x with
    | bool a => cases y with
      | bool b =>
        refine eq_ok' H (b := a == b) (tf_op hk) (fun u v => by rcases tf_op hk with rfl | rfl <;> simp [eqGuard]) ?_ (by simp) ?_ hk u v
        · (obtain ⟨d, hd'⟩ := equal_succ t _ _; rw [hd']; simp [Op.equalIn, run_underlying hut])
        · rcases tf_op hk with rfl | rfl <;> simp [binOp]
      | _ => exact False.elim hk
    | _ => exact False.elim hk
  case pointer e =>
    cases x with
    | pointer p => cases y with
      | pointer q =>
        have hq := grd_spec hk
        clear hk
        obtain ⟨hg, hok, hk⟩ := hq
        simp only [Bool.and_eq_true, Bool.not_eq_true', beq_eq_false_iff_ne] at hg
        obtain ⟨hie, hsz⟩ := hg
        have hrun : ∃ b, (Op.equal t (.pointer p) (.pointer q)).run P w = .ok b w ∧ (b = true ↔ p = q) := by
          cases p with
          | none => cases q with
            | none => exact ⟨true, by obtain ⟨d, hd'⟩ := equal_succ t _ _; rw [hd']; simp [Op.equalIn, run_underlying hut], by simp⟩
            | some b => exact ⟨false, by obtain ⟨d, hd'⟩ := equal_succ t _ _; rw [hd']; simp [Op.equalIn, run_underlying hut], by simp⟩
          | some a => cases q with
            | none => exact ⟨false, by obtain ⟨d, hd'⟩ := equal_succ t _ _; rw [hd']; simp [Op.equalIn, run_underlying hut], by simp⟩
            | some b =>
              refine ⟨decide (a = b), ?_, by simp⟩
              obtain ⟨d, hd'⟩ := equal_succ t (.pointer (some a)) (.pointer (some b))
              rw [hd']
              simp only [Op.equalIn, Sem.run_bind, run_underlying hut, Result.andThen_ok, run_sizeOf' hie, ne_eq, hsz, not_false_eq_true, if_true]
              exact run_sameAddr H (hok a b rfl rfl)
        obtain ⟨b, hb, hbc⟩ := hrun
        refine eq_ok' H (tf_op hk) (fun u v => by rcases tf_op hk with rfl | rfl <;> simp [eqGuard]) hb hbc ?_ hk u v
        rcases tf_op hk with rfl | rfl <;> simp [binOp]
      | _ => exact False.elim hk
    | _ => exact False.elim hk
  case slice e =>
    cases x with
    | slice a n c => cases y with
      | slice b m d =>
        cases b with
        | some b => exact False.elim hk
        | none =>
          refine eq_ok' H (b := a.isNone) (c := a = none) (tf_op hk) (fun u v => by rcases tf_op hk with rfl | rfl <;> simp [eqGuard]) ?_ (by simp) ?_ hk u v
          · cases a <;> (obtain ⟨d, hd'⟩ := equal_succ t _ _; rw [hd']; simp [Op.equalIn, run_underlying hut])
          · rcases tf_op hk with rfl | rfl <;> simp [binOp]
      | _ => exact False.elim hk
    | _ => exact False.elim hk
  case map kt et =>
    cases x with
    | map a => cases y with
      | map b =>
        cases b with
        | some b => exact False.elim hk
        | none =>
          refine eq_ok' H (b := a.isNone) (c := a = none) (tf_op hk) (fun u v => by rcases tf_op hk with rfl | rfl <;> simp [eqGuard]) ?_ (by simp) ?_ hk u v
          · cases a <;> (obtain ⟨d, hd'⟩ := equal_succ t _ _; rw [hd']; simp [Op.equalIn, run_underlying hut])
          · rcases tf_op hk with rfl | rfl <;> simp [binOp]
      | _ => exact False.elim hk
    | _ => exact False.elim hk
  case struct fs =>
    cases x with
    | agg cs => cases y with
      | agg ds =>
        obtain ⟨vs⟩ := cs
        obtain ⟨ws⟩ := ds
        have hq := grd_spec hk
        clear hk
        obtain ⟨hg, hk⟩ := hq
        simp only [Bool.and_eq_true, Bool.not_eq_true'] at hg
        obtain ⟨⟨⟨⟨he, ht⟩, hgt⟩, hv⟩, hw⟩ := hg
        have hag : isAggB P t = true := by unfold isAggB; rw [hd]
        obtain ⟨_, b, hb, hbc⟩ := eq_run (P := P) (w := w) 8 9992 t vs ws he ht hv hw
        rw [mkv_agg hag, mkv_agg hag] at hb
        refine eq_ok' H (b := b) (tf_op hk) (fun u v => by rcases tf_op hk with rfl | rfl <;> simp [eqGuard, hgt]) hb hbc ?_ hk u v
        rcases tf_op hk with rfl | rfl <;> simp [binOp]
      | _ => exact False.elim hk
    | _ => exact False.elim hk
theorem bin_ok (H : HO fr g L h w) {op : BinOp} {t : Nat} {x y : AV} {a b : Value} (hk : dBin P op t x y L h K) (hx : x.is g a) (hy : y.is g b) (u v : Operand) :
    Out fr g L w ((do eqGuard op t u v a b; binOp op t a b : Sem Value).run P w) K := by
  have gen : x.get (fun v => y.get fun u => dEq P op t v u L h K) → Out fr g L w ((do eqGuard op t u v a b; binOp op t a b : Sem Value).run P w) K := by
    intro hk
    exact eq_ok H (AV.is_get hy (AV.is_get hx hk)) u v
  have pre : ∀ (a b : Value), (∀ u v, (eqGuard op t u v a b).run P w = .ok () w) → Out fr g L w ((binOp op t a b).run P w) K → Out fr g L w ((do eqGuard op t u v a b; binOp op t a b : Sem Value).run P w) K := by
    intro a b h1 h2
    simp only [Sem.run_bind, h1, Result.andThen_ok]
    exact h2
  unfold dBin at hk
  cases x with
  | v xv =>
    have ha : a = xv := hx
    subst ha
    cases a with
    | int k n =>
      cases y with
      | v yv =>
        have hb : b = yv := hy
        subst hb
        cases b with
        | int k' m => exact pre _ _ (fun u v => by cases op <;> simp [eqGuard]) (int_ok H hk)
        | _ => exact False.elim hk
      | _ => exact False.elim hk
    | string s =>
      cases y with
      | v yv =>
        have hb : b = yv := hy
        subst hb
        cases b with
        | string s' => exact pre _ _ (fun u v => by cases op <;> simp [eqGuard]) (str_ok H hk)
        | _ => exact False.elim hk
      | _ => exact False.elim hk
    | _ => exact gen hk
  | _ => exact gen hk
theorem conv_ok (H : HO fr g L h w) {src dst : Nat} {x : AV} {y : Value} (hk : dConv P src dst x L h K) (hx : x.is g y) : Out fr g L w ((convert src dst y).run P w) K := by
  unfold dConv at hk
  cases hd : under P dst <;> rw [hd] at hk <;> try exact False.elim hk
  all_goals have hut := under_some hd (by simp)
  case int k =>
    cases x with
    | v xv =>
      have hy : y = xv := hx
      subst hy
      cases y with
      | int k' n =>
        have hq := grd_spec hk
        clear hk
        obtain ⟨hus, hk⟩ := hq
        refine Out.here H (x := .v _) ?_ rfl hk
        unfold convert
        simp only [Sem.run_bind, run_underlying (hasUnder_some hus), run_underlying hut, Result.andThen_ok]
        cases under P src <;> simp [Conv.intToInt]
      | _ => exact False.elim hk
    | _ => exact False.elim hk
  case string =>
    cases x with
    | v xv =>
      have hy : y = xv := hx
      subst hy
      cases y with
      | string s =>
        dsimp only at hk
        cases hs : under P src <;> rw [hs] at hk <;> try exact False.elim hk
        have hus := under_some hs (by simp)
        refine Out.here H (x := .v _) ?_ rfl hk
        simp [convert, run_underlying hus, run_underlying hut]
      | slice a n c =>
        dsimp only at hk
        cases hs : under P src <;> rw [hs] at hk <;> try exact False.elim hk
        rename_i e
        have hus := under_some hs (by simp)
        dsimp only at hk
        cases he : under P e <;> rw [he] at hk <;> try exact False.elim hk
        rename_i ek
        have hue := under_some he (by simp)
        cases ek <;> try exact False.elim hk
        obtain ⟨s, ⟨hl, hrow⟩, hk⟩ := hk
        rw [bytesV_length] at hl
        subst hl
        refine Out.here H (x := .v (.string s)) (v := .string s) ?_ rfl hk
        have sn : strOfNums (s.data.toList.map fun b => (b.toNat : Int)) = s := by
          unfold strOfNums
          apply ByteArray.ext
          apply Array.ext'
          simp only [List.map_map]
          have : ((fun n : Int => UInt8.ofNat n.toNat) ∘ fun b : UInt8 => (b.toNat : Int)) = id := by funext b; simp
          rw [this]
          simp
        rcases hrow with h0 | ⟨b, o, rfl, hat⟩
        · have hse : s = ByteArray.empty := by
            apply ByteArray.ext
            apply Array.ext'
            have : s.data.toList.length = 0 := by rw [Array.length_toList]; exact h0
            rw [List.eq_nil_of_length_eq_zero this]
            rfl
          cases a with
          | none => rw [hse]; exact run_convert_bytes_nil w src e hus hue _ _ dst hut
          | some ad =>
            have hr := run_convert_bytes_string w src dst e (some ad) s.size c hus hue hut
            rw [hr, h0, hse]
            simp [Conv.bytesToString, loadCells, loadCellsFrom]
        · have := run_convert_bytes_arg (P := P) w src e hus hue b o s.size c (s.data.toList.map fun b => (b.toNat : Int)) (by rw [List.length_map, Array.length_toList]; rfl)
            (fun i hi => by
              have h1 := hat i hi
              have hil : i < s.data.toList.length := by rw [Array.length_toList]; exact hi
              have h2 : (bytesV s)[i]? = some (.int .u8 ((s.data.toList.map fun b => (b.toNat : Int)).getD i 0)) := by
                simp [bytesV, List.getD_eq_getElem?_getD, List.getElem?_eq_getElem hil]
              rw [h2] at h1
              exact cell_of H.hh h1) dst hut
          rw [sn] at this
          exact this
      | _ => exact False.elim hk
    | _ => exact False.elim hk
  case slice e =>
    cases x with
    | v xv =>
      have hy : y = xv := hx
      subst hy
      cases y with
      | string s =>
        dsimp only at hk
        cases hs : under P src <;> rw [hs] at hk <;> try exact False.elim hk
        have hus := under_some hs (by simp)
        dsimp only at hk
        cases he : under P e <;> rw [he] at hk <;> try exact False.elim hk
        rename_i ek
        have hue := under_some he (by simp)
        cases ek <;> try exact False.elim hk
        have hge : s.size ≤ grownCap w s.size 0 e := by simp [grownCap, Question.cut]
        have hrun : ∃ w1, (convert src dst (.string s)).run P w = .ok (.slice (some ⟨w.heap.size, 0, none⟩) s.size (grownCap w s.size 0 e)) w1 ∧
            New w w1 (.cells ⟨bytesV s ++ List.replicate (grownCap w s.size 0 e - s.size) (.int .u8 0)⟩ e (grownCap w s.size 0 e, grownCap w s.size 0 e + 1)) := by
          have hsize : (⟨bytesV s ++ List.replicate (grownCap w s.size 0 e - s.size) (.int .u8 0)⟩ : Array Value).size = grownCap w s.size 0 e := by
            simp [bytesV_length]; omega
          have harr : (s.data.map fun b => Value.int .u8 b.toNat) ++ Array.replicate (grownCap w s.size 0 e - s.size) (.int .u8 0) = ⟨bytesV s ++ List.replicate (grownCap w s.size 0 e - s.size) (.int .u8 0)⟩ := by
            apply Array.ext'; simp [bytesV]
          generalize hC : (⟨bytesV s ++ List.replicate (grownCap w s.size 0 e - s.size) (.int .u8 0)⟩ : Array Value) = C at *
          have hch : (choose (.appendCap s.size 0 e)).run P w = .ok (grownCap w s.size 0 e) { w with drawn := w.drawn + 1 } := by
            simp [choose, Sem.run, Question.forced, grownCap]
          refine ⟨({ w with heap := w.heap.push (.cells C e (0, 0)), drawn := w.drawn + 1 } : World).freeze ⟨w.heap.size, C.size, none⟩ 1, ?_, ?_⟩
          · unfold convert
            simp only [Sem.run_bind, run_underlying hus, run_underlying hut, run_underlying hue, Result.andThen_ok]
            unfold Conv.stringToBytes
            have hnew : (newRow e C).run P { w with drawn := w.drawn + 1 } = .ok ⟨w.heap.size, 0, none⟩ { w with heap := w.heap.push (.cells C e (0, 0)), drawn := w.drawn + 1 } := rfl
            have hshape : (shape w.heap.size).run P { w with heap := w.heap.push (.cells C e (0, 0)), drawn := w.drawn + 1 } = .ok (some (e, C.size)) { w with heap := w.heap.push (.cells C e (0, 0)), drawn := w.drawn + 1 } := by
              show Result.ok _ _ = _
              simp [World.shape?]
            have hmark : (markStringish ⟨w.heap.size, 0, none⟩).run P { w with heap := w.heap.push (.cells C e (0, 0)), drawn := w.drawn + 1 } = .ok () (({ w with heap := w.heap.push (.cells C e (0, 0)), drawn := w.drawn + 1 } : World).freeze ⟨w.heap.size, C.size, none⟩ 1) := by
              unfold markStringish
              simp only [Sem.run_bind, hshape, Result.andThen_ok]
              rfl
            simp only [Sem.run_bind, hch, Result.andThen_ok, harr, hnew, hmark, Sem.run_pure]
          · have hfz : ∀ k, (({ w with heap := w.heap.push (.cells C e (0, 0)), drawn := w.drawn + 1 } : World).freeze ⟨w.heap.size, C.size, none⟩ 1).heap[k]? = if w.heap.size = k then some (.cells C e (C.size, C.size + 1)) else (w.heap.push (.cells C e (0, 0)))[k]? := by
              intro k
              unfold World.freeze
              rw [if_neg (by omega)]
              simp only [Array.getElem?_modify]
              by_cases hk' : w.heap.size = k
              · subst hk'; simp
              · simp [hk']
            refine ⟨?_, fun k hk' => ?_, ?_, ?_, ?_, ?_⟩
            · rw [hfz, if_pos rfl, hsize]
            · rw [hfz, if_neg (by omega), Array.getElem?_push, if_neg (by omega)]
            · simp [World.freeze]
            all_goals simp [World.freeze]
        obtain ⟨w1, hr, hn⟩ := hrun
        exact ⟨.v (.slice (some ⟨w.heap.size, 0, none⟩) s.size (grownCap w s.size 0 e)), L, _, _, w1, hr, rfl, HO.new_heap H hn, hn.wr, Kp.refl L, hk _ _ (H.none_h (Nat.le_refl _)) hge⟩
      | slice A n c =>
        dsimp only at hk
        split at hk
        · rename_i b o
          cases hs : under P src <;> rw [hs] at hk <;> try exact False.elim hk
          have hus := under_some hs (by simp)
          dsimp only at hk
          cases hsd : src == dst with
          | false => rw [hsd] at hk; exact False.elim hk
          | true =>
            rw [hsd] at hk
            dsimp only at hk
            cases he : under P e <;> rw [he] at hk <;> try exact False.elim hk
            rename_i ek
            have hue := under_some he (by simp)
            cases ek <;> try exact False.elim hk
            obtain ⟨cs, t, hb, hk⟩ := hk
            have hwb := H.hh b _ hb
            let w' : World := w.freeze ⟨b, cs.size, none⟩ 1
            have hbs : b < w.heap.size := (Array.getElem?_eq_some_iff.1 hwb).1
            have hl : Laid w w' b (.cells cs t (cs.size, cs.size + 1)) := by
              have hwh : w'.heap = w.heap.modify b fun
                  | .cells c elem (lo, hi) => .cells c elem (if lo == hi then (cs.size, cs.size + 1) else (min lo cs.size, max hi (cs.size + 1)))
                  | o => o := by
                simp only [w', World.freeze]
                rw [if_neg (by decide)]
                congr 1
              refine ⟨?_, fun k hkb => ?_, ?_, rfl, rfl, rfl⟩
              · rw [hwh, Array.getElem?_modify, if_pos rfl, hwb]; rfl
              · rw [hwh, Array.getElem?_modify, if_neg (Ne.symm hkb)]
              · rw [hwh, Array.size_modify]
            refine ⟨.v _, L, _, _, w', ?_, rfl, HO.upd H (by rw [hb]; simp) hl, hl.wr, Kp.refl L, hk⟩
            have hsh : w.shape? b = some (t, cs.size) := by simp [World.shape?, hwb]
            unfold convert
            simp only [Sem.run_bind, run_underlying hus, run_underlying hut, Result.andThen_ok, run_underlying hue, hsd, markStringish]
            simp [shape, Sem.run, hsh, freeze, w']
        · exact False.elim hk
      | _ => exact False.elim hk
    | _ => exact False.elim hk
end
end Go.Eng
