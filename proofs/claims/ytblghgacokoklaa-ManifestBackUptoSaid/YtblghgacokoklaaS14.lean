/-
  SPECS, 14: what Get tells of what Put wrote, whole or cut.
-/
import Derived.Test.YtblghgacokoklaaS13
set_option linter.unusedSimpArgs false
set_option linter.unusedVariables false
namespace Go.Eng.Ytblghgacokoklaa
def Edit.size (e : Edit) : Nat := e.out.length + e.inn.length
theorem Good.told {e : Edit} (G : Good e) : e.told = true := by
  unfold Edit.told
  simp only [Bool.and_eq_true, List.all_eq_true, decide_eq_true_eq]
  refine ⟨fun p hp => ?_, fun p hp => ?_, G.ptr, G.nptr⟩
  · have := G.out p hp
    unfold Place.told
    rw [decide_eq_true_eq]
    exact ⟨this.l0, by have := this.l4; omega⟩
  · have q := G.inn p hp
    unfold Placed.told
    rw [decide_eq_true_eq]
    exact ⟨q.l0, by have := q.l4; omega, q.w0, q.b0, q.e0, q.least, q.greatest⟩
theorem Good.valid {e : Edit} (G : Good e) : e.valid :=
  ⟨G.log, G.next, G.seq, fun p hp => ⟨by have := (G.out p hp).l4; omega, (G.out p hp).num⟩, fun p hp => ⟨by have := (G.inn p hp).l4; omega, (G.inn p hp).num, by have := (G.inn p hp).w1; omega, by have := (G.inn p hp).b1; omega, by have := (G.inn p hp).e1; omega⟩⟩
theorem Good.front {e : Edit} (G : Good e) : Good (front e) := ⟨G.log, G.next, G.seq, fun p hp => G.out p (List.mem_of_mem_take hp), fun p hp => G.inn p (List.mem_of_mem_take hp), G.ptr, G.nptr⟩
theorem Good.behind {e : Edit} (G : Good e) : Good (behind e) := ⟨G.log, G.next, G.seq, fun p hp => G.out p (List.mem_of_mem_drop hp), fun p hp => G.inn p (List.mem_of_mem_drop hp), G.ptr, G.nptr⟩
theorem Good.noptr {e : Edit} (G : Good e) : Good { e with ptr := [] } := ⟨G.log, G.next, G.seq, G.out, G.inn, fun p hp => (by cases hp), Nat.zero_le _⟩
/-- What of an edit a record tells that is not its last. -/
def piece (e : Edit) : Edit := { front e with ptr := [] }
theorem behind_size (e : Edit) : (behind e).size = e.size - 256 := by
  simp only [Edit.size, behind, List.length_drop]
  omega
theorem front_size (e : Edit) : (front e).size = min e.size 256 := by
  simp only [Edit.size, front, List.length_take]
  omega
theorem putF_last {f : Nat} {e : Edit} (h : e.size ≤ 256) : putF (f + 1) e = [recB (front e) true] := by
  have := behind_size e
  unfold Edit.size at this h
  unfold putF
  rw [if_pos (by omega)]
theorem putF_more {f : Nat} {e : Edit} (h : 256 < e.size) : putF (f + 1) e = recB (piece e) false :: putF f (behind e) := by
  have := behind_size e
  unfold Edit.size at this h
  conv => lhs; unfold putF
  rw [if_neg (by omega)]
  rfl
theorem front_all {e : Edit} (h : e.size ≤ 256) : front e = e := by
  unfold Edit.size at h
  cases e
  simp only [front] at h ⊢
  rw [List.take_of_length_le (by omega), List.take_of_length_le (by omega)]
theorem put_eq {e : Edit} (G : Good e) : putS e = putF (e.size + 1) e := by
  unfold putS Edit.size
  rw [if_pos G.told]
theorem putF_length : ∀ (f : Nat) (e : Edit), e.size < f → (putF f e).length = max 1 ((e.size + 255) / 256)
  | 0, e, h => absurd h (Nat.not_lt_zero _)
  | f + 1, e, h => by
    by_cases hs : e.size ≤ 256
    · rw [putF_last hs, List.length_singleton]; omega
    · have hb := behind_size e
      rw [putF_more (by omega), List.length_cons, putF_length f (behind e) (by omega), hb]
      omega
/-- The k-th record. -/
theorem putF_get : ∀ (f : Nat) (e : Edit), Good e → e.size < f → ∀ (k : Nat) (hk : k < (putF f e).length), ∃ x, Good x ∧ x.size ≤ 256 ∧ (putF f e)[k] = recB x (decide (k + 1 = (putF f e).length))
  | 0, e, _, h, _, _ => absurd h (Nat.not_lt_zero _)
  | f + 1, e, G, h, k, hk => by
    have hf := front_size e
    by_cases hs : e.size ≤ 256
    · have e1 := putF_last (f := f) hs
      refine ⟨front e, G.front, by omega, ?_⟩
      have hk0 : k = 0 := by rw [e1, List.length_singleton] at hk; omega
      subst hk0
      simp only [e1, List.getElem_cons_zero, List.length_singleton]
      rfl
    · have e1 := putF_more (f := f) (e := e) (by omega)
      have hb := behind_size e
      have hlen := putF_length f (behind e) (by omega)
      cases k with
      | zero =>
        refine ⟨piece e, G.front.noptr, by show (front e).size ≤ 256; omega, ?_⟩
        simp only [e1, List.getElem_cons_zero, List.length_cons]
        rw [decide_eq_false (by omega)]
      | succ k =>
        have hk2 : k < (putF f (behind e)).length := by rw [e1, List.length_cons] at hk; omega
        obtain ⟨x, hx, hsz, hget⟩ := putF_get f (behind e) G.behind (by omega) k hk2
        refine ⟨x, hx, hsz, ?_⟩
        simp only [e1, List.getElem_cons_succ, List.length_cons, hget]
        congr 1
        simp
theorem recB_length {x : Edit} (G : Good x) (h : x.size ≤ 256) (b : Bool) : (recB x b).length < 262144 := by
  unfold Edit.size at h
  have h1 := flatMap_le Place.enc 20 x.out (fun p _ => p.enc_length)
  have h2 := flatMap_le Placed.enc 198 x.inn (fun p hp => Placed.enc_length (by
    have q := G.inn p hp
    exact ⟨⟨q.l0, by have := q.l4; omega⟩, q.num, ⟨q.w0, by have := q.w1; omega⟩, ⟨q.b0, by have := q.b1; omega⟩, ⟨q.e0, by have := q.e1; omega⟩, q.least, q.greatest⟩))
  have h3 := flatMap_le encT 74 x.ptr (fun p hp => encT_length (G.ptr p hp))
  have h4 := encs_len [x.log, x.next, x.seq, (x.out.length : Int)] 4 rfl
  have h5 := encs_len [(x.inn.length : Int)] 1 rfl
  have h6 := encs_len [(x.ptr.length : Int)] 1 rfl
  have h7 := G.nptr
  unfold recB
  simp only [List.length_cons, List.length_append]
  omega
theorem sameP_all {e : Edit} {recs : List (List Int)} (h : putS e = recs) : sameP e recs true = true := by
  unfold sameP
  rw [h, if_neg (Nat.lt_irrefl _), if_neg (fun hh => hh.2 rfl), List.take_length]
  simp
theorem rd_front {e : Edit} (G : Good e) (b : Bool) : rd (recB (front e) b) = some (front e, b) := by
  have := front_size e
  unfold Edit.size at this
  exact rd_enc G.front (by omega) (by omega) b
theorem rd_piece {e : Edit} (G : Good e) : rd (recB (piece e) false) = some (piece e, false) := by
  have := front_size e
  unfold Edit.size at this
  exact rd_enc G.front.noptr (by show (front e).out.length < _; omega) (by show (front e).inn.length < _; omega) false
theorem take_drop_app {α : Type} (l : List α) (n : Nat) : l.take n ++ l.drop n = l := List.take_append_drop n l
/-- The records of an edit, behind those that have been read. -/
theorem getR_putF : ∀ (f : Nat) (E e cur : Edit) (done : List (List Int)) (acc : List Edit) (rs : List (List Int)), Good e → e.size < f → E = joinE cur e done → putS E = done ++ putF f e →
    getR (putF f e ++ rs) acc cur done = getR rs (acc ++ [E]) zE []
  | 0, _, e, _, _, _, _, _, h, _, _ => absurd h (Nat.not_lt_zero _)
  | f + 1, E, e, cur, done, acc, rs, G, h, hE, hput => by
    by_cases hs : e.size ≤ 256
    · have e1 := putF_last (f := f) hs
      rw [e1] at hput ⊢
      have hr := rd_front G true
      rw [front_all hs] at hr hput ⊢
      show getR (recB e true :: rs) acc cur done = _
      rw [getR_some hr]
      simp only [if_true]
      rw [← hE, if_pos (sameP_all hput)]
    · have e1 := putF_more (f := f) (e := e) (by omega)
      have hb := behind_size e
      rw [e1] at hput ⊢
      show getR (recB (piece e) false :: (putF f (behind e) ++ rs)) acc cur done = _
      rw [getR_some (rd_piece G)]
      simp only [Bool.false_eq_true, if_false]
      refine getR_putF f E (behind e) _ _ acc rs G.behind (by omega) ?_ (by rw [hput]; simp)
      rw [hE]
      have hne : ¬ (done ++ [recB (piece e) false]).length = 0 := by simp
      unfold joinE
      rw [if_neg hne]
      by_cases hd : done.length = 0
      · rw [if_pos hd, if_pos hd]
        cases e
        simp [piece, front, behind]
      · rw [if_neg hd, if_neg hd]
        cases e
        simp [piece, front, behind, List.append_assoc]
theorem getR_put {e : Edit} (G : Good e) (acc : List Edit) (rs : List (List Int)) : getR (putS e ++ rs) acc zE [] = getR rs (acc ++ [e]) zE [] := by
  have h := put_eq G
  rw [h]
  exact getR_putF (e.size + 1) e e zE [] acc rs G (Nat.lt_succ_self _) (by unfold joinE; rw [if_pos List.length_nil]) (by rw [h]; rfl)
theorem getR_all : ∀ (L acc : List Edit) (rs : List (List Int)), (∀ e ∈ L, Good e) → getR (L.flatMap putS ++ rs) acc zE [] = getR rs (acc ++ L) zE []
  | [], acc, rs, _ => by simp
  | e :: L, acc, rs, h => by
    rw [List.flatMap_cons, List.append_assoc, getR_put (h e List.mem_cons_self), getR_all L _ rs fun x hx => h x (List.mem_cons_of_mem _ hx)]
    simp
/-- What the first k records (none of them the last) tell. -/
def pre : Nat → Edit → Edit
  | 0, e => ⟨e.log, e.next, e.seq, [], [], []⟩
  | k + 1, e => ⟨e.log, e.next, e.seq, (front e).out ++ (pre k (behind e)).out, (front e).inn ++ (pre k (behind e)).inn, []⟩
theorem pre_rest (k : Nat) (e : Edit) : (pre k e).log = e.log ∧ (pre k e).next = e.next ∧ (pre k e).seq = e.seq ∧ (pre k e).ptr = [] := by cases k <;> exact ⟨rfl, rfl, rfl, rfl⟩
theorem pre_out : ∀ (k : Nat) (e : Edit), (∃ t, e.out = (pre k e).out ++ t) ∧ ∃ t, e.inn = (pre k e).inn ++ t
  | 0, e => ⟨⟨e.out, rfl⟩, ⟨e.inn, rfl⟩⟩
  | k + 1, e => by
    obtain ⟨⟨t, ht⟩, ⟨u, hu⟩⟩ := pre_out k (behind e)
    refine ⟨⟨t, ?_⟩, ⟨u, ?_⟩⟩
    · show e.out = (e.out.take 256 ++ (pre k (behind e)).out) ++ t
      rw [List.append_assoc, ← ht]
      exact (List.take_append_drop 256 e.out).symm
    · show e.inn = (e.inn.take (256 - min e.out.length 256) ++ (pre k (behind e)).inn) ++ u
      rw [List.append_assoc, ← hu]
      exact (List.take_append_drop (256 - min e.out.length 256) e.inn).symm
theorem getR_pre : ∀ (k f : Nat) (e cur : Edit) (part : List (List Int)) (acc : List Edit), Good e → e.size < f → k < (putF f e).length → part.length ≠ 0 → cur.log = e.log → cur.next = e.next → cur.seq = e.seq → cur.ptr = [] →
    getR ((putF f e).take k) acc cur part = getR [] acc ⟨e.log, e.next, e.seq, cur.out ++ (pre k e).out, cur.inn ++ (pre k e).inn, []⟩ (part ++ (putF f e).take k)
  | 0, f, e, cur, part, acc, G, hf, hk, hp, h1, h2, h3, h4 => by
    obtain ⟨a, b, c, o, i, p⟩ := cur
    simp only at h1 h2 h3 h4
    subst h1 h2 h3 h4
    simp [pre]
  | k + 1, 0, e, _, _, _, _, h, _, _, _, _, _, _ => absurd h (Nat.not_lt_zero _)
  | k + 1, f + 1, e, cur, part, acc, G, hf, hk, hp, h1, h2, h3, h4 => by
    have hs : 256 < e.size := by
      rcases Nat.lt_or_ge 256 e.size with h | h
      · exact h
      · rw [putF_last h, List.length_singleton] at hk; omega
    have e1 := putF_more (f := f) hs
    have hb := behind_size e
    rw [e1] at hk ⊢
    rw [List.length_cons] at hk
    rw [List.take_succ_cons, getR_some (rd_piece G)]
    simp only [Bool.false_eq_true, if_false]
    rw [getR_pre k f (behind e) _ _ acc G.behind (by omega) (by omega) (by simp) (by unfold joinE; rw [if_neg hp]; rfl) (by unfold joinE; rw [if_neg hp]; rfl) (by unfold joinE; rw [if_neg hp]; rfl) (by unfold joinE; rw [if_neg hp]; rfl)]
    unfold joinE
    rw [if_neg hp]
    simp [pre, piece, front, behind, List.append_assoc]
theorem same_pre : ∀ (k f g : Nat) (e : Edit), Good e → e.size < f → k < (putF f e).length → (withP (pre k e)).size < g → (putF g (withP (pre k e))).take k = (putF f e).take k
  | 0, _, _, _, _, _, _, _ => by simp
  | k + 1, 0, _, _, _, h, _, _ => absurd h (Nat.not_lt_zero _)
  | k + 1, _ + 1, 0, _, _, _, _, h => absurd h (Nat.not_lt_zero _)
  | k + 1, f + 1, g + 1, e, G, hf, hk, hg => by
    have hs : 256 < e.size := by
      rcases Nat.lt_or_ge 256 e.size with h | h
      · exact h
      · rw [putF_last h, List.length_singleton] at hk; omega
    have e1 := putF_more (f := f) hs
    have hb := behind_size e
    have hfs := front_size e
    have hsum : (front e).out.length + (front e).inn.length = 256 := by unfold Edit.size at hfs; unfold Edit.size at hs; omega
    have hfo : (front e).out.length = 256 ∨ (pre k (behind e)).out = [] := by
      rcases Nat.lt_or_ge e.out.length 256 with h | h
      · right
        obtain ⟨⟨t, ht⟩, _⟩ := pre_out k (behind e)
        have h0 : (behind e).out = [] := List.drop_of_length_le (by omega)
        rw [h0] at ht
        exact (List.append_eq_nil_iff.1 ht.symm).1
      · left
        simp only [front, List.length_take]
        omega
    have hWo : (withP (pre (k + 1) e)).out = (front e).out ++ (pre k (behind e)).out := rfl
    have hWi : (withP (pre (k + 1) e)).inn = (front e).inn ++ ((pre k (behind e)).inn ++ [pl0]) := by
      show ((front e).inn ++ (pre k (behind e)).inn) ++ [pl0] = _
      rw [List.append_assoc]
    have hto : (withP (pre (k + 1) e)).out.take 256 = (front e).out := by
      rw [hWo]
      rcases hfo with h | h
      · exact List.take_left' h
      · rw [h, List.append_nil, List.take_of_length_le (by omega)]
    have hdo : (withP (pre (k + 1) e)).out.drop 256 = (pre k (behind e)).out := by
      rw [hWo]
      rcases hfo with h | h
      · exact List.drop_left' h
      · rw [h, List.append_nil, List.drop_of_length_le (by omega)]
    have hlen : 256 - min (withP (pre (k + 1) e)).out.length 256 = (front e).inn.length := by
      rw [hWo, List.length_append]
      rcases hfo with h | h
      · omega
      · rw [h, List.length_nil]; omega
    have hti : (withP (pre (k + 1) e)).inn.take (256 - min (withP (pre (k + 1) e)).out.length 256) = (front e).inn := by
      rw [hlen, hWi]; exact List.take_left' rfl
    have hdi : (withP (pre (k + 1) e)).inn.drop (256 - min (withP (pre (k + 1) e)).out.length 256) = (pre k (behind e)).inn ++ [pl0] := by
      rw [hlen, hWi]; exact List.drop_left' rfl
    have hP : piece (withP (pre (k + 1) e)) = piece e := by
      unfold piece
      conv => lhs; unfold front
      simp only [hto, hti]
      rfl
    obtain ⟨p1, p2, p3, p4⟩ := pre_rest k (behind e)
    have hB : behind (withP (pre (k + 1) e)) = withP (pre k (behind e)) := by
      conv => lhs; unfold behind
      simp only [hdo, hdi]
      unfold withP
      rw [p1, p2, p3, p4]
      rfl
    have hW : 256 < (withP (pre (k + 1) e)).size := by
      unfold Edit.size
      rw [hWo, hWi]
      simp only [List.length_append, List.length_singleton]
      omega
    have e2 := putF_more (f := g) hW
    have hb2 := behind_size (withP (pre (k + 1) e))
    rw [e1] at hk ⊢
    rw [List.length_cons] at hk
    rw [e2, hP, hB, List.take_succ_cons, List.take_succ_cons]
    rw [hB] at hb2
    rw [same_pre k f g (behind e) G.behind (by omega) (by omega) (by omega)]
theorem good_pre {e : Edit} (G : Good e) (k : Nat) : Good (withP (pre k e)) := by
  obtain ⟨⟨t, ht⟩, ⟨u, hu⟩⟩ := pre_out k e
  obtain ⟨p1, p2, p3, p4⟩ := pre_rest k e
  refine ⟨by show okU (pre k e).log; rw [p1]; exact G.log, by show okU (pre k e).next; rw [p2]; exact G.next, by show okU (pre k e).seq; rw [p3]; exact G.seq, fun p hp => G.out p (by rw [ht]; exact List.mem_append_left _ hp), fun p hp => ?_, fun p hp => ?_, ?_⟩
  · rcases List.mem_append.1 hp with hp | hp
    · exact G.inn p (by rw [hu]; exact List.mem_append_left _ hp)
    · rw [List.mem_singleton] at hp
      subst hp
      exact ⟨by decide, by decide, ⟨by decide, by decide⟩, by decide, by decide, by decide, by decide, by decide, by decide, by decide, by decide⟩
  · have hp' : p ∈ (pre k e).ptr := hp
    rw [p4] at hp'; cases hp'
  · show (pre k e).ptr.length ≤ 5
    rw [p4]; exact Nat.zero_le _
theorem getR_part {e : Edit} (G : Good e) {k : Nat} (hk : k < (putS e).length) (acc : List Edit) : getR ((putS e).take k) acc zE [] = some acc := by
  cases k with
  | zero => simp [getR]
  | succ k =>
    have hp := put_eq G
    rw [hp] at hk ⊢
    have hs : 256 < e.size := by
      rcases Nat.lt_or_ge 256 e.size with h | h
      · exact h
      · rw [putF_last h, List.length_singleton] at hk; omega
    have e1 := putF_more (f := e.size) hs
    have hb := behind_size e
    have h0 : getR ((putF (e.size + 1) e).take (k + 1)) acc zE [] = getR [] acc (pre (k + 1) e) ((putF (e.size + 1) e).take (k + 1)) := by
      have hk' := hk
      rw [e1] at hk' ⊢
      rw [List.length_cons] at hk'
      rw [List.take_succ_cons, getR_some (rd_piece G)]
      simp only [Bool.false_eq_true, if_false]
      have hj : joinE zE (piece e) [] = piece e := by unfold joinE; rw [if_pos List.length_nil]
      rw [hj, getR_pre k e.size (behind e) (piece e) _ acc G.behind (by omega) (by omega) (by simp) rfl rfl rfl rfl]
      rfl
    rw [h0]
    have hl : ((putF (e.size + 1) e).take (k + 1)).length = k + 1 := by rw [List.length_take]; omega
    unfold getR
    rw [hl, if_neg (by omega)]
    have hW := put_eq (good_pre G (k + 1))
    have hsame := same_pre (k + 1) (e.size + 1) ((withP (pre (k + 1) e)).size + 1) e G (Nat.lt_succ_self _) hk (Nat.lt_succ_self _)
    have hlW : k + 1 ≤ (putF ((withP (pre (k + 1) e)).size + 1) (withP (pre (k + 1) e))).length := by
      have := congrArg List.length hsame
      rw [hl, List.length_take] at this
      omega
    have : sameP (withP (pre (k + 1) e)) ((putF (e.size + 1) e).take (k + 1)) false = true := by
      unfold sameP
      rw [hW, hl, if_neg (by omega), if_neg (fun hh => by cases hh.1), hsame]
      simp
    rw [if_pos this]
/-- GET OF THE FIRST n RECORDS: the edits whose last record is there. -/
theorem getR_first {L : List Edit} (hL : ∀ e ∈ L, Good e) {n w : Nat} (hn : n ≤ (L.flatMap putS).length) (hw : w ≤ L.length) (h1 : ((L.take w).flatMap putS).length ≤ n) (h2 : w = L.length ∨ ∃ hi : w < L.length, n < ((L.take w).flatMap putS).length + (putS L[w]).length) :
    getR ((L.flatMap putS).take n) [] zE [] = some (L.take w) := by
  rcases h2 with rfl | ⟨hi, h2⟩
  · rw [List.take_length] at h1 ⊢
    rw [List.take_of_length_le h1]
    have := getR_all L [] [] hL
    rw [List.append_nil, List.nil_append] at this
    rw [this]
    simp [getR]
  · have hsplit : L.flatMap putS = (L.take w).flatMap putS ++ (putS L[w] ++ (L.drop (w + 1)).flatMap putS) := by
      conv => lhs; rw [← List.take_append_drop w L, List.drop_eq_getElem_cons hi]
      rw [List.flatMap_append, List.flatMap_cons]
    rw [hsplit, List.take_append, List.take_of_length_le h1, List.take_append_of_le_length (by omega)]
    rw [getR_all (L.take w) [] _ (fun e he => hL e (List.mem_of_mem_take he)), List.nil_append]
    exact getR_part (hL _ (List.getElem_mem hi)) (by omega) _
end Go.Eng.Ytblghgacokoklaa
