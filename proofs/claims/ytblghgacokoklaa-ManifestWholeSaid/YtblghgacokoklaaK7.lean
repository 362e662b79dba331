
/-
  Proved: the law ManifestWhole answers true, whatever the number of levels, the edits and the roots, and what it was handed reads behind the call as it read before. No condition.
-/
import Derived.Test.YtblghgacokoklaaK6
import Derived.Test.YtblghgacokoklaaK5
import Derived.Test.YtblghgacokoklaaK2
import Derived.Test.YtblghgacokoklaaProg
import Derived.Test.YtblghgacokoklaaK3
import Derived.ChangeSlices
import Derived.Below
import Derived.Test.YtblghgacokoklaaRows
import Derived.WalkKit
import Derived.ProofKit
import Derived.OpenShut
import Derived.ShutString
import Derived.ChangeOld
import Derived.SizedLaws
section

/-
  SPECS OF VERSIONS, 12: the document's Apply, New, and what its set tells.
-/
set_option linter.unusedSimpArgs false
set_option linter.unusedVariables false
set_option maxRecDepth 100000
namespace Go.Eng.Ytblghgacokoklaa
section
variable {g h : Hp} {sb vb : Nat} {al pi ps ls : Sl} {xs : List (Sl × List Tab)} {ptrs : List ByteArray} {N : Nat} {Q : Value → Hp → Prop}
theorem apply_doc {l l1 l2 : Sl} {e : Edit} {a b c : Int} (S : SetB g h sb vb al pi ps ls xs ptrs N) (E : EdAt g e l l1 l2) (h1 : 1 ≤ xs.length) (h5 : xs.length ≤ 5) (hs : totL (xs.map (·.2)) + e.inn.length ≤ 50000) (ho : e.out.length ≤ 50000) (hk : AllT kOk (xs.map (·.2))) (hki : ∀ q ∈ e.inn, kOk q.tab) (hN : N ≤ 100000)
    (hQ : ∀ h' c (r : Sl) vb' al' pi' ps' ls' xs' ptrs' N', Ck [161, 105, 5] h h' → SetB g h' sb vb' al' pi' ps' ls' xs' ptrs' N' → N' ≤ N + 1 → Res (xs.map (·.2)) e c (xs'.map (·.2)) → (c = 0 → ptrs' = e.ptr ∧ NewN h ps') → (c ≠ 0 → xs' = xs ∧ ptrs' = ptrs ∧ ps' = ps) → Q (.tuple ⟨[.slice r.a r.n r.c, .int .i64 c]⟩) h') : F55.T (some ⟨sb, 0, none⟩) a b c l l1 l2 h Q := by
  have Eh := E.keep S.L.k
  obtain ⟨nm, hv⟩ := S.v
  refine ⟨sb, 0, rfl, some ⟨vb, 0, none⟩, at_of S.s 0, vb, 0, rfl, ls, at_of hv 1, ?_⟩
  refine next_spec S.L.l.row (fun x hx => Buf.row (S.L.t x hx)) Eh h1 h5 hs ho hk hki (fun h1 c K1 hc hr => ⟨⟨none, 0, 0⟩, c, rfl, fun h0 => absurd h0 hc, fun _ => ?_⟩) (fun h1 r xs1 L1 hr => ⟨r, 0, rfl, fun _ => ?_, fun h0 => absurd rfl h0⟩)
  · exact hQ h1 c ⟨none, 0, 0⟩ vb al pi ps ls xs ptrs N (Ck.of_keep K1) (S.keep K1) (by omega) hr (fun h0 => absurd h0 hc) (fun _ => ⟨rfl, rfl, rfl⟩)
  · have K1 := L1.k
    have S1 := S.keep K1
    have Kg1 := S.L.k.trans K1
    have L1g : Lvs g h1 r xs1 := ⟨Kg1, L1.nl.mono S.L.k.dom, L1.l, L1.t, fun x hx => (L1.n x hx).mono S.L.k.dom, L1.d⟩
    obtain ⟨ad, hal, hab⟩ := S1.a
    have han : al.n = N := by have := hab.len; omega
    have hin : pi.n = N := by have := S1.i.len; rw [List.length_replicate] at this; omega
    refine ⟨sb, 0, rfl, some ⟨vb, 0, none⟩, at_of S1.s 0, sb, 0, rfl, al, at_of S1.s 1, fun b4 hb4 => ?_⟩
    have K2 := Keep.new hb4 (.cells ⟨[.int .i64 (al.n : Int), .slice r.a r.n r.c]⟩ 156 (0, 0))
    have v2 := new_at h1 b4 (.cells ⟨[.int .i64 (al.n : Int), .slice r.a r.n r.c]⟩ 156 (0, 0))
    have S2 := S1.keep K2
    have L2 := L1g.keep K2
    have nb4 : g b4 = none := Kg1.dom _ hb4
    have C2 : Ck [161, 105, 5] h (h1.new b4 (.cells ⟨[.int .i64 (al.n : Int), .slice r.a r.n r.c]⟩ 156 (0, 0))) := Ck.of_keep (K1.trans K2)
    generalize h1.new b4 (.cells ⟨[.int .i64 (al.n : Int), .slice r.a r.n r.c]⟩ 156 (0, 0)) = h2 at v2 S2 L2 C2 ⊢
    refine ⟨sb, 0, rfl, canW_new S2.s (by simp), sb, 0, rfl, ?_⟩
    have s3 : (h2.wr sb 0 [.pointer (some ⟨b4, 0, none⟩)]) sb = some (.cells ⟨[.pointer (some ⟨b4, 0, none⟩), .slice al.a al.n al.c, .slice pi.a pi.n pi.c, .slice ps.a ps.n ps.c]⟩ 159 (0, 0)) := wr_at S2.s
    have c3 : Ck [161] h2 (h2.wr sb 0 [.pointer (some ⟨b4, 0, none⟩)]) := Ck.wr S2.s
    have K3 : Keep g (h2.wr sb 0 [.pointer (some ⟨b4, 0, none⟩)]) := S2.L.k.wr S.ns _ _
    have L3 := L2.ck c3 K3 (by decide) (by decide)
    have o3 := S2.L.ck c3 K3 (by decide) (by decide)
    have v3 := c3.keep _ _ v2 (show 158 ∉ [161] by decide)
    obtain ⟨nm2, ov2⟩ := S2.v
    have ov3 := c3.keep _ _ ov2 (show 158 ∉ [161] by decide)
    obtain ⟨ad2, hal2, hab2⟩ := S2.a
    have a3 := c3.buf (by decide) hab2
    have i3 := c3.buf (by decide) S2.i
    have p3 := c3.buf (by decide) S2.p
    have C3 := C2.trans (c3.mono (by simp))
    clear c3
    generalize h2.wr sb 0 [.pointer (some ⟨b4, 0, none⟩)] = h3 at s3 K3 L3 o3 v3 ov3 a3 i3 p3 C3 ⊢
    refine ⟨al, at_of s3 1, sb, 0, rfl, some ⟨b4, 0, none⟩, at_of s3 0, at_of s3 1, ?_⟩
    -- one version more
    refine append_buf a3 rfl rfl (by omega) fun l7 h4 B4 hl7 U4 => ?_
    obtain ⟨K4, N4⟩ := S.na.upd K3 U4
    have c4 : Ck [105] h3 h4 := Ck.of_upd a3 U4
    have s4 := c4.keep _ _ s3 (show 161 ∉ [105] by decide)
    refine ⟨sb, 0, rfl, canW_new s4 (by simp), sb, 0, rfl, ?_⟩
    have s5 : (h4.wr sb (0 + 1) [.slice l7.a l7.n l7.c]) sb = some (.cells ⟨[.pointer (some ⟨b4, 0, none⟩), .slice l7.a l7.n l7.c, .slice pi.a pi.n pi.c, .slice ps.a ps.n ps.c]⟩ 159 (0, 0)) := wr_at s4
    have c5 : Ck [161] h4 (h4.wr sb (0 + 1) [.slice l7.a l7.n l7.c]) := Ck.wr s4
    have K5 : Keep g (h4.wr sb (0 + 1) [.slice l7.a l7.n l7.c]) := K4.wr S.ns _ _
    have c45 : Ck [161, 105] h3 (h4.wr sb (0 + 1) [.slice l7.a l7.n l7.c]) := (c4.mono (by simp)).trans (c5.mono (by simp))
    have a5 := c5.buf (by decide) B4
    have C5 := C3.trans (c45.mono (by simp))
    have L5 := L3.ck c45 K5 (by decide) (by decide)
    have o5 := o3.ck c45 K5 (by decide) (by decide)
    have v5 := c45.keep _ _ v3 (show 158 ∉ [161, 105] by decide)
    have ov5 := c45.keep _ _ ov3 (show 158 ∉ [161, 105] by decide)
    have i5 := c45.buf (by decide) i3
    have p5 := c45.buf (by decide) p3
    clear c4 c5 c45 L3 o3 v3 ov3 i3 p3 a3 B4
    generalize h4.wr sb (0 + 1) [.slice l7.a l7.n l7.c] = h5 at s5 K5 a5 C5 L5 o5 v5 ov5 i5 p5 ⊢
    refine ⟨pi, at_of s5 2, ?_⟩
    refine append_buf i5 rfl rfl (by omega) fun l9 h6 B6 hl9 U6 => ?_
    obtain ⟨K6, N6⟩ := S.ni.upd K5 U6
    have c6 : Ck [5] h5 h6 := Ck.of_upd i5 U6
    have s6 := c6.keep _ _ s5 (show 161 ∉ [5] by decide)
    refine ⟨sb, 0, rfl, canW_new s6 (by simp), ptrV e.ptr, ?_⟩
    have s7 : (h6.wr sb (0 + 2) [.slice l9.a l9.n l9.c]) sb = some (.cells ⟨[.pointer (some ⟨b4, 0, none⟩), .slice l7.a l7.n l7.c, .slice l9.a l9.n l9.c, .slice ps.a ps.n ps.c]⟩ 159 (0, 0)) := wr_at s6
    have c7 : Ck [161] h6 (h6.wr sb (0 + 2) [.slice l9.a l9.n l9.c]) := Ck.wr s6
    have K7 : Keep g (h6.wr sb (0 + 2) [.slice l9.a l9.n l9.c]) := K6.wr S.ns _ _
    have c67 : Ck [161, 5] h5 (h6.wr sb (0 + 2) [.slice l9.a l9.n l9.c]) := (c6.mono (by simp)).trans (c7.mono (by simp))
    have i7 := c7.buf (by decide) B6
    have C7 := C5.trans (c67.mono (by simp))
    have L7 := L5.ck c67 K7 (by decide) (by decide)
    have o7 := o5.ck c67 K7 (by decide) (by decide)
    have v7 := c67.keep _ _ v5 (show 158 ∉ [161, 5] by decide)
    have ov7 := c67.keep _ _ ov5 (show 158 ∉ [161, 5] by decide)
    have a7 := c67.buf (by decide) a5
    clear c6 c7 c67 L5 o5 v5 ov5 i5 a5 p5 B6
    generalize h6.wr sb (0 + 2) [.slice l9.a l9.n l9.c] = h7 at s7 K7 a7 C7 L7 o7 v7 ov7 i7 ⊢
    have hl2 : l2.n = e.ptr.length := by have := E.ptr.1; rw [ptrV_length] at this; omega
    have hpl := hr.ok.1
    rw [List.length_map] at hpl
    refine ⟨by rw [Nat.mul_one]; exact K7.row E.ptr, ptr_one _, append_buf (Buf.nil h7 1 9) rfl (by rw [ptrV_length]; omega) (by dsimp only; omega) fun l10 h8 B8 _ U8 => ?_⟩
    have K8 := U8.keepNil rfl
    have N8 : NewN h7 l10 := (NewN.upd (Keep.refl h7) (NewN.nil h7) U8).2
    have s8 := K8 _ _ s7
    refine ⟨sb, 0, rfl, canW_new s8 (by simp), ?_⟩
    have s9 : (h8.wr sb (0 + 3) [.slice l10.a l10.n l10.c]) sb = some (.cells ⟨[.pointer (some ⟨b4, 0, none⟩), .slice l7.a l7.n l7.c, .slice l9.a l9.n l9.c, .slice l10.a l10.n l10.c]⟩ 159 (0, 0)) := wr_at s8
    have c9 : Ck [161] h8 (h8.wr sb (0 + 3) [.slice l10.a l10.n l10.c]) := Ck.wr s8
    have K9 : Keep g (h8.wr sb (0 + 3) [.slice l10.a l10.n l10.c]) := (K7.trans K8).wr S.ns _ _
    have c89 : Ck [161] h7 (h8.wr sb (0 + 3) [.slice l10.a l10.n l10.c]) := (Ck.of_keep K8).trans c9
    have p9 := c9.buf (by decide) B8
    have C9 := C7.trans (c89.mono (by simp))
    have L9 := L7.ck c89 K9 (by decide) (by decide)
    have o9 := o7.ck c89 K9 (by decide) (by decide)
    have v9 := c89.keep _ _ v7 (show 158 ∉ [161] by decide)
    have ov9 := c89.keep _ _ ov7 (show 158 ∉ [161] by decide)
    have a9 := c89.buf (by decide) a7
    have i9 := c89.buf (by decide) i7
    generalize h8.wr sb (0 + 3) [.slice l10.a l10.n l10.c] = h9 at s9 K9 p9 C9 L9 o9 v9 ov9 a9 i9 ⊢
    have S9 : SetB g h9 sb b4 l7 l9 l10 r xs1 e.ptr (N + 1) := ⟨L9, nb4, ⟨_, v9⟩, S.ns, s9, N4, ⟨_, by rw [List.length_append, hal2]; rfl, a9⟩, N6, by rw [List.replicate_succ']; exact i9, N8.mono K7.dom, p9⟩
    obtain ⟨_, l2', hS, hT2, hl2', _⟩ := hr.ok
    have t3 : totL (xs1.map (·.2)) ≤ 60000 := by rw [hS.totL]; omega
    have n3 : xs1.length = xs.length := by have := hS.1; rw [List.length_map, hl2', List.length_map] at this; exact this
    refine gone_doc S9 ov9 o9.l.row (fun x hx => Buf.row (o9.t x hx)) t3 (by omega) (by omega) (by omega) (by omega) fun h10 rr K10 => ⟨rr, rfl, ?_⟩
    refine hQ h10 0 rr b4 l7 l9 l10 r xs1 e.ptr (N + 1) (C9.trans (Ck.of_keep K10)) (S9.keep K10) (Nat.le_refl _) hr (fun _ => ⟨rfl, ?_⟩) (fun h0 => absurd rfl h0)
    exact N8.mono fun k hk => C7.dom k hk
theorem pointers_doc (S : SetB g h sb vb al pi ps ls xs ptrs N) (hs : ptrs.length ≤ 1000000000) (hQ : ∀ h' r, Keep h h' → Buf h' r 1 9 (ptrV ptrs) → NewN h r → Q (.slice r.a r.n r.c) h') : F56.T (some ⟨sb, 0, none⟩) h Q := by
  have hn : ps.n = ptrs.length := by have := S.p.len; rw [ptrV_length] at this; omega
  refine ⟨sb, 0, rfl, ps, at_of S.s 3, ptrV ptrs, S.p.row, ptr_one _, append_buf (Buf.nil h 1 9) rfl (by rw [ptrV_length]; omega) (by dsimp only; omega) fun r h2 B2 _ U2 => hQ h2 r (U2.keepNil rfl) (by simpa using B2) (NewN.upd (Keep.refl h) (NewN.nil h) U2).2⟩
theorem current_doc (S : SetB g h sb vb al pi ps ls xs ptrs N) (hQ : Q (.pointer (some ⟨vb, 0, none⟩)) h) : F57.T (some ⟨sb, 0, none⟩) h Q := ⟨sb, 0, rfl, some ⟨vb, 0, none⟩, at_of S.s 0, hQ⟩
theorem levels_doc (S : SetB g h sb vb al pi ps ls xs ptrs N) (hQ : Q (.int .i64 (xs.length : Int)) h) : F58.T (some ⟨vb, 0, none⟩) h Q := by
  obtain ⟨nm, hv⟩ := S.v
  exact ⟨vb, 0, rfl, ls, at_of hv 1, by rw [S.L.len]; exact hQ⟩
theorem tables_doc (S : SetB g h sb vb al pi ps ls xs ptrs N) {i : Nat} {x : Sl × List Tab} (hx : xs[i]? = some x) (hs : x.2.length ≤ 60000) (hQ : ∀ h' r, Keep h h' → Buf h' r 6 85 (tabV x.2) → Q (.slice r.a r.n r.c) h') : F59.T (some ⟨vb, 0, none⟩) (i : Int) h Q := by
  have hi : i < xs.length := (List.getElem?_eq_some_iff.1 hx).1
  have hl := S.L.len
  obtain ⟨nm, hv⟩ := S.v
  obtain ⟨b, ha, hat⟩ := S.L.rd hx
  have T := S.L.t x (List.mem_of_getElem? hx)
  refine ⟨fun h0 => absurd h0 (by omega), fun _ => ⟨vb, 0, rfl, ls, at_of hv 1, fun h0 => absurd h0 (by omega), fun _ => ⟨vb, 0, rfl, ls, at_of hv 1, b, 0, ha, ⟨by omega, by omega⟩, x.1, by rw [Nat.zero_add, Int.toNat_natCast]; exact hat, tabV x.2, Buf.row T, tab_one _, ?_⟩⟩⟩
  refine append_buf (Buf.nil h 6 85) rfl (by rw [tabV_len, T.n]) (by have := T.n; dsimp only; omega) fun r h2 B2 _ U2 => hQ h2 r (U2.keepNil rfl) (by simpa using B2)
theorem whole_doc {n n1 n2 n3 : Int} (S : SetB g h sb vb al pi ps ls xs ptrs N) (hp : ptrs.length ≤ 1000000000) (h5 : xs.length ≤ 5) (hs : totL (xs.map (·.2)) ≤ 60000)
    (hQ : ∀ h' l4 l5 l6, Keep h h' → EdAt h' ⟨n, n1, n2, [], wholeM 0 (xs.map (·.2)), ptrs⟩ l4 l5 l6 → Q (.agg ⟨[.int .u64 n, .int .u64 n1, .int .u64 n2, .slice l4.a l4.n l4.c, .slice l5.a l5.n l5.c, .slice l6.a l6.n l6.c]⟩) h') : F22.T (some ⟨sb, 0, none⟩) n n1 n2 n3 h Q := by
  refine pointers_doc S hp fun h1 l K1 B1 N1 => ⟨l, rfl, fun b hb => ?_⟩
  have hbh : h b = none := K1.dom b hb
  rw [new_wr]
  have eS : (setL ((⟨[Value.int .u64 0, .int .u64 0, .int .u64 0, .slice none 0 0, .slice none 0 0, .slice none 0 0]⟩ : Array Value).toList) 0 [.int .u64 n, .int .u64 n1, .int .u64 n2, .slice none 0 0, .slice none 0 0, .slice l.a l.n l.c]).toArray = ⟨[.int .u64 n, .int .u64 n1, .int .u64 n2, .slice none 0 0, .slice none 0 0, .slice l.a l.n l.c]⟩ := rfl
  rw [eS]
  refine ⟨canW_new (new_at _ _ _) (Nat.le_refl _), ?_⟩
  have K2 := Keep.new hb (.cells ⟨[.int .u64 n, .int .u64 n1, .int .u64 n2, .slice none 0 0, .slice none 0 0, .slice l.a l.n l.c]⟩ 60 (0, 0))
  have x2 := new_at h1 b (.cells ⟨[.int .u64 n, .int .u64 n1, .int .u64 n2, .slice none 0 0, .slice none 0 0, .slice l.a l.n l.c]⟩ 60 (0, 0))
  have B2 := B1.keep K2
  have K12 := K1.trans K2
  generalize h1.new b (.cells ⟨[.int .u64 n, .int .u64 n1, .int .u64 n2, .slice none 0 0, .slice none 0 0, .slice l.a l.n l.c]⟩ 60 (0, 0)) = h2 at x2 K12 B2 ⊢
  have S2 := S.keep K12
  refine current_doc S2 ⟨some ⟨vb, 0, none⟩, rfl, ?_⟩
  refine ⟨fun n5 h4 => ∃ P R lin, xs = P ++ R ∧ n5 = (P.length : Int) ∧ h4 b = some (.cells ⟨[.int .u64 n, .int .u64 n1, .int .u64 n2, .slice none 0 0, .slice lin.a lin.n lin.c, .slice l.a l.n l.c]⟩ 60 (0, 0)) ∧ Buf h4 lin 7 87 (inV (wholeM 0 (P.map (·.2)))) ∧ NewN h lin ∧ Keep h h4 ∧ Buf h4 l 1 9 (ptrV ptrs), fun n5 _ => xs.length - n5.toNat, ⟨[], xs, ⟨none, 0, 0⟩, rfl, rfl, x2, Buf.nil _ _ _, .inl rfl, K12, B2⟩, ?_⟩
  rintro n5 h4 ⟨P, R, lin, eP, rfl, x4, L4, N4, K4, B4⟩
  have hlx := congrArg List.length eP
  rw [List.length_append] at hlx
  refine levels_doc (S.keep K4) ⟨_, rfl, fun hlt => ?_, fun hge => ?_⟩
  · rcases R with _ | ⟨x, R⟩
    · exact absurd hlt (by simp at hlx; omega)
    rw [List.length_cons] at hlx
    have hx : xs[P.length]? = some x := by rw [eP]; simp
    have ht2 : totL (P.map (·.2)) + x.2.length ≤ 60000 := by
      rw [eP] at hs
      unfold totL at hs ⊢
      rw [List.map_append, List.map_cons, List.map_append, List.map_cons, List.sum_append, List.sum_cons] at hs
      omega
    refine tables_doc (S.keep K4) hx (by omega) fun h5 r K5 T5 => ⟨r, rfl, ?_⟩
    refine ⟨fun n6 h6 => ∃ A B lin, x.2 = A ++ B ∧ n6 = (A.length : Int) ∧ h6 b = some (.cells ⟨[.int .u64 n, .int .u64 n1, .int .u64 n2, .slice none 0 0, .slice lin.a lin.n lin.c, .slice l.a l.n l.c]⟩ 60 (0, 0)) ∧ Buf h6 lin 7 87 (inV (wholeM 0 (P.map (·.2)) ++ A.map (plc (P.length : Int)))) ∧ NewN h lin ∧ Keep h h6 ∧ Buf h6 l 1 9 (ptrV ptrs) ∧ Buf h6 r 6 85 (tabV x.2), fun n6 _ => x.2.length - n6.toNat, ⟨[], x.2, lin, rfl, rfl, K5 _ _ x4, by rw [List.map_nil, List.append_nil]; exact L4.keep K5, N4, K4.trans K5, B4.keep K5, T5⟩, ?_⟩
    rintro n6 h6 ⟨A, B, lin6, eAB, rfl, x6, L6, N6, K6, B6, T6⟩
    have hlA := congrArg List.length eAB
    rw [List.length_append] at hlA
    have hrn : r.n = x.2.length := by have := T6.len; rw [tabV_len] at this; omega
    refine ⟨fun hlt6 => ?_, fun hge6 => ?_⟩
    · rcases B with _ | ⟨t, B⟩
      · exact absurd hlt6 (by simp at hlA; omega)
      rw [List.length_cons] at hlA
      have r6 := T6.row
      rw [eAB] at r6
      refine ⟨lin6, at_of x6 4, tab_rd r6 rfl fun b1 o => ⟨at_of x6 4, at_of x6 4, ?_⟩⟩
      have hl6 : lin6.n = totL (P.map (·.2)) + A.length := by have := L6.len; rw [inV_len, List.length_append, wholeM_len, List.length_map] at this; omega
      refine append_buf L6 rfl rfl (by omega) fun l3 h7 B7 hl7 U7 => ?_
      have C7 : Ck [89] h6 h7 := Ck.of_upd L6 U7
      obtain ⟨K7, N7⟩ := N6.upd K6 U7
      have x7 := C7.keep _ _ x6 (show 62 ∉ [89] by decide)
      refine ⟨canW_new x7 (by simp), ?_⟩
      have C8 : Ck [62] h7 (h7.wr b 4 [.slice l3.a l3.n l3.c]) := Ck.wr x7
      rw [next_i (n := 70000) (by omega) (by omega)]
      refine ⟨⟨A ++ [t], B, l3, by rw [eAB]; simp, by simp, wr_at x7, ?_, N7, K7.wr hbh _ _, C8.buf (by decide) (C7.buf (by decide) B6), C8.buf (by decide) (C7.buf (by decide) T6)⟩, by (try dsimp only); (try simp only [List.length_append, List.length_singleton]); omega⟩
      rw [List.map_append, ← List.append_assoc, inV_app]
      exact C8.buf (by decide) B7
    · have hB : B = [] := List.eq_nil_of_length_eq_zero (by omega)
      subst hB
      rw [List.append_nil] at eAB
      rw [next_i (n := 100) (by omega) (by omega)]
      refine ⟨⟨P ++ [x], R, lin6, by rw [eP]; simp, by simp, x6, ?_, N6, K6, B6⟩, by (try dsimp only); (try simp only [List.length_append, List.length_singleton]); omega⟩
      rw [List.map_append, List.map_cons, List.map_nil, wholeM_app, List.length_map, Nat.zero_add, eAB]
      exact L6
  · have hR : R = [] := List.eq_nil_of_length_eq_zero (by omega)
    subst hR
    rw [List.append_nil] at eP
    subst eP
    refine ⟨n, at_of x4 0, n1, at_of x4 1, n2, at_of x4 2, ⟨none, 0, 0⟩, at_of x4 3, lin, at_of x4 4, l, at_of x4 5, hQ h4 _ _ _ K4 ⟨⟨rfl, .inl rfl⟩, L4.row, row_one B4⟩⟩
end
theorem new_doc {h : Hp} {n : Int} {k : Nat} {Q : Value → Hp → Prop} (hk : n = (k : Int)) (k1 : 1 ≤ k) (k5 : k ≤ 5)
    (hQ : ∀ h' sb vb al pi ps ls xs, SetB h h' sb vb al pi ps ls xs (List.replicate k ⟨#[]⟩) 1 → xs.map (·.2) = List.replicate k [] → Q (.pointer (some ⟨sb, 0, none⟩)) h') : F53.T n h Q := by
  subst hk
  refine ⟨fun n1 h1 => n1 = (k : Int) ∧ h1 = h, ?_, fun h0 => absurd h0 (by omega), fun _ => ⟨rfl, rfl⟩⟩
  rintro n1 h1 ⟨rfl, rfl⟩
  refine ⟨fun n2 h2 => n2 = (k : Int) ∧ h2 = h1, ?_, fun h0 => absurd h0 (by omega), fun _ => ⟨rfl, rfl⟩⟩
  rintro n2 h2 ⟨rfl, rfl⟩
  intro b hb b1 hb1
  have K1 := Keep.new hb (.cells ⟨[.int .i64 0, .slice none 0 0]⟩ 156 (0, 0))
  have y1 := new_at h2 b (.cells ⟨[.int .i64 0, .slice none 0 0]⟩ 156 (0, 0))
  generalize h2.new b (.cells ⟨[.int .i64 0, .slice none 0 0]⟩ 156 (0, 0)) = g1 at hb1 K1 y1 ⊢
  have hb1h := K1.dom _ hb1
  have K2 := Keep.new hb1 (.cells ⟨[.pointer (some ⟨b, 0, none⟩), .slice none 0 0, .slice none 0 0, .slice none 0 0]⟩ 159 (0, 0))
  have z2 := new_at g1 b1 (.cells ⟨[.pointer (some ⟨b, 0, none⟩), .slice none 0 0, .slice none 0 0, .slice none 0 0]⟩ 159 (0, 0))
  have y2 := K2 _ _ y1
  have K12 := K1.trans K2
  generalize g1.new b1 (.cells ⟨[.pointer (some ⟨b, 0, none⟩), .slice none 0 0, .slice none 0 0, .slice none 0 0]⟩ 159 (0, 0)) = g2 at K12 y2 z2 ⊢
  clear K1 K2 y1 hb1
  have hmem : ∀ {j : Nat}, ∀ x ∈ List.replicate j ((⟨none, 0, 0⟩ : Sl), ([] : List Tab)), x = ((⟨none, 0, 0⟩ : Sl), ([] : List Tab)) := fun {j} x hx => (List.mem_replicate.1 hx).2
  refine ⟨fun n3 g => ∃ (j : Nat) (ls ps : Sl), n3 = (j : Int) ∧ j ≤ k ∧ g b = some (.cells ⟨[.int .i64 0, .slice ls.a ls.n ls.c]⟩ 156 (0, 0)) ∧ g b1 = some (.cells ⟨[.pointer (some ⟨b, 0, none⟩), .slice none 0 0, .slice none 0 0, .slice ps.a ps.n ps.c]⟩ 159 (0, 0)) ∧ Lvs h2 g ls (List.replicate j (⟨none, 0, 0⟩, [])) ∧ Buf g ps 1 9 (ptrV (List.replicate j ⟨#[]⟩)) ∧ NewN h2 ps, fun n3 _ => k - n3.toNat, ⟨0, ⟨none, 0, 0⟩, ⟨none, 0, 0⟩, rfl, Nat.zero_le _, y2, z2, ⟨K12, .inl rfl, Buf.nil _ _ _, fun x hx => (by cases hx), fun x hx => (by cases hx), fun i j x y hx => (by cases hx)⟩, Buf.nil _ _ _, .inl rfl⟩, ?_⟩
  rintro n3 g3 ⟨j, ls, ps, rfl, hj, y3, z3, L3, P3, N3⟩
  have hln := L3.len
  rw [List.length_replicate] at hln
  have hpn : ps.n = j := by have := P3.len; rw [ptrV_length, List.length_replicate] at this; omega
  refine ⟨fun hlt => ?_, fun hge => ?_⟩
  · refine ⟨some ⟨b, 0, none⟩, at_of z3 0, some ⟨b, 0, none⟩, at_of z3 0, b, 0, rfl, ls, at_of y3 1, at_of z3 0, at_of z3 0, at_of y3 1, ?_⟩
    refine L3.snoc (s := ⟨none, 0, 0⟩) (us := []) (Keep.refl g3) (NewN.nil g3) (Buf.nil g3 6 85) (by omega) fun l1 g4 L4 c4 => ?_
    have y4 := c4.keep _ _ y3 (show 158 ∉ [108] by decide)
    have z4 := c4.keep _ _ z3 (show 161 ∉ [108] by decide)
    have P4 := c4.buf (by decide) P3
    refine ⟨at_of z4 0, b, 0, rfl, canW_new y4 (by simp), ?_⟩
    have y5 : (g4.wr b (0 + 1) [.slice l1.a l1.n l1.c]) b = some (.cells ⟨[.int .i64 0, .slice l1.a l1.n l1.c]⟩ 156 (0, 0)) := wr_at y4
    have c5 : Ck [158] g4 (g4.wr b (0 + 1) [.slice l1.a l1.n l1.c]) := Ck.wr y4
    have K5 : Keep h2 (g4.wr b (0 + 1) [.slice l1.a l1.n l1.c]) := L4.k.wr hb _ _
    have z5 := c5.keep _ _ z4 (show 161 ∉ [158] by decide)
    have P5 := c5.buf (by decide) P4
    have L5 := L4.ck c5 K5 (by decide) (by decide)
    generalize g4.wr b (0 + 1) [.slice l1.a l1.n l1.c] = g5 at y5 K5 z5 P5 L5 ⊢
    refine ⟨ps, at_of z5 3, append_buf P5 rfl rfl (by omega) fun l3 g6 P6 hl3 U6 => ?_⟩
    obtain ⟨K6, N6⟩ := N3.upd K5 U6
    have c6 : Ck [11] g5 g6 := Ck.of_upd P5 U6
    have z6 := c6.keep _ _ z5 (show 161 ∉ [11] by decide)
    have y6 := c6.keep _ _ y5 (show 158 ∉ [11] by decide)
    have L6 := L5.ck c6 K6 (by decide) (by decide)
    have c7 : Ck [161] g6 (g6.wr b1 3 [.slice l3.a l3.n l3.c]) := Ck.wr z6
    refine ⟨canW_new z6 (by simp), ?_⟩
    rw [next_i (n := 100) (by omega) (by omega)]
    refine ⟨⟨j + 1, l1, l3, rfl, by omega, c7.keep _ _ y6 (show 158 ∉ [161] by decide), wr_at z6, ?_, ?_, N6⟩, by (try dsimp only); omega⟩
    · rw [List.replicate_succ']
      exact L6.ck c7 (K6.wr hb1h _ _) (by decide) (by decide)
    · rw [List.replicate_succ']
      unfold ptrV at P6 ⊢
      rw [List.map_append]
      exact c7.buf (by decide) P6
  · have hjk : j = k := by omega
    subst hjk
    refine ⟨⟨none, 0, 0⟩, at_of z3 1, some ⟨b, 0, none⟩, at_of z3 0, at_of z3 1, append_buf (Buf.nil g3 1 103) rfl rfl (by decide) fun l5 g4 B4 _ U4 => ?_⟩
    have k4 := U4.keepNil rfl
    have N4 : NewN g3 l5 := (NewN.upd (Keep.refl g3) (NewN.nil g3) U4).2
    have z4 := k4 _ _ z3
    refine ⟨canW_new z4 (by simp), ?_⟩
    have z5 : (g4.wr b1 1 [.slice l5.a l5.n l5.c]) b1 = some (.cells ⟨[.pointer (some ⟨b, 0, none⟩), .slice l5.a l5.n l5.c, .slice none 0 0, .slice ps.a ps.n ps.c]⟩ 159 (0, 0)) := wr_at z4
    have c5 : Ck [161] g4 (g4.wr b1 1 [.slice l5.a l5.n l5.c]) := Ck.wr z4
    have c45 : Ck [161] g3 (g4.wr b1 1 [.slice l5.a l5.n l5.c]) := (Ck.of_keep k4).trans c5
    have K5 : Keep h2 (g4.wr b1 1 [.slice l5.a l5.n l5.c]) := (L3.k.trans k4).wr hb1h _ _
    have B5 := c5.buf (by decide) B4
    have y5 := c45.keep _ _ y3 (show 158 ∉ [161] by decide)
    have L5 := L3.ck c45 K5 (by decide) (by decide)
    have P5 := c45.buf (by decide) P3
    generalize g4.wr b1 1 [.slice l5.a l5.n l5.c] = g5 at z5 K5 B5 y5 L5 P5 ⊢
    refine ⟨⟨none, 0, 0⟩, at_of z5 2, append_buf (Buf.nil g5 1 3) rfl rfl (by decide) fun l7 g6 B6 _ U6 => ?_⟩
    have k6 := U6.keepNil rfl
    have N6 : NewN g5 l7 := (NewN.upd (Keep.refl g5) (NewN.nil g5) U6).2
    have z6 := k6 _ _ z5
    have c7 : Ck [161] g6 (g6.wr b1 2 [.slice l7.a l7.n l7.c]) := Ck.wr z6
    have c67 : Ck [161] g5 (g6.wr b1 2 [.slice l7.a l7.n l7.c]) := (Ck.of_keep k6).trans c7
    have K7 : Keep h2 (g6.wr b1 2 [.slice l7.a l7.n l7.c]) := (K5.trans k6).wr hb1h _ _
    refine ⟨canW_new z6 (by simp), ?_⟩
    exact hQ _ b1 b l5 l7 ps ls _ ⟨L5.ck c67 K7 (by decide) (by decide), hb, ⟨0, c67.keep _ _ y5 (show 158 ∉ [161] by decide)⟩, hb1h, wr_at z6, N4.mono L3.k.dom, ⟨_, rfl, c67.buf (by decide) B5⟩, N6.mono K5.dom, c7.buf (by decide) B6, N3, c67.buf (by decide) P5⟩ (by simp)
end Go.Eng.Ytblghgacokoklaa
end
section

set_option maxRecDepth 100000
set_option linter.unusedVariables false
open Go.Proofs
namespace Go.Eng.Ytblghgacokoklaa
def F65.T (l : Sl) (l1 : Sl) : PT := fun h Q =>
  par ((l.n : Int) = (l1.n : Int)) (∃ (I : Int → Hp → Prop) (m : Int → Hp → Nat), I 0 h ∧ (∀ n : Int, ∀ h1 : Hp, I n h1 → par (n < (l.n : Int)) (∃ b o, (l.a : Option Addr) = some ⟨b, o, none⟩ ∧ ((0 : Int) ≤ n ∧ n < (l.n : Int)) ∧ ∃ n1 : Int, h1.at b (o + n.toNat * 6) = some (.int .u64 n1) ∧ ∃ n2 : Int, h1.at b ((o + n.toNat * 6) + 1) = some (.int .i64 n2) ∧ ∃ n3 : Int, h1.at b ((o + n.toNat * 6) + 2) = some (.int .i64 n3) ∧ ∃ n4 : Int, h1.at b ((o + n.toNat * 6) + 3) = some (.int .i64 n4) ∧ ∃ s : ByteArray, h1.at b ((o + n.toNat * 6) + 4) = some (.string s) ∧ ∃ s1 : ByteArray, h1.at b ((o + n.toNat * 6) + 5) = some (.string s1) ∧ ∃ b1 o1, (l1.a : Option Addr) = some ⟨b1, o1, none⟩ ∧ ((0 : Int) ≤ n ∧ n < (l1.n : Int)) ∧ ∃ n5 : Int, h1.at b1 (o1 + n.toNat * 6) = some (.int .u64 n5) ∧ ∃ n6 : Int, h1.at b1 ((o1 + n.toNat * 6) + 1) = some (.int .i64 n6) ∧ ∃ n7 : Int, h1.at b1 ((o1 + n.toNat * 6) + 2) = some (.int .i64 n7) ∧ ∃ n8 : Int, h1.at b1 ((o1 + n.toNat * 6) + 3) = some (.int .i64 n8) ∧ ∃ s2 : ByteArray, h1.at b1 ((o1 + n.toNat * 6) + 4) = some (.string s2) ∧ ∃ s3 : ByteArray, h1.at b1 ((o1 + n.toNat * 6) + 5) = some (.string s3) ∧ par (([.int .u64 n1, .int .i64 n2, .int .i64 n3, .int .i64 n4, .string s, .string s1] : List Value) = [.int .u64 n5, .int .i64 n6, .int .i64 n7, .int .i64 n8, .string s2, .string s3]) (I (IntKind.wrap .i64 (n + 1)) h1 ∧ m (IntKind.wrap .i64 (n + 1)) h1 < m n h1) (Q (.bool false) h1)) (Q (.bool true) h1))) (Q (.bool false) h)
theorem F65.den (V : Value → List Value → PT) (l : Sl) (l1 : Sl) : denF Try.prog [] [] V [(58, .loop [(5, .int .i64)] []), (1864, .order [0, 1, 2, 3, 4, 5, 6, 7, 8])] Try.f65 [.v (.slice l.a l.n l.c), .v (.slice l1.a l1.n l1.c)] = F65.T l l1 := by kernel_rfl
def F65.W (T65 : Sl → Sl → PT) (args : List Value) : PT := match args with
  | [.slice l_a l_n l_c, .slice l1_a l1_n l1_c] => T65 ⟨l_a, l_n, l_c⟩ ⟨l1_a, l1_n, l1_c⟩
  | _ => fun _ _ => False
def F65.V : List Value → PT := F65.W F65.T
theorem F65.ok : FOk Try.prog 65 F65.V := by
  refine ⟨⟨_, Try.func65, rfl, rfl⟩, fun args => ?_⟩
  have hG : GOk Try.prog [] := GOk.nil
  have hV : VOk Try.prog noV := noV_ok
  unfold F65.V F65.W
  split
  · exact denF_okV hG hV Try.func65 (fun h Q hq => (F65.den _ _ _) ▸ hq)
  · exact fun h Q hq => hq.elim
def F25.T (p : Option Addr) (p1 : Option Addr) : PT := fun h Q =>
  okPtr h p none ∧ par ((p : Option Addr) = none) (okPtr h p none ∧ par ((p : Option Addr) = none) (okPtr h p1 none ∧ par ((p1 : Option Addr) = none) (Q (.bool true) h) (Q (.bool false) h)) (Q (.bool false) h)) (okPtr h p1 none ∧ par ((p1 : Option Addr) = none) (okPtr h p none ∧ par ((p : Option Addr) = none) (okPtr h p1 none ∧ par ((p1 : Option Addr) = none) (Q (.bool true) h) (Q (.bool false) h)) (Q (.bool false) h)) (F62.T p h fun r h1 => ∃ p2 : Option Addr, r = .pointer p2 ∧ F57.T p1 h1 fun r1 h2 => ∃ p3 : Option Addr, r1 = .pointer p3 ∧ okPtr h2 p2 none ∧ par ((p2 : Option Addr) = none) (Q (.bool false) h2) (F63.T p2 h2 fun r2 h3 => ∃ n : Int, r2 = .int .i64 n ∧ F58.T p3 h3 fun r3 h4 => ∃ n1 : Int, r3 = .int .i64 n1 ∧ par (n = n1) (F61.T p h4 fun r4 h5 => ∃ l : Sl, r4 = .slice l.a l.n l.c ∧ F56.T p1 h5 fun r5 h6 => ∃ l1 : Sl, r5 = .slice l1.a l1.n l1.c ∧ F60.T l l1 h6 fun r6 h7 => ∃ b : Bool, r6 = .bool b ∧ parB b (∃ (I : Int → Hp → Prop) (m : Int → Hp → Nat), I 0 h7 ∧ (∀ n2 : Int, ∀ h8 : Hp, I n2 h8 → F58.T p3 h8 fun r7 h9 => ∃ n3 : Int, r7 = .int .i64 n3 ∧ par (n2 < n3) (F64.T p2 n2 h9 fun r8 h10 => ∃ l2 : Sl, r8 = .slice l2.a l2.n l2.c ∧ F59.T p3 n2 h10 fun r9 h11 => ∃ l3 : Sl, r9 = .slice l3.a l3.n l3.c ∧ F65.T l2 l3 h11 fun r10 h12 => ∃ b1 : Bool, r10 = .bool b1 ∧ parB b1 (I (IntKind.wrap .i64 (n2 + 1)) h12 ∧ m (IntKind.wrap .i64 (n2 + 1)) h12 < m n2 h8) (Q (.bool false) h12)) (Q (.bool true) h9))) (Q (.bool false) h7)) (Q (.bool false) h4))))
theorem F25.gen (V : Value → List Value → PT) (T56 : Option Addr → PT) (T57 : Option Addr → PT) (T58 : Option Addr → PT) (T59 : Option Addr → Int → PT) (T60 : Sl → Sl → PT) (T61 : Option Addr → PT) (T62 : Option Addr → PT) (T63 : Option Addr → PT) (T64 : Option Addr → Int → PT) (T65 : Sl → Sl → PT) (p : Option Addr) (p1 : Option Addr) : denF Try.prog [] [(56, F56.W T56), (57, F57.W T57), (58, F58.W T58), (59, F59.W T59), (60, F60.W T60), (61, F61.W T61), (62, F62.W T62), (63, F63.W T63), (64, F64.W T64), (65, F65.W T65)] V [(250, .loop [(7, .int .i64)] [])] Try.f25 [.v (.pointer p), .v (.pointer p1)] = fun h Q =>
  okPtr h p none ∧ par ((p : Option Addr) = none) (okPtr h p none ∧ par ((p : Option Addr) = none) (okPtr h p1 none ∧ par ((p1 : Option Addr) = none) (Q (.bool true) h) (Q (.bool false) h)) (Q (.bool false) h)) (okPtr h p1 none ∧ par ((p1 : Option Addr) = none) (okPtr h p none ∧ par ((p : Option Addr) = none) (okPtr h p1 none ∧ par ((p1 : Option Addr) = none) (Q (.bool true) h) (Q (.bool false) h)) (Q (.bool false) h)) (T62 p h fun r h1 => ∃ p2 : Option Addr, r = .pointer p2 ∧ T57 p1 h1 fun r1 h2 => ∃ p3 : Option Addr, r1 = .pointer p3 ∧ okPtr h2 p2 none ∧ par ((p2 : Option Addr) = none) (Q (.bool false) h2) (T63 p2 h2 fun r2 h3 => ∃ n : Int, r2 = .int .i64 n ∧ T58 p3 h3 fun r3 h4 => ∃ n1 : Int, r3 = .int .i64 n1 ∧ par (n = n1) (T61 p h4 fun r4 h5 => ∃ l : Sl, r4 = .slice l.a l.n l.c ∧ T56 p1 h5 fun r5 h6 => ∃ l1 : Sl, r5 = .slice l1.a l1.n l1.c ∧ T60 l l1 h6 fun r6 h7 => ∃ b : Bool, r6 = .bool b ∧ parB b (∃ (I : Int → Hp → Prop) (m : Int → Hp → Nat), I 0 h7 ∧ (∀ n2 : Int, ∀ h8 : Hp, I n2 h8 → T58 p3 h8 fun r7 h9 => ∃ n3 : Int, r7 = .int .i64 n3 ∧ par (n2 < n3) (T64 p2 n2 h9 fun r8 h10 => ∃ l2 : Sl, r8 = .slice l2.a l2.n l2.c ∧ T59 p3 n2 h10 fun r9 h11 => ∃ l3 : Sl, r9 = .slice l3.a l3.n l3.c ∧ T65 l2 l3 h11 fun r10 h12 => ∃ b1 : Bool, r10 = .bool b1 ∧ parB b1 (I (IntKind.wrap .i64 (n2 + 1)) h12 ∧ m (IntKind.wrap .i64 (n2 + 1)) h12 < m n2 h8) (Q (.bool false) h12)) (Q (.bool true) h9))) (Q (.bool false) h7)) (Q (.bool false) h4)))) := by kernel_rfl
theorem F25.den (V : Value → List Value → PT) (p : Option Addr) (p1 : Option Addr) : denF Try.prog [] [(56, F56.V), (57, F57.V), (58, F58.V), (59, F59.V), (60, F60.V), (61, F61.V), (62, F62.V), (63, F63.V), (64, F64.V), (65, F65.V)] V [(250, .loop [(7, .int .i64)] [])] Try.f25 [.v (.pointer p), .v (.pointer p1)] = F25.T p p1 := F25.gen V F56.T F57.T F58.T F59.T F60.T F61.T F62.T F63.T F64.T F65.T p p1
def F25.W (T25 : Option Addr → Option Addr → PT) (args : List Value) : PT := match args with
  | [.pointer p, .pointer p1] => T25 p p1
  | _ => fun _ _ => False
def F25.V : List Value → PT := F25.W F25.T
theorem F25.ok : FOk Try.prog 25 F25.V := by
  refine ⟨⟨_, Try.func25, rfl, rfl⟩, fun args => ?_⟩
  have hG : GOk Try.prog [(56, F56.V), (57, F57.V), (58, F58.V), (59, F59.V), (60, F60.V), (61, F61.V), (62, F62.V), (63, F63.V), (64, F64.V), (65, F65.V)] := GOk.cons F56.ok (GOk.cons F57.ok (GOk.cons F58.ok (GOk.cons F59.ok (GOk.cons F60.ok (GOk.cons F61.ok (GOk.cons F62.ok (GOk.cons F63.ok (GOk.cons F64.ok (GOk.cons F65.ok (GOk.nil))))))))))
  have hV : VOk Try.prog noV := noV_ok
  unfold F25.V F25.W
  split
  · exact denF_okV hG hV Try.func25 (fun h Q hq => (F25.den _ _ _) ▸ hq)
  · exact fun h Q hq => hq.elim
def F21.T (n : Int) (l : Sl) : PT := fun h Q =>
  F52.T n h fun r h1 => ∃ p : Option Addr, r = .pointer p ∧ F53.T n h1 fun r1 h2 => ∃ p1 : Option Addr, r1 = .pointer p1 ∧ ∃ (I : Int → Hp → Prop) (m : Int → Hp → Nat), I 0 h2 ∧ (∀ n1 : Int, ∀ h3 : Hp, I n1 h3 → par (n1 < (l.n : Int)) (okPtr h3 p none ∧ par ((p : Option Addr) = none) (okPtr h3 p none ∧ par ((p : Option Addr) = none) (Q (.tuple ⟨[.pointer p, .pointer p1, .bool false]⟩) h3) (Q (.tuple ⟨[.pointer p, .pointer p1, .bool true]⟩) h3)) (∃ b o, (l.a : Option Addr) = some ⟨b, o, none⟩ ∧ ((0 : Int) ≤ n1 ∧ n1 < (l.n : Int)) ∧ ∃ n2 : Int, h3.at b (o + n1.toNat * 6) = some (.int .u64 n2) ∧ ∃ n3 : Int, h3.at b ((o + n1.toNat * 6) + 1) = some (.int .u64 n3) ∧ ∃ n4 : Int, h3.at b ((o + n1.toNat * 6) + 2) = some (.int .u64 n4) ∧ ∃ l1 : Sl, h3.at b ((o + n1.toNat * 6) + 3) = some (.slice l1.a l1.n l1.c) ∧ ∃ l2 : Sl, h3.at b ((o + n1.toNat * 6) + 4) = some (.slice l2.a l2.n l2.c) ∧ ∃ l3 : Sl, h3.at b ((o + n1.toNat * 6) + 5) = some (.slice l3.a l3.n l3.c) ∧ F54.T p n2 n3 n4 l1 l2 l3 h3 fun r2 h4 => ∃ l4 : Sl, ∃ n5 : Int, r2 = .tuple ⟨[.slice l4.a l4.n l4.c, .int .i64 n5]⟩ ∧ ∃ b1 o1, (l.a : Option Addr) = some ⟨b1, o1, none⟩ ∧ ((0 : Int) ≤ n1 ∧ n1 < (l.n : Int)) ∧ ∃ n6 : Int, h4.at b1 (o1 + n1.toNat * 6) = some (.int .u64 n6) ∧ ∃ n7 : Int, h4.at b1 ((o1 + n1.toNat * 6) + 1) = some (.int .u64 n7) ∧ ∃ n8 : Int, h4.at b1 ((o1 + n1.toNat * 6) + 2) = some (.int .u64 n8) ∧ ∃ l5 : Sl, h4.at b1 ((o1 + n1.toNat * 6) + 3) = some (.slice l5.a l5.n l5.c) ∧ ∃ l6 : Sl, h4.at b1 ((o1 + n1.toNat * 6) + 4) = some (.slice l6.a l6.n l6.c) ∧ ∃ l7 : Sl, h4.at b1 ((o1 + n1.toNat * 6) + 5) = some (.slice l7.a l7.n l7.c) ∧ F55.T p1 n6 n7 n8 l5 l6 l7 h4 fun r3 h5 => ∃ l8 : Sl, ∃ n9 : Int, r3 = .tuple ⟨[.slice l8.a l8.n l8.c, .int .i64 n9]⟩ ∧ par (n5 = n9) (I (IntKind.wrap .i64 (n1 + 1)) h5 ∧ m (IntKind.wrap .i64 (n1 + 1)) h5 < m n1 h3) (Q (.tuple ⟨[.pointer none, .pointer none, .bool false]⟩) h5))) (okPtr h3 p none ∧ par ((p : Option Addr) = none) (Q (.tuple ⟨[.pointer p, .pointer p1, .bool false]⟩) h3) (Q (.tuple ⟨[.pointer p, .pointer p1, .bool true]⟩) h3)))
theorem F21.gen (V : Value → List Value → PT) (T52 : Int → PT) (T53 : Int → PT) (T54 : Option Addr → Int → Int → Int → Sl → Sl → Sl → PT) (T55 : Option Addr → Int → Int → Int → Sl → Sl → Sl → PT) (n : Int) (l : Sl) : denF Try.prog [] [(52, F52.W T52), (53, F53.W T53), (54, F54.W T54), (55, F55.W T55)] V [(58, .loop [(9, .int .i64)] [])] Try.f21 [.v (.int .i64 n), .v (.slice l.a l.n l.c)] = fun h Q =>
  T52 n h fun r h1 => ∃ p : Option Addr, r = .pointer p ∧ T53 n h1 fun r1 h2 => ∃ p1 : Option Addr, r1 = .pointer p1 ∧ ∃ (I : Int → Hp → Prop) (m : Int → Hp → Nat), I 0 h2 ∧ (∀ n1 : Int, ∀ h3 : Hp, I n1 h3 → par (n1 < (l.n : Int)) (okPtr h3 p none ∧ par ((p : Option Addr) = none) (okPtr h3 p none ∧ par ((p : Option Addr) = none) (Q (.tuple ⟨[.pointer p, .pointer p1, .bool false]⟩) h3) (Q (.tuple ⟨[.pointer p, .pointer p1, .bool true]⟩) h3)) (∃ b o, (l.a : Option Addr) = some ⟨b, o, none⟩ ∧ ((0 : Int) ≤ n1 ∧ n1 < (l.n : Int)) ∧ ∃ n2 : Int, h3.at b (o + n1.toNat * 6) = some (.int .u64 n2) ∧ ∃ n3 : Int, h3.at b ((o + n1.toNat * 6) + 1) = some (.int .u64 n3) ∧ ∃ n4 : Int, h3.at b ((o + n1.toNat * 6) + 2) = some (.int .u64 n4) ∧ ∃ l1 : Sl, h3.at b ((o + n1.toNat * 6) + 3) = some (.slice l1.a l1.n l1.c) ∧ ∃ l2 : Sl, h3.at b ((o + n1.toNat * 6) + 4) = some (.slice l2.a l2.n l2.c) ∧ ∃ l3 : Sl, h3.at b ((o + n1.toNat * 6) + 5) = some (.slice l3.a l3.n l3.c) ∧ T54 p n2 n3 n4 l1 l2 l3 h3 fun r2 h4 => ∃ l4 : Sl, ∃ n5 : Int, r2 = .tuple ⟨[.slice l4.a l4.n l4.c, .int .i64 n5]⟩ ∧ ∃ b1 o1, (l.a : Option Addr) = some ⟨b1, o1, none⟩ ∧ ((0 : Int) ≤ n1 ∧ n1 < (l.n : Int)) ∧ ∃ n6 : Int, h4.at b1 (o1 + n1.toNat * 6) = some (.int .u64 n6) ∧ ∃ n7 : Int, h4.at b1 ((o1 + n1.toNat * 6) + 1) = some (.int .u64 n7) ∧ ∃ n8 : Int, h4.at b1 ((o1 + n1.toNat * 6) + 2) = some (.int .u64 n8) ∧ ∃ l5 : Sl, h4.at b1 ((o1 + n1.toNat * 6) + 3) = some (.slice l5.a l5.n l5.c) ∧ ∃ l6 : Sl, h4.at b1 ((o1 + n1.toNat * 6) + 4) = some (.slice l6.a l6.n l6.c) ∧ ∃ l7 : Sl, h4.at b1 ((o1 + n1.toNat * 6) + 5) = some (.slice l7.a l7.n l7.c) ∧ T55 p1 n6 n7 n8 l5 l6 l7 h4 fun r3 h5 => ∃ l8 : Sl, ∃ n9 : Int, r3 = .tuple ⟨[.slice l8.a l8.n l8.c, .int .i64 n9]⟩ ∧ par (n5 = n9) (I (IntKind.wrap .i64 (n1 + 1)) h5 ∧ m (IntKind.wrap .i64 (n1 + 1)) h5 < m n1 h3) (Q (.tuple ⟨[.pointer none, .pointer none, .bool false]⟩) h5))) (okPtr h3 p none ∧ par ((p : Option Addr) = none) (Q (.tuple ⟨[.pointer p, .pointer p1, .bool false]⟩) h3) (Q (.tuple ⟨[.pointer p, .pointer p1, .bool true]⟩) h3))) := by kernel_rfl
theorem F21.den (V : Value → List Value → PT) (n : Int) (l : Sl) : denF Try.prog [] [(52, F52.V), (53, F53.V), (54, F54.V), (55, F55.V)] V [(58, .loop [(9, .int .i64)] [])] Try.f21 [.v (.int .i64 n), .v (.slice l.a l.n l.c)] = F21.T n l := F21.gen V F52.T F53.T F54.T F55.T n l
def F21.W (T21 : Int → Sl → PT) (args : List Value) : PT := match args with
  | [.int .i64 n, .slice l_a l_n l_c] => T21 n ⟨l_a, l_n, l_c⟩
  | _ => fun _ _ => False
def F21.V : List Value → PT := F21.W F21.T
theorem F21.ok : FOk Try.prog 21 F21.V := by
  refine ⟨⟨_, Try.func21, rfl, rfl⟩, fun args => ?_⟩
  have hG : GOk Try.prog [(52, F52.V), (53, F53.V), (54, F54.V), (55, F55.V)] := GOk.cons F52.ok (GOk.cons F53.ok (GOk.cons F54.ok (GOk.cons F55.ok (GOk.nil))))
  have hV : VOk Try.prog noV := noV_ok
  unfold F21.V F21.W
  split
  · exact denF_okV hG hV Try.func21 (fun h Q hq => (F21.den _ _ _) ▸ hq)
  · exact fun h Q hq => hq.elim
def F7.T (n : Int) (l : Sl) (n1 : Int) (n2 : Int) (n3 : Int) (n4 : Int) : PT := fun h Q =>
  F16.T l h fun r h1 => ∃ b : Bool, r = .bool b ∧ parB b (F19.T n 3 h1 fun r1 h2 => ∃ n5 : Int, r1 = .int .i64 n5 ∧ F21.T (IntKind.wrap .i64 (3 + n5)) l h2 fun r2 h3 => ∃ p : Option Addr, ∃ p1 : Option Addr, ∃ b1 : Bool, parB b1 (r2 = .tuple ⟨[.pointer p, .pointer p1, .bool true]⟩ ∧ F22.T p1 n1 n2 n3 n4 h3 fun r3 h4 => ∃ n6 : Int, ∃ n7 : Int, ∃ n8 : Int, ∃ l1 : Sl, ∃ l2 : Sl, ∃ l3 : Sl, r3 = .agg ⟨[.int .u64 n6, .int .u64 n7, .int .u64 n8, .slice l1.a l1.n l1.c, .slice l2.a l2.n l2.c, .slice l3.a l3.n l3.c]⟩ ∧ F24.T p n1 n2 n3 n4 h4 fun r4 h5 => ∃ n9 : Int, ∃ n10 : Int, ∃ n11 : Int, ∃ l4 : Sl, ∃ l5 : Sl, ∃ l6 : Sl, r4 = .agg ⟨[.int .u64 n9, .int .u64 n10, .int .u64 n11, .slice l4.a l4.n l4.c, .slice l5.a l5.n l5.c, .slice l6.a l6.n l6.c]⟩ ∧ F23.T n9 n10 n11 l4 l5 l6 n6 n7 n8 l1 l2 l3 h5 fun r5 h6 => ∃ b2 : Bool, r5 = .bool b2 ∧ parB b2 (F24.T p n1 n2 n3 n4 h6 fun r6 h7 => ∃ n12 : Int, ∃ n13 : Int, ∃ n14 : Int, ∃ l7 : Sl, ∃ l8 : Sl, ∃ l9 : Sl, r6 = .agg ⟨[.int .u64 n12, .int .u64 n13, .int .u64 n14, .slice l7.a l7.n l7.c, .slice l8.a l8.n l8.c, .slice l9.a l9.n l9.c]⟩ ∧ F23.T n12 n13 n14 l7 l8 l9 n6 n7 n8 l1 l2 l3 h7 fun r7 h8 => ∃ b3 : Bool, r7 = .bool b3 ∧ parB b3 (F25.T p p1 h8 fun r8 h9 => ∃ b4 : Bool, r8 = .bool b4 ∧ parB b4 (Q (.bool true) h9) (Q (.bool false) h9)) (Q (.bool false) h8)) (Q (.bool false) h6)) (r2 = .tuple ⟨[.pointer p, .pointer p1, .bool false]⟩ ∧ Q (.bool false) h3)) (Q (.bool true) h1)
theorem F7.gen (V : Value → List Value → PT) (T16 : Sl → PT) (T19 : Int → Int → PT) (T21 : Int → Sl → PT) (T22 : Option Addr → Int → Int → Int → Int → PT) (T23 : Int → Int → Int → Sl → Sl → Sl → Int → Int → Int → Sl → Sl → Sl → PT) (T24 : Option Addr → Int → Int → Int → Int → PT) (T25 : Option Addr → Option Addr → PT) (n : Int) (l : Sl) (n1 : Int) (n2 : Int) (n3 : Int) (n4 : Int) : denF Try.prog [5, 10] [(16, F16.W T16), (19, F19.W T19), (21, F21.W T21), (22, F22.W T22), (23, F23.W T23), (24, F24.W T24), (25, F25.W T25)] V [(254, .order [0, 1, 3, 2, 4, 5, 6, 7, 9, 8, 10, 11, 12, 13, 14, 15, 16, 17])] Try.f7 [.v (.int .i64 n), .v (.slice l.a l.n l.c), .v (.agg ⟨[.int .u64 n1, .int .u64 n2, .int .u64 n3, .int .u64 n4]⟩)] = fun h Q =>
  T16 l h fun r h1 => ∃ b : Bool, r = .bool b ∧ parB b (T19 n 3 h1 fun r1 h2 => ∃ n5 : Int, r1 = .int .i64 n5 ∧ T21 (IntKind.wrap .i64 (3 + n5)) l h2 fun r2 h3 => ∃ p : Option Addr, ∃ p1 : Option Addr, ∃ b1 : Bool, parB b1 (r2 = .tuple ⟨[.pointer p, .pointer p1, .bool true]⟩ ∧ T22 p1 n1 n2 n3 n4 h3 fun r3 h4 => ∃ n6 : Int, ∃ n7 : Int, ∃ n8 : Int, ∃ l1 : Sl, ∃ l2 : Sl, ∃ l3 : Sl, r3 = .agg ⟨[.int .u64 n6, .int .u64 n7, .int .u64 n8, .slice l1.a l1.n l1.c, .slice l2.a l2.n l2.c, .slice l3.a l3.n l3.c]⟩ ∧ T24 p n1 n2 n3 n4 h4 fun r4 h5 => ∃ n9 : Int, ∃ n10 : Int, ∃ n11 : Int, ∃ l4 : Sl, ∃ l5 : Sl, ∃ l6 : Sl, r4 = .agg ⟨[.int .u64 n9, .int .u64 n10, .int .u64 n11, .slice l4.a l4.n l4.c, .slice l5.a l5.n l5.c, .slice l6.a l6.n l6.c]⟩ ∧ T23 n9 n10 n11 l4 l5 l6 n6 n7 n8 l1 l2 l3 h5 fun r5 h6 => ∃ b2 : Bool, r5 = .bool b2 ∧ parB b2 (T24 p n1 n2 n3 n4 h6 fun r6 h7 => ∃ n12 : Int, ∃ n13 : Int, ∃ n14 : Int, ∃ l7 : Sl, ∃ l8 : Sl, ∃ l9 : Sl, r6 = .agg ⟨[.int .u64 n12, .int .u64 n13, .int .u64 n14, .slice l7.a l7.n l7.c, .slice l8.a l8.n l8.c, .slice l9.a l9.n l9.c]⟩ ∧ T23 n12 n13 n14 l7 l8 l9 n6 n7 n8 l1 l2 l3 h7 fun r7 h8 => ∃ b3 : Bool, r7 = .bool b3 ∧ parB b3 (T25 p p1 h8 fun r8 h9 => ∃ b4 : Bool, r8 = .bool b4 ∧ parB b4 (Q (.bool true) h9) (Q (.bool false) h9)) (Q (.bool false) h8)) (Q (.bool false) h6)) (r2 = .tuple ⟨[.pointer p, .pointer p1, .bool false]⟩ ∧ Q (.bool false) h3)) (Q (.bool true) h1) := by kernel_rfl
theorem F7.den (V : Value → List Value → PT) (n : Int) (l : Sl) (n1 : Int) (n2 : Int) (n3 : Int) (n4 : Int) : denF Try.prog [5, 10] [(16, F16.V), (19, F19.V), (21, F21.V), (22, F22.V), (23, F23.V), (24, F24.V), (25, F25.V)] V [(254, .order [0, 1, 3, 2, 4, 5, 6, 7, 9, 8, 10, 11, 12, 13, 14, 15, 16, 17])] Try.f7 [.v (.int .i64 n), .v (.slice l.a l.n l.c), .v (.agg ⟨[.int .u64 n1, .int .u64 n2, .int .u64 n3, .int .u64 n4]⟩)] = F7.T n l n1 n2 n3 n4 := F7.gen V F16.T F19.T F21.T F22.T F23.T F24.T F25.T n l n1 n2 n3 n4
def F7.W (T7 : Int → Sl → Int → Int → Int → Int → PT) (args : List Value) : PT := match args with
  | [.int .i64 n, .slice l_a l_n l_c, .agg ⟨[.int .u64 n1, .int .u64 n2, .int .u64 n3, .int .u64 n4]⟩] => T7 n ⟨l_a, l_n, l_c⟩ n1 n2 n3 n4
  | _ => fun _ _ => False
def F7.V : List Value → PT := F7.W F7.T
theorem F7.ok : FOk Try.prog 7 F7.V := by
  refine ⟨⟨_, Try.func7, rfl, rfl⟩, fun args => ?_⟩
  have hG : GOk Try.prog [(16, F16.V), (19, F19.V), (21, F21.V), (22, F22.V), (23, F23.V), (24, F24.V), (25, F25.V)] := GOk.cons F16.ok (GOk.cons F19.ok (GOk.cons F21.ok (GOk.cons F22.ok (GOk.cons F23.ok (GOk.cons F24.ok (GOk.cons F25.ok (GOk.nil)))))))
  have hV : VOk Try.prog noV := noV_ok
  unfold F7.V F7.W
  split
  · exact denF_okV hG hV Try.func7 (fun h Q hq => (F7.den _ _ _ _ _ _ _) ▸ hq)
  · exact fun h Q hq => hq.elim
end Go.Eng.Ytblghgacokoklaa
end
section

/-
  SPECS OF VERSIONS, 13: sets that are alike; edits applied to both; ManifestWhole answers true.
-/
set_option linter.unusedSimpArgs false
set_option linter.unusedVariables false
set_option maxRecDepth 100000
namespace Go.Eng.Ytblghgacokoklaa
theorem okPtr_none (h : Hp) (p : Option Addr) : okPtr h p none := fun a b _ e => by cases e
theorem tables_eq {h : Hp} {l m : Sl} {ts : List Tab} {Q : Value → Hp → Prop} (hl : h.row l.a (l.n * 6) (tabV ts)) (hm : h.row m.a (m.n * 6) (tabV ts)) (hs : ts.length ≤ 60000) (hQ : Q (.bool true) h) : F65.T l m h Q := by
  have e1 : l.n = ts.length := by have := hl.1; rw [tabV_len] at this; omega
  have e2 : m.n = ts.length := by have := hm.1; rw [tabV_len] at this; omega
  refine ⟨fun _ => ?_, fun h0 => absurd (by omega) h0⟩
  refine ⟨fun n g => g = h ∧ ∃ P R, ts = P ++ R ∧ n = (P.length : Int), fun n _ => ts.length - n.toNat, ⟨rfl, [], ts, rfl, rfl⟩, ?_⟩
  rintro n g ⟨rfl, P, R, rfl, rfl⟩
  rw [List.length_append] at e1 e2 hs
  refine ⟨fun hlt => ?_, fun _ => hQ⟩
  rcases R with _ | ⟨t, R⟩
  · exact absurd hlt (by simp at e1; omega)
  rw [List.length_cons] at e1 e2 hs
  refine tab_rd hl rfl fun b o => tab_rd hm rfl fun b1 o1 => ⟨fun _ => ?_, fun h0 => absurd rfl h0⟩
  rw [next_i (n := 70000) (by omega) (by omega)]
  exact ⟨⟨rfl, P ++ [t], R, by simp, by simp⟩, by (try dsimp only); (try simp only [List.length_append, List.length_singleton, List.length_cons]); omega⟩
theorem alike_spec {g h : Hp} {sa va pm cm sb vb : Nat} {psa lsa al pi psb lsb : Sl} {xa xb : List (Sl × List Tab)} {ptrs : List ByteArray} {N : Nat} {Q : Value → Hp → Prop} (A : SetA g h sa va pm cm psa lsa xa ptrs) (B : SetB g h sb vb al pi psb lsb xb ptrs N) (e : xa.map (·.2) = xb.map (·.2)) (hp : ptrs.length ≤ 1000000000) (h5 : xa.length ≤ 5) (hs : totL (xa.map (·.2)) ≤ 60000)
    (hQ : ∀ h', Keep h h' → Q (.bool true) h') : F25.T (some ⟨sa, 0, none⟩) (some ⟨sb, 0, none⟩) h Q := by
  have hl : xa.length = xb.length := by have := congrArg List.length e; simpa using this
  refine ⟨okPtr_none _ _, fun h0 => (by cases h0), fun _ => ⟨okPtr_none _ _, fun h0 => (by cases h0), fun _ => ?_⟩⟩
  refine current_spec A ⟨_, rfl, current_doc B ⟨_, rfl, okPtr_none _ _, fun h0 => (by cases h0), fun _ => ?_⟩⟩
  refine levels_spec A.V ⟨_, rfl, levels_doc B ⟨_, rfl, fun _ => ?_, fun h0 => absurd (by omega) h0⟩⟩
  refine pointers_spec A hp fun h1 l K1 B1 N1 => ⟨l, rfl, pointers_doc (B.keep K1) hp fun h2 l2 K2 B2 N2 => ⟨l2, rfl, ?_⟩⟩
  have r1 := (B1.keep K2).row
  have r2 := B2.row
  rw [Nat.mul_one] at r1 r2
  refine texts_eq r1 r2 (by omega) (fun _ => ⟨true, rfl, fun _ => ?_, fun h0 => (by cases h0)⟩) (fun h0 => absurd rfl h0)
  refine ⟨fun n g3 => ∃ j : Nat, n = (j : Int) ∧ j ≤ xa.length ∧ Keep h g3, fun n _ => xa.length - n.toNat, ⟨0, rfl, Nat.zero_le _, K1.trans K2⟩, ?_⟩
  rintro n g3 ⟨j, rfl, hj, K3⟩
  refine levels_doc (B.keep K3) ⟨_, rfl, fun hlt => ?_, fun _ => hQ g3 K3⟩
  obtain ⟨x, hx⟩ : ∃ x, xa[j]? = some x := ⟨_, List.getElem?_eq_getElem (by omega)⟩
  obtain ⟨y, hy⟩ : ∃ y, xb[j]? = some y := ⟨_, List.getElem?_eq_getElem (by omega)⟩
  have exy : x.2 = y.2 := by
    have h1 : (xa.map (·.2))[j]? = some x.2 := by rw [List.getElem?_map, hx]; rfl
    have h2 : (xb.map (·.2))[j]? = some y.2 := by rw [List.getElem?_map, hy]; rfl
    rw [e, h2] at h1
    exact (Option.some.inj h1).symm
  have hx6 : x.2.length ≤ 60000 := Nat.le_trans (totL_mem (List.mem_map_of_mem (List.mem_of_getElem? hx))) hs
  refine tables_spec ((A.keep K3).V) hx hx6 fun h4 r4 K4 T4 => ⟨r4, rfl, ?_⟩
  refine tables_doc (B.keep (K3.trans K4)) hy (by rw [← exy]; exact hx6) fun h5 r5 K5 T5 => ⟨r5, rfl, ?_⟩
  refine tables_eq (T4.keep K5).row (by rw [exy]; exact T5.row) hx6 ⟨true, rfl, fun _ => ?_, fun h0 => (by cases h0)⟩
  rw [next_i (n := 100) (by omega) (by omega)]
  exact ⟨⟨j + 1, rfl, by omega, (K3.trans K4).trans K5⟩, by (try dsimp only); omega⟩
theorem ed_at {h : Hp} {l : Sl} {L : List EdS} (hr : h.row l.a (l.n * 6) (edV L)) {i : Nat} {x : EdS} (hx : L[i]? = some x) : ∃ b o, l.a = some ⟨b, o, none⟩ ∧ i < l.n ∧ ∀ j, j < 6 → h.at b ((o + i * 6) + j) = (EdS.cells x)[j]? := by
  have hi : i < L.length := (List.getElem?_eq_some_iff.1 hx).1
  have hl := hr.1
  rw [edV_len] at hl
  obtain ⟨b, o, ha, hat⟩ := row_get hr (i := i * 6) (by omega)
  refine ⟨b, o, ha, by omega, fun j hj => ?_⟩
  rw [Nat.add_assoc, hat _ (by omega)]
  have := flat_get EdS.cells 6 (fun _ => rfl) L i j hi hj
  rw [List.getElem?_eq_getElem hi] at hx
  rw [Option.some.inj hx] at this
  exact this
/-- A program's set and a document's, alike. -/
structure Both (g h : Hp) (sa pm cm sb : Nat) (psa : Sl) (lv : Lv) (ptrs : List ByteArray) (N : Nat) : Prop where
  A : ∃ va lsa xa, SetA g h sa va pm cm psa lsa xa ptrs ∧ xa.map (·.2) = lv
  B : ∃ vb al pi psb lsb xb, SetB g h sb vb al pi psb lsb xb ptrs N ∧ xb.map (·.2) = lv ∧ Off psb psa
  hp : ptrs.length = lv.length
  h1 : 1 ≤ lv.length
  h5 : lv.length ≤ 5
  H : Hulls lv
  k : AllT kOk lv
theorem applied_spec {g : Hp} {l : Sl} {L : List EdS} {n : Int} {k : Nat} {Q : Value → Hp → Prop} (hk : n = (k : Int)) (k1 : 1 ≤ k) (k5 : k ≤ 5) (A : Args g l L) (hparts : parts L ≤ 10000)
    (hQ : ∀ h' sa pm cm sb psa lv ptrs N, Both g h' sa pm cm sb psa lv ptrs N → totL lv ≤ 10000 → Q (.tuple ⟨[.pointer (some ⟨sa, 0, none⟩), .pointer (some ⟨sb, 0, none⟩), .bool true]⟩) h') : F21.T n l g Q := by
  refine new_spec hk k1 k5 fun h1 sa va0 pm cm psa lsa0 xa0 A1 e1 => ⟨_, rfl, ?_⟩
  refine new_doc hk k1 k5 fun h2 sb vb0 al0 pi0 psb0 lsb0 xb0 B2 e2 => ⟨_, rfl, ?_⟩
  have Kg1 := A1.V.L.k
  have B2g : SetB g h2 sb vb0 al0 pi0 psb0 lsb0 xb0 (List.replicate k ⟨#[]⟩) 1 := ⟨⟨Kg1.trans B2.L.k, B2.L.nl.mono Kg1.dom, B2.L.l, B2.L.t, fun x hx => (B2.L.n x hx).mono Kg1.dom, B2.L.d⟩, Kg1.dom _ B2.nv, B2.v, Kg1.dom _ B2.ns, B2.s, B2.na.mono Kg1.dom, B2.a, B2.ni.mono Kg1.dom, B2.i, B2.np.mono Kg1.dom, B2.p⟩
  have hln := A.n
  have hmem : ∀ {j : Nat}, ∀ x ∈ List.replicate j ([] : List Tab), x = [] := fun {j} x hx => (List.mem_replicate.1 hx).2
  have h0 : totL (List.replicate k ([] : List Tab)) = 0 := by unfold totL; simp
  refine ⟨fun n1 h3 => ∃ P R lv ptrs N, L = P ++ R ∧ n1 = (P.length : Int) ∧ Both g h3 sa pm cm sb psa lv ptrs N ∧ totL lv + parts R ≤ 10000 ∧ N ≤ P.length + 1, fun n1 _ => L.length - n1.toNat,
    ⟨[], L, List.replicate k [], _, 1, rfl, rfl, ⟨⟨va0, lsa0, xa0, A1.keep B2.L.k, e1⟩, ⟨vb0, al0, pi0, psb0, lsb0, xb0, B2g, e2, (B2.np.off A1.p).2⟩, by simp, by simpa using k1, by simpa using k5, fun l hl t ht => (by have e := hmem l hl; subst e; cases ht), fun l hl t ht => (by have e := hmem l hl; subst e; cases ht)⟩, by omega, by simp⟩, ?_⟩
  rintro n1 h3 ⟨P, R, lv, ptrs, N, eP, rfl, S, hs, hN⟩
  have hlP := congrArg List.length eP
  rw [List.length_append] at hlP
  refine ⟨fun hlt => ⟨okPtr_none _ _, fun h0 => (by cases h0), fun _ => ?_⟩, fun hge => ⟨okPtr_none _ _, fun h0 => (by cases h0), fun _ => hQ h3 sa pm cm sb psa lv ptrs N S (by omega)⟩⟩
  rcases R with _ | ⟨x, R⟩
  · exact absurd hlt (by simp at hlP; omega)
  rw [List.length_cons] at hlP
  rw [parts_cons] at hs
  have hpl : L.length ≤ 10000 := Nat.le_trans (parts_len L) hparts
  have hx : L[P.length]? = some x := by rw [eP]; simp
  have hxm := List.mem_of_getElem? hx
  have E := A.at_ x hxm
  have hraw := A.raw x hxm
  obtain ⟨va, lsa, xa, SA, ea⟩ := S.A
  obtain ⟨vb, al, pi, psb, lsb, xb, SB, eb, off⟩ := S.B
  have hla : xa.length = lv.length := by rw [← ea, List.length_map]
  have hlb : xb.length = lv.length := by rw [← eb, List.length_map]
  have := S.h1
  have := S.h5
  obtain ⟨b, o, ha, hi, hat⟩ := ed_at (SA.V.L.k.row A.row) hx
  refine ⟨b, o, ha, ⟨by omega, hlt⟩, x.e.log, by rw [Int.toNat_natCast]; exact hat 0 (by decide), x.e.next, by rw [Int.toNat_natCast]; exact hat 1 (by decide), x.e.seq, by rw [Int.toNat_natCast]; exact hat 2 (by decide), x.a, by rw [Int.toNat_natCast]; exact hat 3 (by decide), x.b, by rw [Int.toNat_natCast]; exact hat 4 (by decide), x.c, by rw [Int.toNat_natCast]; exact hat 5 (by decide), ?_⟩
  refine apply_spec SA E (by rw [hla]; exact S.hp) (by omega) (by omega) (by rw [ea]; omega) (by omega) fun h4 c r va' lsa' xa' ptrs' C4 SA4 hR hc0 hc1 => ⟨r, c, rfl, ?_⟩
  have Ck4 := C4.ck SA.da
  have p4 : Buf h4 psb 1 9 (ptrV ptrs) := by
    have B := SB.p
    refine ⟨B.len, B.cap, B.own.imp id ?_⟩
    rintro ⟨b, c, f, h1, h2, h3, h4, h5⟩
    refine ⟨b, c, f, h1, C4.keep b _ ?_ h2, h3, h4, h5⟩
    rintro (rfl | rfl | hd)
    · rw [SA.s] at h2; cases h2
    · obtain ⟨es, ce, hce, _⟩ := SA.c
      rw [hce] at h2; cases h2
    · exact off b 0 0 h1 hd
  have SB4 := SB.ck' Ck4 SA4.V.L.k (by decide) (by decide) (by decide) (by decide) (by decide) (by decide) p4
  obtain ⟨b2, o2, ha2, hi2, hat2⟩ := ed_at (SA4.V.L.k.row A.row) hx
  refine ⟨b2, o2, ha2, ⟨by omega, hlt⟩, x.e.log, by rw [Int.toNat_natCast]; exact hat2 0 (by decide), x.e.next, by rw [Int.toNat_natCast]; exact hat2 1 (by decide), x.e.seq, by rw [Int.toNat_natCast]; exact hat2 2 (by decide), x.a, by rw [Int.toNat_natCast]; exact hat2 3 (by decide), x.b, by rw [Int.toNat_natCast]; exact hat2 4 (by decide), x.c, by rw [Int.toNat_natCast]; exact hat2 5 (by decide), ?_⟩
  have hki : ∀ q ∈ x.e.inn, kOk q.tab := fun q hq => (hraw.inn q hq).2.2.2.2.2
  refine apply_doc SB4 E (by omega) (by omega) (by rw [eb]; omega) (by omega) (by rw [eb]; exact S.k) hki (by omega) fun h5 d r' vb' al' pi' psb' lsb' xb' ptrs2 N' C5 SB5 hN' hR2 hd0 hd1 => ⟨r', d, rfl, ?_⟩
  have SA5 := SA4.ck C5 SB5.L.k (by decide) (by decide) (by decide) (by decide) (by decide) (by decide)
  rw [ea] at hR
  rw [eb] at hR2
  obtain ⟨hcd, hlw⟩ := hR.one S.H hR2
  refine ⟨fun _ => ?_, fun h0 => absurd hcd h0⟩
  rw [next_i (n := 100000) (by omega) (by omega)]
  subst hcd
  refine ⟨?_, by (try dsimp only); omega⟩
  by_cases hc : c = 0
  · subst hc
    obtain ⟨hpl2, l2, hS, hT, hl2, hH⟩ := hR.ok
    obtain ⟨rfl, hN2⟩ := hd0 rfl
    obtain rfl := hc0 rfl
    have hlen : (xa'.map (·.2)).length = lv.length := by rw [hS.1, hl2]
    have hkk : AllT kOk (xa'.map (·.2)) := by
      have hR' := hR
      unfold Res at hR'
      rw [if_pos hpl2] at hR'
      by_cases h1 : (outM x.e.out lv).1 = 0
      · rw [if_pos h1] at hR'
        by_cases h2 : (inM x.e.inn (outM x.e.out lv).2).1 = 0
        · rw [if_pos h2] at hR'
          rcases hR' with ⟨h3, _⟩ | ⟨_, h3⟩
          · exact absurd h3 (by decide)
          · exact h3.all (inM_all _ _ hki (outM_all _ _ S.k))
        · rw [if_neg h2] at hR'; exact absurd hR'.symm h2
      · rw [if_neg h1] at hR'; exact absurd hR'.symm h1
    refine ⟨P ++ [x], R, xa'.map (·.2), x.e.ptr, N', by rw [eP]; simp, by simp, ⟨⟨va', lsa', xa', SA5, rfl⟩, ⟨vb', al', pi', psb', lsb', xb', SB5, (hlw rfl).symm, (hN2.off SA4.p).2⟩, by rw [hlen]; exact hpl2, by omega, by omega, hS.hulls (hH S.H), hkk⟩, ?_, by simp; omega⟩
    rw [hS.totL]; omega
  · obtain ⟨rfl, rfl⟩ := hc1 hc
    obtain ⟨rfl, rfl, rfl⟩ := hd1 hc
    exact ⟨P ++ [x], R, lv, _, N', by rw [eP]; simp, by simp, ⟨⟨va', lsa', xa', SA5, ea⟩, ⟨vb', al', pi', psb', lsb', xb', SB5, eb, off⟩, S.hp, S.h1, S.h5, S.H, S.k⟩, by omega, by simp; omega⟩
theorem whole_law {h : Hp} {l : Sl} {L : List EdS} {n n1 n2 n3 n4 : Int} {Q : Value → Hp → Prop} (A : Args h l L) (hn : iI n) (hQ : ∀ h', Keep h h' → Q (.bool true) h') : F7.T n l n1 n2 n3 n4 h Q := by
  refine few_spec A (fun h1 K1 hparts => ⟨true, rfl, fun _ => ?_, fun h0 => (by cases h0)⟩) (fun h1 K1 => ⟨false, rfl, fun h0 => (by cases h0), fun _ => hQ h1 K1⟩)
  refine place_spec hn (by decide) fun r r0 r3 => ⟨r, rfl, ?_⟩
  have ew : IntKind.wrap .i64 (3 + r) = (((3 + r).toNat : Nat) : Int) := by rw [wrap_i64 (by omega) (by omega)]; omega
  refine applied_spec ew (by omega) (by omega) (A.keep K1) hparts fun h2 sa pm cm sb psa lv ptrs N S hs => ⟨_, _, true, fun _ => ⟨rfl, ?_⟩, fun h0 => (by cases h0)⟩
  have hp5 : ptrs.length ≤ 5 := by rw [S.hp]; exact S.h5
  have K12 : Keep h h2 := by obtain ⟨va, lsa, xa, SA, ea⟩ := S.A; exact K1.trans SA.V.L.k
  obtain ⟨va, lsa, xa, SA, ea⟩ := S.A
  obtain ⟨vb, al, pi, psb, lsb, xb, SB, eb, off⟩ := S.B
  have hla : xa.length ≤ 5 := by rw [← List.length_map (f := fun y : Sl × List Tab => y.2), ea]; exact S.h5
  have hlb : xb.length ≤ 5 := by rw [← List.length_map (f := fun y : Sl × List Tab => y.2), eb]; exact S.h5
  refine whole_doc SB (by omega) hlb (by rw [eb]; omega) fun h3 l4 l5 l6 K3 E3 => ⟨_, _, _, l4, l5, l6, rfl, ?_⟩
  refine whole_spec (SA.keep K3) (by omega) hla (by rw [ea]; omega) fun h4 m4 m5 m6 K4 E4 => ⟨_, _, _, m4, m5, m6, rfl, ?_⟩
  have hwl : (wholeM 0 lv).length ≤ 10000 := by rw [wholeM_len]; exact hs
  rw [eb] at E3
  rw [ea] at E4
  refine edit_eq (e := ⟨n1, n2, n3, [], wholeM 0 lv, ptrs⟩) (g := ⟨n1, n2, n3, [], wholeM 0 lv, ptrs⟩) E4 (E3.keep K4) (by simp) (by dsimp only; omega) (by dsimp only; omega) (fun _ => ⟨true, rfl, fun _ => ?_, fun h0 => (by cases h0)⟩) (fun h0 => absurd rfl h0)
  refine whole_spec (SA.keep (K3.trans K4)) (by omega) hla (by rw [ea]; omega) fun h5 q4 q5 q6 K5 E5 => ⟨_, _, _, q4, q5, q6, rfl, ?_⟩
  rw [ea] at E5
  refine edit_eq (e := ⟨n1, n2, n3, [], wholeM 0 lv, ptrs⟩) (g := ⟨n1, n2, n3, [], wholeM 0 lv, ptrs⟩) E5 (E3.keep (K4.trans K5)) (by simp) (by dsimp only; omega) (by dsimp only; omega) (fun _ => ⟨true, rfl, fun _ => ?_, fun h0 => (by cases h0)⟩) (fun h0 => absurd rfl h0)
  have K35 := (K3.trans K4).trans K5
  refine alike_spec (SA.keep K35) (SB.keep K35) (by rw [ea, eb]) (by omega) hla (by rw [ea]; omega) fun h6 K6 => ⟨true, rfl, fun _ => hQ h6 ((K12.trans K35).trans K6), fun h0 => (by cases h0)⟩
end Go.Eng.Ytblghgacokoklaa
end
section

/-
  ROWS, 0: a world's whole heap; an argument that is a list of lists of bytes.
-/
set_option linter.unusedSimpArgs false
set_option linter.unusedVariables false
namespace Go.Eng.Ytblghgacokoklaa
open Go.ChangeShapes Go.WideShapes Go.RowKit
/-- All that a world's memory holds. -/
def wh (W : World) : Hp := fun b => W.heap[b]?
theorem own_wh (W : World) : Own (fun _ => none) (wh W) W := ⟨fun _ _ h => h, fun _ _ h => (by cases h), fun _ => .inr rfl⟩
theorem below_of {W W' : World} {h' : Hp} (hw : Wr W W') (ho : Own (fun _ => none) h' W') (K : Keep (wh W) h') : Below W.heap.size W W' := by
  refine ⟨hw.os, hw.tape, hw.output, hw.size, fun k hk => ?_⟩
  have h1 : wh W k = some W.heap[k] := by unfold wh; exact Array.getElem?_eq_getElem hk
  have h2 := ho.hh k _ (K k _ h1)
  rw [h2, Array.getElem?_eq_getElem hk]
theorem cell_at {W : World} {b o : Nat} {v : Value} (h : W.cell? ⟨b, o, none⟩ = some v) : (wh W).at b o = some v := by
  unfold World.cell? at h
  unfold Hp.at wh
  cases hb : W.heap[b]? with
  | none => rw [hb] at h; cases h
  | some x =>
    rw [hb] at h
    cases x with
    | cells c t f => simpa using h
    | _ => cases h
theorem spot_none {W : World} {a : Addr} {v : Value} (h : W.cell? (a.add 0) = some v) : a = ⟨a.block, a.off, none⟩ := by
  obtain ⟨b, o, p⟩ := a
  cases p with
  | none => rfl
  | some p =>
    exfalso
    unfold World.cell? at h
    simp only [Addr.add, if_pos] at h
    cases hb : W.heap[b]? with
    | none => rw [hb] at h; cases h
    | some x =>
      rw [hb] at h
      cases x with
      | cells c t f => simp at h
      | _ => cases h
/-- Cells from an address on are a row. -/
theorem row_of_cells {W : World} {a : Addr} {n : Nat} {vs : List Value} (hl : vs.length = n) (h : ∀ i, (hi : i < n) → W.cell? (a.add i) = vs[i]?) : (wh W).row (some a) n vs := by
  refine ⟨hl, ?_⟩
  by_cases h0 : n = 0
  · exact .inl h0
  right
  have hz := h 0 (by omega)
  rw [List.getElem?_eq_getElem (by omega)] at hz
  have ha := spot_none hz
  refine ⟨a.block, a.off, by rw [← ha], fun j hj => ?_⟩
  have hj' := h j hj
  rw [List.getElem?_eq_getElem (by omega)] at hj' ⊢
  rw [ha, addr_add] at hj'
  exact cell_at hj'
section
variable {H : Type} {enc : TypeId × Value → H} {P : Program} {W : World} {base : Nat} {held : Bool}
end
end Go.Eng.Ytblghgacokoklaa
end
section

/-
  ROWS, 1: an argument that is a list of edits.
-/
set_option linter.unusedSimpArgs false
set_option linter.unusedVariables false
namespace Go.Eng.Ytblghgacokoklaa
open Go.ChangeShapes Go.WideShapes Go.RowKit Go.Proofs
theorem add_add' (a : Addr) (m n : Nat) : (a.add m).add n = a.add (m + n) := by
  unfold Addr.add
  by_cases h1 : m = 0
  · subst h1; simp
  · by_cases h2 : n = 0
    · subst h2; simp [h1]
    · simp [h1, h2, Nat.add_assoc]
theorem wf_u64 {n : Int} (h : (Lit.int .u64 n).wf = true) : okU n := by
  simp [Lit.wf, IntKind.min, IntKind.max, IntKind.signed, IntKind.bits] at h
  exact ⟨by omega, by omega⟩
theorem wf_i64 {n : Int} (h : (Lit.int .i64 n).wf = true) : iI n := by
  simp [Lit.wf, IntKind.min, IntKind.max, IntKind.signed, IntKind.bits] at h
  exact ⟨by omega, by omega⟩
section
variable {H : Type} {enc : TypeId × Value → H} {P : Program} {W : World} {base : Nat} {held : Bool}
theorem slice_rows {α : Type} {t e : TypeId} {fuel : Nat} {s : Sl} {y : DataW H × List MemPlace} (sz : Nat) (f : α → List Value) (ok : α → Prop) (hsz : 0 < sz) (ht : P.underlying t = some (.slice e)) (hc : P.cellsOf e = sz) (hf : ∀ x, (f x).length = sz)
    (each : ∀ (fuel : Nat) (cs : List Value) (z : DataW H × List MemPlace), cs.length = sz → DataW.trod enc P W base (fun _ => true) held fuel e cs = some z → ∃ a, cs = f a ∧ ok a)
    (h : DataW.trod enc P W base (fun _ => true) held fuel t [.slice s.a s.n s.c] = some y) : ∃ l : List α, (wh W).row s.a (s.n * sz) (l.flatMap f) ∧ s.n ≤ s.c ∧ s.c ≤ maxLen ∧ l.length = s.n ∧ ∀ a ∈ l, ok a := by
  rcases DataW.trod_slice ht h with ⟨hcs, _⟩ | ⟨x, len, cap, elems, rest, n, _, hcs, _, hb, hl, hm, hlen, hel, _, _⟩
  · simp only [List.cons.injEq, Value.slice.injEq, and_true] at hcs
    obtain ⟨h1, h2, h3⟩ := hcs
    exact ⟨[], by rw [h1, h2]; exact ⟨by simp, .inl (by simp)⟩, by omega, by omega, by rw [h2]; rfl, fun a ha => (by cases ha)⟩
  · simp only [List.cons.injEq, Value.slice.injEq, and_true] at hcs
    obtain ⟨h1, h2, h3⟩ := hcs
    have ea : ∀ i : Fin len, ∃ a : α, (∀ j, j < sz → W.cell? (x.add (i.1 * sz + j)) = (f a)[j]?) ∧ ok a := by
      rintro ⟨i, hi⟩
      have q := hel i hi
      rw [hc, List.getElem?_eq_getElem (by omega), Option.bind_eq_some_iff] at q
      obtain ⟨cs', hcs', hy⟩ := q
      obtain ⟨_, hcl, hcell⟩ := World.cells?_some hcs'
      obtain ⟨a, rfl, hok⟩ := each _ _ _ hcl hy
      refine ⟨a, fun j hj => ?_, hok⟩
      rw [← hcell j hj, add_add']
    obtain ⟨g, hg⟩ := Classical.axiomOfChoice ea
    refine ⟨List.ofFn g, ?_, by omega, by omega, by rw [List.length_ofFn]; omega, fun a ha => ?_⟩
    · rw [h1, h2]
      have hll : ((List.ofFn g).flatMap f).length = len * sz := by
        have : ∀ l : List α, (l.flatMap f).length = l.length * sz := fun l => flat_length f sz hf l
        rw [this, List.length_ofFn]
      refine row_of_cells hll fun k hk => ?_
      have hi : k / sz < len := Nat.div_lt_of_lt_mul (by rw [Nat.mul_comm]; exact hk)
      have hj : k % sz < sz := Nat.mod_lt _ hsz
      have hkk : k = k / sz * sz + k % sz := by rw [Nat.mul_comm]; exact (Nat.div_add_mod k sz).symm
      have q := (hg ⟨k / sz, hi⟩).1 (k % sz) hj
      have q2 := flat_get f sz hf (List.ofFn g) (k / sz) (k % sz) (by rw [List.length_ofFn]; exact hi) hj
      simp only at q
      rw [← hkk] at q q2
      rw [q, q2]
      simp
    · obtain ⟨i, rfl⟩ := (List.mem_ofFn ..).1 ha
      exact (hg i).2
end
section
variable {H : Type} {enc : TypeId × Value → H} {W : World} {base : Nat} {held : Bool}
theorem c3 : Try.prog.cellsOf 3 = 1 := by kernel_rfl
theorem c55 : Try.prog.cellsOf 55 = 1 := by kernel_rfl
theorem c9 : Try.prog.cellsOf 9 = 1 := by kernel_rfl
theorem c85 : Try.prog.cellsOf 85 = 6 := by kernel_rfl
theorem c87 : Try.prog.cellsOf 87 = 7 := by kernel_rfl
theorem c89 : Try.prog.cellsOf 89 = 2 := by kernel_rfl
theorem c60 : Try.prog.cellsOf 60 = 6 := by kernel_rfl
theorem c56 : Try.prog.cellsOf 56 = 1 := by kernel_rfl
theorem c57 : Try.prog.cellsOf 57 = 1 := by kernel_rfl
theorem c58 : Try.prog.cellsOf 58 = 1 := by kernel_rfl
theorem int_cell {fuel : Nat} {c : Value} {x : Option (DataW H × List MemPlace)} (h : DataW.trod enc Try.prog W base (fun _ => true) held fuel 3 [c] = x) (hx : x.isSome) : ∃ n, c = .int .i64 n ∧ iI n := by
  obtain ⟨y, rfl⟩ := Option.isSome_iff_exists.1 hx
  obtain ⟨n, hn, _, hw⟩ := DataW.trod_int Try.underlying3 h
  exact ⟨n, by simpa using hn, wf_i64 hw⟩
theorem num_cell {fuel : Nat} {c : Value} {x : Option (DataW H × List MemPlace)} (h : DataW.trod enc Try.prog W base (fun _ => true) held fuel 55 [c] = x) (hx : x.isSome) : ∃ n, c = .int .u64 n ∧ okU n := by
  obtain ⟨y, rfl⟩ := Option.isSome_iff_exists.1 hx
  obtain ⟨n, hn, _, hw⟩ := DataW.trod_int Try.underlying55 h
  exact ⟨n, by simpa using hn, wf_u64 hw⟩
theorem str_cell {fuel : Nat} {c : Value} {x : Option (DataW H × List MemPlace)} (h : DataW.trod enc Try.prog W base (fun _ => true) held fuel 9 [c] = x) (hx : x.isSome) : ∃ s : ByteArray, c = .string s ∧ s.size ≤ 9223372036854775807 := by
  obtain ⟨y, rfl⟩ := Option.isSome_iff_exists.1 hx
  obtain ⟨s, hn, _, hw⟩ := DataW.trod_string Try.underlying9 h
  exact ⟨s, by simpa using hn, by have : maxLen = 9223372036854775807 := by decide
                                  omega⟩
theorem some_at {xs : List (DataW H × List MemPlace)} {n i : Nat} (h : xs.length = n) (hi : i < n) : (xs[i]?).isSome := by
  rw [List.getElem?_eq_getElem (by omega)]; rfl
theorem place_each (fuel : Nat) (cs : List Value) (z : DataW H × List MemPlace) (hl : cs.length = 2) (h : DataW.trod enc Try.prog W base (fun _ => true) held fuel 89 cs = some z) : ∃ p : Place, cs = p.cells ∧ iI p.lv ∧ okU p.num := by
  obtain ⟨xs, n, _, _, _, hxs, hf⟩ := DataW.trod_struct Try.underlying89 h
  rcases cs with _ | ⟨a0, _ | ⟨a1, _ | ⟨a2, cs⟩⟩⟩
  · cases hl
  · cases hl
  · have f0 : DataW.trod enc Try.prog W base (fun _ => true) held n 3 (([a0, a1].drop 0).take (Try.prog.cellsOf 3)) = xs[0]? := hf 0 _ rfl
    rw [c3] at f0
    have f1 : DataW.trod enc Try.prog W base (fun _ => true) held n 55 (([a0, a1].drop 1).take (Try.prog.cellsOf 55)) = xs[1]? := hf 1 _ rfl
    rw [c55] at f1
    obtain ⟨n0, rfl, g0⟩ := int_cell (c := a0) f0 (some_at hxs (by decide))
    obtain ⟨n1, rfl, g1⟩ := num_cell (c := a1) f1 (some_at hxs (by decide))
    exact ⟨⟨n0, n1⟩, rfl, g0, g1⟩
  · simp at hl
theorem placed_each (fuel : Nat) (cs : List Value) (z : DataW H × List MemPlace) (hl : cs.length = 7) (h : DataW.trod enc Try.prog W base (fun _ => true) held fuel 87 cs = some z) : ∃ p : Placed, cs = p.cells ∧ iI p.lv ∧ okU p.num ∧ iI p.weight ∧ iI p.bytes ∧ iI p.entries ∧ p.least.size ≤ 9223372036854775807 ∧ p.greatest.size ≤ 9223372036854775807 := by
  obtain ⟨xs, n, _, _, _, hxs, hf⟩ := DataW.trod_struct Try.underlying87 h
  rcases cs with _ | ⟨a0, _ | ⟨a1, _ | ⟨a2, _ | ⟨a3, _ | ⟨a4, _ | ⟨a5, _ | ⟨a6, _ | ⟨a7, cs⟩⟩⟩⟩⟩⟩⟩⟩
  case cons.cons.cons.cons.cons.cons.cons.nil =>
    have f0 : DataW.trod enc Try.prog W base (fun _ => true) held n 3 (([a0, a1, a2, a3, a4, a5, a6].drop 0).take (Try.prog.cellsOf 3)) = xs[0]? := hf 0 _ rfl
    rw [c3] at f0
    have f1 : DataW.trod enc Try.prog W base (fun _ => true) held n 85 (([a0, a1, a2, a3, a4, a5, a6].drop 1).take (Try.prog.cellsOf 85)) = xs[1]? := hf 1 _ rfl
    rw [c85] at f1
    obtain ⟨n0, rfl, g0⟩ := int_cell (c := a0) f0 (some_at hxs (by decide))
    obtain ⟨y, hy⟩ := Option.isSome_iff_exists.1 (some_at hxs (i := 1) (by decide))
    rw [hy] at f1
    have f1 : DataW.trod enc Try.prog W base (fun _ => true) held n 85 [a1, a2, a3, a4, a5, a6] = some y := f1
    obtain ⟨ys, m, _, _, _, hys, hg⟩ := DataW.trod_struct Try.underlying85 f1
    have e0 : DataW.trod enc Try.prog W base (fun _ => true) held m 55 (([a1, a2, a3, a4, a5, a6].drop 0).take (Try.prog.cellsOf 55)) = ys[0]? := hg 0 _ rfl
    rw [c55] at e0
    have e1 : DataW.trod enc Try.prog W base (fun _ => true) held m 3 (([a1, a2, a3, a4, a5, a6].drop 1).take (Try.prog.cellsOf 3)) = ys[1]? := hg 1 _ rfl
    rw [c3] at e1
    have e2 : DataW.trod enc Try.prog W base (fun _ => true) held m 3 (([a1, a2, a3, a4, a5, a6].drop 2).take (Try.prog.cellsOf 3)) = ys[2]? := hg 2 _ rfl
    rw [c3] at e2
    have e3 : DataW.trod enc Try.prog W base (fun _ => true) held m 3 (([a1, a2, a3, a4, a5, a6].drop 3).take (Try.prog.cellsOf 3)) = ys[3]? := hg 3 _ rfl
    rw [c3] at e3
    have e4 : DataW.trod enc Try.prog W base (fun _ => true) held m 9 (([a1, a2, a3, a4, a5, a6].drop 4).take (Try.prog.cellsOf 9)) = ys[4]? := hg 4 _ rfl
    rw [c9] at e4
    have e5 : DataW.trod enc Try.prog W base (fun _ => true) held m 9 (([a1, a2, a3, a4, a5, a6].drop 5).take (Try.prog.cellsOf 9)) = ys[5]? := hg 5 _ rfl
    rw [c9] at e5
    obtain ⟨n1, rfl, g1⟩ := num_cell (c := a1) e0 (some_at hys (by decide))
    obtain ⟨n2, rfl, g2⟩ := int_cell (c := a2) e1 (some_at hys (by decide))
    obtain ⟨n3, rfl, g3⟩ := int_cell (c := a3) e2 (some_at hys (by decide))
    obtain ⟨n4, rfl, g4⟩ := int_cell (c := a4) e3 (some_at hys (by decide))
    obtain ⟨s5, rfl, g5⟩ := str_cell (c := a5) e4 (some_at hys (by decide))
    obtain ⟨s6, rfl, g6⟩ := str_cell (c := a6) e5 (some_at hys (by decide))
    exact ⟨⟨n0, n1, n2, n3, n4, s5, s6⟩, rfl, g0, g1, g2, g3, g4, g5, g6⟩
  all_goals simp at hl
theorem text_each (fuel : Nat) (cs : List Value) (z : DataW H × List MemPlace) (hl : cs.length = 1) (h : DataW.trod enc Try.prog W base (fun _ => true) held fuel 9 cs = some z) : ∃ s : ByteArray, cs = [Value.string s] ∧ s.size ≤ 9223372036854775807 := by
  rcases cs with _ | ⟨a0, _ | ⟨a1, cs⟩⟩
  · cases hl
  · obtain ⟨s, rfl, hs⟩ := str_cell h rfl
    exact ⟨s, rfl, hs⟩
  · simp at hl
theorem slice_cell {t e : TypeId} {fuel : Nat} {c : Value} {x : Option (DataW H × List MemPlace)} (ht : Try.prog.underlying t = some (.slice e)) (h : DataW.trod enc Try.prog W base (fun _ => true) held fuel t [c] = x) (hx : x.isSome) : ∃ s : Sl, c = .slice s.a s.n s.c ∧ ∃ y, DataW.trod enc Try.prog W base (fun _ => true) held fuel t [.slice s.a s.n s.c] = some y := by
  obtain ⟨y, rfl⟩ := Option.isSome_iff_exists.1 hx
  rcases DataW.trod_slice ht h with ⟨hcs, _⟩ | ⟨a, len, cap, _, _, _, _, hcs, _, _, _, _, _, _, _, _⟩
  · simp only [List.cons.injEq, and_true] at hcs
    subst hcs
    exact ⟨⟨none, 0, 0⟩, rfl, y, h⟩
  · simp only [List.cons.injEq, and_true] at hcs
    subst hcs
    exact ⟨⟨some a, len, cap⟩, rfl, y, h⟩
theorem flat_one : ∀ p : List ByteArray, p.flatMap (fun s : ByteArray => [Value.string s]) = ptrV p
  | [] => rfl
  | a :: l => by
    rw [List.flatMap_cons, flat_one l]
    rfl
theorem edit_each (fuel : Nat) (cs : List Value) (z : DataW H × List MemPlace) (hl : cs.length = 6) (h : DataW.trod enc Try.prog W base (fun _ => true) held fuel 60 cs = some z) :
    ∃ x : EdS, cs = x.cells ∧ EdAt (wh W) x.e x.a x.b x.c ∧ Raw x.e ∧ x.e.out.length ≤ 9223372036854775807 ∧ x.e.inn.length ≤ 9223372036854775807 ∧ x.e.ptr.length ≤ 9223372036854775807 := by
  obtain ⟨xs, n, _, _, _, hxs, hf⟩ := DataW.trod_struct Try.underlying60 h
  rcases cs with _ | ⟨a0, _ | ⟨a1, _ | ⟨a2, _ | ⟨a3, _ | ⟨a4, _ | ⟨a5, _ | ⟨a6, cs⟩⟩⟩⟩⟩⟩⟩
  case cons.cons.cons.cons.cons.cons.nil =>
    have f0 : DataW.trod enc Try.prog W base (fun _ => true) held n 55 (([a0, a1, a2, a3, a4, a5].drop 0).take (Try.prog.cellsOf 55)) = xs[0]? := hf 0 _ rfl
    rw [c55] at f0
    have f1 : DataW.trod enc Try.prog W base (fun _ => true) held n 55 (([a0, a1, a2, a3, a4, a5].drop 1).take (Try.prog.cellsOf 55)) = xs[1]? := hf 1 _ rfl
    rw [c55] at f1
    have f2 : DataW.trod enc Try.prog W base (fun _ => true) held n 55 (([a0, a1, a2, a3, a4, a5].drop 2).take (Try.prog.cellsOf 55)) = xs[2]? := hf 2 _ rfl
    rw [c55] at f2
    have f3 : DataW.trod enc Try.prog W base (fun _ => true) held n 56 (([a0, a1, a2, a3, a4, a5].drop 3).take (Try.prog.cellsOf 56)) = xs[3]? := hf 3 _ rfl
    rw [c56] at f3
    have f4 : DataW.trod enc Try.prog W base (fun _ => true) held n 57 (([a0, a1, a2, a3, a4, a5].drop 4).take (Try.prog.cellsOf 57)) = xs[4]? := hf 4 _ rfl
    rw [c57] at f4
    have f5 : DataW.trod enc Try.prog W base (fun _ => true) held n 58 (([a0, a1, a2, a3, a4, a5].drop 5).take (Try.prog.cellsOf 58)) = xs[5]? := hf 5 _ rfl
    rw [c58] at f5
    obtain ⟨n0, rfl, g0⟩ := num_cell (c := a0) f0 (some_at hxs (by decide))
    obtain ⟨n1, rfl, g1⟩ := num_cell (c := a1) f1 (some_at hxs (by decide))
    obtain ⟨n2, rfl, g2⟩ := num_cell (c := a2) f2 (some_at hxs (by decide))
    obtain ⟨s3, rfl, y3, h3⟩ := slice_cell (c := a3) Try.underlying56 f3 (some_at hxs (by decide))
    obtain ⟨s4, rfl, y4, h4⟩ := slice_cell (c := a4) Try.underlying57 f4 (some_at hxs (by decide))
    obtain ⟨s5, rfl, y5, h5⟩ := slice_cell (c := a5) Try.underlying58 f5 (some_at hxs (by decide))
    obtain ⟨o, r3, _, m3, l3, k3⟩ := slice_rows 2 Place.cells (fun p => iI p.lv ∧ okU p.num) (by decide) Try.underlying56 c89 (fun _ => rfl) place_each h3
    obtain ⟨i, r4, _, m4, l4, k4⟩ := slice_rows 7 Placed.cells (fun p => iI p.lv ∧ okU p.num ∧ iI p.weight ∧ iI p.bytes ∧ iI p.entries ∧ p.least.size ≤ 9223372036854775807 ∧ p.greatest.size ≤ 9223372036854775807) (by decide) Try.underlying57 c87 (fun _ => rfl) placed_each h4
    obtain ⟨p, r5, _, m5, l5, k5⟩ := slice_rows 1 (fun s : ByteArray => [Value.string s]) (fun s => s.size ≤ 9223372036854775807) (by decide) Try.underlying58 c9 (fun _ => rfl) text_each h5
    have hmax : maxLen = 9223372036854775807 := by decide
    have e5 : p.flatMap (fun s : ByteArray => [Value.string s]) = ptrV p := flat_one p
    rw [e5, Nat.mul_one] at r5
    exact ⟨⟨⟨n0, n1, n2, o, i, p⟩, s3, s4, s5⟩, rfl, ⟨r3, r4, r5⟩, ⟨g0, g1, g2, k3, k4, k5⟩, by show o.length ≤ _; omega, by show i.length ≤ _; omega, by show p.length ≤ _; omega⟩
  all_goals simp at hl
theorem open_edits {a : Option Addr} {len cap : Nat} {d : DataW H} {ps : List MemPlace} (h : DataW.Trod enc Try.prog W base (fun _ => true) held 44 (.slice a len cap) d ps) : ∃ L, Args (wh W) ⟨a, len, cap⟩ L := by
  obtain ⟨fuel, hf0⟩ := h
  have hf1 : DataW.trod enc Try.prog W base (fun _ => true) held fuel 44 [.slice (⟨a, len, cap⟩ : Sl).a (⟨a, len, cap⟩ : Sl).n (⟨a, len, cap⟩ : Sl).c] = some (d, ps) := hf0
  obtain ⟨L, r, _, _, _, k⟩ := slice_rows 6 EdS.cells (fun x => EdAt (wh W) x.e x.a x.b x.c ∧ Raw x.e ∧ x.e.out.length ≤ 9223372036854775807 ∧ x.e.inn.length ≤ 9223372036854775807 ∧ x.e.ptr.length ≤ 9223372036854775807) (by decide) Try.underlying44 c60 (fun _ => rfl) edit_each hf1
  exact ⟨L, r, fun x hx => (k x hx).1, fun x hx => (k x hx).2.1, fun x hx => (k x hx).2.2⟩
end
end Go.Eng.Ytblghgacokoklaa
end
section
namespace Go.Proofs.Ytblghgacokoklaa.manifestWhole
open Go.ChangeShapes Go.WideShapes Go.ChangeAt Go.RowKit Go.Eng Go.Eng.Ytblghgacokoklaa
set_option linter.unusedVariables false
theorem own : ownKnob Try.prog.godebug = none := by kernel_rfl
theorem laidOut : laidOutB Try.prog = true := by kernel_rfl
theorem walk {a1 : Option Addr} {len1 cap1 : Nat} {n n0 n1 n2 n3 : Int} {W : World} {L : List EdS} (A : Args (wh W) ⟨a1, len1, cap1⟩ L) (hn : iI n) :
    Calls Try.prog 7 #[.int .i64 n, .slice a1 len1 cap1, .agg ⟨[.int .u64 n0, .int .u64 n1, .int .u64 n2, .int .u64 n3]⟩] W fun e W' => e = .returned (.bool true) ∧ Below W.heap.size W W' := by
  have hT : F7.T n ⟨a1, len1, cap1⟩ n0 n1 n2 n3 (wh W) (fun v h' => v = .bool true ∧ Keep (wh W) h') := whole_law A hn fun h' K => ⟨rfl, K⟩
  have hV : F7.V [.int .i64 n, .slice a1 len1 cap1, .agg ⟨[.int .u64 n0, .int .u64 n1, .int .u64 n2, .int .u64 n3]⟩] (wh W) (fun v h' => v = .bool true ∧ Keep (wh W) h') := hT
  refine (F7.ok.2 _ (wh W) _ hV (fun _ => none) W (own_wh W)).mono fun e W' ⟨v, h', he, ho, hw, hv, K⟩ => ?_
  subst hv
  exact ⟨he, below_of hw ho K⟩
theorem c65 : Try.prog.cellsOf 65 = 4 := by kernel_rfl
section
variable {H : Type} {enc : TypeId × Value → H} {P : Program} {W : World} {base : Nat} {held : Bool}
theorem roots_each (fuel : Nat) (cs : List Value) (z : DataW H × List MemPlace) (hl : cs.length = 4) (h : DataW.trod enc Try.prog W base (fun _ => true) held fuel 65 cs = some z) : ∃ n0 n1 n2 n3 : Int, cs = [.int .u64 n0, .int .u64 n1, .int .u64 n2, .int .u64 n3] := by
  obtain ⟨xs, n, _, _, _, hxs, hf⟩ := DataW.trod_struct Try.underlying65 h
  rcases cs with _ | ⟨a0, _ | ⟨a1, _ | ⟨a2, _ | ⟨a3, _ | ⟨a4, cs⟩⟩⟩⟩⟩
  case cons.cons.cons.cons.nil =>
    have f0 : DataW.trod enc Try.prog W base (fun _ => true) held n 55 (([a0, a1, a2, a3].drop 0).take (Try.prog.cellsOf 55)) = xs[0]? := hf 0 _ rfl
    have f1 : DataW.trod enc Try.prog W base (fun _ => true) held n 55 (([a0, a1, a2, a3].drop 1).take (Try.prog.cellsOf 55)) = xs[1]? := hf 1 _ rfl
    have f2 : DataW.trod enc Try.prog W base (fun _ => true) held n 55 (([a0, a1, a2, a3].drop 2).take (Try.prog.cellsOf 55)) = xs[2]? := hf 2 _ rfl
    have f3 : DataW.trod enc Try.prog W base (fun _ => true) held n 55 (([a0, a1, a2, a3].drop 3).take (Try.prog.cellsOf 55)) = xs[3]? := hf 3 _ rfl
    rw [c55] at f0 f1 f2 f3
    obtain ⟨n0, rfl, _⟩ := num_cell (c := a0) f0 (some_at hxs (by decide))
    obtain ⟨n1, rfl, _⟩ := num_cell (c := a1) f1 (some_at hxs (by decide))
    obtain ⟨n2, rfl, _⟩ := num_cell (c := a2) f2 (some_at hxs (by decide))
    obtain ⟨n3, rfl, _⟩ := num_cell (c := a3) f3 (some_at hxs (by decide))
    exact ⟨n0, n1, n2, n3, rfl⟩
  all_goals simp at hl
end
set_option maxRecDepth 100000 in
theorem lifted (os : Os) (started : os.Started) (H : Type) (enc : TypeId × Value → H) :
    ReturnsInHanded {} Try.checked os 7 .any (Rows.manifestWholeSpec.pre6 enc Try.prog Try.f7 Rows.manifestWholeRow.domain false) (Rows.manifestWholeSpec.post enc Try.prog Try.f7 false true false false) := by
  refine returnsInHanded_of_change_sized (C := Try.checked) own started (by kernel_rfl) Try.func7
    (ChangeSpec.witness6 (enc := enc) (C := Try.checked) false ⟨#[], #[.int .i64 0, .slice none 0 0, .agg #[.int .u64 0, .int .u64 0, .int .u64 0, .int .u64 0]], []⟩ 8 (by kernel_rfl) (by kernel_rfl) (by kernel_rfl) (by kernel_rfl)) ?_
  intro W base args ds gs before hval0 hW hcnd hsz0 _
  have hval : ∀ (j : Nat) t v, Try.f7.params[j]? = some t → args[j]? = some v → Value.okWide Try.prog W .any base t v := hval0
  have hW' := hW
  obtain ⟨p, q, hA0, hV, rfl, hfz, hnd⟩ := hW
  have hA : DataW.TrodAll enc Try.prog W 0 (fun _ => true) true Try.f7.params.toList args.toList ds p := hA0
  rw [Try.params7] at hA hval
  obtain ⟨v0, vs0, d0, ds0, p0, q0, hargs, rfl, rfl, h0, r0⟩ := trodAll_cons hA
  obtain ⟨v1, vs1, d1, ds1, p1, q1, rfl, rfl, rfl, h1, r1⟩ := trodAll_cons r0
  obtain ⟨v2, vs2, d2, ds2, p2, q2, rfl, rfl, rfl, h2, r2⟩ := trodAll_cons r1
  obtain ⟨rfl, rfl, rfl⟩ := trodAll_nil r2
  obtain rfl : args = #[v0, v1, v2] := by cases args; simp_all
  obtain ⟨rfl, rfl⟩ := trodVars_none hV
  obtain ⟨a0, rfl, rfl, rfl, w0⟩ := open_int Try.underlying3 (hval 0 3 v0 rfl rfl) h0
  obtain ⟨a1, len1, cap1, rfl⟩ := okWide_slice Try.underlying44 (hval 1 44 v1 rfl rfl)
  obtain ⟨cs, rfl, hcs⟩ := okWide_struct Try.underlying65 (hval 2 65 v2 rfl rfl)
  have k1 := h1
  have k2 := h2
  have lt1 : ∀ x ∈ p1, x.block < W.heap.size := by obtain ⟨m, hm⟩ := k1; exact DataW.trod_lt m _ _ _ hm
  have lt2 : ∀ x ∈ p2, x.block < W.heap.size := by obtain ⟨m, hm⟩ := k2; exact DataW.trod_lt m _ _ _ hm
  obtain ⟨L, A⟩ := open_edits h1
  obtain ⟨n0, n1, n2, n3, hcs2⟩ : ∃ n0 n1 n2 n3 : Int, cs.toList = [.int .u64 n0, .int .u64 n1, .int .u64 n2, .int .u64 n3] := by
    obtain ⟨m, hm⟩ := h2
    exact roots_each m _ _ (by rw [Array.length_toList, hcs, c65]) hm
  obtain rfl : cs = ⟨[.int .u64 n0, .int .u64 n1, .int .u64 n2, .int .u64 n3]⟩ := Array.ext' hcs2
  clear hA0 hval0 hsz0
  refine (walk (n0 := n0) (n1 := n1) (n2 := n2) (n3 := n3) A (wf_i64 w0)).mono fun e W' ⟨he, bel⟩ => ?_
  subst he
  exact ⟨_, rfl, _, _, _, [], _, [], hW', trodAll_mk1 (shut_bool Try.underlying4 _), (trodAll_cons_mk (shut_int Try.underlying3 w0) (trodAll_cons_mk (Below.trod laidOut (by kernel_rfl) (of_decide_eq_true (by kernel_rfl)) k1 bel lt1) (trodAll_cons_mk (Below.trod laidOut (by kernel_rfl) (of_decide_eq_true (by kernel_rfl)) k2 bel lt2) trodAll_mk0))), rfl, bel.frame _, fun h => by cases h⟩
theorem over : Rows.manifestWholeRow.holds Try.pinned (OpenSpec.ofChange Rows.manifestWholeSpec) :=
  OpenClaim.holds_of_wide 7 Try.f7 rfl rfl rfl rfl rfl rfl rfl ⟨rfl, rfl, rfl, rfl, rfl⟩ rfl rfl rfl rfl rfl (by kernel_rfl) Try.func7 (by kernel_rfl)
    (of_decide_eq_true (by kernel_rfl)) (by unfold Func.isWrapper; first | (rw [if_pos (by decide +kernel)]; kernel_rfl) | (rw [if_neg (by decide +kernel)]; exact ⟨rfl, rfl⟩))
    (fun os started H enc _ => lifted os started H enc)
theorem proved : Rows.ManifestWholeSaid := over
#print axioms proved
end Go.Proofs.Ytblghgacokoklaa.manifestWhole
end
