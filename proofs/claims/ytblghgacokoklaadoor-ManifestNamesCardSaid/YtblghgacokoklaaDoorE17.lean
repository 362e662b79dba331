/-
  THE ENGINE, 21: what a printed text of a function is held to.
-/
import Derived.Test.YtblghgacokoklaaDoorE16
set_option linter.unusedSimpArgs false
set_option linter.unusedVariables false
namespace Go.Eng
section
variable {P : Program} {lo : List Nat} {G : List (Nat × (List Value → PT))} {V : Value → List Value → PT}
def FOk (P : Program) (f : Nat) (V : List Value → PT) : Prop := Enters P f ∧ ∀ args, Impl P f args (V args)
theorem GOk.nil : GOk P [] := fun f T h => (by cases h)
theorem GOk.cons {f : Nat} {T : List Value → PT} (h : FOk P f T) (hG : GOk P G) : GOk P ((f, T) :: G) := by
  intro g T' hl
  unfold lkG at hl
  cases hfg : f == g with
  | true =>
    rw [hfg] at hl
    have : f = g := by simpa using hfg
    subst this
    cases hl
    exact h
  | false => rw [hfg] at hl; exact hG g T' hl
def noV : Value → List Value → PT := fun _ _ _ _ => False
theorem noV_ok : VOk P noV := fun _ _ _ _ h => h.elim
theorem inStep_v (g : Nat → Nat) (vs : List Value) : inStep g (vs.map AV.v) vs := by
  refine ⟨by simp, fun i hi => ?_⟩
  rw [getN_eq]
  have hi' : i < vs.length := by simpa using hi
  simp [hi']
  rfl
theorem denF_okV (hG : GOk P G) (hV : VOk P V) {an : List (Nat × Ann)} {f : Nat} {fn : Func} {vs : List Value} (hf : P.funcs[f]? = some fn) {T : PT} (hT : ∀ h Q, T h Q → denF P lo G V an fn (vs.map AV.v) h Q) : Impl P f vs T :=
  denF_ok hG hV hf (inStep_v _ vs) (fun x hx => by obtain ⟨v, _, rfl⟩ := List.mem_map.1 hx; rfl) hT
end
end Go.Eng
