/-
  laws.FnExactIntersectCounterexample returns true for every input (conditions: none).
  The frame follows the frames of proof-skeleton.mjs; the walk is FnExactIntersectCounterexample_g.
-/
import Derived.Test.YtnifgfnhcjhodaaRows
import Derived.WalkKit
import Derived.Conc.LeavingOf
import Derived.ProofKit
import Derived.OpenShut
import Derived.ShutString
import Derived.ChangeOld
import Derived.Below
import Derived.Test.YtnifgfnhcjhodaaKExactIntersectCounterexample
import Derived.Test.YtnifgfnhcjhodaaX1
import Derived.Test.YtnifgfnhcjhodaaA1
namespace Go.Proofs.Ytnifgfnhcjhodaa.fnExactIntersectCounterexample
open Go.Proofs.Ytnifgfnhcjhodaa Go.ChangeShapes Go.WideShapes Go.ChangeAt Go.RowKit
open Go.ChangeMaps (open_string shut_string)
set_option linter.unusedVariables false

theorem own : ownKnob Try.prog.godebug = none := by kernel_rfl
theorem laidOut : laidOutB Try.prog = true := by kernel_rfl

theorem walk (a0 : Option Addr) (len0 cap0 : Nat) (f0 : List (List Int)) (a1 : Option Addr) (len1 cap1 : Nat) (f1 : List (List Int)) (w : World) (w0 : FamV w a0 len0 cap0 f0) (w1 : FamV w a1 len1 cap1 f1) :
    ∃ M last o w' t', runNT Try.prog (M + 1) (Go.Conc.solo (Go.Conc.G (Frame.enter Try.prog 6 #[.slice a0 len0 cap0, .slice a1 len1 cap1] .normal) []) w) #[] = (.ended o w', t') ∧ runN Try.prog M (Go.Conc.solo (Go.Conc.G (Frame.enter Try.prog 6 #[.slice a0 len0 cap0, .slice a1 len1 cap1] .normal) []) w) = .next last ∧ step Try.prog last = .ended o w' ∧
      Go.Conc.Good Try.prog (fun v w' => v = .bool true ∧ Below w.heap.size w (World.re w' w.tape 0)) last o w' t' := by
  exact law_run (by kernel_rfl) (FnExactIntersectCounterexample_g w0 w1)

set_option maxRecDepth 100000 in
theorem lifted (os : Os) (started : os.Started) (H : Type) (enc : TypeId × Value → H) :
    ReturnsInLeavingWide {} Try.checked os 6 .any (Rows.fnExactIntersectCounterexampleSpec.pre6 enc Try.prog Try.f6 Rows.fnExactIntersectCounterexampleRow.domain false) (Rows.fnExactIntersectCounterexampleSpec.post enc Try.prog Try.f6 false true false false) := by
  refine returnsInLeavingWide_of_change_sized (C := Try.checked) own started Try.func6
    (ChangeSpec.witness6 (enc := enc) (C := Try.checked) false ⟨#[], #[.slice none 0 0, .slice none 0 0], []⟩ 8 (by kernel_rfl) (by kernel_rfl) (by kernel_rfl) (by kernel_rfl)) ?_
  intro W base args ds gs before hval0 hW hcnd _ _
  have hval : ∀ (j : Nat) t v, Try.f6.params[j]? = some t → args[j]? = some v → Value.okWide Try.prog W .any base t v := hval0
  have hW' := hW
  obtain ⟨p, q, hA0, hV, rfl, hfz, hnd⟩ := hW
  have hA : DataW.TrodAll enc Try.prog W 0 (fun _ => true) true Try.f6.params.toList args.toList ds p := hA0
  rw [Try.params6] at hA hval
  obtain ⟨v0, vs0, d0, ds0, p0, q0, hargs, rfl, rfl, h0, r0⟩ := trodAll_cons hA
  obtain ⟨v1, vs1, d1, ds1, p1, q1, rfl, rfl, rfl, h1, r1⟩ := trodAll_cons r0
  obtain ⟨rfl, rfl, rfl⟩ := trodAll_nil r1
  obtain rfl : args = #[v0, v1] := by cases args; simp_all
  obtain ⟨rfl, rfl⟩ := trodVars_none hV
  obtain ⟨a0, len0, cap0, rfl⟩ := okWide_slice Try.underlying23 (hval 0 23 v0 rfl rfl)
  have k0 := h0
  have lt0 : ∀ x ∈ p0, x.block < W.heap.size := by obtain ⟨m, hm⟩ := k0; exact DataW.trod_lt m _ _ _ hm
  obtain ⟨f0, w0⟩ := famV_of h0
  obtain ⟨a1, len1, cap1, rfl⟩ := okWide_slice Try.underlying23 (hval 1 23 v1 rfl rfl)
  have k1 := h1
  have lt1 : ∀ x ∈ p1, x.block < W.heap.size := by obtain ⟨m, hm⟩ := k1; exact DataW.trod_lt m _ _ _ hm
  obtain ⟨f1, w1⟩ := famV_of h1
  clear hA0 hval0
  obtain ⟨M, last, o, W', t', r1, r2, r3, r4⟩ := walk a0 len0 cap0 f0 a1 len1 cap1 f1 W w0 w1
  refine ⟨M, last, o, W', t', r1, r2, r3, r4.mono fun v hF => post_re (T := W.tape) (d := 0) ?_⟩
  obtain ⟨rfl, bel⟩ := hF
  exact ⟨_, _, _, [], _, [], hW', trodAll_mk1 (shut_bool Try.underlying4 _), (trodAll_cons_mk (Below.trod laidOut (by kernel_rfl) (of_decide_eq_true (by kernel_rfl)) k0 bel lt0) (trodAll_cons_mk (Below.trod laidOut (by kernel_rfl) (of_decide_eq_true (by kernel_rfl)) k1 bel lt1) trodAll_mk0)), rfl, bel.frame _, fun h => by cases h⟩

theorem over : Rows.fnExactIntersectCounterexampleRow.holds Try.pinned (OpenSpec.ofChange Rows.fnExactIntersectCounterexampleSpec) :=
  OpenClaim.holds_of_wide_leaving 6 Try.f6 rfl rfl rfl rfl rfl rfl rfl ⟨rfl, rfl, rfl, rfl, rfl⟩ rfl rfl rfl rfl rfl (by kernel_rfl) Try.func6 (by kernel_rfl)
    (of_decide_eq_true (by kernel_rfl)) (by unfold Func.isWrapper; first | (rw [if_pos (by decide +kernel)]; kernel_rfl) | (rw [if_neg (by decide +kernel)]; exact ⟨rfl, rfl⟩))
    (fun os started H enc _ => lifted os started H enc)

/-- THE STATEMENT -/
theorem proved : Rows.FnExactIntersectCounterexampleSaid := over
#print axioms proved
end Go.Proofs.Ytnifgfnhcjhodaa.fnExactIntersectCounterexample
