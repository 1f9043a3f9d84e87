/- The law CyclicSizes holds: for every input that its guards let in, the given statement's law returns true, and the input reads as it did. This file: the row, out of the pure statement and the contract of its call. -/
import Derived.Test.YtindegbbcdloiaaZCyclicSizesH
import Derived.Test.YtindegbbcdloiaaRows
import Derived.WalkKit
import Derived.ProofKit
import Derived.OpenShut
import Derived.ShutString
import Derived.ChangeOld
import Derived.Below
import Derived.SizedLaws
section
namespace Go.Proofs.Ytindegbbcdloiaa.cyclicSizes
open Go.ChangeShapes Go.WideShapes Go.ChangeAt Go.RowKit Go.Proofs.Ytindegbbcdloiaa.P Go.Proofs.YtindegbbcdloiaaW.PrintWords Go.Proofs.YtindegbbcdloiaaW.Open
open Go.ChangeMaps (open_string shut_string)
set_option linter.unusedVariables false
theorem own : ownKnob Try.prog.godebug = none := by kernel_rfl
theorem laidOut : laidOutB Try.prog = true := by kernel_rfl
set_option maxRecDepth 100000 in
theorem lifted (os : Os) (started : os.Started) (H : Type) (enc : TypeId × Value → H) :
    ReturnsInHanded {} Try.checked os 3 .any (Rows.cyclicSizesSpec.pre6 enc Try.prog Try.f3 Rows.cyclicSizesRow.domain false) (Rows.cyclicSizesSpec.post enc Try.prog Try.f3 false true false false) := by
  refine returnsInHanded_of_change_sized (C := Try.checked) own started (by kernel_rfl) Try.func3
    (ChangeSpec.witness6 (enc := enc) (C := Try.checked) false ⟨#[], #[.slice none 0 0, .int .u64 0], []⟩ 8 (by kernel_rfl) (by kernel_rfl) (by kernel_rfl) (by kernel_rfl)) ?_
  intro W base args ds gs before hval0 hW hcnd hsz0 _
  have hsz : (DataW.weightsEach Try.prog (Try.f3.params.toList ++ Rows.cyclicSizesSpec.plain.varTypes Try.prog) (ds ++ gs)).all (· ≤ reachBytes) = true := hsz0
  have hval : ∀ (j : Nat) t v, Try.f3.params[j]? = some t → args[j]? = some v → Value.okWide Try.prog W .any base t v := hval0
  have hW' := hW
  obtain ⟨p, q, hA0, hV, rfl, hfz, hnd⟩ := hW
  have hA : DataW.TrodAll enc Try.prog W 0 (fun _ => true) true Try.f3.params.toList args.toList ds p := hA0
  rw [Try.params3] at hA hval hsz
  obtain ⟨v0, vs0, d0, ds0, p0, q0, hargs, rfl, rfl, h0, r0⟩ := trodAll_cons hA
  obtain ⟨v1, vs1, d1, ds1, p1, q1, rfl, rfl, rfl, h1, r1⟩ := trodAll_cons r0
  obtain ⟨rfl, rfl, rfl⟩ := trodAll_nil r1
  obtain rfl : args = #[v0, v1] := by cases args; simp_all
  obtain ⟨rfl, rfl⟩ := trodVars_none hV
  obtain ⟨A0, n0, c0, rfl⟩ := okWide_slice Try.underlying22 (hval 0 22 v0 rfl rfl)
  have k0 := h0
  have lt0 : ∀ x ∈ p0, x.block < W.heap.size := by obtain ⟨m, hm⟩ := k0; exact DataW.trod_lt m _ _ _ hm
  obtain ⟨l0, hk0, ok0⟩ : ∃ l, (Kd.slice 34 k34).K W l (Value.slice A0 n0 c0).cells.toList ∧ (l.length ≤ maxLen ∧ ∀ x ∈ l, ((Lit.int .u64 x.f0).wf = true ∧ (Lit.int .u64 x.f1).wf = true)) := by
    obtain ⟨fuel, hf⟩ := h0
    exact (Opens.slice Try.underlying22 (by kernel_rfl) (Opens.struct (fun x : S34 => (x.f0, x.f1)) (fun v => ⟨⟨v.1, v.2⟩, rfl⟩) Try.underlying34 (by kernel_rfl) (OpensF.more (by kernel_rfl) rfl (Opens.int Try.underlying23) (OpensF.one (by kernel_rfl) (Opens.int Try.underlying23))))) fuel _ _ hf
  have y0 := sized_any hsz (j := 0) (t := 22) rfl rfl Try.underlying22 (show Try.prog.bytesOf 34 = 16 by kernel_rfl) k0
  obtain ⟨A0', c0', hcs0, hc0, hr0⟩ := hk0
  obtain ⟨rfl, rfl, rfl⟩ : A0 = A0' ∧ n0 = l0.length ∧ c0 = c0' := by simpa [Value.cells] using hcs0
  obtain ⟨a1, rfl, rfl, rfl, w1⟩ := open_int Try.underlying23 (hval 1 23 v1 rfl rfl) h1
  clear hA0 hval0 hsz0 hsz
  obtain ⟨k, h⟩ := Pure.CyclicSizes l0 a1 ok0.1 y0 ok0.2 w1
  refine (signalboxlaw43_CyclicSizes.calls k _ _ l0 a1 true W hr0 hc0 h).mono fun e W' ⟨he, bel0⟩ => ?_
  have bel : Below W.heap.size W W' := bel0
  subst he
  exact ⟨_, rfl, _, _, _, [], _, [], hW', trodAll_mk1 (shut_bool Try.underlying4 _), (trodAll_cons_mk (Below.trod laidOut (by kernel_rfl) (of_decide_eq_true (by kernel_rfl)) k0 bel lt0) (trodAll_cons_mk (shut_int Try.underlying23 w1) trodAll_mk0)), rfl, bel.frame _, fun h => by cases h⟩
theorem over : Rows.cyclicSizesRow.holds Try.pinned (OpenSpec.ofChange Rows.cyclicSizesSpec) :=
  OpenClaim.holds_of_wide 3 Try.f3 rfl rfl rfl rfl rfl rfl rfl ⟨rfl, rfl, rfl, rfl, rfl⟩ rfl rfl rfl rfl rfl (by kernel_rfl) Try.func3 (by kernel_rfl)
    (of_decide_eq_true (by kernel_rfl)) (by unfold Func.isWrapper; first | (rw [if_pos (by decide +kernel)]; kernel_rfl) | (rw [if_neg (by decide +kernel)]; exact ⟨rfl, rfl⟩))
    (fun os started H enc _ => lifted os started H enc)
theorem proved : Rows.CyclicSizesSaid := over
#print axioms proved
end Go.Proofs.Ytindegbbcdloiaa.cyclicSizes
namespace Go.Proofs.Ytindegbbcdloiaa
/-- The row, under a short name, for the claim. -/
theorem cyclicSizes_holds : Rows.CyclicSizesSaid := cyclicSizes.proved
end Go.Proofs.Ytindegbbcdloiaa
end
