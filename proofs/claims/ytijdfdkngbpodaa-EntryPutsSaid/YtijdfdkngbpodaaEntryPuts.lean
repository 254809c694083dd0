/- For all entries: EntryPuts answers true, and what it was given reads as it did. No condition. -/
import Derived.Test.YtijdfdkngbpodaaRows
import Derived.Test.YtijdfdkngbpodaaJC
import Derived.Test.YtijdfdkngbpodaaAmRow
namespace Go.Proofs.Ytijdfdkngbpodaa.lawEntryPuts
open Go.ChangeShapes Go.WideShapes Go.ChangeAt Go.RowKit Go.Am Go.Am.R1
set_option linter.unusedVariables false
set_option linter.unusedSimpArgs false
theorem own : ownKnob Try.prog.godebug = none := by kernel_rfl
theorem laidOut : laidOutB Try.prog = true := by kernel_rfl
set_option maxRecDepth 100000 in
theorem lifted (os : Os) (started : os.Started) (H : Type) (enc : TypeId × Value → H) :
    ReturnsInHanded {} Try.checked os 8 .any (Rows.entryPutsSpec.pre6 enc Try.prog Try.f8 Rows.entryPutsRow.domain false) (Rows.entryPutsSpec.post enc Try.prog Try.f8 false true false false) := by
  refine returnsInHanded_of_change_sized (C := Try.checked) own started (by kernel_rfl) Try.func8
    (ChangeSpec.witness6 (enc := enc) (C := Try.checked) false ⟨#[], #[.slice none 0 0], []⟩ 8 (by kernel_rfl) (by kernel_rfl) (by kernel_rfl) (by kernel_rfl)) ?_
  intro W base args ds gs before hval0 hW hcnd hsz0 _
  have hsz : (DataW.weightsEach Try.prog (Try.f8.params.toList ++ Rows.entryPutsSpec.plain.varTypes Try.prog) (ds ++ gs)).all (· ≤ reachBytes) = true := hsz0
  have hval : ∀ (j : Nat) t v, Try.f8.params[j]? = some t → args[j]? = some v → Value.okWide Try.prog W .any base t v := hval0
  have hW' := hW
  obtain ⟨p, q, hA0, hV, rfl, hfz, hnd⟩ := hW
  have hA : DataW.TrodAll enc Try.prog W 0 (fun _ => true) true Try.f8.params.toList args.toList ds p := hA0
  rw [Try.params8] at hA hval hsz
  obtain ⟨rfl, rfl⟩ := trodVars_none hV
  obtain ⟨v0, vs0, d0, ds0, p0, q0, h0, rfl, rfl, k0, r0⟩ := trodAll_cons hA
  obtain ⟨rfl, rfl, rfl⟩ := trodAll_nil r0
  have hsz2 : (DataW.weightsEach Try.prog [57] [d0]).all (· ≤ reachBytes) = true := by
    rw [List.append_nil] at hsz
    exact hsz
  have hval2 : ∀ (j : Nat) t v, ([57] : List TypeId)[j]? = some t → args[j]? = some v → Value.okWide Try.prog W .any base t v := fun j t v a b => hval j t v (by simpa using a) b
  refine (law_call (C := cfg) prims fns mixed rfl rfl rfl Try.func8 rfl laidOut (ts := [57]) (by kernel_rfl) law8_all hval2 hA hsz2).mono fun e W' ⟨he, bel, hT⟩ => ?_
  subst he
  exact ⟨_, rfl, _, _, _, [], _, [], hW', trodAll_mk1 (shut_bool Try.underlying4 _), hT, rfl, bel.frame _, fun h => by cases h⟩
theorem over : Rows.entryPutsRow.holds Try.pinned (OpenSpec.ofChange Rows.entryPutsSpec) :=
  OpenClaim.holds_of_wide 8 Try.f8 rfl rfl rfl rfl rfl rfl rfl ⟨rfl, rfl, rfl, rfl, rfl⟩ rfl rfl rfl rfl rfl (by kernel_rfl) Try.func8 (by kernel_rfl)
    (of_decide_eq_true (by kernel_rfl)) (by unfold Func.isWrapper; first | (rw [if_pos (by decide +kernel)]; kernel_rfl) | (rw [if_neg (by decide +kernel)]; exact ⟨rfl, rfl⟩))
    (fun os started H enc _ => lifted os started H enc)
end Go.Proofs.Ytijdfdkngbpodaa.lawEntryPuts
namespace Go.Proofs.Ytijdfdkngbpodaa
/-- The row, under a short name, for the claim. -/
theorem entryPuts_holds : Rows.EntryPutsSaid := lawEntryPuts.over
#print axioms entryPuts_holds
end Go.Proofs.Ytijdfdkngbpodaa
