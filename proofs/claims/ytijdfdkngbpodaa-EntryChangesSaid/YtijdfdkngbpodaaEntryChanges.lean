/- For all entries and each entry: EntryChanges answers true, and what it was given reads as it did. No condition. -/
import Derived.Test.YtijdfdkngbpodaaRows
import Derived.Test.YtijdfdkngbpodaaJF
import Derived.Test.YtijdfdkngbpodaaAmRow
namespace Go.Proofs.Ytijdfdkngbpodaa.lawEntryChanges
open Go.ChangeShapes Go.WideShapes Go.ChangeAt Go.RowKit Go.Am Go.Am.R1
set_option linter.unusedVariables false
set_option linter.unusedSimpArgs false
theorem own : ownKnob Try.prog.godebug = none := by kernel_rfl
theorem laidOut : laidOutB Try.prog = true := by kernel_rfl
set_option maxRecDepth 100000 in
theorem lifted (os : Os) (started : os.Started) (H : Type) (enc : TypeId × Value → H) :
    ReturnsInHanded {} Try.checked os 10 .any (Rows.entryChangesSpec.pre6 enc Try.prog Try.f10 Rows.entryChangesRow.domain false) (Rows.entryChangesSpec.post enc Try.prog Try.f10 false true false false) := by
  refine returnsInHanded_of_change_sized (C := Try.checked) own started (by kernel_rfl) Try.func10
    (ChangeSpec.witness6 (enc := enc) (C := Try.checked) false ⟨#[], #[.slice none 0 0, .agg #[.string ⟨#[]⟩, .int .i64 0]], []⟩ 8 (by kernel_rfl) (by kernel_rfl) (by kernel_rfl) (by kernel_rfl)) ?_
  intro W base args ds gs before hval0 hW hcnd hsz0 _
  have hsz : (DataW.weightsEach Try.prog (Try.f10.params.toList ++ Rows.entryChangesSpec.plain.varTypes Try.prog) (ds ++ gs)).all (· ≤ reachBytes) = true := hsz0
  have hval : ∀ (j : Nat) t v, Try.f10.params[j]? = some t → args[j]? = some v → Value.okWide Try.prog W .any base t v := hval0
  have hW' := hW
  obtain ⟨p, q, hA0, hV, rfl, hfz, hnd⟩ := hW
  have hA : DataW.TrodAll enc Try.prog W 0 (fun _ => true) true Try.f10.params.toList args.toList ds p := hA0
  rw [Try.params10] at hA hval hsz
  obtain ⟨rfl, rfl⟩ := trodVars_none hV
  obtain ⟨v0, vs0, d0, ds0, p0, q0, h0, rfl, rfl, k0, r0⟩ := trodAll_cons hA
  obtain ⟨v1, vs1, d1, ds1, p1, q1, h1, rfl, rfl, k1, r1⟩ := trodAll_cons r0
  obtain ⟨rfl, rfl, rfl⟩ := trodAll_nil r1
  have hsz2 : (DataW.weightsEach Try.prog [57, 66] [d0, d1]).all (· ≤ reachBytes) = true := by
    rw [List.append_nil] at hsz
    exact hsz
  have hval2 : ∀ (j : Nat) t v, ([57, 66] : List TypeId)[j]? = some t → args[j]? = some v → Value.okWide Try.prog W .any base t v := fun j t v a b => hval j t v (by simpa using a) b
  refine (law_call (C := cfg) prims fns mixed rfl rfl rfl Try.func10 rfl laidOut (ts := [57, 66]) (by kernel_rfl) law10_all hval2 hA hsz2).mono fun e W' ⟨he, bel, hT⟩ => ?_
  subst he
  exact ⟨_, rfl, _, _, _, [], _, [], hW', trodAll_mk1 (shut_bool Try.underlying4 _), hT, rfl, bel.frame _, fun h => by cases h⟩
theorem over : Rows.entryChangesRow.holds Try.pinned (OpenSpec.ofChange Rows.entryChangesSpec) :=
  OpenClaim.holds_of_wide 10 Try.f10 rfl rfl rfl rfl rfl rfl rfl ⟨rfl, rfl, rfl, rfl, rfl⟩ rfl rfl rfl rfl rfl (by kernel_rfl) Try.func10 (by kernel_rfl)
    (of_decide_eq_true (by kernel_rfl)) (by unfold Func.isWrapper; first | (rw [if_pos (by decide +kernel)]; kernel_rfl) | (rw [if_neg (by decide +kernel)]; exact ⟨rfl, rfl⟩))
    (fun os started H enc _ => lifted os started H enc)
end Go.Proofs.Ytijdfdkngbpodaa.lawEntryChanges
namespace Go.Proofs.Ytijdfdkngbpodaa
/-- The row, under a short name, for the claim. -/
theorem entryChanges_holds : Rows.EntryChangesSaid := lawEntryChanges.over
#print axioms entryChanges_holds
end Go.Proofs.Ytijdfdkngbpodaa
