/- For all entries, each entry and bytes that are together of bulk at most 1048576: EntryBack answers true, and what it was given reads as it did. No other condition. -/
import Derived.Test.YtijdfdkngbpodaaRows
import Derived.Test.YtijdfdkngbpodaaJG
import Derived.Test.YtijdfdkngbpodaaAmRow
import Derived.Test.YtijdfdkngbpodaaRowUp
import Derived.JoinedCond
import Derived.Deep.CondSized
namespace Go.Proofs.Ytijdfdkngbpodaa.lawEntryBackUpto
open Go.ChangeShapes Go.WideShapes Go.ChangeAt Go.RowKit Go.Am Go.Am.R1
set_option linter.unusedVariables false
set_option linter.unusedSimpArgs false
theorem own : ownKnob Try.prog.godebug = none := by kernel_rfl
theorem laidOut : laidOutB Try.prog = true := by kernel_rfl
set_option maxRecDepth 100000 in
theorem lifted (os : Os) (started : os.Started) (H : Type) (enc : TypeId × Value → H) (F : Stop.Interp) :
    ReturnsInHanded {} Try.checked os 16 .any ((Rows.OpenSpec.upto Rows.entryBackSpec).pre6 enc Try.prog Try.f16 Rows.entryBackUptoRow.domain false) (((Rows.OpenSpec.upto Rows.entryBackSpec).at F).post enc Try.prog Try.f16 false true false false) := by
  refine returnsInHanded_of_cond_sized (C := Try.checked) (s := Rows.OpenSpec.upto Rows.entryBackSpec) (k := Rows.uptoSmall) rfl own started (by kernel_rfl) Try.func16
    (OpenSpec.witness (enc := enc) (C := Try.checked) (s := Rows.OpenSpec.upto Rows.entryBackSpec) (k := Rows.uptoSmall) rfl false ⟨#[], #[.slice none 0 0, .agg #[.string ⟨#[]⟩, .int .i64 0], .slice none 0 0], []⟩ 8 (by kernel_rfl) (by kernel_rfl) (by kernel_rfl)
      (x := ([.nil, .agg [.lit (.string []), .lit (.int .i64 0)], .nil], [], [])) (by kernel_rfl) rfl (by kernel_rfl)) ?_
  intro W base args ds gs before hval0 hW hcnd hk hsz0 _
  have hval : ∀ (j : Nat) t v, Try.f16.params[j]? = some t → args[j]? = some v → Value.okWide Try.prog W .any base t v := hval0
  have hW' := hW
  obtain ⟨p, q, hA0, hV, rfl, hfz, hnd⟩ := hW
  have hA : DataW.TrodAll enc Try.prog W 0 (fun _ => true) true Try.f16.params.toList args.toList ds p := hA0
  rw [Try.params16] at hA hval
  obtain ⟨rfl, rfl⟩ := trodVars_none hV
  obtain ⟨v0, vs0, d0, ds0, p0, q0, h0, rfl, rfl, k0, r0⟩ := trodAll_cons hA
  obtain ⟨v1, vs1, d1, ds1, p1, q1, h1, rfl, rfl, k1, r1⟩ := trodAll_cons r0
  obtain ⟨v2, vs2, d2, ds2, p2, q2, h2, rfl, rfl, k2, r2⟩ := trodAll_cons r1
  obtain ⟨rfl, rfl, rfl⟩ := trodAll_nil r2
  have hsz2 : (DataW.weightsEach Try.prog [57, 66, 22] [d0, d1, d2]).all (· ≤ 1048576 * (2 * 144)) = true := by
    refine bulkUp.up_weights bulkUp.bytes_le (by decide) (by decide +kernel) ?_
    simpa using hk
  have hval2 : ∀ (j : Nat) t v, ([57, 66, 22] : List TypeId)[j]? = some t → args[j]? = some v → Value.okWide Try.prog W .any base t v := fun j t v a b => hval j t v (by simpa using a) b
  refine (law_callR (C := cfg) prims fns mixed rfl rfl rfl Try.func16 rfl laidOut (ts := [57, 66, 22]) (by kernel_rfl) law16_up hval2 hA hsz2).mono fun e W' ⟨he, bel, hT⟩ => ?_
  subst he
  exact ⟨_, rfl, _, _, _, [], _, [], hW', trodAll_mk1 (shut_bool Try.underlying4 _), hT, rfl, bel.frame _, fun h => by cases h⟩
theorem over : Rows.entryBackUptoRow.holds Try.pinned (Rows.OpenSpec.upto Rows.entryBackSpec) :=
  OpenClaim.holds_of_cond 16 Try.f16 rfl rfl rfl rfl rfl rfl rfl ⟨rfl, rfl, rfl, rfl, rfl⟩ rfl rfl rfl rfl rfl (by kernel_rfl) Try.func16 (by kernel_rfl)
    (of_decide_eq_true (by kernel_rfl)) (by unfold Func.isWrapper; first | (rw [if_pos (by decide +kernel)]; kernel_rfl) | (rw [if_neg (by decide +kernel)]; exact ⟨rfl, rfl⟩))
    (fun os started H enc _ F => lifted os started H enc F)
end Go.Proofs.Ytijdfdkngbpodaa.lawEntryBackUpto
namespace Go.Proofs.Ytijdfdkngbpodaa
/-- The row, under a short name, for the claim. -/
theorem entryBackUpto_holds : Rows.EntryBackUptoSaid := lawEntryBackUpto.over
#print axioms entryBackUpto_holds
end Go.Proofs.Ytijdfdkngbpodaa
