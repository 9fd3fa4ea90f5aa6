/- bloomerylaw06.BlobsChecks returns true for every pair of a text and a digest, and what was handed in reads as before. Conditions: those of the given row alone. -/
import Derived.Test.YthfoobfgdakbmaaRows
import Derived.Test.YthfoobfgdakbmaaPart2
import Derived.Test.YthfoobfgdakbmaaPart3
set_option linter.unusedVariables false
set_option linter.unusedSimpArgs false
set_option maxRecDepth 100000
namespace Go.Proofs.Ythfoobfgdakbmaa.blobsChecks
open Go Go.L Go.RowKit Go.ChangeShapes Go.WideShapes Go.ChangeAt
theorem own : ownKnob Try.prog.godebug = none := by kernel_rfl
theorem laidOut : laidOutB Try.prog = true := by kernel_rfl
theorem ty0 : (tyBoth Try.prog .str).1 9 = true := by kernel_rfl
theorem ty1 : (tyBoth Try.prog (.arr 32 .u8)).1 29 = true := by kernel_rfl
theorem allIn : ([9, 29] : List TypeId).all (fun t => Try.prog.readableRec t && decide (t < Try.prog.types.size)) = true := by kernel_rfl
theorem dig_val (l : List UInt8) : (Ty.arr 32 .u8).val l = digV l := by
  show LV.agg (List.flatMap (Ty.enc .u8) l) = .agg (bytesLV l)
  congr 1
  induction l with
  | nil => rfl
  | cons b l ih => exact congrArg (List.cons _) ih
theorem lifted (os : Os) (started : os.Started) (H : Type) (enc : TypeId × Value → H) :
    ReturnsInHanded {} Try.checked os 6 .any (Rows.blobsChecksSpec.pre6 enc Try.prog Try.f6 Rows.blobsChecksRow.domain false) (Rows.blobsChecksSpec.post enc Try.prog Try.f6 false true false false) := by
  refine returnsInHanded_of_change_sized (C := Try.checked) own started (by kernel_rfl) Try.func6
    (ChangeSpec.witness6 (enc := enc) (C := Try.checked) false ⟨#[], #[.string ByteArray.empty, .agg (Array.replicate 32 (.int .u8 0))], []⟩ 8 (by kernel_rfl) (by kernel_rfl) (by kernel_rfl) (by kernel_rfl)) ?_
  intro W base args ds gs before hval0 hW hcnd hsz0 _
  have hsz : (DataW.weightsEach Try.prog (Try.f6.params.toList ++ Rows.blobsChecksSpec.plain.varTypes Try.prog) (ds ++ gs)).all (· ≤ reachBytes) = true := hsz0
  have hval : ∀ (j : Nat) t v, Try.f6.params[j]? = some t → args[j]? = some v → Value.okWide Try.prog W .any base t v := hval0
  have hW' := hW
  obtain ⟨p, q, hA0, hV, rfl, hfz, hnd⟩ := hW
  have hA : DataW.TrodAll enc Try.prog W 0 (fun _ => true) true Try.f6.params.toList args.toList ds p := hA0
  rw [Try.params6] at hA hval hsz
  have hA' := hA
  obtain ⟨v0, vs0, d0, ds0, p0, q0, hargs, rfl, rfl, h0, r0⟩ := trodAll_cons hA
  obtain ⟨v1, vs1, d1, ds1, p1, q1, rfl, rfl, rfl, h1, r1⟩ := trodAll_cons r0
  obtain ⟨rfl, rfl, rfl⟩ := trodAll_nil r1
  obtain rfl : args = #[v0, v1] := by cases args; simp_all
  obtain ⟨rfl, rfl⟩ := trodVars_none hV
  obtain ⟨x0, hx0, hr0⟩ := rep_in ty0 (hval 0 9 v0 rfl rfl) h0
  obtain ⟨x1, hx1, hr1⟩ := rep_in ty1 (hval 1 29 v1 rfl rfl) h1
  have hall : RepAll (freshG W) [v0, v1] [(Ty.val .str x0), (Ty.val (.arr 32 .u8) x1)] := repAll_append (repAll_sing hr0) (repAll_sing hr1)
  have hlaw : HPure Try.prog 6 [(Ty.val .str x0), (Ty.val (.arr 32 .u8) x1)] (.bool true) := (by rw [show Ty.val (.arr 32 .u8) x1 = digV x1 from dig_val x1]; exact checks_law x0 x1 hx1.1)
  refine (hlaw.base hall).mono fun e W' ⟨he, bel⟩ => ?_
  subst he
  exact ⟨_, rfl, _, _, _, [], _, [], hW', trodAll_mk1 (shut_bool Try.underlying4 _), trodAll_stays laidOut allIn hA' bel, rfl, bel.frame _, fun h => by cases h⟩
theorem over : Rows.blobsChecksRow.holds Try.pinned (OpenSpec.ofChange Rows.blobsChecksSpec) :=
  OpenClaim.holds_of_wide 6 Try.f6 rfl rfl rfl rfl rfl rfl rfl ⟨rfl, rfl, rfl, rfl, rfl⟩ rfl rfl rfl rfl rfl (by kernel_rfl) Try.func6 (by kernel_rfl)
    (of_decide_eq_true (by kernel_rfl)) (by unfold Func.isWrapper; first | (rw [if_pos (by decide +kernel)]; kernel_rfl) | (rw [if_neg (by decide +kernel)]; exact ⟨rfl, rfl⟩))
    (fun os started H enc _ => lifted os started H enc)
end Go.Proofs.Ythfoobfgdakbmaa.blobsChecks
namespace Go.Proofs.Ythfoobfgdakbmaa
theorem blobsChecks_holds : Rows.BlobsChecksSaid := blobsChecks.over
end Go.Proofs.Ythfoobfgdakbmaa
