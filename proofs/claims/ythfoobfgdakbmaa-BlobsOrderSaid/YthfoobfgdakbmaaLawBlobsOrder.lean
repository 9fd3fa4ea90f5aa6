/- bloomerylaw06.BlobsOrder returns true for every row of texts and every order, and what was handed in reads as before. Conditions: those of the given row alone. -/
import Derived.Test.YthfoobfgdakbmaaRows
import Derived.Test.YthfoobfgdakbmaaPart3
import Derived.Test.YthfoobfgdakbmaaPart4
set_option linter.unusedVariables false
set_option linter.unusedSimpArgs false
set_option maxRecDepth 100000
namespace Go.Proofs.Ythfoobfgdakbmaa.blobsOrder
open Go Go.L Go.RowKit Go.ChangeShapes Go.WideShapes Go.ChangeAt
theorem strs_in (x : (Ty.sl 16 .str).Dec) (hx : (Ty.sl 16 .str).ok x) : ∃ l : List ByteArray, IsSl 1 (l.map LV.str) (Ty.val (.sl 16 .str) x) ∧ l.length < 70368744177664 := by
  cases x with
  | none => exact ⟨[], IsSl.nils, by decide⟩
  | some l =>
    have hx : List.length l * 16 ≤ reachBytes ∧ ∀ d ∈ l, Ty.str.ok d := hx
    have hr : reachBytes < 2 ^ 47 := reachBytes_lt
    have h1 := hx.1
    exact ⟨l, IsSl.sl, (show List.length l < 70368744177664 by omega)⟩
theorem bytes_in (x : (Ty.sl 1 .u8).Dec) (hx : (Ty.sl 1 .u8).ok x) : ∃ o : List UInt8, IsSl 1 (bytesLV o) (Ty.val (.sl 1 .u8) x) ∧ o.length < 140737488355328 := by
  cases x with
  | none => exact ⟨[], IsSl.nils, by decide⟩
  | some l =>
    have hx : List.length l * 1 ≤ reachBytes ∧ ∀ d ∈ l, Ty.u8.ok d := hx
    have hr : reachBytes < 2 ^ 47 := reachBytes_lt
    have h1 := hx.1
    exact ⟨l, IsSl.sl, (show List.length l < 140737488355328 by omega)⟩
theorem order_in (x : (Ty.sl 16 .str).Dec) (hx : (Ty.sl 16 .str).ok x) (y : (Ty.sl 1 .u8).Dec) (hy : (Ty.sl 1 .u8).ok y) : HPure Try.prog 4 [Ty.val (.sl 16 .str) x, Ty.val (.sl 1 .u8) y] (.bool true) := by
  obtain ⟨l, h1, h2⟩ := strs_in x hx
  obtain ⟨o, h3, h4⟩ := bytes_in y hy
  exact order_law l o h2 h4 _ _ h1 h3
theorem own : ownKnob Try.prog.godebug = none := by kernel_rfl
theorem laidOut : laidOutB Try.prog = true := by kernel_rfl
theorem ty0 : (tyBoth Try.prog (.sl 16 .str)).1 44 = true := by kernel_rfl
theorem ty1 : (tyBoth Try.prog (.sl 1 .u8)).1 45 = true := by kernel_rfl
theorem allIn : ([44, 45] : List TypeId).all (fun t => Try.prog.readableRec t && decide (t < Try.prog.types.size)) = true := by kernel_rfl
theorem lifted (os : Os) (started : os.Started) (H : Type) (enc : TypeId × Value → H) :
    ReturnsInHanded {} Try.checked os 4 .any (Rows.blobsOrderSpec.pre6 enc Try.prog Try.f4 Rows.blobsOrderRow.domain false) (Rows.blobsOrderSpec.post enc Try.prog Try.f4 false true false false) := by
  refine returnsInHanded_of_change_sized (C := Try.checked) own started (by kernel_rfl) Try.func4
    (ChangeSpec.witness6 (enc := enc) (C := Try.checked) false ⟨#[], #[.slice none 0 0, .slice none 0 0], []⟩ 8 (by kernel_rfl) (by kernel_rfl) (by kernel_rfl) (by kernel_rfl)) ?_
  intro W base args ds gs before hval0 hW hcnd hsz0 _
  have hsz : (DataW.weightsEach Try.prog (Try.f4.params.toList ++ Rows.blobsOrderSpec.plain.varTypes Try.prog) (ds ++ gs)).all (· ≤ reachBytes) = true := hsz0
  have hval : ∀ (j : Nat) t v, Try.f4.params[j]? = some t → args[j]? = some v → Value.okWide Try.prog W .any base t v := hval0
  have hW' := hW
  obtain ⟨p, q, hA0, hV, rfl, hfz, hnd⟩ := hW
  have hA : DataW.TrodAll enc Try.prog W 0 (fun _ => true) true Try.f4.params.toList args.toList ds p := hA0
  rw [Try.params4] at hA hval hsz
  have hA' := hA
  obtain ⟨v0, vs0, d0, ds0, p0, q0, hargs, rfl, rfl, h0, r0⟩ := trodAll_cons hA
  obtain ⟨v1, vs1, d1, ds1, p1, q1, rfl, rfl, rfl, h1, r1⟩ := trodAll_cons r0
  obtain ⟨rfl, rfl, rfl⟩ := trodAll_nil r1
  obtain rfl : args = #[v0, v1] := by cases args; simp_all
  obtain ⟨rfl, rfl⟩ := trodVars_none hV
  obtain ⟨x0, hx0, hr0⟩ := rep_in ty0 (hval 0 44 v0 rfl rfl) h0 (sized_in hsz (j := 0) (t := 44) rfl rfl)
  obtain ⟨x1, hx1, hr1⟩ := rep_in ty1 (hval 1 45 v1 rfl rfl) h1 (sized_in hsz (j := 1) (t := 45) rfl rfl)
  have hall : RepAll (freshG W) [v0, v1] [(Ty.val (.sl 16 .str) x0), (Ty.val (.sl 1 .u8) x1)] := repAll_append (repAll_sing hr0) (repAll_sing hr1)
  have hlaw : HPure Try.prog 4 [(Ty.val (.sl 16 .str) x0), (Ty.val (.sl 1 .u8) x1)] (.bool true) := (order_in x0 hx0 x1 hx1)
  refine (hlaw.base hall).mono fun e W' ⟨he, bel⟩ => ?_
  subst he
  exact ⟨_, rfl, _, _, _, [], _, [], hW', trodAll_mk1 (shut_bool Try.underlying4 _), trodAll_stays laidOut allIn hA' bel, rfl, bel.frame _, fun h => by cases h⟩
theorem over : Rows.blobsOrderRow.holds Try.pinned (OpenSpec.ofChange Rows.blobsOrderSpec) :=
  OpenClaim.holds_of_wide 4 Try.f4 rfl rfl rfl rfl rfl rfl rfl ⟨rfl, rfl, rfl, rfl, rfl⟩ rfl rfl rfl rfl rfl (by kernel_rfl) Try.func4 (by kernel_rfl)
    (of_decide_eq_true (by kernel_rfl)) (by unfold Func.isWrapper; first | (rw [if_pos (by decide +kernel)]; kernel_rfl) | (rw [if_neg (by decide +kernel)]; exact ⟨rfl, rfl⟩))
    (fun os started H enc _ => lifted os started H enc)
end Go.Proofs.Ythfoobfgdakbmaa.blobsOrder
namespace Go.Proofs.Ythfoobfgdakbmaa
theorem blobsOrder_holds : Rows.BlobsOrderSaid := blobsOrder.over
end Go.Proofs.Ythfoobfgdakbmaa
