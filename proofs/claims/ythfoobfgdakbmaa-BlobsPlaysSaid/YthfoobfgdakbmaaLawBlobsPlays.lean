/- bloomerylaw06.BlobsPlays returns true for every row of acts, and what was handed in reads as before. Conditions: those of the given row alone. -/
import Derived.Test.YthfoobfgdakbmaaRows
import Derived.Test.YthfoobfgdakbmaaPart2
import Derived.Test.YthfoobfgdakbmaaPart3
set_option linter.unusedVariables false
set_option linter.unusedSimpArgs false
set_option maxRecDepth 100000
namespace Go.Proofs.Ythfoobfgdakbmaa.blobsPlays
open Go Go.L Go.RowKit Go.ChangeShapes Go.WideShapes Go.ChangeAt
def ActTy : Ty := .pair .u8 (.pair .str (.pair .bool (.pair (.arr 32 .u8) .one)))
def actD (d : ActTy.Dec) : ActD := ⟨d.1, d.2.1, d.2.2.1, d.2.2.2.1⟩
theorem bytes_flat : ∀ l : List UInt8, List.flatMap (Ty.enc .u8) l = bytesLV l
  | [] => rfl
  | b :: l => congrArg (List.cons _) (bytes_flat l)
theorem act_val (d : ActTy.Dec) : Ty.val ActTy d = actV (actD d) := by
  obtain ⟨k, s, b, o, u⟩ := d
  exact congrArg (fun z => LV.agg (.int .u8 ((show UInt8 from k).toNat : Int) :: .str s :: .bool b :: z)) ((List.append_nil _).trans (bytes_flat o))
theorem plays_in (x : (Ty.sl ActTy).Dec) (hx : (Ty.sl ActTy).ok x) (hn : ∀ l, x = some l → l.length < 70368744177664) : HPure Try.prog 3 [Ty.val (.sl ActTy) x] (.bool true) := by
  cases x with
  | none => exact plays_law [] (fun a h => nomatch h) (by decide) _ IsSl.nils
  | some l =>
    have hx : l.length ≤ maxLen ∧ ∀ d ∈ l, ActTy.ok d := hx
    have e : Ty.val (.sl ActTy) (some l) = .sl .no 35 ((l.map actD).map actV) := by
      show LV.sl .no 35 (l.map fun d => Ty.val ActTy d) = _
      rw [List.map_map]
      congr 1
      exact List.map_congr_left fun d _ => act_val d
    rw [e]
    refine plays_law (l.map actD) (fun a ha => ?_) (by rw [List.length_map]; exact hn l rfl) _ IsSl.sl
    obtain ⟨d, hd, rfl⟩ := List.mem_map.1 ha
    obtain ⟨-, -, -, h, -⟩ := hx.2 d hd
    exact h.1
theorem own : ownKnob Try.prog.godebug = none := by kernel_rfl
theorem laidOut : laidOutB Try.prog = true := by kernel_rfl
theorem ty0 : (tyBoth Try.prog (.sl ActTy)).1 22 = true := by kernel_rfl
theorem allIn : ([22] : List TypeId).all (fun t => Try.prog.readableRec t && decide (t < Try.prog.types.size)) = true := by kernel_rfl
theorem lifted (os : Os) (started : os.Started) (H : Type) (enc : TypeId × Value → H) :
    ReturnsInHanded {} Try.checked os 3 .any (Rows.blobsPlaysSpec.pre6 enc Try.prog Try.f3 Rows.blobsPlaysRow.domain false) (Rows.blobsPlaysSpec.post enc Try.prog Try.f3 false true false false) := by
  refine returnsInHanded_of_change_sized (C := Try.checked) own started (by kernel_rfl) Try.func3
    (ChangeSpec.witness6 (enc := enc) (C := Try.checked) false ⟨#[], #[.slice none 0 0], []⟩ 8 (by kernel_rfl) (by kernel_rfl) (by kernel_rfl) (by kernel_rfl)) ?_
  intro W base args ds gs before hval0 hW hcnd hsz0 _
  have hsz : (DataW.weightsEach Try.prog (Try.f3.params.toList ++ Rows.blobsPlaysSpec.plain.varTypes Try.prog) (ds ++ gs)).all (· ≤ reachBytes) = true := hsz0
  have hval : ∀ (j : Nat) t v, Try.f3.params[j]? = some t → args[j]? = some v → Value.okWide Try.prog W .any base t v := hval0
  have hW' := hW
  obtain ⟨p, q, hA0, hV, rfl, hfz, hnd⟩ := hW
  have hA : DataW.TrodAll enc Try.prog W 0 (fun _ => true) true Try.f3.params.toList args.toList ds p := hA0
  rw [Try.params3] at hA hval hsz
  have hA' := hA
  obtain ⟨v0, vs0, d0, ds0, p0, q0, hargs, rfl, rfl, h0, r0⟩ := trodAll_cons hA
  obtain ⟨rfl, rfl, rfl⟩ := trodAll_nil r0
  obtain rfl : args = #[v0] := by cases args; simp_all
  obtain ⟨rfl, rfl⟩ := trodVars_none hV
  obtain ⟨x0, hx0, hr0⟩ := rep_in ty0 (hval 0 22 v0 rfl rfl) h0
  have hn0 : ∀ l, x0 = some l → l.length < 70368744177664 := fun l hl => by
    subst hl
    have := sl_sized (e := ActTy) hsz (j := 0) (t := 22) rfl rfl Try.underlying22 h0 hr0
    have hb : Try.prog.bytesOf 31 = 64 := by kernel_rfl
    rw [hb] at this
    have hr : reachBytes < 2 ^ 47 := reachBytes_lt
    omega
  have hall : RepAll (freshG W) [v0] [(Ty.val (.sl ActTy) x0)] := repAll_sing hr0
  have hlaw : HPure Try.prog 3 [(Ty.val (.sl ActTy) x0)] (.bool true) := (plays_in x0 hx0 hn0)
  refine (hlaw.base hall).mono fun e W' ⟨he, bel⟩ => ?_
  subst he
  exact ⟨_, rfl, _, _, _, [], _, [], hW', trodAll_mk1 (shut_bool Try.underlying4 _), trodAll_stays laidOut allIn hA' bel, rfl, bel.frame _, fun h => by cases h⟩
theorem over : Rows.blobsPlaysRow.holds Try.pinned (OpenSpec.ofChange Rows.blobsPlaysSpec) :=
  OpenClaim.holds_of_wide 3 Try.f3 rfl rfl rfl rfl rfl rfl rfl ⟨rfl, rfl, rfl, rfl, rfl⟩ rfl rfl rfl rfl rfl (by kernel_rfl) Try.func3 (by kernel_rfl)
    (of_decide_eq_true (by kernel_rfl)) (by unfold Func.isWrapper; first | (rw [if_pos (by decide +kernel)]; kernel_rfl) | (rw [if_neg (by decide +kernel)]; exact ⟨rfl, rfl⟩))
    (fun os started H enc _ => lifted os started H enc)
end Go.Proofs.Ythfoobfgdakbmaa.blobsPlays
namespace Go.Proofs.Ythfoobfgdakbmaa
theorem blobsPlays_holds : Rows.BlobsPlaysSaid := blobsPlays.over
end Go.Proofs.Ythfoobfgdakbmaa
