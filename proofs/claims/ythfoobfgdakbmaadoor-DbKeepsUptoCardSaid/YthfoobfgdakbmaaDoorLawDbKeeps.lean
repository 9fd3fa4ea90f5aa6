/- Of traces of one key the latest ones are kept, as many as may be, each once, and what other keys have plays no part: the statement DbKeepsUptoCardSaid. Conditions: those of the given statement (bulk at most 1048576), none besides. -/
import Derived.Test.YthfoobfgdakbmaaDoorCards
import Derived.Test.YthfoobfgdakbmaaDoorTie
import Derived.Deep.DeepHandedRow
import Derived.Lib.LaidTab
import Derived.Test.YthfoobfgdakbmaaDoorPart3
import Derived.Test.YthfoobfgdakbmaaDoorPart4
set_option linter.unusedVariables false
set_option linter.unusedSimpArgs false
set_option maxRecDepth 100000
namespace Go.Proofs.YthfoobfgdakbmaaDoor.dbKeeps
open Go Go.L Go.RowKit Go.ChangeShapes Go.WideShapes Go.ChangeAt
def ReadTy : Ty := .pair .str (.pair .bool (.pair (.arr 32 .u8) .one))
def MadeTy : Ty := .pair .str (.pair (.arr 32 .u8) .one)
def TraceTy : Ty := .pair (.arr 32 .u8) (.pair (.sl 56 ReadTy) (.pair (.sl 48 MadeTy) .one))
abbrev BN : Nat := 1048576 * 80
theorem bytes_flat : ∀ l : List UInt8, List.flatMap (Ty.enc .u8) l = bytesLV l
  | [] => rfl
  | b :: l => congrArg (List.cons _) (bytes_flat l)
theorem read_in (d : ReadTy.Dec) (h : ReadTy.okN BN d) : ∃ r : ReadD, readDV r = Ty.val ReadTy d ∧ r.path.size < 1073741824 := by
  obtain ⟨s, b, o, u⟩ := d
  obtain ⟨h1, -, h2, -⟩ := h
  have h1 : s.size ≤ BN := h1
  have h3 : o.length = 32 := h2.1
  refine ⟨⟨s, b, ⟨o, h3⟩⟩, ?_, by show s.size < _; simp only [BN] at h1; omega⟩
  exact congrArg (fun z => LV.agg (.str s :: .bool b :: z)) ((List.append_nil _).trans (bytes_flat o)).symm
theorem made_in (d : MadeTy.Dec) (h : MadeTy.okN BN d) : ∃ r : MadeD, madeDV r = Ty.val MadeTy d ∧ r.path.size < 1073741824 := by
  obtain ⟨s, o, u⟩ := d
  obtain ⟨h1, h2, -⟩ := h
  have h1 : s.size ≤ BN := h1
  have h3 : o.length = 32 := h2.1
  refine ⟨⟨s, ⟨o, h3⟩⟩, ?_, by show s.size < _; simp only [BN] at h1; omega⟩
  exact congrArg (fun z => LV.agg (.str s :: z)) ((List.append_nil _).trans (bytes_flat o)).symm
theorem list_in {α β : Type} {f : α → LV} {g : β → LV} {C : α → Prop} : ∀ l : List β, (∀ d ∈ l, ∃ r, f r = g d ∧ C r) → ∃ rs : List α, rs.map f = l.map g ∧ rs.length = l.length ∧ ∀ r ∈ rs, C r
  | [], _ => ⟨[], rfl, rfl, fun r h => nomatch h⟩
  | d :: l, h => by
    obtain ⟨r, h1, h2⟩ := h d List.mem_cons_self
    obtain ⟨rs, h3, h4, h5⟩ := list_in l (fun x hx => h x (List.mem_cons_of_mem _ hx))
    refine ⟨r :: rs, by rw [List.map_cons, List.map_cons, h1, h3], by simp [h4], fun x hx => ?_⟩
    rcases List.mem_cons.1 hx with rfl | hx
    · exact h2
    · exact h5 x hx
theorem slice_in {α : Type} {f : α → LV} {C : α → Prop} {b k : Nat} {e : Ty} (hk : e.size = k) (hb : 1 ≤ b) (he : ∀ d, e.okN BN d → ∃ r, f r = Ty.val e d ∧ C r) (x : (Ty.sl b e).Dec) (hx : (Ty.sl b e).okN BN x) : ∃ rs : List α, IsSl k (rs.map f) (Ty.val (.sl b e) x) ∧ rs.length ≤ BN ∧ ∀ r ∈ rs, C r := by
  cases x with
  | none => exact ⟨[], IsSl.nils, by simp, fun r h => nomatch h⟩
  | some l =>
    have hx : l.length * b ≤ BN ∧ ∀ d ∈ l, e.okN BN d := hx
    obtain ⟨rs, h1, h2, h3⟩ := list_in (f := f) (g := Ty.val e) (C := C) l (fun d hd => he d (hx.2 d hd))
    subst hk
    refine ⟨rs, ?_, ?_, h3⟩
    · rw [h1]; exact IsSl.sl
    · have := Nat.le_mul_of_pos_right l.length hb
      omega
theorem trace_val (o : List UInt8) (h4 : o.length = 32) (x : (Ty.sl 56 ReadTy).Dec) (y : (Ty.sl 48 MadeTy).Dec) (u : Unit) (r : SlD 34 readDV) (m : SlD 33 madeDV) (hr : r.v = Ty.val (.sl 56 ReadTy) x) (hm : m.v = Ty.val (.sl 48 MadeTy) y) :
    traceDV ⟨⟨o, h4⟩, r, m⟩ = Ty.val TraceTy ((o : (Ty.arr 32 .u8).Dec), x, y, u) := by
  have e1 : Ty.enc (.sl 56 ReadTy) x = [Ty.val (.sl 56 ReadTy) x] := Ty.enc_one _ x rfl
  have e2 : Ty.enc (.sl 48 MadeTy) y = [Ty.val (.sl 48 MadeTy) y] := Ty.enc_one _ y rfl
  have e3 : bytesLV o ++ ([r.v] ++ [m.v]) = List.flatMap (Ty.enc .u8) o ++ (Ty.enc (.sl 56 ReadTy) x ++ (Ty.enc (.sl 48 MadeTy) y ++ [])) := by
    rw [bytes_flat, e1, e2, hr, hm, List.append_nil]
  exact congrArg LV.agg e3
theorem trace_in (d : TraceTy.Dec) (h : TraceTy.okN BN d) : ∃ t : TraceD, traceDV t = Ty.val TraceTy d ∧ Calm t := by
  obtain ⟨o, x, y, u⟩ := d
  obtain ⟨h1, h2, h3, -⟩ := h
  obtain ⟨rs, r1, r2, r3⟩ := slice_in (b := 56) (k := 34) (e := ReadTy) rfl (by decide) read_in x h2
  obtain ⟨ms, m1, m2, m3⟩ := slice_in (b := 48) (k := 33) (e := MadeTy) rfl (by decide) made_in y h3
  have h4 : o.length = 32 := h1.1
  refine ⟨⟨⟨o, h4⟩, ⟨rs, _, r1, by simp only [BN] at r2; omega⟩, ⟨ms, _, m1, by simp only [BN] at m2; omega⟩⟩, trace_val o h4 x y u _ _ rfl rfl, r3, m3⟩
theorem keeps_in (n : Int) (x : (Ty.sl 80 TraceTy).Dec) (hx : (Ty.sl 80 TraceTy).okN BN x) (y : TraceTy.Dec) (hy : TraceTy.okN BN y) : HPure Tryd.prog 3 [.int .i64 n, Ty.val (.sl 80 TraceTy) x, Ty.val TraceTy y] (.bool true) := by
  have hs : ∃ rs : List TraceD, IsSl 34 (rs.map traceDV) (Ty.val (.sl 80 TraceTy) x) ∧ rs.length < 1048577 ∧ ∀ r ∈ rs, Calm r := by
    cases x with
    | none => exact ⟨[], IsSl.nils, by simp, fun r h => nomatch h⟩
    | some l =>
      have hx' : l.length * 80 ≤ BN ∧ ∀ d ∈ l, TraceTy.okN BN d := hx
      obtain ⟨rs, h1, h2, h3⟩ := list_in (f := traceDV) (g := Ty.val TraceTy) (C := Calm) l (fun d hd => trace_in d (hx'.2 d hd))
      refine ⟨rs, ?_, ?_, h3⟩
      · rw [h1]; exact IsSl.sl
      · have := hx'.1
        simp only [BN] at this
        omega
  obtain ⟨rs, r1, r2, r3⟩ := hs
  obtain ⟨t, t1, t2⟩ := trace_in y hy
  rw [← t1]
  exact keeps_law rs t r3 t2 r2 n _ r1
theorem own : ownKnob Tryd.prog.godebug = none := by kernel_rfl
theorem laidOut : laidOutB Tryd.prog = true := by kernel_rfl
theorem ty0 : (tyBoth Tryd.prog (.int .i64)).1 3 = true := by kernel_rfl
theorem in0 : Ty.within 80 (.int .i64) = true := by kernel_rfl
theorem ty1 : (tyBoth Tryd.prog (.sl 80 TraceTy)).1 22 = true := by kernel_rfl
theorem in1 : Ty.within 80 (.sl 80 TraceTy) = true := by kernel_rfl
theorem ty2 : (tyBoth Tryd.prog TraceTy).1 28 = true := by kernel_rfl
theorem in2 : Ty.within 80 TraceTy = true := by kernel_rfl
theorem allIn : ([3, 22, 28] : List TypeId).all (fun t => Tryd.prog.readableRec t && decide (t < Tryd.prog.types.size)) = true := by kernel_rfl
theorem bulk_is {H : Type} (ds : List (DataW H)) : Rows.uptoBulkAll ds = bulkAll ds := by kernel_rfl
theorem bulked {H : Type} {ds : List (DataW H)} (h : Rows.uptoSmall H ds = true) : bulkAll ds ≤ 1048576 := by rw [← bulk_is]; exact of_decide_eq_true h
def wArgs : Array Value := #[.int .i64 0, .slice none 0 0, .agg (List.replicate 32 (Value.int .u8 0) ++ [Value.slice none 0 0, Value.slice none 0 0]).toArray]
noncomputable def laidWorld (os : Os) : World := { World.holding Tryd.prog os ⟨#[], #[], []⟩ with heap := (((World.holding Tryd.prog os ⟨#[], #[], []⟩).heap.modify 1 fun | .cells _ t frozen => .cells (Go.Pinned.utf8FirstZ.map fun n : Nat => Value.int .u8 ((n : Nat) : Int)).toArray t frozen | o => o).modify 2 fun | .cells _ t frozen => .cells #[.int .u8 128, .int .u8 191, .int .u8 160, .int .u8 191, .int .u8 128, .int .u8 159, .int .u8 144, .int .u8 191, .int .u8 128, .int .u8 143, .int .u8 0, .int .u8 0, .int .u8 0, .int .u8 0, .int .u8 0, .int .u8 0, .int .u8 0, .int .u8 0, .int .u8 0, .int .u8 0, .int .u8 0, .int .u8 0, .int .u8 0, .int .u8 0, .int .u8 0, .int .u8 0, .int .u8 0, .int .u8 0, .int .u8 0, .int .u8 0, .int .u8 0, .int .u8 0] t frozen | o => o) }
theorem laid_met (os : Os) : laidMet Tryd.prog Rows.dbKeepsUptoRow.laid ((laidWorld os).forCall (fun _ _ => 0) ⟨#[], wArgs, []⟩).memory := laidMet_of_run' 8 (by kernel_rfl) (by kernel_rfl)
theorem reads (os : Os) {H : Type} (enc : TypeId × Value → H) : ∃ places, DataW.whole enc Tryd.prog ((laidWorld os).forCall (fun _ _ => 0) ⟨#[], wArgs, []⟩).memory Tryd.f3.params.toList Rows.dbKeepsSpec.vars false wArgs.toList 8 = some ([.lit (.int .i64 0), .nil, .agg [.agg (List.replicate 32 (.lit (.int .u8 0))), .nil, .nil]], [], places) := ⟨[], by kernel_rfl⟩
theorem lifted (os : Os) (started : os.Started) (H : Type) (enc : TypeId × Value → H) (F : Stop.Interp) :
    ReturnsInHanded {} Tryd.checked os 3 .any ((Rows.OpenSpec.upto Rows.dbKeepsSpec).preRow enc Tryd.prog Tryd.f3 Rows.dbKeepsUptoRow.domain false Rows.dbKeepsUptoRow.laid) (((Rows.OpenSpec.upto Rows.dbKeepsSpec).at F).post enc Tryd.prog Tryd.f3 false true false false) := by
  obtain ⟨places, hx⟩ := reads os enc
  refine returnsInHanded_of_row (C := Tryd.checked) (s := (Rows.OpenSpec.upto Rows.dbKeepsSpec)) own started (by kernel_rfl) Tryd.func3
    (witness_row_at (enc := enc) (C := Tryd.checked) false (laidWorld os) wArgs rfl (by kernel_rfl) (by kernel_rfl) (by kernel_rfl)
      (OpenSpec.preRow_of_cond 8 hx (by kernel_rfl) (fun k hk => by cases hk; kernel_rfl) (by kernel_rfl) (laid_met os))) ?_
  intro W base args ds gs before hval0 hW _ hcond hsz0 hL _ _
  have hsz : (DataW.weightsEach Tryd.prog (Tryd.f3.params.toList ++ Rows.dbKeepsSpec.plain.varTypes Tryd.prog) (ds ++ gs)).all (· ≤ reachBytes) = true := hsz0
  have hval : ∀ (j : Nat) t v, Tryd.f3.params[j]? = some t → args[j]? = some v → Value.okWide Tryd.prog W .any base t v := hval0
  have hbulk := bulked (hcond _ rfl)
  have hW' := hW
  obtain ⟨p, q, hA0, hV, rfl, hfz, hnd⟩ := hW
  have hA : DataW.TrodAll enc Tryd.prog W 0 (fun _ => true) true Tryd.f3.params.toList args.toList ds p := hA0
  rw [Tryd.params3] at hA hval hsz
  have hA' := hA
  obtain ⟨v0, vs0, d0, ds0, p0, q0, hargs, rfl, rfl, h0, r0⟩ := trodAll_cons hA
  obtain ⟨v1, vs1, d1, ds1, p1, q1, rfl, rfl, rfl, h1, r1⟩ := trodAll_cons r0
  obtain ⟨v2, vs2, d2, ds2, p2, q2, rfl, rfl, rfl, h2, r2⟩ := trodAll_cons r1
  obtain ⟨rfl, rfl, rfl⟩ := trodAll_nil r2
  obtain rfl : args = #[v0, v1, v2] := by cases args; simp_all
  obtain ⟨rfl, rfl⟩ := trodVars_none hV
  obtain ⟨x0, hx0, hr0⟩ := rep_in ty0 (hval 0 3 v0 rfl rfl) h0 (bulked_in (K := 80) (by decide) in0 ty0 hbulk (j := 0) rfl)
  obtain ⟨x1, hx1, hr1⟩ := rep_in ty1 (hval 1 22 v1 rfl rfl) h1 (bulked_in (K := 80) (by decide) in1 ty1 hbulk (j := 1) rfl)
  obtain ⟨x2, hx2, hr2⟩ := rep_in ty2 (hval 2 28 v2 rfl rfl) h2 (bulked_in (K := 80) (by decide) in2 ty2 hbulk (j := 2) rfl)
  have hall : RepAll (freshG W) [v0, v1, v2] [(Ty.val (.int .i64) x0), (Ty.val (.sl 80 TraceTy) x1), (Ty.val TraceTy x2)] := repAll_append (repAll_sing hr0) (repAll_append (repAll_sing hr1) (repAll_sing hr2))
  have hlaw : HPure Tryd.prog 3 [(Ty.val (.int .i64) x0), (Ty.val (.sl 80 TraceTy) x1), (Ty.val TraceTy x2)] (.bool true) := (keeps_in x0 x1 hx1 x2 hx2)
  refine (hlaw.base hall).mono fun e W' ⟨he, bel⟩ => ?_
  subst he
  exact ⟨_, rfl, _, _, _, [], _, [], hW', trodAll_mk1 (shut_bool Tryd.underlying4 _), trodAll_stays laidOut allIn hA' bel, rfl, bel.frame _, fun h => by cases h⟩
theorem said : Rows.DbKeepsUptoSaid :=
  OpenClaim.holds_of_cond 3 Tryd.f3 rfl rfl rfl rfl rfl rfl rfl ⟨rfl, rfl, rfl, rfl, rfl⟩ rfl rfl rfl rfl rfl (by kernel_rfl) Tryd.func3 (by kernel_rfl)
    (of_decide_eq_true (by kernel_rfl)) (by unfold Func.isWrapper; first | (rw [if_pos (by decide +kernel)]; kernel_rfl) | (rw [if_neg (by decide +kernel)]; exact ⟨rfl, rfl⟩))
    (fun os started H enc _ F => by rw [OpenClaim.pre_eq_preRow]; exact lifted os started H enc F)
theorem plain (f : FuncId) (fn : Func) (hf : Tryd.pinned.checked.prog.funcNamed Rows.dbKeepsUptoRow.func = some f) (hfn : Tryd.pinned.checked.prog.funcs[f]? = some fn) :
    false = Tryd.pinned.checked.prog.looks [] ∧ ∀ (j : Nat) t, fn.params[j]? = some t → Tryd.pinned.checked.prog.wantsStandIn t = false := by
  obtain rfl : f = 3 := Option.some.inj ((show Tryd.prog.funcNamed Rows.dbKeepsUptoRow.func = some 3 by kernel_rfl).symm.trans hf) |>.symm
  obtain rfl : fn = Tryd.f3 := (Option.some.inj (Tryd.func3.symm.trans hfn)).symm
  refine ⟨by kernel_rfl, fun j t ht => ?_⟩
  rw [Tryd.params3] at ht
  have hm := Array.mem_of_getElem? ht
  simp only [List.mem_toArray, List.mem_cons, List.not_mem_nil, or_false] at hm
  rcases hm with rfl | rfl | rfl
  · exact (show Tryd.prog.wantsStandIn 3 = false by kernel_rfl)
  · exact (show Tryd.prog.wantsStandIn 22 = false by kernel_rfl)
  · exact (show Tryd.prog.wantsStandIn 28 = false by kernel_rfl)
theorem card : Rows.DbKeepsUptoCardSaid :=
  Claim7.holds_tied_plain_at .later [] _ _ _ _ said (fun _ h => by cases h) (by kernel_rfl) (fun _ h => by cases h) dbKeepsUpto_row_tie rfl ⟨rfl, rfl⟩ (by kernel_rfl) rfl plain (by kernel_rfl)
end Go.Proofs.YthfoobfgdakbmaaDoor.dbKeeps
namespace Go.Proofs.YthfoobfgdakbmaaDoor
theorem dbKeeps_holds : Rows.DbKeepsUptoCardSaid := dbKeeps.card
end Go.Proofs.YthfoobfgdakbmaaDoor
