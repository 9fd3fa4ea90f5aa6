/- WHAT THE WALKS STAND ON, part of a proof: D1 D2 D3 D4 D5 D6 D7. No condition beyond what each theorem states. -/
import Derived.Test.YthfoobfgdakbmaaDoorProg
import Derived.Test.YthfoobfgdakbmaaDoorLib2
import Derived.Test.YthfoobfgdakbmaaDoorLib3
set_option linter.unusedVariables false
set_option linter.unusedSimpArgs false
set_option maxRecDepth 100000
namespace Go.Proofs.YthfoobfgdakbmaaDoor
open Go Go.RowKit Go.L

theorem _root_.Go.L.IsSl.one {k : Nat} {es : List LV} {x : LV} (h : IsSl k es x) : x.one = true := by cases h <;> rfl

structure ReadD where
  path : ByteArray
  is : Bool
  sum : Dig
deriving DecidableEq
def readDC (x : ReadD) : List LV := [.str x.path] ++ ([.bool x.is] ++ (digC x.sum))
def readDV (x : ReadD) : LV := .agg (readDC x)
@[simp] theorem readDC_len (x : ReadD) : (readDC x).length = 34 := by simp [readDC]
@[simp] theorem readDV_solid (x : ReadD) : (readDV x).solid = true := by simp [readDV, readDC, digC, LV.solid, LV.cells, bytesLV, LV.one]
theorem readD_path (x : ReadD) : (bif false then LV.agg (((readDC x).drop (0 + 0)).take 1) else ((readDC x).drop (0 + 0)).headD .und) = .str x.path := by first | rfl | (simp [readDC, List.headD_eq_head?_getD, List.head?_drop, List.getElem?_append]; done) | (simp [readDC, dgV, List.drop_append, List.take_append, List.take_of_length_le]; done)
theorem readD_is (x : ReadD) : (bif false then LV.agg (((readDC x).drop (0 + 1)).take 1) else ((readDC x).drop (0 + 1)).headD .und) = .bool x.is := by first | rfl | (simp [readDC, List.headD_eq_head?_getD, List.head?_drop, List.getElem?_append]; done) | (simp [readDC, dgV, List.drop_append, List.take_append, List.take_of_length_le]; done)
theorem readD_sum (x : ReadD) : (bif true then LV.agg (((readDC x).drop (0 + 2)).take 32) else ((readDC x).drop (0 + 2)).headD .und) = dgV x.sum := by first | rfl | (simp [readDC, List.headD_eq_head?_getD, List.head?_drop, List.getElem?_append]; done) | (simp [readDC, dgV, List.drop_append, List.take_append, List.take_of_length_le]; done)
theorem readD_all (x : ReadD) : (bif true then LV.agg (((readDC x).drop 0).take 34) else ((readDC x).drop 0).headD .und) = readDV x := whole_of (readDC_len x)
theorem readD_eq (a b : ReadD) : flatEq (readDC a) (readDC b) = decide (a = b) := by
  obtain ⟨a0, a1, a2⟩ := a
  obtain ⟨b0, b1, b2⟩ := b
  simp only [readDC]
  repeat rw [flatEq_app (by simp)]
  try rw [dig_eq]
  simp only [flatEq, ckEq, ReadD.mk.injEq, Bool.and_true, Bool.decide_and, Bool.beq_eq_decide_eq]
theorem readD_fit (x : ReadD) : fitsAll ([.str] ++ ([.bool] ++ (List.replicate 32 (.int .u8)))) (readDC x) = true := by
  simp only [readDC]
  repeat rw [fitsAll_app (by simp)]
  simp only [dig_fit, fitsAll, CK.fits, beq_self_eq_true, Bool.and_true]
structure MadeD where
  path : ByteArray
  sum : Dig
deriving DecidableEq
def madeDC (x : MadeD) : List LV := [.str x.path] ++ (digC x.sum)
def madeDV (x : MadeD) : LV := .agg (madeDC x)
@[simp] theorem madeDC_len (x : MadeD) : (madeDC x).length = 33 := by simp [madeDC]
@[simp] theorem madeDV_solid (x : MadeD) : (madeDV x).solid = true := by simp [madeDV, madeDC, digC, LV.solid, LV.cells, bytesLV, LV.one]
theorem madeD_path (x : MadeD) : (bif false then LV.agg (((madeDC x).drop (0 + 0)).take 1) else ((madeDC x).drop (0 + 0)).headD .und) = .str x.path := by first | rfl | (simp [madeDC, List.headD_eq_head?_getD, List.head?_drop, List.getElem?_append]; done) | (simp [madeDC, dgV, List.drop_append, List.take_append, List.take_of_length_le]; done)
theorem madeD_sum (x : MadeD) : (bif true then LV.agg (((madeDC x).drop (0 + 1)).take 32) else ((madeDC x).drop (0 + 1)).headD .und) = dgV x.sum := by first | rfl | (simp [madeDC, List.headD_eq_head?_getD, List.head?_drop, List.getElem?_append]; done) | (simp [madeDC, dgV, List.drop_append, List.take_append, List.take_of_length_le]; done)
theorem madeD_all (x : MadeD) : (bif true then LV.agg (((madeDC x).drop 0).take 33) else ((madeDC x).drop 0).headD .und) = madeDV x := whole_of (madeDC_len x)
theorem madeD_eq (a b : MadeD) : flatEq (madeDC a) (madeDC b) = decide (a = b) := by
  obtain ⟨a0, a1⟩ := a
  obtain ⟨b0, b1⟩ := b
  simp only [madeDC]
  repeat rw [flatEq_app (by simp)]
  try rw [dig_eq]
  simp only [flatEq, ckEq, MadeD.mk.injEq, Bool.and_true, Bool.decide_and, Bool.beq_eq_decide_eq]
theorem madeD_fit (x : MadeD) : fitsAll ([.str] ++ (List.replicate 32 (.int .u8))) (madeDC x) = true := by
  simp only [madeDC]
  repeat rw [fitsAll_app (by simp)]
  simp only [dig_fit, fitsAll, CK.fits, beq_self_eq_true, Bool.and_true]
structure TraceD where
  key : Dig
  reads : SlD 34 readDV
  outs : SlD 33 madeDV
def traceDC (x : TraceD) : List LV := digC x.key ++ ([x.reads.v] ++ ([x.outs.v]))
def traceDV (x : TraceD) : LV := .agg (traceDC x)
@[simp] theorem traceDC_len (x : TraceD) : (traceDC x).length = 34 := by simp [traceDC]
@[simp] theorem traceDV_solid (x : TraceD) : (traceDV x).solid = true := by
  simp [traceDV, traceDC, digC, LV.solid, LV.cells, bytesLV, LV.one]
  try exact ⟨x.reads.ok.one, x.outs.ok.one⟩
theorem traceD_key (x : TraceD) : (bif true then LV.agg (((traceDC x).drop (0 + 0)).take 32) else ((traceDC x).drop (0 + 0)).headD .und) = dgV x.key := by first | rfl | (simp [traceDC, List.headD_eq_head?_getD, List.head?_drop, List.getElem?_append]; done) | (simp [traceDC, dgV, List.drop_append, List.take_append, List.take_of_length_le]; done)
theorem traceD_reads (x : TraceD) : (bif false then LV.agg (((traceDC x).drop (0 + 32)).take 1) else ((traceDC x).drop (0 + 32)).headD .und) = x.reads.v := by first | rfl | (simp [traceDC, List.headD_eq_head?_getD, List.head?_drop, List.getElem?_append]; done) | (simp [traceDC, dgV, List.drop_append, List.take_append, List.take_of_length_le]; done)
theorem traceD_outs (x : TraceD) : (bif false then LV.agg (((traceDC x).drop (0 + 33)).take 1) else ((traceDC x).drop (0 + 33)).headD .und) = x.outs.v := by first | rfl | (simp [traceDC, List.headD_eq_head?_getD, List.head?_drop, List.getElem?_append]; done) | (simp [traceDC, dgV, List.drop_append, List.take_append, List.take_of_length_le]; done)
theorem traceD_all (x : TraceD) : (bif true then LV.agg (((traceDC x).drop 0).take 34) else ((traceDC x).drop 0).headD .und) = traceDV x := whole_of (traceDC_len x)
end Go.Proofs.YthfoobfgdakbmaaDoor

set_option linter.unusedVariables false
set_option linter.unusedSimpArgs false
set_option maxRecDepth 100000
namespace Go.Proofs.YthfoobfgdakbmaaDoor
open Go Go.RowKit Go.L
theorem q_fo_28_1 : fieldOff Tryd.prog 28 1 = some 32 := by kernel_rfl
theorem q_sh_25 : shapeOf Tryd.prog 25 = some (false, 1) := by kernel_rfl
theorem q_tk_25 : tyKind Tryd.prog 25 = .sl := by kernel_rfl
theorem q_fo_28_2 : fieldOff Tryd.prog 28 2 = some 33 := by kernel_rfl
theorem q_sh_26 : shapeOf Tryd.prog 26 = some (false, 1) := by kernel_rfl
theorem q_tk_26 : tyKind Tryd.prog 26 = .sl := by kernel_rfl
theorem q_ix_25 : indexIn Tryd.prog 25 = some (none, 34) := by kernel_rfl
theorem q_fo_66_0 : fieldOff Tryd.prog 66 0 = some 0 := by kernel_rfl
theorem q_sh_9 : shapeOf Tryd.prog 9 = some (false, 1) := by kernel_rfl
theorem q_tk_9 : tyKind Tryd.prog 9 = .str := by kernel_rfl
theorem q_ix_26 : indexIn Tryd.prog 26 = some (none, 33) := by kernel_rfl
theorem q_fo_73_0 : fieldOff Tryd.prog 73 0 = some 0 := by kernel_rfl
theorem q_f_30 : Tryd.prog.funcs[30]? = some Tryd.f30 := by kernel_rfl

def sumTo {α : Type} (f : α → ByteArray) (l : List α) (k : Nat) : Nat := ((l.take k).map fun r => min (f r).size 3000).sum
theorem sumTo_zero {α : Type} (f : α → ByteArray) (l : List α) : sumTo f l 0 = 0 := rfl
theorem sumTo_step {α : Type} (f : α → ByteArray) {l : List α} {k : Nat} (h : k < l.length) : sumTo f l (k + 1) = sumTo f l k + min (f l[k]).size 3000 := by
  unfold sumTo
  rw [List.take_add_one, List.getElem?_eq_getElem h, List.map_append, List.sum_append]; simp
theorem sumTo_le {α : Type} (f : α → ByteArray) (l : List α) : ∀ k, k ≤ l.length → sumTo f l k ≤ 3000 * k
  | 0, _ => Nat.le_refl _
  | k + 1, h => by
    have := sumTo_le f l k (by omega)
    rw [sumTo_step f (by omega)]; omega
def wideF (t : TraceD) : Bool := decide (60 < t.reads.l.length) || (decide (60 < t.outs.l.length) || decide (3000 < sumTo ReadD.path t.reads.l t.reads.l.length + sumTo MadeD.path t.outs.l t.outs.l.length))
theorem add_min {a n : Nat} {b : Nat} (h : a ≤ 1000000) (e : b = a + min n 3000) : intBin .add .i64 (a : Int) (min (n : Int) 3000) = .int .i64 (b : Int) := by
  subst e
  have : (min (n : Int) 3000) = ((min n 3000 : Nat) : Int) := by omega
  rw [this, add_i64 (by omega) (by omega)]
  congr 1

theorem wide_spec (t : TraceD) : HPure Tryd.prog 30 [traceDV t] (.bool (wideF t)) := by
 intro L T
 refine HCalls.enterG q_f_30 rfl ?_
 refine HWp.frame (r' := ⟨52, [(0, traceDV t)]⟩) rfl ?_
 refine HWp.seq ?_
 refine HWp.text (.act 0 [] (.rd 1 .done)) rfl ?_
 refine HPlan.box rfl rfl rfl (by first | rfl | (simp; done)) (fun i1 => ⟨keptH_nil, ?_⟩)
 refine HPlan.assign rfl rfl rfl ?_
 refine HPlan.fin ?_
 refine onNorm_n ?_
 refine HWp.seq ?_
 refine HWp.seq ?_
 refine HWp.text (.rd 0 (.rd 1 (.rd 2 (.rd 3 (.rd 4 (.rd 5 (.rd 6 (.rd 7 (.rd 8 (.rd 9 .done)))))))))) rfl ?_
 refine HPlan.fieldAddr rfl rfl rfl rfl q_fo_28_1 rfl ?_
 first
 | refine HPlan.loadI rfl rfl rfl q_sh_25 (by constructor <;> first | rfl | decide | omega | exact Nat.le_refl _ | (simp [digC_len, dgV, LV.cells, readDC_len, readDV, madeDC_len, madeDV, traceDC_len, traceDV]; done) | (simp [digC_len, dgV, LV.cells, readDC_len, readDV, madeDC_len, madeDV, traceDC_len, traceDV]; omega)) (by first | exact (traceD_reads _) | rfl) ?_
 | refine HPlan.load rfl rfl rfl q_sh_25 (by repeat (first | exact List.Mem.head _ | apply List.Mem.tail | assumption)) (by constructor <;> first | rfl | decide | omega | exact Nat.le_refl _ | (simp [digC_len, dgV, LV.cells, readDC_len, readDV, madeDC_len, madeDV, traceDC_len, traceDV]; done) | (simp [digC_len, dgV, LV.cells, readDC_len, readDV, madeDC_len, madeDV, traceDC_len, traceDV]; omega)) (by first | exact (traceD_reads _) | rfl) ?_
 refine HPlan.lenS rfl rfl rfl q_tk_25 (by first | exact IsSl.sl | exact IsSl.nils | assumption | exact growV_isSl (by assumption) | exact SlD.ok _) (by first | rw [List.length_map] | rfl) ?_
 refine HPlan.intBin rfl rfl rfl rfl rfl rfl ?_
 refine HPlan.move rfl rfl rfl ?_
 refine HPlan.split ?_ ?_
 ·
  intro hb1_4
  first
  | exact PrN hb1_4
  | ((try simp only [Pr] at hb1_4); exfalso; omega)
  | (try simp only [Pr] at hb1_4)
    refine HPlan.leftR rfl rfl ?_
    refine HPlan.leftR rfl rfl ?_
    refine HPlan.leftR rfl rfl ?_
    refine HPlan.leftR rfl rfl ?_
    refine HPlan.pickT rfl rfl rfl rfl ?_
    refine HPlan.fin ?_
    refine onNorm_n ?_
    refine HWp.cond_t rfl ?_
    refine HWp.seq ?_
    refine HWp.text (.rd 0 .done) rfl ?_
    refine HPlan.assign rfl rfl rfl ?_
    refine HPlan.fin ?_
    refine onNorm_n ?_
    refine HWp.ret ?_
    refine onNorm_r ?_
    refine retQ_r (.tmp rfl .nil) ?_
    refine endK_of ⟨?_, rfl, rfl⟩ (by repeat (first | exact Part.refl _ | refine Part.pull (by repeat (first | exact Pull.here | apply Pull.there)) ?_ | refine Part.skip _ ?_ | exact Part.nil _ | exact Part.app _ _ | exact Part.appL _ _ | refine Part.appR _ ?_)) (by repeat (first | exact Part.refl _ | refine Part.pull (by repeat (first | exact Pull.here | apply Pull.there)) ?_ | refine Part.skip _ ?_ | exact Part.nil _ | exact Part.app _ _ | exact Part.appL _ _ | refine Part.appR _ ?_))
    refine congrArg LV.bool ?_
    unfold wideF
    rw [Bool.eq_iff_iff]
    simp only [Bool.or_eq_true, decide_eq_true_eq, gt_iff_lt, Bool.true_eq, true_iff]
    omega
 ·
  intro hb1_4
  first
  | exact PrN hb1_4
  | ((try simp only [Pr] at hb1_4); exfalso; omega)
  | (try simp only [Pr] at hb1_4)
    refine HPlan.fieldAddr rfl rfl rfl rfl q_fo_28_2 rfl ?_
    first
    | refine HPlan.loadI rfl rfl rfl q_sh_26 (by constructor <;> first | rfl | decide | omega | exact Nat.le_refl _ | (simp [digC_len, dgV, LV.cells, readDC_len, readDV, madeDC_len, madeDV, traceDC_len, traceDV]; done) | (simp [digC_len, dgV, LV.cells, readDC_len, readDV, madeDC_len, madeDV, traceDC_len, traceDV]; omega)) (by first | exact (traceD_outs _) | rfl) ?_
    | refine HPlan.load rfl rfl rfl q_sh_26 (by repeat (first | exact List.Mem.head _ | apply List.Mem.tail | assumption)) (by constructor <;> first | rfl | decide | omega | exact Nat.le_refl _ | (simp [digC_len, dgV, LV.cells, readDC_len, readDV, madeDC_len, madeDV, traceDC_len, traceDV]; done) | (simp [digC_len, dgV, LV.cells, readDC_len, readDV, madeDC_len, madeDV, traceDC_len, traceDV]; omega)) (by first | exact (traceD_outs _) | rfl) ?_
    refine HPlan.lenS rfl rfl rfl q_tk_26 (by first | exact IsSl.sl | exact IsSl.nils | assumption | exact growV_isSl (by assumption) | exact SlD.ok _) (by first | rw [List.length_map] | rfl) ?_
    refine HPlan.intBin rfl rfl rfl rfl rfl rfl ?_
    refine HPlan.pickF rfl rfl rfl rfl ?_
    refine HPlan.fin ?_
    refine onNorm_n ?_
    refine HWp.cond rfl ?_ ?_
    ·
     intro hc15
     first
     | exact PrN hc15
     | ((try simp only [Pr] at hc15); exfalso; omega)
     | (try simp only [Pr] at hc15)
       refine HWp.seq ?_
       refine HWp.text (.rd 0 .done) rfl ?_
       refine HPlan.assign rfl rfl rfl ?_
       refine HPlan.fin ?_
       refine onNorm_n ?_
       refine HWp.ret ?_
       refine onNorm_r ?_
       refine retQ_r (.tmp rfl .nil) ?_
       refine endK_of ⟨?_, rfl, rfl⟩ (by repeat (first | exact Part.refl _ | refine Part.pull (by repeat (first | exact Pull.here | apply Pull.there)) ?_ | refine Part.skip _ ?_ | exact Part.nil _ | exact Part.app _ _ | exact Part.appL _ _ | refine Part.appR _ ?_)) (by repeat (first | exact Part.refl _ | refine Part.pull (by repeat (first | exact Pull.here | apply Pull.there)) ?_ | refine Part.skip _ ?_ | exact Part.nil _ | exact Part.app _ _ | exact Part.appL _ _ | refine Part.appR _ ?_))
       refine congrArg LV.bool ?_
       unfold wideF
       rw [Bool.eq_iff_iff]
       simp only [Bool.or_eq_true, decide_eq_true_eq, gt_iff_lt, Bool.true_eq, true_iff]
       omega
    ·
     intro hc15
     first
     | exact PrN hc15
     | ((try simp only [Pr] at hc15); exfalso; omega)
     | (try simp only [Pr] at hc15)
       refine HWp.skip ?_
       refine onNorm_n ?_
       refine HWp.seq ?_
       refine HWp.text (.rd 0 .done) rfl ?_
       refine HPlan.assign rfl rfl rfl ?_
       refine HPlan.fin ?_
       refine onNorm_n ?_
       refine HWp.seq ?_
       refine HWp.seq ?_
       refine HWp.text (.rd 0 .done) rfl ?_
       refine HPlan.assign rfl rfl rfl ?_
       refine HPlan.fin ?_
       refine onNorm_n ?_
       refine HWp.block ?_
       refine HWp.loopF (α := Nat) (fun k => t.reads.l.length - k) (fun k => k ≤ t.reads.l.length) (fun k => ⟨52, [(1, .ref i1 0), (3, .int .i64 (sumTo ReadD.path t.reads.l k : Nat)), (4, .int .i64 (k : Int))]⟩) (fun k => (i1, .cells 28 (traceDC t) 0) :: L) (fun k => T) ?_ ?_
       ·
        refine ⟨0, (Nat.zero_le _), (LessE.less (by repeat (first | exact LessE.nil | refine LessE.same rfl ?_ | refine LessE.own rfl ?_ | refine LessE.eq rfl ?_ (by first | rfl | (congr 1; omega) | simp))) rfl), (by repeat (first | exact Part.refl _ | refine Part.pull (by repeat (first | exact Pull.here | apply Pull.there)) ?_ | refine Part.skip _ ?_ | exact Part.nil _ | exact Part.app _ _ | exact Part.appL _ _ | refine Part.appR _ ?_)), (by repeat (first | exact Part.refl _ | refine Part.pull (by repeat (first | exact Pull.here | apply Pull.there)) ?_ | refine Part.skip _ ?_ | exact Part.nil _ | exact Part.app _ _ | exact Part.appL _ _ | refine Part.appR _ ?_))⟩
       ·
        rintro k hk1
        refine HWp.seq ?_
        refine HWp.seq ?_
        refine HWp.text (.rd 0 (.rd 1 (.rd 2 (.rd 3 (.rd 4 .done))))) rfl ?_
        refine HPlan.move rfl rfl rfl ?_
        refine HPlan.fieldAddr rfl rfl rfl rfl q_fo_28_1 rfl ?_
        first
        | refine HPlan.loadI rfl rfl rfl q_sh_25 (by constructor <;> first | rfl | decide | omega | exact Nat.le_refl _ | (simp [digC_len, dgV, LV.cells, readDC_len, readDV, madeDC_len, madeDV, traceDC_len, traceDV]; done) | (simp [digC_len, dgV, LV.cells, readDC_len, readDV, madeDC_len, madeDV, traceDC_len, traceDV]; omega)) (by first | exact (traceD_reads _) | rfl) ?_
        | refine HPlan.load rfl rfl rfl q_sh_25 (by repeat (first | exact List.Mem.head _ | apply List.Mem.tail | assumption)) (by constructor <;> first | rfl | decide | omega | exact Nat.le_refl _ | (simp [digC_len, dgV, LV.cells, readDC_len, readDV, madeDC_len, madeDV, traceDC_len, traceDV]; done) | (simp [digC_len, dgV, LV.cells, readDC_len, readDV, madeDC_len, madeDV, traceDC_len, traceDV]; omega)) (by first | exact (traceD_reads _) | rfl) ?_
        refine HPlan.lenS rfl rfl rfl q_tk_25 (by first | exact IsSl.sl | exact IsSl.nils | assumption | exact growV_isSl (by assumption) | exact SlD.ok _) (by first | rw [List.length_map] | rfl) ?_
        refine HPlan.intBin rfl rfl rfl rfl rfl rfl ?_
        refine HPlan.fin ?_
        refine onNorm_n ?_
        refine HWp.cond rfl ?_ ?_
        ·
         intro hc20
         first
         | exact PrN hc20
         | ((try simp only [Pr] at hc20); exfalso; omega)
         | (try simp only [Pr] at hc20)
           refine HWp.skip ?_
           refine onNorm_n ?_
           refine HWp.seq ?_
           refine HWp.block ?_
           refine HWp.text (.rd 0 (.rd 1 (.rd 2 (.rd 3 (.rd 4 (.rd 5 (.rd 6 (.rd 7 (.rd 8 (.rd 9 (.rd 10 .done))))))))))) rfl ?_
           refine HPlan.move rfl rfl rfl ?_
           refine HPlan.fieldAddr rfl rfl rfl rfl q_fo_28_1 rfl ?_
           first
           | refine HPlan.loadI rfl rfl rfl q_sh_25 (by constructor <;> first | rfl | decide | omega | exact Nat.le_refl _ | (simp [digC_len, dgV, LV.cells, readDC_len, readDV, madeDC_len, madeDV, traceDC_len, traceDV]; done) | (simp [digC_len, dgV, LV.cells, readDC_len, readDV, madeDC_len, madeDV, traceDC_len, traceDV]; omega)) (by first | exact (traceD_reads _) | rfl) ?_
           | refine HPlan.load rfl rfl rfl q_sh_25 (by repeat (first | exact List.Mem.head _ | apply List.Mem.tail | assumption)) (by constructor <;> first | rfl | decide | omega | exact Nat.le_refl _ | (simp [digC_len, dgV, LV.cells, readDC_len, readDV, madeDC_len, madeDV, traceDC_len, traceDV]; done) | (simp [digC_len, dgV, LV.cells, readDC_len, readDV, madeDC_len, madeDV, traceDC_len, traceDV]; omega)) (by first | exact (traceD_reads _) | rfl) ?_
           refine HPlan.move rfl rfl rfl ?_
           refine HPlan.indexS rfl rfl rfl rfl q_ix_25 (by first | exact IsSl.sl | exact IsSl.nils | assumption | exact growV_isSl (by assumption) | exact SlD.ok _) (by omega) (by simp only [List.length_map]; omega) (by first | exact at_map (by omega) | rfl) ?_
           refine HPlan.fieldAddr rfl rfl rfl rfl q_fo_66_0 rfl ?_
           first
           | refine HPlan.loadI rfl rfl rfl q_sh_9 (by constructor <;> first | rfl | decide | omega | exact Nat.le_refl _ | (simp [digC_len, dgV, LV.cells, readDC_len, readDV, madeDC_len, madeDV, traceDC_len, traceDV]; done) | (simp [digC_len, dgV, LV.cells, readDC_len, readDV, madeDC_len, madeDV, traceDC_len, traceDV]; omega)) (by first | exact (readD_path _) | exact (madeD_path _) | exact (piece_load _) | rfl) ?_
           | refine HPlan.load rfl rfl rfl q_sh_9 (by repeat (first | exact List.Mem.head _ | apply List.Mem.tail | assumption)) (by constructor <;> first | rfl | decide | omega | exact Nat.le_refl _ | (simp [digC_len, dgV, LV.cells, readDC_len, readDV, madeDC_len, madeDV, traceDC_len, traceDV]; done) | (simp [digC_len, dgV, LV.cells, readDC_len, readDV, madeDC_len, madeDV, traceDC_len, traceDV]; omega)) (by first | exact (readD_path _) | exact (madeD_path _) | exact (piece_load _) | rfl) ?_
           refine HPlan.lenStr rfl rfl rfl q_tk_9 rfl ?_
           refine HPlan.min rfl rfl rfl rfl (min_lv _ _) ?_
           have hle := sumTo_le ReadD.path t.reads.l k hk1
           refine HPlan.intBin rfl rfl rfl rfl rfl (add_min (by omega) (sumTo_step ReadD.path (by omega))) ?_
           refine HPlan.assign rfl rfl rfl ?_
           refine HPlan.fin ?_
           refine onExitH_n ?_
           refine onNorm_n ?_
           refine HWp.text (.rd 0 (.rd 1 (.rd 2 .done))) rfl ?_
           refine HPlan.move rfl rfl rfl ?_
           refine HPlan.intBin rfl rfl rfl rfl rfl (by first | exact add_i64 (by omega) (by omega) | rfl) ?_
           refine HPlan.assign rfl rfl rfl ?_
           refine HPlan.fin ?_
           refine onNorm_n ?_
           refine ⟨(k + 1), (by omega), (by omega), (LessE.less (by repeat (first | exact LessE.nil | refine LessE.same rfl ?_ | refine LessE.own rfl ?_ | refine LessE.eq rfl ?_ (by first | rfl | (congr 1; omega) | simp))) rfl), (by repeat (first | exact Part.refl _ | refine Part.pull (by repeat (first | exact Pull.here | apply Pull.there)) ?_ | refine Part.skip _ ?_ | exact Part.nil _ | exact Part.app _ _ | exact Part.appL _ _ | refine Part.appR _ ?_)), (by repeat (first | exact Part.refl _ | refine Part.pull (by repeat (first | exact Pull.here | apply Pull.there)) ?_ | refine Part.skip _ ?_ | exact Part.nil _ | exact Part.app _ _ | exact Part.appL _ _ | refine Part.appR _ ?_))⟩
        ·
         intro hc20
         first
         | exact PrN hc20
         | ((try simp only [Pr] at hc20); exfalso; omega)
         | (try simp only [Pr] at hc20)
           refine HWp.exit ?_
           refine onNorm_e ?_
           refine onNorm_e ?_
           obtain rfl : k = t.reads.l.length := by omega
           refine onExitH_hit ?_
           refine onNorm_n ?_
           refine HWp.seq ?_
           refine HWp.seq ?_
           refine HWp.text (.rd 0 .done) rfl ?_
           refine HPlan.assign rfl rfl rfl ?_
           refine HPlan.fin ?_
           refine onNorm_n ?_
           refine HWp.block ?_
           refine HWp.loopF (α := Nat) (fun q => t.outs.l.length - q) (fun q => q ≤ t.outs.l.length) (fun q => ⟨52, [(1, .ref i1 0), (3, .int .i64 (sumTo ReadD.path t.reads.l t.reads.l.length + sumTo MadeD.path t.outs.l q : Nat)), (5, .int .i64 (q : Int))]⟩) (fun q => (i1, .cells 28 (traceDC t) 0) :: L) (fun q => T) ?_ ?_
           ·
            refine ⟨0, (Nat.zero_le _), (LessE.less (by repeat (first | exact LessE.nil | refine LessE.same rfl ?_ | refine LessE.own rfl ?_ | refine LessE.eq rfl ?_ (by first | rfl | (congr 1; omega) | simp))) rfl), (by repeat (first | exact Part.refl _ | refine Part.pull (by repeat (first | exact Pull.here | apply Pull.there)) ?_ | refine Part.skip _ ?_ | exact Part.nil _ | exact Part.app _ _ | exact Part.appL _ _ | refine Part.appR _ ?_)), (by repeat (first | exact Part.refl _ | refine Part.pull (by repeat (first | exact Pull.here | apply Pull.there)) ?_ | refine Part.skip _ ?_ | exact Part.nil _ | exact Part.app _ _ | exact Part.appL _ _ | refine Part.appR _ ?_))⟩
           ·
            rintro q hq1
            refine HWp.seq ?_
            refine HWp.seq ?_
            refine HWp.text (.rd 0 (.rd 1 (.rd 2 (.rd 3 (.rd 4 .done))))) rfl ?_
            refine HPlan.move rfl rfl rfl ?_
            refine HPlan.fieldAddr rfl rfl rfl rfl q_fo_28_2 rfl ?_
            first
            | refine HPlan.loadI rfl rfl rfl q_sh_26 (by constructor <;> first | rfl | decide | omega | exact Nat.le_refl _ | (simp [digC_len, dgV, LV.cells, readDC_len, readDV, madeDC_len, madeDV, traceDC_len, traceDV]; done) | (simp [digC_len, dgV, LV.cells, readDC_len, readDV, madeDC_len, madeDV, traceDC_len, traceDV]; omega)) (by first | exact (traceD_outs _) | rfl) ?_
            | refine HPlan.load rfl rfl rfl q_sh_26 (by repeat (first | exact List.Mem.head _ | apply List.Mem.tail | assumption)) (by constructor <;> first | rfl | decide | omega | exact Nat.le_refl _ | (simp [digC_len, dgV, LV.cells, readDC_len, readDV, madeDC_len, madeDV, traceDC_len, traceDV]; done) | (simp [digC_len, dgV, LV.cells, readDC_len, readDV, madeDC_len, madeDV, traceDC_len, traceDV]; omega)) (by first | exact (traceD_outs _) | rfl) ?_
            refine HPlan.lenS rfl rfl rfl q_tk_26 (by first | exact IsSl.sl | exact IsSl.nils | assumption | exact growV_isSl (by assumption) | exact SlD.ok _) (by first | rw [List.length_map] | rfl) ?_
            refine HPlan.intBin rfl rfl rfl rfl rfl rfl ?_
            refine HPlan.fin ?_
            refine onNorm_n ?_
            refine HWp.cond rfl ?_ ?_
            ·
             intro hc37
             first
             | exact PrN hc37
             | ((try simp only [Pr] at hc37); exfalso; omega)
             | (try simp only [Pr] at hc37)
               refine HWp.skip ?_
               refine onNorm_n ?_
               refine HWp.seq ?_
               refine HWp.block ?_
               refine HWp.text (.rd 0 (.rd 1 (.rd 2 (.rd 3 (.rd 4 (.rd 5 (.rd 6 (.rd 7 (.rd 8 (.rd 9 (.rd 10 .done))))))))))) rfl ?_
               refine HPlan.move rfl rfl rfl ?_
               refine HPlan.fieldAddr rfl rfl rfl rfl q_fo_28_2 rfl ?_
               first
               | refine HPlan.loadI rfl rfl rfl q_sh_26 (by constructor <;> first | rfl | decide | omega | exact Nat.le_refl _ | (simp [digC_len, dgV, LV.cells, readDC_len, readDV, madeDC_len, madeDV, traceDC_len, traceDV]; done) | (simp [digC_len, dgV, LV.cells, readDC_len, readDV, madeDC_len, madeDV, traceDC_len, traceDV]; omega)) (by first | exact (traceD_outs _) | rfl) ?_
               | refine HPlan.load rfl rfl rfl q_sh_26 (by repeat (first | exact List.Mem.head _ | apply List.Mem.tail | assumption)) (by constructor <;> first | rfl | decide | omega | exact Nat.le_refl _ | (simp [digC_len, dgV, LV.cells, readDC_len, readDV, madeDC_len, madeDV, traceDC_len, traceDV]; done) | (simp [digC_len, dgV, LV.cells, readDC_len, readDV, madeDC_len, madeDV, traceDC_len, traceDV]; omega)) (by first | exact (traceD_outs _) | rfl) ?_
               refine HPlan.move rfl rfl rfl ?_
               refine HPlan.indexS rfl rfl rfl rfl q_ix_26 (by first | exact IsSl.sl | exact IsSl.nils | assumption | exact growV_isSl (by assumption) | exact SlD.ok _) (by omega) (by simp only [List.length_map]; omega) (by first | exact at_map (by omega) | rfl) ?_
               refine HPlan.fieldAddr rfl rfl rfl rfl q_fo_73_0 rfl ?_
               first
               | refine HPlan.loadI rfl rfl rfl q_sh_9 (by constructor <;> first | rfl | decide | omega | exact Nat.le_refl _ | (simp [digC_len, dgV, LV.cells, readDC_len, readDV, madeDC_len, madeDV, traceDC_len, traceDV]; done) | (simp [digC_len, dgV, LV.cells, readDC_len, readDV, madeDC_len, madeDV, traceDC_len, traceDV]; omega)) (by first | exact (readD_path _) | exact (madeD_path _) | exact (piece_load _) | rfl) ?_
               | refine HPlan.load rfl rfl rfl q_sh_9 (by repeat (first | exact List.Mem.head _ | apply List.Mem.tail | assumption)) (by constructor <;> first | rfl | decide | omega | exact Nat.le_refl _ | (simp [digC_len, dgV, LV.cells, readDC_len, readDV, madeDC_len, madeDV, traceDC_len, traceDV]; done) | (simp [digC_len, dgV, LV.cells, readDC_len, readDV, madeDC_len, madeDV, traceDC_len, traceDV]; omega)) (by first | exact (readD_path _) | exact (madeD_path _) | exact (piece_load _) | rfl) ?_
               refine HPlan.lenStr rfl rfl rfl q_tk_9 rfl ?_
               refine HPlan.min rfl rfl rfl rfl (min_lv _ _) ?_
               have hle := sumTo_le ReadD.path t.reads.l t.reads.l.length (Nat.le_refl _)
               have hle2 := sumTo_le MadeD.path t.outs.l q hq1
               refine HPlan.intBin rfl rfl rfl rfl rfl (add_min (b := sumTo ReadD.path t.reads.l t.reads.l.length + sumTo MadeD.path t.outs.l (q + 1)) (by omega) (by rw [sumTo_step MadeD.path (by omega), Nat.add_assoc])) ?_
               refine HPlan.assign rfl rfl rfl ?_
               refine HPlan.fin ?_
               refine onExitH_n ?_
               refine onNorm_n ?_
               refine HWp.text (.rd 0 (.rd 1 (.rd 2 .done))) rfl ?_
               refine HPlan.move rfl rfl rfl ?_
               refine HPlan.intBin rfl rfl rfl rfl rfl (by first | exact add_i64 (by omega) (by omega) | rfl) ?_
               refine HPlan.assign rfl rfl rfl ?_
               refine HPlan.fin ?_
               refine onNorm_n ?_
               refine ⟨(q + 1), (by omega), (by omega), (LessE.less (by repeat (first | exact LessE.nil | refine LessE.same rfl ?_ | refine LessE.own rfl ?_ | refine LessE.eq rfl ?_ (by first | rfl | (congr 1; omega) | simp))) rfl), (by repeat (first | exact Part.refl _ | refine Part.pull (by repeat (first | exact Pull.here | apply Pull.there)) ?_ | refine Part.skip _ ?_ | exact Part.nil _ | exact Part.app _ _ | exact Part.appL _ _ | refine Part.appR _ ?_)), (by repeat (first | exact Part.refl _ | refine Part.pull (by repeat (first | exact Pull.here | apply Pull.there)) ?_ | refine Part.skip _ ?_ | exact Part.nil _ | exact Part.app _ _ | exact Part.appL _ _ | refine Part.appR _ ?_))⟩
            ·
             intro hc37
             first
             | exact PrN hc37
             | ((try simp only [Pr] at hc37); exfalso; omega)
             | (try simp only [Pr] at hc37)
               refine HWp.exit ?_
               refine onNorm_e ?_
               refine onNorm_e ?_
               obtain rfl : q = t.outs.l.length := by omega
               refine onExitH_hit ?_
               refine onNorm_n ?_
               refine HWp.seq ?_
               refine HWp.text (.rd 0 (.rd 1 (.rd 2 .done))) rfl ?_
               refine HPlan.move rfl rfl rfl ?_
               refine HPlan.intBin rfl rfl rfl rfl rfl rfl ?_
               refine HPlan.assign rfl rfl rfl ?_
               refine HPlan.fin ?_
               refine onNorm_n ?_
               refine HWp.ret ?_
               refine retQ_r (.tmp rfl .nil) ?_
               refine endK_of ⟨?_, rfl, rfl⟩ (by repeat (first | exact Part.refl _ | refine Part.pull (by repeat (first | exact Pull.here | apply Pull.there)) ?_ | refine Part.skip _ ?_ | exact Part.nil _ | exact Part.app _ _ | exact Part.appL _ _ | refine Part.appR _ ?_)) (by repeat (first | exact Part.refl _ | refine Part.pull (by repeat (first | exact Pull.here | apply Pull.there)) ?_ | refine Part.skip _ ?_ | exact Part.nil _ | exact Part.app _ _ | exact Part.appL _ _ | refine Part.appR _ ?_))
               refine congrArg LV.bool ?_
               unfold wideF
               rw [Bool.eq_iff_iff]
               simp only [Bool.or_eq_true, decide_eq_true_eq, gt_iff_lt, Bool.true_eq, true_iff]
               omega
end Go.Proofs.YthfoobfgdakbmaaDoor

set_option linter.unusedVariables false
set_option linter.unusedSimpArgs false
set_option maxRecDepth 100000
namespace Go.Proofs.YthfoobfgdakbmaaDoor
open Go Go.RowKit Go.L
theorem q_sh_28 : shapeOf Tryd.prog 28 = some (true, 34) := by kernel_rfl
theorem q_en_30 : enterable Tryd.prog 30 = true := by kernel_rfl
theorem q_f_9 : Tryd.prog.funcs[9]? = some Tryd.f9 := by kernel_rfl
theorem q_fo_28_0 : fieldOff Tryd.prog 28 0 = some 0 := by kernel_rfl
theorem q_sh_24 : shapeOf Tryd.prog 24 = some (true, 32) := by kernel_rfl
theorem q_ck_24 : kindsOf Tryd.prog 2 24 = some (List.replicate 32 (.int .u8)) := by kernel_rfl
theorem q_eg_24 : Tryd.prog.eqGuardType Tryd.prog.depth 24 = false := by kernel_rfl
theorem q_mix : Tryd.prog.follows .mixedOrders = true := by kernel_rfl
theorem q_sh_66 : shapeOf Tryd.prog 66 = some (true, 34) := by kernel_rfl
theorem q_ck_66 : kindsOf Tryd.prog 3 66 = some [.str, .bool, .int .u8, .int .u8, .int .u8, .int .u8, .int .u8, .int .u8, .int .u8, .int .u8, .int .u8, .int .u8, .int .u8, .int .u8, .int .u8, .int .u8, .int .u8, .int .u8, .int .u8, .int .u8, .int .u8, .int .u8, .int .u8, .int .u8, .int .u8, .int .u8, .int .u8, .int .u8, .int .u8, .int .u8, .int .u8, .int .u8, .int .u8, .int .u8] := by kernel_rfl
theorem q_eg_66 : Tryd.prog.eqGuardType Tryd.prog.depth 66 = false := by kernel_rfl
theorem q_sh_73 : shapeOf Tryd.prog 73 = some (true, 33) := by kernel_rfl
theorem q_ck_73 : kindsOf Tryd.prog 3 73 = some [.str, .int .u8, .int .u8, .int .u8, .int .u8, .int .u8, .int .u8, .int .u8, .int .u8, .int .u8, .int .u8, .int .u8, .int .u8, .int .u8, .int .u8, .int .u8, .int .u8, .int .u8, .int .u8, .int .u8, .int .u8, .int .u8, .int .u8, .int .u8, .int .u8, .int .u8, .int .u8, .int .u8, .int .u8, .int .u8, .int .u8, .int .u8, .int .u8] := by kernel_rfl
theorem q_eg_73 : Tryd.prog.eqGuardType Tryd.prog.depth 73 = false := by kernel_rfl
theorem q_f_12 : Tryd.prog.funcs[12]? = some Tryd.f12 := by kernel_rfl

def greatI (t : TraceD) : Int := if wideF t = true then 1 else 0
def AgreeTo {α : Type} (a b : List α) (k : Nat) : Prop := ∀ j, j < k → a[j]? = b[j]?
theorem AgreeTo.zero {α : Type} (a b : List α) : AgreeTo a b 0 := fun j h => absurd h (Nat.not_lt_zero _)
theorem AgreeTo.step {α : Type} {a b : List α} {k : Nat} (h : AgreeTo a b k) (ha : k < a.length) (hb : k < b.length) (e : a[k] = b[k]) : AgreeTo a b (k + 1) := fun j hj => by
  by_cases hjk : j = k
  · subst hjk; rw [List.getElem?_eq_getElem ha, List.getElem?_eq_getElem hb, e]
  · exact h j (by omega)
theorem AgreeTo.eq {α : Type} {a b : List α} (h : AgreeTo a b a.length) (hl : a.length = b.length) : a = b := by
  apply List.ext_getElem?
  intro i
  by_cases hi : i < a.length
  · exact h i hi
  · rw [List.getElem?_eq_none (by omega), List.getElem?_eq_none (by omega)]
def SameT (a b : TraceD) : Prop := a.key = b.key ∧ a.reads.l = b.reads.l ∧ a.outs.l = b.outs.l
instance (a b : TraceD) : Decidable (SameT a b) := by unfold SameT; infer_instance

theorem great_spec (t : TraceD) : HPure Tryd.prog 9 [traceDV t] (.int .i64 (greatI t)) := by
 intro L T
 refine HCalls.enterG q_f_9 rfl ?_
 refine HWp.frame (r' := ⟨5, [(0, traceDV t)]⟩) rfl ?_
 refine HWp.seq ?_
 refine HWp.text (.act 0 [] (.rd 1 .done)) rfl ?_
 refine HPlan.box rfl rfl rfl (by first | rfl | (simp; done)) (fun i1 => ⟨keptH_nil, ?_⟩)
 refine HPlan.assign rfl rfl rfl ?_
 refine HPlan.fin ?_
 refine onNorm_n ?_
 refine HWp.seq ?_
 refine HWp.seq ?_
 refine HWp.text (.rd 0 (.act 1 [] .done)) rfl ?_
 first
 | refine HPlan.loadI rfl rfl rfl q_sh_28 (by constructor <;> first | rfl | decide | omega | exact Nat.le_refl _ | (simp [digC_len, dgV, LV.cells, readDC_len, readDV, madeDC_len, madeDV, traceDC_len, traceDV]; done) | (simp [digC_len, dgV, LV.cells, readDC_len, readDV, madeDC_len, madeDV, traceDC_len, traceDV]; omega)) (by first | exact (traceD_all _) | rfl) ?_
 | refine HPlan.load rfl rfl rfl q_sh_28 (by repeat (first | exact List.Mem.head _ | apply List.Mem.tail | assumption)) (by constructor <;> first | rfl | decide | omega | exact Nat.le_refl _ | (simp [digC_len, dgV, LV.cells, readDC_len, readDV, madeDC_len, madeDV, traceDC_len, traceDV]; done) | (simp [digC_len, dgV, LV.cells, readDC_len, readDV, madeDC_len, madeDV, traceDC_len, traceDV]; omega)) (by first | exact (traceD_all _) | rfl) ?_
 refine HPlan.callPure rfl rfl rfl q_en_30 (wide_spec _) keptH_nil ?_
 refine HPlan.fin ?_
 refine onNorm_n ?_
 refine HWp.cond rfl ?_ ?_
 ·
  intro hc4
  first
  | exact PrN hc4
  | ((try simp only [Pr] at hc4); exfalso; omega)
  | (try simp only [Pr] at hc4)
    refine HWp.seq ?_
    refine HWp.text (.rd 0 .done) rfl ?_
    refine HPlan.assign rfl rfl rfl ?_
    refine HPlan.fin ?_
    refine onNorm_n ?_
    refine HWp.ret ?_
    refine onNorm_r ?_
    refine retQ_r (.tmp rfl .nil) ?_
    refine endK_of ⟨?_, rfl, rfl⟩ (by repeat (first | exact Part.refl _ | refine Part.pull (by repeat (first | exact Pull.here | apply Pull.there)) ?_ | refine Part.skip _ ?_ | exact Part.nil _ | exact Part.app _ _ | exact Part.appL _ _ | refine Part.appR _ ?_)) (by repeat (first | exact Part.refl _ | refine Part.pull (by repeat (first | exact Pull.here | apply Pull.there)) ?_ | refine Part.skip _ ?_ | exact Part.nil _ | exact Part.app _ _ | exact Part.appL _ _ | refine Part.appR _ ?_))
    unfold greatI
    first
    | (rw [if_pos hc4]; rfl)
    | (rw [if_neg (by rw [hc4]; exact Bool.false_ne_true)]; rfl)
 ·
  intro hc4
  first
  | exact PrN hc4
  | ((try simp only [Pr] at hc4); exfalso; omega)
  | (try simp only [Pr] at hc4)
    refine HWp.skip ?_
    refine onNorm_n ?_
    refine HWp.seq ?_
    refine HWp.text (.rd 0 .done) rfl ?_
    refine HPlan.assign rfl rfl rfl ?_
    refine HPlan.fin ?_
    refine onNorm_n ?_
    refine HWp.ret ?_
    refine retQ_r (.tmp rfl .nil) ?_
    refine endK_of ⟨?_, rfl, rfl⟩ (by repeat (first | exact Part.refl _ | refine Part.pull (by repeat (first | exact Pull.here | apply Pull.there)) ?_ | refine Part.skip _ ?_ | exact Part.nil _ | exact Part.app _ _ | exact Part.appL _ _ | refine Part.appR _ ?_)) (by repeat (first | exact Part.refl _ | refine Part.pull (by repeat (first | exact Pull.here | apply Pull.there)) ?_ | refine Part.skip _ ?_ | exact Part.nil _ | exact Part.app _ _ | exact Part.appL _ _ | refine Part.appR _ ?_))
    unfold greatI
    first
    | (rw [if_pos hc4]; rfl)
    | (rw [if_neg (by rw [hc4]; exact Bool.false_ne_true)]; rfl)
theorem same_spec (a b : TraceD) : HPure Tryd.prog 12 [traceDV a, traceDV b] (.bool (decide (SameT a b))) := by
 have hsm1 := a.reads.small
 have hsm2 := a.outs.small
 intro L T
 refine HCalls.enterG q_f_12 rfl ?_
 refine HWp.frame (r' := ⟨66, [(0, traceDV a), (1, traceDV b)]⟩) rfl ?_
 refine HWp.seq ?_
 refine HWp.text (.act 0 [] (.act 1 [] (.rd 2 .done))) rfl ?_
 refine HPlan.box rfl rfl rfl (by first | rfl | (simp; done)) (fun i2 => ⟨keptH_nil, ?_⟩)
 refine HPlan.box rfl rfl rfl (by first | rfl | (simp; done)) (fun i3 => ⟨keptH_nil, ?_⟩)
 refine HPlan.assign rfl rfl rfl ?_
 refine HPlan.fin ?_
 refine onNorm_n ?_
 refine HWp.seq ?_
 refine HWp.seq ?_
 refine HWp.text (.rd 0 (.rd 1 (.rd 2 (.rd 3 (.rd 4 (.rd 5 (.rd 6 (.rd 7 (.rd 8 (.rd 9 (.rd 10 (.rd 11 (.rd 12 (.rd 13 (.rd 14 (.rd 15 (.rd 16 (.rd 17 (.rd 18 (.rd 19 (.rd 20 (.rd 21 (.rd 22 .done))))))))))))))))))))))) rfl ?_
 refine HPlan.fieldAddr rfl rfl rfl rfl q_fo_28_0 rfl ?_
 first
 | refine HPlan.loadI rfl rfl rfl q_sh_24 (by constructor <;> first | rfl | decide | omega | exact Nat.le_refl _ | (simp [digC_len, dgV, LV.cells, readDC_len, readDV, madeDC_len, madeDV, traceDC_len, traceDV]; done) | (simp [digC_len, dgV, LV.cells, readDC_len, readDV, madeDC_len, madeDV, traceDC_len, traceDV]; omega)) (by first | exact (dgV_all _) | exact (readD_sum _) | exact (madeD_sum _) | exact (traceD_key _) | rfl) ?_
 | refine HPlan.load rfl rfl rfl q_sh_24 (by repeat (first | exact List.Mem.head _ | apply List.Mem.tail | assumption)) (by constructor <;> first | rfl | decide | omega | exact Nat.le_refl _ | (simp [digC_len, dgV, LV.cells, readDC_len, readDV, madeDC_len, madeDV, traceDC_len, traceDV]; done) | (simp [digC_len, dgV, LV.cells, readDC_len, readDV, madeDC_len, madeDV, traceDC_len, traceDV]; omega)) (by first | exact (dgV_all _) | exact (readD_sum _) | exact (madeD_sum _) | exact (traceD_key _) | rfl) ?_
 refine HPlan.fieldAddr rfl rfl rfl rfl q_fo_28_0 rfl ?_
 first
 | refine HPlan.loadI rfl rfl rfl q_sh_24 (by constructor <;> first | rfl | decide | omega | exact Nat.le_refl _ | (simp [digC_len, dgV, LV.cells, readDC_len, readDV, madeDC_len, madeDV, traceDC_len, traceDV]; done) | (simp [digC_len, dgV, LV.cells, readDC_len, readDV, madeDC_len, madeDV, traceDC_len, traceDV]; omega)) (by first | exact (dgV_all _) | exact (readD_sum _) | exact (madeD_sum _) | exact (traceD_key _) | rfl) ?_
 | refine HPlan.load rfl rfl rfl q_sh_24 (by repeat (first | exact List.Mem.head _ | apply List.Mem.tail | assumption)) (by constructor <;> first | rfl | decide | omega | exact Nat.le_refl _ | (simp [digC_len, dgV, LV.cells, readDC_len, readDV, madeDC_len, madeDV, traceDC_len, traceDV]; done) | (simp [digC_len, dgV, LV.cells, readDC_len, readDV, madeDC_len, madeDV, traceDC_len, traceDV]; omega)) (by first | exact (dgV_all _) | exact (readD_sum _) | exact (madeD_sum _) | exact (traceD_key _) | rfl) ?_
 refine HPlan.aggNe rfl rfl rfl rfl q_sh_24 q_ck_24 (by decide) q_eg_24 (digC_len _) (digC_len _) (dig_fit _) (dig_fit _) (dig_eq _ _) ?_
 refine HPlan.move rfl rfl rfl ?_
 refine HPlan.split ?_ ?_
 ·
  intro hb1_5
  first
  | exact PrN hb1_5
  | ((try simp only [Pr] at hb1_5); exfalso; omega)
  | (try simp only [Pr] at hb1_5)
    refine HPlan.leftR rfl rfl ?_
    refine HPlan.leftR rfl rfl ?_
    refine HPlan.leftR rfl rfl ?_
    refine HPlan.leftR rfl rfl ?_
    refine HPlan.leftR rfl rfl ?_
    refine HPlan.leftR rfl rfl ?_
    refine HPlan.leftR rfl rfl ?_
    refine HPlan.pickT rfl rfl rfl rfl ?_
    refine HPlan.move rfl rfl rfl ?_
    refine HPlan.leftR rfl rfl ?_
    refine HPlan.leftR rfl rfl ?_
    refine HPlan.leftR rfl rfl ?_
    refine HPlan.leftR rfl rfl ?_
    refine HPlan.leftR rfl rfl ?_
    refine HPlan.leftR rfl rfl ?_
    refine HPlan.leftR rfl rfl ?_
    refine HPlan.pickT rfl rfl rfl rfl ?_
    refine HPlan.fin ?_
    refine onNorm_n ?_
    refine HWp.cond_t rfl ?_
    refine HWp.seq ?_
    refine HWp.text (.rd 0 .done) rfl ?_
    refine HPlan.assign rfl rfl rfl ?_
    refine HPlan.fin ?_
    refine onNorm_n ?_
    refine HWp.ret ?_
    refine onNorm_r ?_
    refine retQ_r (.tmp rfl .nil) ?_
    refine endK_of ⟨?_, rfl, rfl⟩ (by repeat (first | exact Part.refl _ | refine Part.pull (by repeat (first | exact Pull.here | apply Pull.there)) ?_ | refine Part.skip _ ?_ | exact Part.nil _ | exact Part.app _ _ | exact Part.appL _ _ | refine Part.appR _ ?_)) (by repeat (first | exact Part.refl _ | refine Part.pull (by repeat (first | exact Pull.here | apply Pull.there)) ?_ | refine Part.skip _ ?_ | exact Part.nil _ | exact Part.app _ _ | exact Part.appL _ _ | refine Part.appR _ ?_))
    refine congrArg LV.bool ?_
    first
    | exact (decide_eq_true (⟨hb1_5, hag.eq (by omega), hag2.eq (by omega)⟩ : SameT a b)).symm
    | exact (decide_eq_false (fun h : SameT a b => hc47 (by simp only [h.2.1]))).symm
    | exact (decide_eq_false (fun h : SameT a b => hc65 (by simp only [h.2.2]))).symm
    | exact (decide_eq_false (fun h : SameT a b => hb1_5 h.1)).symm
    | exact (decide_eq_false (fun h : SameT a b => hb1_14 (by rw [h.2.1]))).symm
    | exact (decide_eq_false (fun h : SameT a b => hc29 (by rw [h.2.2]))).symm
 ·
  intro hb1_5
  first
  | exact PrN hb1_5
  | ((try simp only [Pr] at hb1_5); exfalso; omega)
  | (try simp only [Pr] at hb1_5)
    refine HPlan.fieldAddr rfl rfl rfl rfl q_fo_28_1 rfl ?_
    first
    | refine HPlan.loadI rfl rfl rfl q_sh_25 (by constructor <;> first | rfl | decide | omega | exact Nat.le_refl _ | (simp [digC_len, dgV, LV.cells, readDC_len, readDV, madeDC_len, madeDV, traceDC_len, traceDV]; done) | (simp [digC_len, dgV, LV.cells, readDC_len, readDV, madeDC_len, madeDV, traceDC_len, traceDV]; omega)) (by first | exact (traceD_reads _) | rfl) ?_
    | refine HPlan.load rfl rfl rfl q_sh_25 (by repeat (first | exact List.Mem.head _ | apply List.Mem.tail | assumption)) (by constructor <;> first | rfl | decide | omega | exact Nat.le_refl _ | (simp [digC_len, dgV, LV.cells, readDC_len, readDV, madeDC_len, madeDV, traceDC_len, traceDV]; done) | (simp [digC_len, dgV, LV.cells, readDC_len, readDV, madeDC_len, madeDV, traceDC_len, traceDV]; omega)) (by first | exact (traceD_reads _) | rfl) ?_
    refine HPlan.lenS rfl rfl rfl q_tk_25 (by first | exact IsSl.sl | exact IsSl.nils | assumption | exact growV_isSl (by assumption) | exact SlD.ok _) (by first | rw [List.length_map] | rfl) ?_
    refine HPlan.fieldAddr rfl rfl rfl rfl q_fo_28_1 rfl ?_
    first
    | refine HPlan.loadI rfl rfl rfl q_sh_25 (by constructor <;> first | rfl | decide | omega | exact Nat.le_refl _ | (simp [digC_len, dgV, LV.cells, readDC_len, readDV, madeDC_len, madeDV, traceDC_len, traceDV]; done) | (simp [digC_len, dgV, LV.cells, readDC_len, readDV, madeDC_len, madeDV, traceDC_len, traceDV]; omega)) (by first | exact (traceD_reads _) | rfl) ?_
    | refine HPlan.load rfl rfl rfl q_sh_25 (by repeat (first | exact List.Mem.head _ | apply List.Mem.tail | assumption)) (by constructor <;> first | rfl | decide | omega | exact Nat.le_refl _ | (simp [digC_len, dgV, LV.cells, readDC_len, readDV, madeDC_len, madeDV, traceDC_len, traceDV]; done) | (simp [digC_len, dgV, LV.cells, readDC_len, readDV, madeDC_len, madeDV, traceDC_len, traceDV]; omega)) (by first | exact (traceD_reads _) | rfl) ?_
    refine HPlan.lenS rfl rfl rfl q_tk_25 (by first | exact IsSl.sl | exact IsSl.nils | assumption | exact growV_isSl (by assumption) | exact SlD.ok _) (by first | rw [List.length_map] | rfl) ?_
    refine HPlan.intBin rfl rfl rfl rfl rfl rfl ?_
    refine HPlan.pickF rfl rfl rfl rfl ?_
    refine HPlan.move rfl rfl rfl ?_
    refine HPlan.split ?_ ?_
    ·
     intro hb1_14
     first
     | exact PrN hb1_14
     | ((try simp only [Pr] at hb1_14); exfalso; omega)
     | (try simp only [Pr] at hb1_14)
       refine HPlan.leftR rfl rfl ?_
       refine HPlan.leftR rfl rfl ?_
       refine HPlan.leftR rfl rfl ?_
       refine HPlan.leftR rfl rfl ?_
       refine HPlan.leftR rfl rfl ?_
       refine HPlan.leftR rfl rfl ?_
       refine HPlan.leftR rfl rfl ?_
       refine HPlan.pickT rfl rfl rfl rfl ?_
       refine HPlan.fin ?_
       refine onNorm_n ?_
       refine HWp.cond_t rfl ?_
       refine HWp.seq ?_
       refine HWp.text (.rd 0 .done) rfl ?_
       refine HPlan.assign rfl rfl rfl ?_
       refine HPlan.fin ?_
       refine onNorm_n ?_
       refine HWp.ret ?_
       refine onNorm_r ?_
       refine retQ_r (.tmp rfl .nil) ?_
       refine endK_of ⟨?_, rfl, rfl⟩ (by repeat (first | exact Part.refl _ | refine Part.pull (by repeat (first | exact Pull.here | apply Pull.there)) ?_ | refine Part.skip _ ?_ | exact Part.nil _ | exact Part.app _ _ | exact Part.appL _ _ | refine Part.appR _ ?_)) (by repeat (first | exact Part.refl _ | refine Part.pull (by repeat (first | exact Pull.here | apply Pull.there)) ?_ | refine Part.skip _ ?_ | exact Part.nil _ | exact Part.app _ _ | exact Part.appL _ _ | refine Part.appR _ ?_))
       refine congrArg LV.bool ?_
       first
       | exact (decide_eq_true (⟨hb1_5, hag.eq (by omega), hag2.eq (by omega)⟩ : SameT a b)).symm
       | exact (decide_eq_false (fun h : SameT a b => hc47 (by simp only [h.2.1]))).symm
       | exact (decide_eq_false (fun h : SameT a b => hc65 (by simp only [h.2.2]))).symm
       | exact (decide_eq_false (fun h : SameT a b => hb1_5 h.1)).symm
       | exact (decide_eq_false (fun h : SameT a b => hb1_14 (by rw [h.2.1]))).symm
       | exact (decide_eq_false (fun h : SameT a b => hc29 (by rw [h.2.2]))).symm
    ·
     intro hb1_14
     first
     | exact PrN hb1_14
     | ((try simp only [Pr] at hb1_14); exfalso; omega)
     | (try simp only [Pr] at hb1_14)
       refine HPlan.fieldAddr rfl rfl rfl rfl q_fo_28_2 rfl ?_
       first
       | refine HPlan.loadI rfl rfl rfl q_sh_26 (by constructor <;> first | rfl | decide | omega | exact Nat.le_refl _ | (simp [digC_len, dgV, LV.cells, readDC_len, readDV, madeDC_len, madeDV, traceDC_len, traceDV]; done) | (simp [digC_len, dgV, LV.cells, readDC_len, readDV, madeDC_len, madeDV, traceDC_len, traceDV]; omega)) (by first | exact (traceD_outs _) | rfl) ?_
       | refine HPlan.load rfl rfl rfl q_sh_26 (by repeat (first | exact List.Mem.head _ | apply List.Mem.tail | assumption)) (by constructor <;> first | rfl | decide | omega | exact Nat.le_refl _ | (simp [digC_len, dgV, LV.cells, readDC_len, readDV, madeDC_len, madeDV, traceDC_len, traceDV]; done) | (simp [digC_len, dgV, LV.cells, readDC_len, readDV, madeDC_len, madeDV, traceDC_len, traceDV]; omega)) (by first | exact (traceD_outs _) | rfl) ?_
       refine HPlan.lenS rfl rfl rfl q_tk_26 (by first | exact IsSl.sl | exact IsSl.nils | assumption | exact growV_isSl (by assumption) | exact SlD.ok _) (by first | rw [List.length_map] | rfl) ?_
       refine HPlan.fieldAddr rfl rfl rfl rfl q_fo_28_2 rfl ?_
       first
       | refine HPlan.loadI rfl rfl rfl q_sh_26 (by constructor <;> first | rfl | decide | omega | exact Nat.le_refl _ | (simp [digC_len, dgV, LV.cells, readDC_len, readDV, madeDC_len, madeDV, traceDC_len, traceDV]; done) | (simp [digC_len, dgV, LV.cells, readDC_len, readDV, madeDC_len, madeDV, traceDC_len, traceDV]; omega)) (by first | exact (traceD_outs _) | rfl) ?_
       | refine HPlan.load rfl rfl rfl q_sh_26 (by repeat (first | exact List.Mem.head _ | apply List.Mem.tail | assumption)) (by constructor <;> first | rfl | decide | omega | exact Nat.le_refl _ | (simp [digC_len, dgV, LV.cells, readDC_len, readDV, madeDC_len, madeDV, traceDC_len, traceDV]; done) | (simp [digC_len, dgV, LV.cells, readDC_len, readDV, madeDC_len, madeDV, traceDC_len, traceDV]; omega)) (by first | exact (traceD_outs _) | rfl) ?_
       refine HPlan.lenS rfl rfl rfl q_tk_26 (by first | exact IsSl.sl | exact IsSl.nils | assumption | exact growV_isSl (by assumption) | exact SlD.ok _) (by first | rw [List.length_map] | rfl) ?_
       refine HPlan.intBin rfl rfl rfl rfl rfl rfl ?_
       refine HPlan.pickF rfl rfl rfl rfl ?_
       refine HPlan.fin ?_
       refine onNorm_n ?_
       refine HWp.cond rfl ?_ ?_
       ·
        intro hc29
        first
        | exact PrN hc29
        | ((try simp only [Pr] at hc29); exfalso; omega)
        | (try simp only [Pr] at hc29)
          refine HWp.seq ?_
          refine HWp.text (.rd 0 .done) rfl ?_
          refine HPlan.assign rfl rfl rfl ?_
          refine HPlan.fin ?_
          refine onNorm_n ?_
          refine HWp.ret ?_
          refine onNorm_r ?_
          refine retQ_r (.tmp rfl .nil) ?_
          refine endK_of ⟨?_, rfl, rfl⟩ (by repeat (first | exact Part.refl _ | refine Part.pull (by repeat (first | exact Pull.here | apply Pull.there)) ?_ | refine Part.skip _ ?_ | exact Part.nil _ | exact Part.app _ _ | exact Part.appL _ _ | refine Part.appR _ ?_)) (by repeat (first | exact Part.refl _ | refine Part.pull (by repeat (first | exact Pull.here | apply Pull.there)) ?_ | refine Part.skip _ ?_ | exact Part.nil _ | exact Part.app _ _ | exact Part.appL _ _ | refine Part.appR _ ?_))
          refine congrArg LV.bool ?_
          first
          | exact (decide_eq_true (⟨hb1_5, hag.eq (by omega), hag2.eq (by omega)⟩ : SameT a b)).symm
          | exact (decide_eq_false (fun h : SameT a b => hc47 (by simp only [h.2.1]))).symm
          | exact (decide_eq_false (fun h : SameT a b => hc65 (by simp only [h.2.2]))).symm
          | exact (decide_eq_false (fun h : SameT a b => hb1_5 h.1)).symm
          | exact (decide_eq_false (fun h : SameT a b => hb1_14 (by rw [h.2.1]))).symm
          | exact (decide_eq_false (fun h : SameT a b => hc29 (by rw [h.2.2]))).symm
       ·
        intro hc29
        first
        | exact PrN hc29
        | ((try simp only [Pr] at hc29); exfalso; omega)
        | (try simp only [Pr] at hc29)
          refine HWp.skip ?_
          refine onNorm_n ?_
          refine HWp.seq ?_
          refine HWp.seq ?_
          refine HWp.text (.rd 0 .done) rfl ?_
          refine HPlan.assign rfl rfl rfl ?_
          refine HPlan.fin ?_
          refine onNorm_n ?_
          refine HWp.block ?_
          refine HWp.loopF (α := Nat) (fun k => a.reads.l.length - k) (fun k => k ≤ a.reads.l.length ∧ AgreeTo a.reads.l b.reads.l k) (fun k => ⟨66, [(2, .ref i2 0), (3, .ref i3 0), (5, .int .i64 (k : Int))]⟩) (fun k => (i2, .cells 28 (traceDC a) 0) :: (i3, .cells 28 (traceDC b) 0) :: L) (fun k => T) ?_ ?_
          ·
           refine ⟨0, ⟨Nat.zero_le _, AgreeTo.zero _ _⟩, (LessE.less (by repeat (first | exact LessE.nil | refine LessE.same rfl ?_ | refine LessE.own rfl ?_ | refine LessE.eq rfl ?_ (by first | rfl | (congr 1; omega) | simp))) rfl), (by repeat (first | exact Part.refl _ | refine Part.pull (by repeat (first | exact Pull.here | apply Pull.there)) ?_ | refine Part.skip _ ?_ | exact Part.nil _ | exact Part.app _ _ | exact Part.appL _ _ | refine Part.appR _ ?_)), (by repeat (first | exact Part.refl _ | refine Part.pull (by repeat (first | exact Pull.here | apply Pull.there)) ?_ | refine Part.skip _ ?_ | exact Part.nil _ | exact Part.app _ _ | exact Part.appL _ _ | refine Part.appR _ ?_))⟩
          ·
           rintro k ⟨hk1, hag⟩
           refine HWp.seq ?_
           refine HWp.seq ?_
           refine HWp.text (.rd 0 (.rd 1 (.rd 2 (.rd 3 (.rd 4 .done))))) rfl ?_
           refine HPlan.move rfl rfl rfl ?_
           refine HPlan.fieldAddr rfl rfl rfl rfl q_fo_28_1 rfl ?_
           first
           | refine HPlan.loadI rfl rfl rfl q_sh_25 (by constructor <;> first | rfl | decide | omega | exact Nat.le_refl _ | (simp [digC_len, dgV, LV.cells, readDC_len, readDV, madeDC_len, madeDV, traceDC_len, traceDV]; done) | (simp [digC_len, dgV, LV.cells, readDC_len, readDV, madeDC_len, madeDV, traceDC_len, traceDV]; omega)) (by first | exact (traceD_reads _) | rfl) ?_
           | refine HPlan.load rfl rfl rfl q_sh_25 (by repeat (first | exact List.Mem.head _ | apply List.Mem.tail | assumption)) (by constructor <;> first | rfl | decide | omega | exact Nat.le_refl _ | (simp [digC_len, dgV, LV.cells, readDC_len, readDV, madeDC_len, madeDV, traceDC_len, traceDV]; done) | (simp [digC_len, dgV, LV.cells, readDC_len, readDV, madeDC_len, madeDV, traceDC_len, traceDV]; omega)) (by first | exact (traceD_reads _) | rfl) ?_
           refine HPlan.lenS rfl rfl rfl q_tk_25 (by first | exact IsSl.sl | exact IsSl.nils | assumption | exact growV_isSl (by assumption) | exact SlD.ok _) (by first | rw [List.length_map] | rfl) ?_
           refine HPlan.intBin rfl rfl rfl rfl rfl rfl ?_
           refine HPlan.fin ?_
           refine onNorm_n ?_
           refine HWp.cond rfl ?_ ?_
           ·
            intro hc34
            first
            | exact PrN hc34
            | ((try simp only [Pr] at hc34); exfalso; omega)
            | (try simp only [Pr] at hc34)
              refine HWp.skip ?_
              refine onNorm_n ?_
              refine HWp.seq ?_
              refine HWp.block ?_
              refine HWp.seq ?_
              refine HWp.draw q_mix (.rd 0 (.rd 1 (.rd 2 (.rd 3 (.rd 4 (.rd 5 (.rd 6 (.rd 7 (.rd 8 (.rd 9 (.rd 10 .done))))))))))) (by kernel_rfl) ?_
              refine HPlan.fieldAddr rfl rfl rfl rfl q_fo_28_1 rfl ?_
              first
              | refine HPlan.loadI rfl rfl rfl q_sh_25 (by constructor <;> first | rfl | decide | omega | exact Nat.le_refl _ | (simp [digC_len, dgV, LV.cells, readDC_len, readDV, madeDC_len, madeDV, traceDC_len, traceDV]; done) | (simp [digC_len, dgV, LV.cells, readDC_len, readDV, madeDC_len, madeDV, traceDC_len, traceDV]; omega)) (by first | exact (traceD_reads _) | rfl) ?_
              | refine HPlan.load rfl rfl rfl q_sh_25 (by repeat (first | exact List.Mem.head _ | apply List.Mem.tail | assumption)) (by constructor <;> first | rfl | decide | omega | exact Nat.le_refl _ | (simp [digC_len, dgV, LV.cells, readDC_len, readDV, madeDC_len, madeDV, traceDC_len, traceDV]; done) | (simp [digC_len, dgV, LV.cells, readDC_len, readDV, madeDC_len, madeDV, traceDC_len, traceDV]; omega)) (by first | exact (traceD_reads _) | rfl) ?_
              refine HPlan.move rfl rfl rfl ?_
              refine HPlan.indexS rfl rfl rfl rfl q_ix_25 (by first | exact IsSl.sl | exact IsSl.nils | assumption | exact growV_isSl (by assumption) | exact SlD.ok _) (by omega) (by simp only [List.length_map]; omega) (by first | exact at_map (by omega) | rfl) ?_
              first
              | refine HPlan.loadI rfl rfl rfl q_sh_66 (by constructor <;> first | rfl | decide | omega | exact Nat.le_refl _ | (simp [digC_len, dgV, LV.cells, readDC_len, readDV, madeDC_len, madeDV, traceDC_len, traceDV]; done) | (simp [digC_len, dgV, LV.cells, readDC_len, readDV, madeDC_len, madeDV, traceDC_len, traceDV]; omega)) (by first | exact (readD_all _) | rfl) ?_
              | refine HPlan.load rfl rfl rfl q_sh_66 (by repeat (first | exact List.Mem.head _ | apply List.Mem.tail | assumption)) (by constructor <;> first | rfl | decide | omega | exact Nat.le_refl _ | (simp [digC_len, dgV, LV.cells, readDC_len, readDV, madeDC_len, madeDV, traceDC_len, traceDV]; done) | (simp [digC_len, dgV, LV.cells, readDC_len, readDV, madeDC_len, madeDV, traceDC_len, traceDV]; omega)) (by first | exact (readD_all _) | rfl) ?_
              refine HPlan.fieldAddr rfl rfl rfl rfl q_fo_28_1 rfl ?_
              first
              | refine HPlan.loadI rfl rfl rfl q_sh_25 (by constructor <;> first | rfl | decide | omega | exact Nat.le_refl _ | (simp [digC_len, dgV, LV.cells, readDC_len, readDV, madeDC_len, madeDV, traceDC_len, traceDV]; done) | (simp [digC_len, dgV, LV.cells, readDC_len, readDV, madeDC_len, madeDV, traceDC_len, traceDV]; omega)) (by first | exact (traceD_reads _) | rfl) ?_
              | refine HPlan.load rfl rfl rfl q_sh_25 (by repeat (first | exact List.Mem.head _ | apply List.Mem.tail | assumption)) (by constructor <;> first | rfl | decide | omega | exact Nat.le_refl _ | (simp [digC_len, dgV, LV.cells, readDC_len, readDV, madeDC_len, madeDV, traceDC_len, traceDV]; done) | (simp [digC_len, dgV, LV.cells, readDC_len, readDV, madeDC_len, madeDV, traceDC_len, traceDV]; omega)) (by first | exact (traceD_reads _) | rfl) ?_
              refine HPlan.move rfl rfl rfl ?_
              refine HPlan.indexS rfl rfl rfl rfl q_ix_25 (by first | exact IsSl.sl | exact IsSl.nils | assumption | exact growV_isSl (by assumption) | exact SlD.ok _) (by omega) (by simp only [List.length_map]; omega) (by first | exact at_map (by omega) | rfl) ?_
              first
              | refine HPlan.loadI rfl rfl rfl q_sh_66 (by constructor <;> first | rfl | decide | omega | exact Nat.le_refl _ | (simp [digC_len, dgV, LV.cells, readDC_len, readDV, madeDC_len, madeDV, traceDC_len, traceDV]; done) | (simp [digC_len, dgV, LV.cells, readDC_len, readDV, madeDC_len, madeDV, traceDC_len, traceDV]; omega)) (by first | exact (readD_all _) | rfl) ?_
              | refine HPlan.load rfl rfl rfl q_sh_66 (by repeat (first | exact List.Mem.head _ | apply List.Mem.tail | assumption)) (by constructor <;> first | rfl | decide | omega | exact Nat.le_refl _ | (simp [digC_len, dgV, LV.cells, readDC_len, readDV, madeDC_len, madeDV, traceDC_len, traceDV]; done) | (simp [digC_len, dgV, LV.cells, readDC_len, readDV, madeDC_len, madeDV, traceDC_len, traceDV]; omega)) (by first | exact (readD_all _) | rfl) ?_
              refine HPlan.aggNe rfl rfl rfl rfl q_sh_66 q_ck_66 (by decide) q_eg_66 (readDC_len _) (readDC_len _) (readD_fit _) (readD_fit _) (readD_eq _ _) ?_
              refine HPlan.fin ?_
              refine onNorm_n ?_
              refine HWp.cond rfl ?_ ?_
              ·
               intro hc47
               first
               | exact PrN hc47
               | ((try simp only [Pr] at hc47); exfalso; omega)
               | (try simp only [Pr] at hc47)
                 refine HWp.seq ?_
                 refine HWp.text (.rd 0 .done) rfl ?_
                 refine HPlan.assign rfl rfl rfl ?_
                 refine HPlan.fin ?_
                 refine onNorm_n ?_
                 refine HWp.ret ?_
                 refine onExitH_r ?_
                 refine onNorm_r ?_
                 refine onNorm_r ?_
                 refine onExitH_r ?_
                 refine onNorm_r ?_
                 refine retQ_r (.tmp rfl .nil) ?_
                 refine endK_of ⟨?_, rfl, rfl⟩ (by repeat (first | exact Part.refl _ | refine Part.pull (by repeat (first | exact Pull.here | apply Pull.there)) ?_ | refine Part.skip _ ?_ | exact Part.nil _ | exact Part.app _ _ | exact Part.appL _ _ | refine Part.appR _ ?_)) (by repeat (first | exact Part.refl _ | refine Part.pull (by repeat (first | exact Pull.here | apply Pull.there)) ?_ | refine Part.skip _ ?_ | exact Part.nil _ | exact Part.app _ _ | exact Part.appL _ _ | refine Part.appR _ ?_))
                 refine congrArg LV.bool ?_
                 first
                 | exact (decide_eq_true (⟨hb1_5, hag.eq (by omega), hag2.eq (by omega)⟩ : SameT a b)).symm
                 | exact (decide_eq_false (fun h : SameT a b => hc47 (by simp only [h.2.1]))).symm
                 | exact (decide_eq_false (fun h : SameT a b => hc65 (by simp only [h.2.2]))).symm
                 | exact (decide_eq_false (fun h : SameT a b => hb1_5 h.1)).symm
                 | exact (decide_eq_false (fun h : SameT a b => hb1_14 (by rw [h.2.1]))).symm
                 | exact (decide_eq_false (fun h : SameT a b => hc29 (by rw [h.2.2]))).symm
              ·
               intro hc47
               first
               | exact PrN hc47
               | ((try simp only [Pr] at hc47); exfalso; omega)
               | (try simp only [Pr] at hc47)
                 refine HWp.skip ?_
                 refine onExitH_n ?_
                 refine onNorm_n ?_
                 refine HWp.text (.rd 0 (.rd 1 (.rd 2 .done))) rfl ?_
                 refine HPlan.move rfl rfl rfl ?_
                 refine HPlan.intBin rfl rfl rfl rfl rfl (by first | exact add_i64 (by omega) (by omega) | rfl) ?_
                 refine HPlan.assign rfl rfl rfl ?_
                 refine HPlan.fin ?_
                 refine onNorm_n ?_
                 refine ⟨(k + 1), (by omega), ⟨by omega, hag.step (by omega) (by omega) hc47⟩, (LessE.less (by repeat (first | exact LessE.nil | refine LessE.same rfl ?_ | refine LessE.own rfl ?_ | refine LessE.eq rfl ?_ (by first | rfl | (congr 1; omega) | simp))) rfl), (by repeat (first | exact Part.refl _ | refine Part.pull (by repeat (first | exact Pull.here | apply Pull.there)) ?_ | refine Part.skip _ ?_ | exact Part.nil _ | exact Part.app _ _ | exact Part.appL _ _ | refine Part.appR _ ?_)), (by repeat (first | exact Part.refl _ | refine Part.pull (by repeat (first | exact Pull.here | apply Pull.there)) ?_ | refine Part.skip _ ?_ | exact Part.nil _ | exact Part.app _ _ | exact Part.appL _ _ | refine Part.appR _ ?_))⟩
           ·
            intro hc34
            first
            | exact PrN hc34
            | ((try simp only [Pr] at hc34); exfalso; omega)
            | (try simp only [Pr] at hc34)
              refine HWp.exit ?_
              refine onNorm_e ?_
              refine onNorm_e ?_
              obtain rfl : k = a.reads.l.length := by omega
              refine onExitH_hit ?_
              refine onNorm_n ?_
              refine HWp.seq ?_
              refine HWp.seq ?_
              refine HWp.text (.rd 0 .done) rfl ?_
              refine HPlan.assign rfl rfl rfl ?_
              refine HPlan.fin ?_
              refine onNorm_n ?_
              refine HWp.block ?_
              refine HWp.loopF (α := Nat) (fun q => a.outs.l.length - q) (fun q => q ≤ a.outs.l.length ∧ AgreeTo a.outs.l b.outs.l q) (fun q => ⟨66, [(2, .ref i2 0), (3, .ref i3 0), (6, .int .i64 (q : Int))]⟩) (fun q => (i2, .cells 28 (traceDC a) 0) :: (i3, .cells 28 (traceDC b) 0) :: L) (fun q => T) ?_ ?_
              ·
               refine ⟨0, ⟨Nat.zero_le _, AgreeTo.zero _ _⟩, (LessE.less (by repeat (first | exact LessE.nil | refine LessE.same rfl ?_ | refine LessE.own rfl ?_ | refine LessE.eq rfl ?_ (by first | rfl | (congr 1; omega) | simp))) rfl), (by repeat (first | exact Part.refl _ | refine Part.pull (by repeat (first | exact Pull.here | apply Pull.there)) ?_ | refine Part.skip _ ?_ | exact Part.nil _ | exact Part.app _ _ | exact Part.appL _ _ | refine Part.appR _ ?_)), (by repeat (first | exact Part.refl _ | refine Part.pull (by repeat (first | exact Pull.here | apply Pull.there)) ?_ | refine Part.skip _ ?_ | exact Part.nil _ | exact Part.app _ _ | exact Part.appL _ _ | refine Part.appR _ ?_))⟩
              ·
               rintro q ⟨hq1, hag2⟩
               refine HWp.seq ?_
               refine HWp.seq ?_
               refine HWp.text (.rd 0 (.rd 1 (.rd 2 (.rd 3 (.rd 4 .done))))) rfl ?_
               refine HPlan.move rfl rfl rfl ?_
               refine HPlan.fieldAddr rfl rfl rfl rfl q_fo_28_2 rfl ?_
               first
               | refine HPlan.loadI rfl rfl rfl q_sh_26 (by constructor <;> first | rfl | decide | omega | exact Nat.le_refl _ | (simp [digC_len, dgV, LV.cells, readDC_len, readDV, madeDC_len, madeDV, traceDC_len, traceDV]; done) | (simp [digC_len, dgV, LV.cells, readDC_len, readDV, madeDC_len, madeDV, traceDC_len, traceDV]; omega)) (by first | exact (traceD_outs _) | rfl) ?_
               | refine HPlan.load rfl rfl rfl q_sh_26 (by repeat (first | exact List.Mem.head _ | apply List.Mem.tail | assumption)) (by constructor <;> first | rfl | decide | omega | exact Nat.le_refl _ | (simp [digC_len, dgV, LV.cells, readDC_len, readDV, madeDC_len, madeDV, traceDC_len, traceDV]; done) | (simp [digC_len, dgV, LV.cells, readDC_len, readDV, madeDC_len, madeDV, traceDC_len, traceDV]; omega)) (by first | exact (traceD_outs _) | rfl) ?_
               refine HPlan.lenS rfl rfl rfl q_tk_26 (by first | exact IsSl.sl | exact IsSl.nils | assumption | exact growV_isSl (by assumption) | exact SlD.ok _) (by first | rw [List.length_map] | rfl) ?_
               refine HPlan.intBin rfl rfl rfl rfl rfl rfl ?_
               refine HPlan.fin ?_
               refine onNorm_n ?_
               refine HWp.cond rfl ?_ ?_
               ·
                intro hc52
                first
                | exact PrN hc52
                | ((try simp only [Pr] at hc52); exfalso; omega)
                | (try simp only [Pr] at hc52)
                  refine HWp.skip ?_
                  refine onNorm_n ?_
                  refine HWp.seq ?_
                  refine HWp.block ?_
                  refine HWp.seq ?_
                  refine HWp.draw q_mix (.rd 0 (.rd 1 (.rd 2 (.rd 3 (.rd 4 (.rd 5 (.rd 6 (.rd 7 (.rd 8 (.rd 9 (.rd 10 .done))))))))))) (by kernel_rfl) ?_
                  refine HPlan.fieldAddr rfl rfl rfl rfl q_fo_28_2 rfl ?_
                  first
                  | refine HPlan.loadI rfl rfl rfl q_sh_26 (by constructor <;> first | rfl | decide | omega | exact Nat.le_refl _ | (simp [digC_len, dgV, LV.cells, readDC_len, readDV, madeDC_len, madeDV, traceDC_len, traceDV]; done) | (simp [digC_len, dgV, LV.cells, readDC_len, readDV, madeDC_len, madeDV, traceDC_len, traceDV]; omega)) (by first | exact (traceD_outs _) | rfl) ?_
                  | refine HPlan.load rfl rfl rfl q_sh_26 (by repeat (first | exact List.Mem.head _ | apply List.Mem.tail | assumption)) (by constructor <;> first | rfl | decide | omega | exact Nat.le_refl _ | (simp [digC_len, dgV, LV.cells, readDC_len, readDV, madeDC_len, madeDV, traceDC_len, traceDV]; done) | (simp [digC_len, dgV, LV.cells, readDC_len, readDV, madeDC_len, madeDV, traceDC_len, traceDV]; omega)) (by first | exact (traceD_outs _) | rfl) ?_
                  refine HPlan.move rfl rfl rfl ?_
                  refine HPlan.indexS rfl rfl rfl rfl q_ix_26 (by first | exact IsSl.sl | exact IsSl.nils | assumption | exact growV_isSl (by assumption) | exact SlD.ok _) (by omega) (by simp only [List.length_map]; omega) (by first | exact at_map (by omega) | rfl) ?_
                  first
                  | refine HPlan.loadI rfl rfl rfl q_sh_73 (by constructor <;> first | rfl | decide | omega | exact Nat.le_refl _ | (simp [digC_len, dgV, LV.cells, readDC_len, readDV, madeDC_len, madeDV, traceDC_len, traceDV]; done) | (simp [digC_len, dgV, LV.cells, readDC_len, readDV, madeDC_len, madeDV, traceDC_len, traceDV]; omega)) (by first | exact (madeD_all _) | rfl) ?_
                  | refine HPlan.load rfl rfl rfl q_sh_73 (by repeat (first | exact List.Mem.head _ | apply List.Mem.tail | assumption)) (by constructor <;> first | rfl | decide | omega | exact Nat.le_refl _ | (simp [digC_len, dgV, LV.cells, readDC_len, readDV, madeDC_len, madeDV, traceDC_len, traceDV]; done) | (simp [digC_len, dgV, LV.cells, readDC_len, readDV, madeDC_len, madeDV, traceDC_len, traceDV]; omega)) (by first | exact (madeD_all _) | rfl) ?_
                  refine HPlan.fieldAddr rfl rfl rfl rfl q_fo_28_2 rfl ?_
                  first
                  | refine HPlan.loadI rfl rfl rfl q_sh_26 (by constructor <;> first | rfl | decide | omega | exact Nat.le_refl _ | (simp [digC_len, dgV, LV.cells, readDC_len, readDV, madeDC_len, madeDV, traceDC_len, traceDV]; done) | (simp [digC_len, dgV, LV.cells, readDC_len, readDV, madeDC_len, madeDV, traceDC_len, traceDV]; omega)) (by first | exact (traceD_outs _) | rfl) ?_
                  | refine HPlan.load rfl rfl rfl q_sh_26 (by repeat (first | exact List.Mem.head _ | apply List.Mem.tail | assumption)) (by constructor <;> first | rfl | decide | omega | exact Nat.le_refl _ | (simp [digC_len, dgV, LV.cells, readDC_len, readDV, madeDC_len, madeDV, traceDC_len, traceDV]; done) | (simp [digC_len, dgV, LV.cells, readDC_len, readDV, madeDC_len, madeDV, traceDC_len, traceDV]; omega)) (by first | exact (traceD_outs _) | rfl) ?_
                  refine HPlan.move rfl rfl rfl ?_
                  refine HPlan.indexS rfl rfl rfl rfl q_ix_26 (by first | exact IsSl.sl | exact IsSl.nils | assumption | exact growV_isSl (by assumption) | exact SlD.ok _) (by omega) (by simp only [List.length_map]; omega) (by first | exact at_map (by omega) | rfl) ?_
                  first
                  | refine HPlan.loadI rfl rfl rfl q_sh_73 (by constructor <;> first | rfl | decide | omega | exact Nat.le_refl _ | (simp [digC_len, dgV, LV.cells, readDC_len, readDV, madeDC_len, madeDV, traceDC_len, traceDV]; done) | (simp [digC_len, dgV, LV.cells, readDC_len, readDV, madeDC_len, madeDV, traceDC_len, traceDV]; omega)) (by first | exact (madeD_all _) | rfl) ?_
                  | refine HPlan.load rfl rfl rfl q_sh_73 (by repeat (first | exact List.Mem.head _ | apply List.Mem.tail | assumption)) (by constructor <;> first | rfl | decide | omega | exact Nat.le_refl _ | (simp [digC_len, dgV, LV.cells, readDC_len, readDV, madeDC_len, madeDV, traceDC_len, traceDV]; done) | (simp [digC_len, dgV, LV.cells, readDC_len, readDV, madeDC_len, madeDV, traceDC_len, traceDV]; omega)) (by first | exact (madeD_all _) | rfl) ?_
                  refine HPlan.aggNe rfl rfl rfl rfl q_sh_73 q_ck_73 (by decide) q_eg_73 (madeDC_len _) (madeDC_len _) (madeD_fit _) (madeD_fit _) (madeD_eq _ _) ?_
                  refine HPlan.fin ?_
                  refine onNorm_n ?_
                  refine HWp.cond rfl ?_ ?_
                  ·
                   intro hc65
                   first
                   | exact PrN hc65
                   | ((try simp only [Pr] at hc65); exfalso; omega)
                   | (try simp only [Pr] at hc65)
                     refine HWp.seq ?_
                     refine HWp.text (.rd 0 .done) rfl ?_
                     refine HPlan.assign rfl rfl rfl ?_
                     refine HPlan.fin ?_
                     refine onNorm_n ?_
                     refine HWp.ret ?_
                     refine onExitH_r ?_
                     refine onNorm_r ?_
                     refine onNorm_r ?_
                     refine onExitH_r ?_
                     refine onNorm_r ?_
                     refine retQ_r (.tmp rfl .nil) ?_
                     refine endK_of ⟨?_, rfl, rfl⟩ (by repeat (first | exact Part.refl _ | refine Part.pull (by repeat (first | exact Pull.here | apply Pull.there)) ?_ | refine Part.skip _ ?_ | exact Part.nil _ | exact Part.app _ _ | exact Part.appL _ _ | refine Part.appR _ ?_)) (by repeat (first | exact Part.refl _ | refine Part.pull (by repeat (first | exact Pull.here | apply Pull.there)) ?_ | refine Part.skip _ ?_ | exact Part.nil _ | exact Part.app _ _ | exact Part.appL _ _ | refine Part.appR _ ?_))
                     refine congrArg LV.bool ?_
                     first
                     | exact (decide_eq_true (⟨hb1_5, hag.eq (by omega), hag2.eq (by omega)⟩ : SameT a b)).symm
                     | exact (decide_eq_false (fun h : SameT a b => hc47 (by simp only [h.2.1]))).symm
                     | exact (decide_eq_false (fun h : SameT a b => hc65 (by simp only [h.2.2]))).symm
                     | exact (decide_eq_false (fun h : SameT a b => hb1_5 h.1)).symm
                     | exact (decide_eq_false (fun h : SameT a b => hb1_14 (by rw [h.2.1]))).symm
                     | exact (decide_eq_false (fun h : SameT a b => hc29 (by rw [h.2.2]))).symm
                  ·
                   intro hc65
                   first
                   | exact PrN hc65
                   | ((try simp only [Pr] at hc65); exfalso; omega)
                   | (try simp only [Pr] at hc65)
                     refine HWp.skip ?_
                     refine onExitH_n ?_
                     refine onNorm_n ?_
                     refine HWp.text (.rd 0 (.rd 1 (.rd 2 .done))) rfl ?_
                     refine HPlan.move rfl rfl rfl ?_
                     refine HPlan.intBin rfl rfl rfl rfl rfl (by first | exact add_i64 (by omega) (by omega) | rfl) ?_
                     refine HPlan.assign rfl rfl rfl ?_
                     refine HPlan.fin ?_
                     refine onNorm_n ?_
                     refine ⟨(q + 1), (by omega), ⟨by omega, hag2.step (by omega) (by omega) hc65⟩, (LessE.less (by repeat (first | exact LessE.nil | refine LessE.same rfl ?_ | refine LessE.own rfl ?_ | refine LessE.eq rfl ?_ (by first | rfl | (congr 1; omega) | simp))) rfl), (by repeat (first | exact Part.refl _ | refine Part.pull (by repeat (first | exact Pull.here | apply Pull.there)) ?_ | refine Part.skip _ ?_ | exact Part.nil _ | exact Part.app _ _ | exact Part.appL _ _ | refine Part.appR _ ?_)), (by repeat (first | exact Part.refl _ | refine Part.pull (by repeat (first | exact Pull.here | apply Pull.there)) ?_ | refine Part.skip _ ?_ | exact Part.nil _ | exact Part.app _ _ | exact Part.appL _ _ | refine Part.appR _ ?_))⟩
               ·
                intro hc52
                first
                | exact PrN hc52
                | ((try simp only [Pr] at hc52); exfalso; omega)
                | (try simp only [Pr] at hc52)
                  refine HWp.exit ?_
                  refine onNorm_e ?_
                  refine onNorm_e ?_
                  obtain rfl : q = a.outs.l.length := by omega
                  refine onExitH_hit ?_
                  refine onNorm_n ?_
                  refine HWp.seq ?_
                  refine HWp.text (.rd 0 .done) rfl ?_
                  refine HPlan.assign rfl rfl rfl ?_
                  refine HPlan.fin ?_
                  refine onNorm_n ?_
                  refine HWp.ret ?_
                  refine retQ_r (.tmp rfl .nil) ?_
                  refine endK_of ⟨?_, rfl, rfl⟩ (by repeat (first | exact Part.refl _ | refine Part.pull (by repeat (first | exact Pull.here | apply Pull.there)) ?_ | refine Part.skip _ ?_ | exact Part.nil _ | exact Part.app _ _ | exact Part.appL _ _ | refine Part.appR _ ?_)) (by repeat (first | exact Part.refl _ | refine Part.pull (by repeat (first | exact Pull.here | apply Pull.there)) ?_ | refine Part.skip _ ?_ | exact Part.nil _ | exact Part.app _ _ | exact Part.appL _ _ | refine Part.appR _ ?_))
                  refine congrArg LV.bool ?_
                  first
                  | exact (decide_eq_true (⟨hb1_5, hag.eq (by omega), hag2.eq (by omega)⟩ : SameT a b)).symm
                  | exact (decide_eq_false (fun h : SameT a b => hc47 (by simp only [h.2.1]))).symm
                  | exact (decide_eq_false (fun h : SameT a b => hc65 (by simp only [h.2.2]))).symm
                  | exact (decide_eq_false (fun h : SameT a b => hb1_5 h.1)).symm
                  | exact (decide_eq_false (fun h : SameT a b => hb1_14 (by rw [h.2.1]))).symm
                  | exact (decide_eq_false (fun h : SameT a b => hc29 (by rw [h.2.2]))).symm
end Go.Proofs.YthfoobfgdakbmaaDoor

set_option linter.unusedVariables false
set_option linter.unusedSimpArgs false
set_option maxRecDepth 100000
namespace Go.Proofs.YthfoobfgdakbmaaDoor
open Go Go.RowKit Go.L
theorem q_f_127 : Tryd.prog.funcs[127]? = some Tryd.f127 := by kernel_rfl
theorem q_f_98 : Tryd.prog.funcs[98]? = some Tryd.f98 := by kernel_rfl
theorem q_en_98 : enterable Tryd.prog 98 = true := by kernel_rfl
theorem q_f_76 : Tryd.prog.funcs[76]? = some Tryd.f76 := by kernel_rfl
theorem q_us_21 : (Tryd.prog.underlying 21).isSome = true := by kernel_rfl
theorem q_it_5 : intTy Tryd.prog 5 = some .u8 := by kernel_rfl
theorem q_en_76 : enterable Tryd.prog 76 = true := by kernel_rfl
theorem q_f_139 : Tryd.prog.funcs[139]? = some Tryd.f139 := by kernel_rfl
theorem q_en_139 : enterable Tryd.prog 139 = true := by kernel_rfl
theorem q_f_138 : Tryd.prog.funcs[138]? = some Tryd.f138 := by kernel_rfl

def signF (c : Int) : Bool := decide ((97 ≤ c ∧ c ≤ 122) ∨ (65 ≤ c ∧ c ≤ 90) ∨ (48 ≤ c ∧ c ≤ 57) ∨ c = 95 ∨ c = 46 ∨ c = 45 ∨ c = 43)
theorem marks_all : ∀ n : Fin 128, decide (Lib.indexByte [95, 46, 45, 43] ((n.val : Int).toNat.toUInt8) ≥ 0) = decide (n.val = 95 ∨ n.val = 46 ∨ n.val = 45 ∨ n.val = 43) := by decide +kernel
theorem marks {c : Int} (h0 : 0 ≤ c) (h1 : c < 128) : (Lib.indexByte [95, 46, 45, 43] c.toNat.toUInt8 ≥ 0) ↔ (c = 95 ∨ c = 46 ∨ c = 45 ∨ c = 43) := by
  obtain ⟨n, rfl⟩ : ∃ n : Nat, c = n := ⟨c.toNat, by omega⟩
  have : decide (Lib.indexByte [95, 46, 45, 43] ((n : Int).toNat.toUInt8) ≥ 0) = decide (n = 95 ∨ n = 46 ∨ n = 45 ∨ n = 43) := marks_all ⟨n, by omega⟩
  rw [decide_eq_decide] at this
  rw [this]
  constructor <;> intro h <;> omega
theorem wrap_u8 {c : Int} (h0 : 0 ≤ c) (h1 : c < 256) : IntKind.u8.wrap c = c := by
  simp [IntKind.wrap, IntKind.signed, IntKind.bits]; omega

theorem idx1_spec (s : ByteArray) (c : Int) : HPure Tryd.prog 98 [.str s, .int .u8 c] (.int .i64 (Lib.indexByte s.data.toList c.toNat.toUInt8)) := by
 intro L T
 refine HCalls.enterG q_f_98 rfl ?_
 refine HWp.frame (r' := ⟨8, [(0, .str s), (1, .int .u8 c)]⟩) rfl ?_
 refine HWp.seq ?_
 refine HWp.text (.rd 0 .done) rfl ?_
 refine HPlan.assign rfl rfl rfl ?_
 refine HPlan.fin ?_
 refine onNorm_n ?_
 refine HWp.seq ?_
 refine HWp.text (.rd 0 (.rd 1 (.act 2 [] (.rd 3 .done)))) rfl ?_
 refine HPlan.move rfl rfl rfl ?_
 refine HPlan.move rfl rfl rfl ?_
 refine HPlan.idxByteX rfl rfl rfl rfl q_f_127 (by decide) rfl (by kernel_rfl) (by kernel_rfl) rfl keptH_nil ?_
 refine HPlan.assign rfl rfl rfl ?_
 refine HPlan.fin ?_
 refine onNorm_n ?_
 refine HWp.ret ?_
 refine retQ_r (.tmp rfl .nil) ?_
 exact endK_of ⟨rfl, rfl, rfl⟩ (by repeat (first | exact Part.refl _ | refine Part.pull (by repeat (first | exact Pull.here | apply Pull.there)) ?_ | refine Part.skip _ ?_ | exact Part.nil _ | exact Part.app _ _ | exact Part.appL _ _ | refine Part.appR _ ?_)) (by repeat (first | exact Part.refl _ | refine Part.pull (by repeat (first | exact Pull.here | apply Pull.there)) ?_ | refine Part.skip _ ?_ | exact Part.nil _ | exact Part.app _ _ | exact Part.appL _ _ | refine Part.appR _ ?_))
theorem idxb_spec (s : ByteArray) (c : Int) : HPure Tryd.prog 76 [.str s, .int .u8 c] (.int .i64 (Lib.indexByte s.data.toList c.toNat.toUInt8)) := by
 intro L T
 refine HCalls.enterG q_f_76 rfl ?_
 refine HWp.frame (r' := ⟨8, [(0, .str s), (1, .int .u8 c)]⟩) rfl ?_
 refine HWp.seq ?_
 refine HWp.text (.rd 0 .done) rfl ?_
 refine HPlan.assign rfl rfl rfl ?_
 refine HPlan.fin ?_
 refine onNorm_n ?_
 refine HWp.seq ?_
 refine HWp.text (.rd 0 (.rd 1 (.act 2 [] (.rd 3 .done)))) rfl ?_
 refine HPlan.move rfl rfl rfl ?_
 refine HPlan.move rfl rfl rfl ?_
 refine HPlan.callPure rfl rfl rfl q_en_98 (idx1_spec _ _) keptH_nil ?_
 refine HPlan.assign rfl rfl rfl ?_
 refine HPlan.fin ?_
 refine onNorm_n ?_
 refine HWp.ret ?_
 refine retQ_r (.tmp rfl .nil) ?_
 exact endK_of ⟨rfl, rfl, rfl⟩ (by repeat (first | exact Part.refl _ | refine Part.pull (by repeat (first | exact Pull.here | apply Pull.there)) ?_ | refine Part.skip _ ?_ | exact Part.nil _ | exact Part.app _ _ | exact Part.appL _ _ | refine Part.appR _ ?_)) (by repeat (first | exact Part.refl _ | refine Part.pull (by repeat (first | exact Pull.here | apply Pull.there)) ?_ | refine Part.skip _ ?_ | exact Part.nil _ | exact Part.app _ _ | exact Part.appL _ _ | refine Part.appR _ ?_))
theorem sign_spec (c : Int) (h0 : 0 ≤ c) : HPure Tryd.prog 139 [.int .i32 c] (.bool (signF c)) := by
 intro L T
 refine HCalls.enterG q_f_139 rfl ?_
 refine HWp.frame (r' := ⟨35, [(0, .int .i32 c)]⟩) rfl ?_
 refine HWp.seq ?_
 refine HWp.text (.rd 0 .done) rfl ?_
 refine HPlan.assign rfl rfl rfl ?_
 refine HPlan.fin ?_
 refine onNorm_n ?_
 refine HWp.seq ?_
 refine HWp.text (.rd 0 (.rd 1 (.rd 2 (.rd 3 (.rd 4 (.rd 5 (.rd 6 (.rd 7 (.rd 8 (.rd 9 (.rd 10 (.rd 11 (.rd 12 (.rd 13 (.rd 14 (.rd 15 (.rd 16 (.rd 17 (.rd 18 (.rd 19 (.rd 20 (.rd 21 (.rd 22 (.rd 23 (.rd 24 (.rd 25 (.rd 26 (.rd 27 (.act 28 [] (.rd 29 (.rd 30 (.rd 31 (.rd 32 .done))))))))))))))))))))))))))))))))) rfl ?_
 refine HPlan.move rfl rfl rfl ?_
 refine HPlan.intBin rfl rfl rfl rfl rfl rfl ?_
 refine HPlan.move rfl rfl rfl ?_
 refine HPlan.split ?_ ?_
 ·
  intro hb1_2
  first
  | exact PrN hb1_2
  | ((try simp only [Pr] at hb1_2); exfalso; omega)
  | (try simp only [Pr] at hb1_2)
    refine HPlan.move rfl rfl rfl ?_
    refine HPlan.intBin rfl rfl rfl rfl rfl rfl ?_
    refine HPlan.pickT rfl rfl rfl rfl ?_
    refine HPlan.move rfl rfl rfl ?_
    refine HPlan.split ?_ ?_
    ·
     intro hb1_6
     first
     | exact PrN hb1_6
     | ((try simp only [Pr] at hb1_6); exfalso; omega)
     | (try simp only [Pr] at hb1_6)
       refine HPlan.leftR rfl rfl ?_
       refine HPlan.leftR rfl rfl ?_
       refine HPlan.leftR rfl rfl ?_
       refine HPlan.leftR rfl rfl ?_
       refine HPlan.leftR rfl rfl ?_
       refine HPlan.leftR rfl rfl ?_
       refine HPlan.pickT rfl rfl rfl rfl ?_
       refine HPlan.move rfl rfl rfl ?_
       refine HPlan.leftR rfl rfl ?_
       refine HPlan.leftR rfl rfl ?_
       refine HPlan.leftR rfl rfl ?_
       refine HPlan.leftR rfl rfl ?_
       refine HPlan.leftR rfl rfl ?_
       refine HPlan.leftR rfl rfl ?_
       refine HPlan.pickT rfl rfl rfl rfl ?_
       refine HPlan.move rfl rfl rfl ?_
       refine HPlan.leftR rfl rfl ?_
       refine HPlan.leftR rfl rfl ?_
       refine HPlan.leftR rfl rfl ?_
       refine HPlan.leftR rfl rfl ?_
       refine HPlan.leftR rfl rfl ?_
       refine HPlan.leftA rfl rfl ?_
       refine HPlan.leftR rfl rfl ?_
       refine HPlan.leftR rfl rfl ?_
       refine HPlan.pickT rfl rfl rfl rfl ?_
       refine HPlan.assign rfl rfl rfl ?_
       refine HPlan.fin ?_
       refine onNorm_n ?_
       refine HWp.ret ?_
       refine retQ_r (.tmp rfl .nil) ?_
       refine endK_of ⟨?_, rfl, rfl⟩ (by repeat (first | exact Part.refl _ | refine Part.pull (by repeat (first | exact Pull.here | apply Pull.there)) ?_ | refine Part.skip _ ?_ | exact Part.nil _ | exact Part.app _ _ | exact Part.appL _ _ | refine Part.appR _ ?_)) (by repeat (first | exact Part.refl _ | refine Part.pull (by repeat (first | exact Pull.here | apply Pull.there)) ?_ | refine Part.skip _ ?_ | exact Part.nil _ | exact Part.app _ _ | exact Part.appL _ _ | refine Part.appR _ ?_))
       refine congrArg LV.bool ?_
       unfold signF
       rw [Bool.eq_iff_iff]
       first
       | (simp only [decide_eq_true_eq, true_iff, Bool.true_eq]; omega)
       | (simp only [decide_eq_true_eq, false_iff, Bool.false_eq_true]; omega)
       | (rw [decide_eq_true_eq, decide_eq_true_eq]; refine (marks h0 (by omega)).trans ?_; constructor <;> intro h <;> omega)
    ·
     intro hb1_6
     first
     | exact PrN hb1_6
     | ((try simp only [Pr] at hb1_6); exfalso; omega)
     | (try simp only [Pr] at hb1_6)
       refine HPlan.move rfl rfl rfl ?_
       refine HPlan.intBin rfl rfl rfl rfl rfl rfl ?_
       refine HPlan.move rfl rfl rfl ?_
       refine HPlan.split ?_ ?_
       ·
        intro hb1_9
        first
        | exact PrN hb1_9
        | ((try simp only [Pr] at hb1_9); exfalso; omega)
        | (try simp only [Pr] at hb1_9)
          refine HPlan.move rfl rfl rfl ?_
          refine HPlan.intBin rfl rfl rfl rfl rfl rfl ?_
          refine HPlan.pickT rfl rfl rfl rfl ?_
          refine HPlan.pickF rfl rfl rfl rfl ?_
          refine HPlan.move rfl rfl rfl ?_
          refine HPlan.split ?_ ?_
          ·
           intro hb1_14
           first
           | exact PrN hb1_14
           | ((try simp only [Pr] at hb1_14); exfalso; omega)
           | (try simp only [Pr] at hb1_14)
             refine HPlan.leftR rfl rfl ?_
             refine HPlan.leftR rfl rfl ?_
             refine HPlan.leftR rfl rfl ?_
             refine HPlan.leftR rfl rfl ?_
             refine HPlan.leftR rfl rfl ?_
             refine HPlan.leftR rfl rfl ?_
             refine HPlan.pickT rfl rfl rfl rfl ?_
             refine HPlan.move rfl rfl rfl ?_
             refine HPlan.leftR rfl rfl ?_
             refine HPlan.leftR rfl rfl ?_
             refine HPlan.leftR rfl rfl ?_
             refine HPlan.leftR rfl rfl ?_
             refine HPlan.leftR rfl rfl ?_
             refine HPlan.leftA rfl rfl ?_
             refine HPlan.leftR rfl rfl ?_
             refine HPlan.leftR rfl rfl ?_
             refine HPlan.pickT rfl rfl rfl rfl ?_
             refine HPlan.assign rfl rfl rfl ?_
             refine HPlan.fin ?_
             refine onNorm_n ?_
             refine HWp.ret ?_
             refine retQ_r (.tmp rfl .nil) ?_
             refine endK_of ⟨?_, rfl, rfl⟩ (by repeat (first | exact Part.refl _ | refine Part.pull (by repeat (first | exact Pull.here | apply Pull.there)) ?_ | refine Part.skip _ ?_ | exact Part.nil _ | exact Part.app _ _ | exact Part.appL _ _ | refine Part.appR _ ?_)) (by repeat (first | exact Part.refl _ | refine Part.pull (by repeat (first | exact Pull.here | apply Pull.there)) ?_ | refine Part.skip _ ?_ | exact Part.nil _ | exact Part.app _ _ | exact Part.appL _ _ | refine Part.appR _ ?_))
             refine congrArg LV.bool ?_
             unfold signF
             rw [Bool.eq_iff_iff]
             first
             | (simp only [decide_eq_true_eq, true_iff, Bool.true_eq]; omega)
             | (simp only [decide_eq_true_eq, false_iff, Bool.false_eq_true]; omega)
             | (rw [decide_eq_true_eq, decide_eq_true_eq]; refine (marks h0 (by omega)).trans ?_; constructor <;> intro h <;> omega)
          ·
           intro hb1_14
           first
           | exact PrN hb1_14
           | ((try simp only [Pr] at hb1_14); exfalso; omega)
           | (try simp only [Pr] at hb1_14)
             refine HPlan.move rfl rfl rfl ?_
             refine HPlan.intBin rfl rfl rfl rfl rfl rfl ?_
             refine HPlan.move rfl rfl rfl ?_
             refine HPlan.split ?_ ?_
             ·
              intro hb1_17
              first
              | exact PrN hb1_17
              | ((try simp only [Pr] at hb1_17); exfalso; omega)
              | (try simp only [Pr] at hb1_17)
                refine HPlan.move rfl rfl rfl ?_
                refine HPlan.intBin rfl rfl rfl rfl rfl rfl ?_
                refine HPlan.pickT rfl rfl rfl rfl ?_
                refine HPlan.pickF rfl rfl rfl rfl ?_
                refine HPlan.move rfl rfl rfl ?_
                refine HPlan.split ?_ ?_
                ·
                 intro hb1_22
                 first
                 | exact PrN hb1_22
                 | ((try simp only [Pr] at hb1_22); exfalso; omega)
                 | (try simp only [Pr] at hb1_22)
                   refine HPlan.leftR rfl rfl ?_
                   refine HPlan.leftR rfl rfl ?_
                   refine HPlan.leftR rfl rfl ?_
                   refine HPlan.leftR rfl rfl ?_
                   refine HPlan.leftR rfl rfl ?_
                   refine HPlan.leftA rfl rfl ?_
                   refine HPlan.leftR rfl rfl ?_
                   refine HPlan.leftR rfl rfl ?_
                   refine HPlan.pickT rfl rfl rfl rfl ?_
                   refine HPlan.assign rfl rfl rfl ?_
                   refine HPlan.fin ?_
                   refine onNorm_n ?_
                   refine HWp.ret ?_
                   refine retQ_r (.tmp rfl .nil) ?_
                   refine endK_of ⟨?_, rfl, rfl⟩ (by repeat (first | exact Part.refl _ | refine Part.pull (by repeat (first | exact Pull.here | apply Pull.there)) ?_ | refine Part.skip _ ?_ | exact Part.nil _ | exact Part.app _ _ | exact Part.appL _ _ | refine Part.appR _ ?_)) (by repeat (first | exact Part.refl _ | refine Part.pull (by repeat (first | exact Pull.here | apply Pull.there)) ?_ | refine Part.skip _ ?_ | exact Part.nil _ | exact Part.app _ _ | exact Part.appL _ _ | refine Part.appR _ ?_))
                   refine congrArg LV.bool ?_
                   unfold signF
                   rw [Bool.eq_iff_iff]
                   first
                   | (simp only [decide_eq_true_eq, true_iff, Bool.true_eq]; omega)
                   | (simp only [decide_eq_true_eq, false_iff, Bool.false_eq_true]; omega)
                   | (rw [decide_eq_true_eq, decide_eq_true_eq]; refine (marks h0 (by omega)).trans ?_; constructor <;> intro h <;> omega)
                ·
                 intro hb1_22
                 first
                 | exact PrN hb1_22
                 | ((try simp only [Pr] at hb1_22); exfalso; omega)
                 | (try simp only [Pr] at hb1_22)
                   refine HPlan.move rfl rfl rfl ?_
                   refine HPlan.intBin rfl rfl rfl rfl rfl rfl ?_
                   refine HPlan.move rfl rfl rfl ?_
                   refine HPlan.split ?_ ?_
                   ·
                    intro hb1_25
                    first
                    | exact PrN hb1_25
                    | ((try simp only [Pr] at hb1_25); exfalso; omega)
                    | (try simp only [Pr] at hb1_25)
                      refine HPlan.move rfl rfl rfl ?_
                      refine HPlan.intConv rfl rfl rfl q_us_21 q_it_5 (congrArg (LV.int .u8) (wrap_u8 h0 (by omega))) ?_
                      refine HPlan.callPure rfl rfl rfl q_en_76 (idxb_spec _ _) keptH_nil ?_
                      refine HPlan.intBin rfl rfl rfl rfl rfl rfl ?_
                      refine HPlan.pickT rfl rfl rfl rfl ?_
                      refine HPlan.pickF rfl rfl rfl rfl ?_
                      refine HPlan.assign rfl rfl rfl ?_
                      refine HPlan.fin ?_
                      refine onNorm_n ?_
                      refine HWp.ret ?_
                      refine retQ_r (.tmp rfl .nil) ?_
                      refine endK_of ⟨?_, rfl, rfl⟩ (by repeat (first | exact Part.refl _ | refine Part.pull (by repeat (first | exact Pull.here | apply Pull.there)) ?_ | refine Part.skip _ ?_ | exact Part.nil _ | exact Part.app _ _ | exact Part.appL _ _ | refine Part.appR _ ?_)) (by repeat (first | exact Part.refl _ | refine Part.pull (by repeat (first | exact Pull.here | apply Pull.there)) ?_ | refine Part.skip _ ?_ | exact Part.nil _ | exact Part.app _ _ | exact Part.appL _ _ | refine Part.appR _ ?_))
                      refine congrArg LV.bool ?_
                      unfold signF
                      rw [Bool.eq_iff_iff]
                      first
                      | (simp only [decide_eq_true_eq, true_iff, Bool.true_eq]; omega)
                      | (simp only [decide_eq_true_eq, false_iff, Bool.false_eq_true]; omega)
                      | (rw [decide_eq_true_eq, decide_eq_true_eq]; refine (marks h0 (by omega)).trans ?_; constructor <;> intro h <;> omega)
                   ·
                    intro hb1_25
                    first
                    | exact PrN hb1_25
                    | ((try simp only [Pr] at hb1_25); exfalso; omega)
                    | (try simp only [Pr] at hb1_25)
                      refine HPlan.leftR rfl rfl ?_
                      refine HPlan.leftR rfl rfl ?_
                      refine HPlan.leftA rfl rfl ?_
                      refine HPlan.leftR rfl rfl ?_
                      refine HPlan.pickF rfl rfl rfl rfl ?_
                      refine HPlan.pickF rfl rfl rfl rfl ?_
                      refine HPlan.assign rfl rfl rfl ?_
                      refine HPlan.fin ?_
                      refine onNorm_n ?_
                      refine HWp.ret ?_
                      refine retQ_r (.tmp rfl .nil) ?_
                      refine endK_of ⟨?_, rfl, rfl⟩ (by repeat (first | exact Part.refl _ | refine Part.pull (by repeat (first | exact Pull.here | apply Pull.there)) ?_ | refine Part.skip _ ?_ | exact Part.nil _ | exact Part.app _ _ | exact Part.appL _ _ | refine Part.appR _ ?_)) (by repeat (first | exact Part.refl _ | refine Part.pull (by repeat (first | exact Pull.here | apply Pull.there)) ?_ | refine Part.skip _ ?_ | exact Part.nil _ | exact Part.app _ _ | exact Part.appL _ _ | refine Part.appR _ ?_))
                      refine congrArg LV.bool ?_
                      unfold signF
                      rw [Bool.eq_iff_iff]
                      first
                      | (simp only [decide_eq_true_eq, true_iff, Bool.true_eq]; omega)
                      | (simp only [decide_eq_true_eq, false_iff, Bool.false_eq_true]; omega)
                      | (rw [decide_eq_true_eq, decide_eq_true_eq]; refine (marks h0 (by omega)).trans ?_; constructor <;> intro h <;> omega)
             ·
              intro hb1_17
              first
              | exact PrN hb1_17
              | ((try simp only [Pr] at hb1_17); exfalso; omega)
              | (try simp only [Pr] at hb1_17)
                refine HPlan.leftR rfl rfl ?_
                refine HPlan.leftR rfl rfl ?_
                refine HPlan.pickF rfl rfl rfl rfl ?_
                refine HPlan.pickF rfl rfl rfl rfl ?_
                refine HPlan.move rfl rfl rfl ?_
                refine HPlan.move rfl rfl rfl ?_
                refine HPlan.intBin rfl rfl rfl rfl rfl rfl ?_
                refine HPlan.move rfl rfl rfl ?_
                refine HPlan.split ?_ ?_
                ·
                 intro hb1_25
                 first
                 | exact PrN hb1_25
                 | ((try simp only [Pr] at hb1_25); exfalso; omega)
                 | (try simp only [Pr] at hb1_25)
                   refine HPlan.move rfl rfl rfl ?_
                   refine HPlan.intConv rfl rfl rfl q_us_21 q_it_5 (congrArg (LV.int .u8) (wrap_u8 h0 (by omega))) ?_
                   refine HPlan.callPure rfl rfl rfl q_en_76 (idxb_spec _ _) keptH_nil ?_
                   refine HPlan.intBin rfl rfl rfl rfl rfl rfl ?_
                   refine HPlan.pickT rfl rfl rfl rfl ?_
                   refine HPlan.pickF rfl rfl rfl rfl ?_
                   refine HPlan.assign rfl rfl rfl ?_
                   refine HPlan.fin ?_
                   refine onNorm_n ?_
                   refine HWp.ret ?_
                   refine retQ_r (.tmp rfl .nil) ?_
                   refine endK_of ⟨?_, rfl, rfl⟩ (by repeat (first | exact Part.refl _ | refine Part.pull (by repeat (first | exact Pull.here | apply Pull.there)) ?_ | refine Part.skip _ ?_ | exact Part.nil _ | exact Part.app _ _ | exact Part.appL _ _ | refine Part.appR _ ?_)) (by repeat (first | exact Part.refl _ | refine Part.pull (by repeat (first | exact Pull.here | apply Pull.there)) ?_ | refine Part.skip _ ?_ | exact Part.nil _ | exact Part.app _ _ | exact Part.appL _ _ | refine Part.appR _ ?_))
                   refine congrArg LV.bool ?_
                   unfold signF
                   rw [Bool.eq_iff_iff]
                   first
                   | (simp only [decide_eq_true_eq, true_iff, Bool.true_eq]; omega)
                   | (simp only [decide_eq_true_eq, false_iff, Bool.false_eq_true]; omega)
                   | (rw [decide_eq_true_eq, decide_eq_true_eq]; refine (marks h0 (by omega)).trans ?_; constructor <;> intro h <;> omega)
                ·
                 intro hb1_25
                 first
                 | exact PrN hb1_25
                 | ((try simp only [Pr] at hb1_25); exfalso; omega)
                 | (try simp only [Pr] at hb1_25)
                   refine HPlan.leftR rfl rfl ?_
                   refine HPlan.leftR rfl rfl ?_
                   refine HPlan.leftA rfl rfl ?_
                   refine HPlan.leftR rfl rfl ?_
                   refine HPlan.pickF rfl rfl rfl rfl ?_
                   refine HPlan.pickF rfl rfl rfl rfl ?_
                   refine HPlan.assign rfl rfl rfl ?_
                   refine HPlan.fin ?_
                   refine onNorm_n ?_
                   refine HWp.ret ?_
                   refine retQ_r (.tmp rfl .nil) ?_
                   refine endK_of ⟨?_, rfl, rfl⟩ (by repeat (first | exact Part.refl _ | refine Part.pull (by repeat (first | exact Pull.here | apply Pull.there)) ?_ | refine Part.skip _ ?_ | exact Part.nil _ | exact Part.app _ _ | exact Part.appL _ _ | refine Part.appR _ ?_)) (by repeat (first | exact Part.refl _ | refine Part.pull (by repeat (first | exact Pull.here | apply Pull.there)) ?_ | refine Part.skip _ ?_ | exact Part.nil _ | exact Part.app _ _ | exact Part.appL _ _ | refine Part.appR _ ?_))
                   refine congrArg LV.bool ?_
                   unfold signF
                   rw [Bool.eq_iff_iff]
                   first
                   | (simp only [decide_eq_true_eq, true_iff, Bool.true_eq]; omega)
                   | (simp only [decide_eq_true_eq, false_iff, Bool.false_eq_true]; omega)
                   | (rw [decide_eq_true_eq, decide_eq_true_eq]; refine (marks h0 (by omega)).trans ?_; constructor <;> intro h <;> omega)
       ·
        intro hb1_9
        first
        | exact PrN hb1_9
        | ((try simp only [Pr] at hb1_9); exfalso; omega)
        | (try simp only [Pr] at hb1_9)
          refine HPlan.leftR rfl rfl ?_
          refine HPlan.leftR rfl rfl ?_
          refine HPlan.pickF rfl rfl rfl rfl ?_
          refine HPlan.pickF rfl rfl rfl rfl ?_
          refine HPlan.move rfl rfl rfl ?_
          refine HPlan.move rfl rfl rfl ?_
          refine HPlan.intBin rfl rfl rfl rfl rfl rfl ?_
          refine HPlan.move rfl rfl rfl ?_
          refine HPlan.split ?_ ?_
          ·
           intro hb1_17
           first
           | exact PrN hb1_17
           | ((try simp only [Pr] at hb1_17); exfalso; omega)
           | (try simp only [Pr] at hb1_17)
             refine HPlan.move rfl rfl rfl ?_
             refine HPlan.intBin rfl rfl rfl rfl rfl rfl ?_
             refine HPlan.pickT rfl rfl rfl rfl ?_
             refine HPlan.pickF rfl rfl rfl rfl ?_
             refine HPlan.move rfl rfl rfl ?_
             refine HPlan.split ?_ ?_
             ·
              intro hb1_22
              first
              | exact PrN hb1_22
              | ((try simp only [Pr] at hb1_22); exfalso; omega)
              | (try simp only [Pr] at hb1_22)
                refine HPlan.leftR rfl rfl ?_
                refine HPlan.leftR rfl rfl ?_
                refine HPlan.leftR rfl rfl ?_
                refine HPlan.leftR rfl rfl ?_
                refine HPlan.leftR rfl rfl ?_
                refine HPlan.leftA rfl rfl ?_
                refine HPlan.leftR rfl rfl ?_
                refine HPlan.leftR rfl rfl ?_
                refine HPlan.pickT rfl rfl rfl rfl ?_
                refine HPlan.assign rfl rfl rfl ?_
                refine HPlan.fin ?_
                refine onNorm_n ?_
                refine HWp.ret ?_
                refine retQ_r (.tmp rfl .nil) ?_
                refine endK_of ⟨?_, rfl, rfl⟩ (by repeat (first | exact Part.refl _ | refine Part.pull (by repeat (first | exact Pull.here | apply Pull.there)) ?_ | refine Part.skip _ ?_ | exact Part.nil _ | exact Part.app _ _ | exact Part.appL _ _ | refine Part.appR _ ?_)) (by repeat (first | exact Part.refl _ | refine Part.pull (by repeat (first | exact Pull.here | apply Pull.there)) ?_ | refine Part.skip _ ?_ | exact Part.nil _ | exact Part.app _ _ | exact Part.appL _ _ | refine Part.appR _ ?_))
                refine congrArg LV.bool ?_
                unfold signF
                rw [Bool.eq_iff_iff]
                first
                | (simp only [decide_eq_true_eq, true_iff, Bool.true_eq]; omega)
                | (simp only [decide_eq_true_eq, false_iff, Bool.false_eq_true]; omega)
                | (rw [decide_eq_true_eq, decide_eq_true_eq]; refine (marks h0 (by omega)).trans ?_; constructor <;> intro h <;> omega)
             ·
              intro hb1_22
              first
              | exact PrN hb1_22
              | ((try simp only [Pr] at hb1_22); exfalso; omega)
              | (try simp only [Pr] at hb1_22)
                refine HPlan.move rfl rfl rfl ?_
                refine HPlan.intBin rfl rfl rfl rfl rfl rfl ?_
                refine HPlan.move rfl rfl rfl ?_
                refine HPlan.split ?_ ?_
                ·
                 intro hb1_25
                 first
                 | exact PrN hb1_25
                 | ((try simp only [Pr] at hb1_25); exfalso; omega)
                 | (try simp only [Pr] at hb1_25)
                   refine HPlan.move rfl rfl rfl ?_
                   refine HPlan.intConv rfl rfl rfl q_us_21 q_it_5 (congrArg (LV.int .u8) (wrap_u8 h0 (by omega))) ?_
                   refine HPlan.callPure rfl rfl rfl q_en_76 (idxb_spec _ _) keptH_nil ?_
                   refine HPlan.intBin rfl rfl rfl rfl rfl rfl ?_
                   refine HPlan.pickT rfl rfl rfl rfl ?_
                   refine HPlan.pickF rfl rfl rfl rfl ?_
                   refine HPlan.assign rfl rfl rfl ?_
                   refine HPlan.fin ?_
                   refine onNorm_n ?_
                   refine HWp.ret ?_
                   refine retQ_r (.tmp rfl .nil) ?_
                   refine endK_of ⟨?_, rfl, rfl⟩ (by repeat (first | exact Part.refl _ | refine Part.pull (by repeat (first | exact Pull.here | apply Pull.there)) ?_ | refine Part.skip _ ?_ | exact Part.nil _ | exact Part.app _ _ | exact Part.appL _ _ | refine Part.appR _ ?_)) (by repeat (first | exact Part.refl _ | refine Part.pull (by repeat (first | exact Pull.here | apply Pull.there)) ?_ | refine Part.skip _ ?_ | exact Part.nil _ | exact Part.app _ _ | exact Part.appL _ _ | refine Part.appR _ ?_))
                   refine congrArg LV.bool ?_
                   unfold signF
                   rw [Bool.eq_iff_iff]
                   first
                   | (simp only [decide_eq_true_eq, true_iff, Bool.true_eq]; omega)
                   | (simp only [decide_eq_true_eq, false_iff, Bool.false_eq_true]; omega)
                   | (rw [decide_eq_true_eq, decide_eq_true_eq]; refine (marks h0 (by omega)).trans ?_; constructor <;> intro h <;> omega)
                ·
                 intro hb1_25
                 first
                 | exact PrN hb1_25
                 | ((try simp only [Pr] at hb1_25); exfalso; omega)
                 | (try simp only [Pr] at hb1_25)
                   refine HPlan.leftR rfl rfl ?_
                   refine HPlan.leftR rfl rfl ?_
                   refine HPlan.leftA rfl rfl ?_
                   refine HPlan.leftR rfl rfl ?_
                   refine HPlan.pickF rfl rfl rfl rfl ?_
                   refine HPlan.pickF rfl rfl rfl rfl ?_
                   refine HPlan.assign rfl rfl rfl ?_
                   refine HPlan.fin ?_
                   refine onNorm_n ?_
                   refine HWp.ret ?_
                   refine retQ_r (.tmp rfl .nil) ?_
                   refine endK_of ⟨?_, rfl, rfl⟩ (by repeat (first | exact Part.refl _ | refine Part.pull (by repeat (first | exact Pull.here | apply Pull.there)) ?_ | refine Part.skip _ ?_ | exact Part.nil _ | exact Part.app _ _ | exact Part.appL _ _ | refine Part.appR _ ?_)) (by repeat (first | exact Part.refl _ | refine Part.pull (by repeat (first | exact Pull.here | apply Pull.there)) ?_ | refine Part.skip _ ?_ | exact Part.nil _ | exact Part.app _ _ | exact Part.appL _ _ | refine Part.appR _ ?_))
                   refine congrArg LV.bool ?_
                   unfold signF
                   rw [Bool.eq_iff_iff]
                   first
                   | (simp only [decide_eq_true_eq, true_iff, Bool.true_eq]; omega)
                   | (simp only [decide_eq_true_eq, false_iff, Bool.false_eq_true]; omega)
                   | (rw [decide_eq_true_eq, decide_eq_true_eq]; refine (marks h0 (by omega)).trans ?_; constructor <;> intro h <;> omega)
          ·
           intro hb1_17
           first
           | exact PrN hb1_17
           | ((try simp only [Pr] at hb1_17); exfalso; omega)
           | (try simp only [Pr] at hb1_17)
             refine HPlan.leftR rfl rfl ?_
             refine HPlan.leftR rfl rfl ?_
             refine HPlan.pickF rfl rfl rfl rfl ?_
             refine HPlan.pickF rfl rfl rfl rfl ?_
             refine HPlan.move rfl rfl rfl ?_
             refine HPlan.move rfl rfl rfl ?_
             refine HPlan.intBin rfl rfl rfl rfl rfl rfl ?_
             refine HPlan.move rfl rfl rfl ?_
             refine HPlan.split ?_ ?_
             ·
              intro hb1_25
              first
              | exact PrN hb1_25
              | ((try simp only [Pr] at hb1_25); exfalso; omega)
              | (try simp only [Pr] at hb1_25)
                refine HPlan.move rfl rfl rfl ?_
                refine HPlan.intConv rfl rfl rfl q_us_21 q_it_5 (congrArg (LV.int .u8) (wrap_u8 h0 (by omega))) ?_
                refine HPlan.callPure rfl rfl rfl q_en_76 (idxb_spec _ _) keptH_nil ?_
                refine HPlan.intBin rfl rfl rfl rfl rfl rfl ?_
                refine HPlan.pickT rfl rfl rfl rfl ?_
                refine HPlan.pickF rfl rfl rfl rfl ?_
                refine HPlan.assign rfl rfl rfl ?_
                refine HPlan.fin ?_
                refine onNorm_n ?_
                refine HWp.ret ?_
                refine retQ_r (.tmp rfl .nil) ?_
                refine endK_of ⟨?_, rfl, rfl⟩ (by repeat (first | exact Part.refl _ | refine Part.pull (by repeat (first | exact Pull.here | apply Pull.there)) ?_ | refine Part.skip _ ?_ | exact Part.nil _ | exact Part.app _ _ | exact Part.appL _ _ | refine Part.appR _ ?_)) (by repeat (first | exact Part.refl _ | refine Part.pull (by repeat (first | exact Pull.here | apply Pull.there)) ?_ | refine Part.skip _ ?_ | exact Part.nil _ | exact Part.app _ _ | exact Part.appL _ _ | refine Part.appR _ ?_))
                refine congrArg LV.bool ?_
                unfold signF
                rw [Bool.eq_iff_iff]
                first
                | (simp only [decide_eq_true_eq, true_iff, Bool.true_eq]; omega)
                | (simp only [decide_eq_true_eq, false_iff, Bool.false_eq_true]; omega)
                | (rw [decide_eq_true_eq, decide_eq_true_eq]; refine (marks h0 (by omega)).trans ?_; constructor <;> intro h <;> omega)
             ·
              intro hb1_25
              first
              | exact PrN hb1_25
              | ((try simp only [Pr] at hb1_25); exfalso; omega)
              | (try simp only [Pr] at hb1_25)
                refine HPlan.leftR rfl rfl ?_
                refine HPlan.leftR rfl rfl ?_
                refine HPlan.leftA rfl rfl ?_
                refine HPlan.leftR rfl rfl ?_
                refine HPlan.pickF rfl rfl rfl rfl ?_
                refine HPlan.pickF rfl rfl rfl rfl ?_
                refine HPlan.assign rfl rfl rfl ?_
                refine HPlan.fin ?_
                refine onNorm_n ?_
                refine HWp.ret ?_
                refine retQ_r (.tmp rfl .nil) ?_
                refine endK_of ⟨?_, rfl, rfl⟩ (by repeat (first | exact Part.refl _ | refine Part.pull (by repeat (first | exact Pull.here | apply Pull.there)) ?_ | refine Part.skip _ ?_ | exact Part.nil _ | exact Part.app _ _ | exact Part.appL _ _ | refine Part.appR _ ?_)) (by repeat (first | exact Part.refl _ | refine Part.pull (by repeat (first | exact Pull.here | apply Pull.there)) ?_ | refine Part.skip _ ?_ | exact Part.nil _ | exact Part.app _ _ | exact Part.appL _ _ | refine Part.appR _ ?_))
                refine congrArg LV.bool ?_
                unfold signF
                rw [Bool.eq_iff_iff]
                first
                | (simp only [decide_eq_true_eq, true_iff, Bool.true_eq]; omega)
                | (simp only [decide_eq_true_eq, false_iff, Bool.false_eq_true]; omega)
                | (rw [decide_eq_true_eq, decide_eq_true_eq]; refine (marks h0 (by omega)).trans ?_; constructor <;> intro h <;> omega)
 ·
  intro hb1_2
  first
  | exact PrN hb1_2
  | ((try simp only [Pr] at hb1_2); exfalso; omega)
  | (try simp only [Pr] at hb1_2)
    refine HPlan.leftR rfl rfl ?_
    refine HPlan.leftR rfl rfl ?_
    refine HPlan.pickF rfl rfl rfl rfl ?_
    refine HPlan.move rfl rfl rfl ?_
    refine HPlan.move rfl rfl rfl ?_
    refine HPlan.intBin rfl rfl rfl rfl rfl rfl ?_
    refine HPlan.move rfl rfl rfl ?_
    refine HPlan.split ?_ ?_
    ·
     intro hb1_9
     first
     | exact PrN hb1_9
     | ((try simp only [Pr] at hb1_9); exfalso; omega)
     | (try simp only [Pr] at hb1_9)
       refine HPlan.move rfl rfl rfl ?_
       refine HPlan.intBin rfl rfl rfl rfl rfl rfl ?_
       refine HPlan.pickT rfl rfl rfl rfl ?_
       refine HPlan.pickF rfl rfl rfl rfl ?_
       refine HPlan.move rfl rfl rfl ?_
       refine HPlan.split ?_ ?_
       ·
        intro hb1_14
        first
        | exact PrN hb1_14
        | ((try simp only [Pr] at hb1_14); exfalso; omega)
        | (try simp only [Pr] at hb1_14)
          refine HPlan.leftR rfl rfl ?_
          refine HPlan.leftR rfl rfl ?_
          refine HPlan.leftR rfl rfl ?_
          refine HPlan.leftR rfl rfl ?_
          refine HPlan.leftR rfl rfl ?_
          refine HPlan.leftR rfl rfl ?_
          refine HPlan.pickT rfl rfl rfl rfl ?_
          refine HPlan.move rfl rfl rfl ?_
          refine HPlan.leftR rfl rfl ?_
          refine HPlan.leftR rfl rfl ?_
          refine HPlan.leftR rfl rfl ?_
          refine HPlan.leftR rfl rfl ?_
          refine HPlan.leftR rfl rfl ?_
          refine HPlan.leftA rfl rfl ?_
          refine HPlan.leftR rfl rfl ?_
          refine HPlan.leftR rfl rfl ?_
          refine HPlan.pickT rfl rfl rfl rfl ?_
          refine HPlan.assign rfl rfl rfl ?_
          refine HPlan.fin ?_
          refine onNorm_n ?_
          refine HWp.ret ?_
          refine retQ_r (.tmp rfl .nil) ?_
          refine endK_of ⟨?_, rfl, rfl⟩ (by repeat (first | exact Part.refl _ | refine Part.pull (by repeat (first | exact Pull.here | apply Pull.there)) ?_ | refine Part.skip _ ?_ | exact Part.nil _ | exact Part.app _ _ | exact Part.appL _ _ | refine Part.appR _ ?_)) (by repeat (first | exact Part.refl _ | refine Part.pull (by repeat (first | exact Pull.here | apply Pull.there)) ?_ | refine Part.skip _ ?_ | exact Part.nil _ | exact Part.app _ _ | exact Part.appL _ _ | refine Part.appR _ ?_))
          refine congrArg LV.bool ?_
          unfold signF
          rw [Bool.eq_iff_iff]
          first
          | (simp only [decide_eq_true_eq, true_iff, Bool.true_eq]; omega)
          | (simp only [decide_eq_true_eq, false_iff, Bool.false_eq_true]; omega)
          | (rw [decide_eq_true_eq, decide_eq_true_eq]; refine (marks h0 (by omega)).trans ?_; constructor <;> intro h <;> omega)
       ·
        intro hb1_14
        first
        | exact PrN hb1_14
        | ((try simp only [Pr] at hb1_14); exfalso; omega)
        | (try simp only [Pr] at hb1_14)
          refine HPlan.move rfl rfl rfl ?_
          refine HPlan.intBin rfl rfl rfl rfl rfl rfl ?_
          refine HPlan.move rfl rfl rfl ?_
          refine HPlan.split ?_ ?_
          ·
           intro hb1_17
           first
           | exact PrN hb1_17
           | ((try simp only [Pr] at hb1_17); exfalso; omega)
           | (try simp only [Pr] at hb1_17)
             refine HPlan.move rfl rfl rfl ?_
             refine HPlan.intBin rfl rfl rfl rfl rfl rfl ?_
             refine HPlan.pickT rfl rfl rfl rfl ?_
             refine HPlan.pickF rfl rfl rfl rfl ?_
             refine HPlan.move rfl rfl rfl ?_
             refine HPlan.split ?_ ?_
             ·
              intro hb1_22
              first
              | exact PrN hb1_22
              | ((try simp only [Pr] at hb1_22); exfalso; omega)
              | (try simp only [Pr] at hb1_22)
                refine HPlan.leftR rfl rfl ?_
                refine HPlan.leftR rfl rfl ?_
                refine HPlan.leftR rfl rfl ?_
                refine HPlan.leftR rfl rfl ?_
                refine HPlan.leftR rfl rfl ?_
                refine HPlan.leftA rfl rfl ?_
                refine HPlan.leftR rfl rfl ?_
                refine HPlan.leftR rfl rfl ?_
                refine HPlan.pickT rfl rfl rfl rfl ?_
                refine HPlan.assign rfl rfl rfl ?_
                refine HPlan.fin ?_
                refine onNorm_n ?_
                refine HWp.ret ?_
                refine retQ_r (.tmp rfl .nil) ?_
                refine endK_of ⟨?_, rfl, rfl⟩ (by repeat (first | exact Part.refl _ | refine Part.pull (by repeat (first | exact Pull.here | apply Pull.there)) ?_ | refine Part.skip _ ?_ | exact Part.nil _ | exact Part.app _ _ | exact Part.appL _ _ | refine Part.appR _ ?_)) (by repeat (first | exact Part.refl _ | refine Part.pull (by repeat (first | exact Pull.here | apply Pull.there)) ?_ | refine Part.skip _ ?_ | exact Part.nil _ | exact Part.app _ _ | exact Part.appL _ _ | refine Part.appR _ ?_))
                refine congrArg LV.bool ?_
                unfold signF
                rw [Bool.eq_iff_iff]
                first
                | (simp only [decide_eq_true_eq, true_iff, Bool.true_eq]; omega)
                | (simp only [decide_eq_true_eq, false_iff, Bool.false_eq_true]; omega)
                | (rw [decide_eq_true_eq, decide_eq_true_eq]; refine (marks h0 (by omega)).trans ?_; constructor <;> intro h <;> omega)
             ·
              intro hb1_22
              first
              | exact PrN hb1_22
              | ((try simp only [Pr] at hb1_22); exfalso; omega)
              | (try simp only [Pr] at hb1_22)
                refine HPlan.move rfl rfl rfl ?_
                refine HPlan.intBin rfl rfl rfl rfl rfl rfl ?_
                refine HPlan.move rfl rfl rfl ?_
                refine HPlan.split ?_ ?_
                ·
                 intro hb1_25
                 first
                 | exact PrN hb1_25
                 | ((try simp only [Pr] at hb1_25); exfalso; omega)
                 | (try simp only [Pr] at hb1_25)
                   refine HPlan.move rfl rfl rfl ?_
                   refine HPlan.intConv rfl rfl rfl q_us_21 q_it_5 (congrArg (LV.int .u8) (wrap_u8 h0 (by omega))) ?_
                   refine HPlan.callPure rfl rfl rfl q_en_76 (idxb_spec _ _) keptH_nil ?_
                   refine HPlan.intBin rfl rfl rfl rfl rfl rfl ?_
                   refine HPlan.pickT rfl rfl rfl rfl ?_
                   refine HPlan.pickF rfl rfl rfl rfl ?_
                   refine HPlan.assign rfl rfl rfl ?_
                   refine HPlan.fin ?_
                   refine onNorm_n ?_
                   refine HWp.ret ?_
                   refine retQ_r (.tmp rfl .nil) ?_
                   refine endK_of ⟨?_, rfl, rfl⟩ (by repeat (first | exact Part.refl _ | refine Part.pull (by repeat (first | exact Pull.here | apply Pull.there)) ?_ | refine Part.skip _ ?_ | exact Part.nil _ | exact Part.app _ _ | exact Part.appL _ _ | refine Part.appR _ ?_)) (by repeat (first | exact Part.refl _ | refine Part.pull (by repeat (first | exact Pull.here | apply Pull.there)) ?_ | refine Part.skip _ ?_ | exact Part.nil _ | exact Part.app _ _ | exact Part.appL _ _ | refine Part.appR _ ?_))
                   refine congrArg LV.bool ?_
                   unfold signF
                   rw [Bool.eq_iff_iff]
                   first
                   | (simp only [decide_eq_true_eq, true_iff, Bool.true_eq]; omega)
                   | (simp only [decide_eq_true_eq, false_iff, Bool.false_eq_true]; omega)
                   | (rw [decide_eq_true_eq, decide_eq_true_eq]; refine (marks h0 (by omega)).trans ?_; constructor <;> intro h <;> omega)
                ·
                 intro hb1_25
                 first
                 | exact PrN hb1_25
                 | ((try simp only [Pr] at hb1_25); exfalso; omega)
                 | (try simp only [Pr] at hb1_25)
                   refine HPlan.leftR rfl rfl ?_
                   refine HPlan.leftR rfl rfl ?_
                   refine HPlan.leftA rfl rfl ?_
                   refine HPlan.leftR rfl rfl ?_
                   refine HPlan.pickF rfl rfl rfl rfl ?_
                   refine HPlan.pickF rfl rfl rfl rfl ?_
                   refine HPlan.assign rfl rfl rfl ?_
                   refine HPlan.fin ?_
                   refine onNorm_n ?_
                   refine HWp.ret ?_
                   refine retQ_r (.tmp rfl .nil) ?_
                   refine endK_of ⟨?_, rfl, rfl⟩ (by repeat (first | exact Part.refl _ | refine Part.pull (by repeat (first | exact Pull.here | apply Pull.there)) ?_ | refine Part.skip _ ?_ | exact Part.nil _ | exact Part.app _ _ | exact Part.appL _ _ | refine Part.appR _ ?_)) (by repeat (first | exact Part.refl _ | refine Part.pull (by repeat (first | exact Pull.here | apply Pull.there)) ?_ | refine Part.skip _ ?_ | exact Part.nil _ | exact Part.app _ _ | exact Part.appL _ _ | refine Part.appR _ ?_))
                   refine congrArg LV.bool ?_
                   unfold signF
                   rw [Bool.eq_iff_iff]
                   first
                   | (simp only [decide_eq_true_eq, true_iff, Bool.true_eq]; omega)
                   | (simp only [decide_eq_true_eq, false_iff, Bool.false_eq_true]; omega)
                   | (rw [decide_eq_true_eq, decide_eq_true_eq]; refine (marks h0 (by omega)).trans ?_; constructor <;> intro h <;> omega)
          ·
           intro hb1_17
           first
           | exact PrN hb1_17
           | ((try simp only [Pr] at hb1_17); exfalso; omega)
           | (try simp only [Pr] at hb1_17)
             refine HPlan.leftR rfl rfl ?_
             refine HPlan.leftR rfl rfl ?_
             refine HPlan.pickF rfl rfl rfl rfl ?_
             refine HPlan.pickF rfl rfl rfl rfl ?_
             refine HPlan.move rfl rfl rfl ?_
             refine HPlan.move rfl rfl rfl ?_
             refine HPlan.intBin rfl rfl rfl rfl rfl rfl ?_
             refine HPlan.move rfl rfl rfl ?_
             refine HPlan.split ?_ ?_
             ·
              intro hb1_25
              first
              | exact PrN hb1_25
              | ((try simp only [Pr] at hb1_25); exfalso; omega)
              | (try simp only [Pr] at hb1_25)
                refine HPlan.move rfl rfl rfl ?_
                refine HPlan.intConv rfl rfl rfl q_us_21 q_it_5 (congrArg (LV.int .u8) (wrap_u8 h0 (by omega))) ?_
                refine HPlan.callPure rfl rfl rfl q_en_76 (idxb_spec _ _) keptH_nil ?_
                refine HPlan.intBin rfl rfl rfl rfl rfl rfl ?_
                refine HPlan.pickT rfl rfl rfl rfl ?_
                refine HPlan.pickF rfl rfl rfl rfl ?_
                refine HPlan.assign rfl rfl rfl ?_
                refine HPlan.fin ?_
                refine onNorm_n ?_
                refine HWp.ret ?_
                refine retQ_r (.tmp rfl .nil) ?_
                refine endK_of ⟨?_, rfl, rfl⟩ (by repeat (first | exact Part.refl _ | refine Part.pull (by repeat (first | exact Pull.here | apply Pull.there)) ?_ | refine Part.skip _ ?_ | exact Part.nil _ | exact Part.app _ _ | exact Part.appL _ _ | refine Part.appR _ ?_)) (by repeat (first | exact Part.refl _ | refine Part.pull (by repeat (first | exact Pull.here | apply Pull.there)) ?_ | refine Part.skip _ ?_ | exact Part.nil _ | exact Part.app _ _ | exact Part.appL _ _ | refine Part.appR _ ?_))
                refine congrArg LV.bool ?_
                unfold signF
                rw [Bool.eq_iff_iff]
                first
                | (simp only [decide_eq_true_eq, true_iff, Bool.true_eq]; omega)
                | (simp only [decide_eq_true_eq, false_iff, Bool.false_eq_true]; omega)
                | (rw [decide_eq_true_eq, decide_eq_true_eq]; refine (marks h0 (by omega)).trans ?_; constructor <;> intro h <;> omega)
             ·
              intro hb1_25
              first
              | exact PrN hb1_25
              | ((try simp only [Pr] at hb1_25); exfalso; omega)
              | (try simp only [Pr] at hb1_25)
                refine HPlan.leftR rfl rfl ?_
                refine HPlan.leftR rfl rfl ?_
                refine HPlan.leftA rfl rfl ?_
                refine HPlan.leftR rfl rfl ?_
                refine HPlan.pickF rfl rfl rfl rfl ?_
                refine HPlan.pickF rfl rfl rfl rfl ?_
                refine HPlan.assign rfl rfl rfl ?_
                refine HPlan.fin ?_
                refine onNorm_n ?_
                refine HWp.ret ?_
                refine retQ_r (.tmp rfl .nil) ?_
                refine endK_of ⟨?_, rfl, rfl⟩ (by repeat (first | exact Part.refl _ | refine Part.pull (by repeat (first | exact Pull.here | apply Pull.there)) ?_ | refine Part.skip _ ?_ | exact Part.nil _ | exact Part.app _ _ | exact Part.appL _ _ | refine Part.appR _ ?_)) (by repeat (first | exact Part.refl _ | refine Part.pull (by repeat (first | exact Pull.here | apply Pull.there)) ?_ | refine Part.skip _ ?_ | exact Part.nil _ | exact Part.app _ _ | exact Part.appL _ _ | refine Part.appR _ ?_))
                refine congrArg LV.bool ?_
                unfold signF
                rw [Bool.eq_iff_iff]
                first
                | (simp only [decide_eq_true_eq, true_iff, Bool.true_eq]; omega)
                | (simp only [decide_eq_true_eq, false_iff, Bool.false_eq_true]; omega)
                | (rw [decide_eq_true_eq, decide_eq_true_eq]; refine (marks h0 (by omega)).trans ?_; constructor <;> intro h <;> omega)
    ·
     intro hb1_9
     first
     | exact PrN hb1_9
     | ((try simp only [Pr] at hb1_9); exfalso; omega)
     | (try simp only [Pr] at hb1_9)
       refine HPlan.leftR rfl rfl ?_
       refine HPlan.leftR rfl rfl ?_
       refine HPlan.pickF rfl rfl rfl rfl ?_
       refine HPlan.pickF rfl rfl rfl rfl ?_
       refine HPlan.move rfl rfl rfl ?_
       refine HPlan.move rfl rfl rfl ?_
       refine HPlan.intBin rfl rfl rfl rfl rfl rfl ?_
       refine HPlan.move rfl rfl rfl ?_
       refine HPlan.split ?_ ?_
       ·
        intro hb1_17
        first
        | exact PrN hb1_17
        | ((try simp only [Pr] at hb1_17); exfalso; omega)
        | (try simp only [Pr] at hb1_17)
          refine HPlan.move rfl rfl rfl ?_
          refine HPlan.intBin rfl rfl rfl rfl rfl rfl ?_
          refine HPlan.pickT rfl rfl rfl rfl ?_
          refine HPlan.pickF rfl rfl rfl rfl ?_
          refine HPlan.move rfl rfl rfl ?_
          refine HPlan.split ?_ ?_
          ·
           intro hb1_22
           first
           | exact PrN hb1_22
           | ((try simp only [Pr] at hb1_22); exfalso; omega)
           | (try simp only [Pr] at hb1_22)
             refine HPlan.leftR rfl rfl ?_
             refine HPlan.leftR rfl rfl ?_
             refine HPlan.leftR rfl rfl ?_
             refine HPlan.leftR rfl rfl ?_
             refine HPlan.leftR rfl rfl ?_
             refine HPlan.leftA rfl rfl ?_
             refine HPlan.leftR rfl rfl ?_
             refine HPlan.leftR rfl rfl ?_
             refine HPlan.pickT rfl rfl rfl rfl ?_
             refine HPlan.assign rfl rfl rfl ?_
             refine HPlan.fin ?_
             refine onNorm_n ?_
             refine HWp.ret ?_
             refine retQ_r (.tmp rfl .nil) ?_
             refine endK_of ⟨?_, rfl, rfl⟩ (by repeat (first | exact Part.refl _ | refine Part.pull (by repeat (first | exact Pull.here | apply Pull.there)) ?_ | refine Part.skip _ ?_ | exact Part.nil _ | exact Part.app _ _ | exact Part.appL _ _ | refine Part.appR _ ?_)) (by repeat (first | exact Part.refl _ | refine Part.pull (by repeat (first | exact Pull.here | apply Pull.there)) ?_ | refine Part.skip _ ?_ | exact Part.nil _ | exact Part.app _ _ | exact Part.appL _ _ | refine Part.appR _ ?_))
             refine congrArg LV.bool ?_
             unfold signF
             rw [Bool.eq_iff_iff]
             first
             | (simp only [decide_eq_true_eq, true_iff, Bool.true_eq]; omega)
             | (simp only [decide_eq_true_eq, false_iff, Bool.false_eq_true]; omega)
             | (rw [decide_eq_true_eq, decide_eq_true_eq]; refine (marks h0 (by omega)).trans ?_; constructor <;> intro h <;> omega)
          ·
           intro hb1_22
           first
           | exact PrN hb1_22
           | ((try simp only [Pr] at hb1_22); exfalso; omega)
           | (try simp only [Pr] at hb1_22)
             refine HPlan.move rfl rfl rfl ?_
             refine HPlan.intBin rfl rfl rfl rfl rfl rfl ?_
             refine HPlan.move rfl rfl rfl ?_
             refine HPlan.split ?_ ?_
             ·
              intro hb1_25
              first
              | exact PrN hb1_25
              | ((try simp only [Pr] at hb1_25); exfalso; omega)
              | (try simp only [Pr] at hb1_25)
                refine HPlan.move rfl rfl rfl ?_
                refine HPlan.intConv rfl rfl rfl q_us_21 q_it_5 (congrArg (LV.int .u8) (wrap_u8 h0 (by omega))) ?_
                refine HPlan.callPure rfl rfl rfl q_en_76 (idxb_spec _ _) keptH_nil ?_
                refine HPlan.intBin rfl rfl rfl rfl rfl rfl ?_
                refine HPlan.pickT rfl rfl rfl rfl ?_
                refine HPlan.pickF rfl rfl rfl rfl ?_
                refine HPlan.assign rfl rfl rfl ?_
                refine HPlan.fin ?_
                refine onNorm_n ?_
                refine HWp.ret ?_
                refine retQ_r (.tmp rfl .nil) ?_
                refine endK_of ⟨?_, rfl, rfl⟩ (by repeat (first | exact Part.refl _ | refine Part.pull (by repeat (first | exact Pull.here | apply Pull.there)) ?_ | refine Part.skip _ ?_ | exact Part.nil _ | exact Part.app _ _ | exact Part.appL _ _ | refine Part.appR _ ?_)) (by repeat (first | exact Part.refl _ | refine Part.pull (by repeat (first | exact Pull.here | apply Pull.there)) ?_ | refine Part.skip _ ?_ | exact Part.nil _ | exact Part.app _ _ | exact Part.appL _ _ | refine Part.appR _ ?_))
                refine congrArg LV.bool ?_
                unfold signF
                rw [Bool.eq_iff_iff]
                first
                | (simp only [decide_eq_true_eq, true_iff, Bool.true_eq]; omega)
                | (simp only [decide_eq_true_eq, false_iff, Bool.false_eq_true]; omega)
                | (rw [decide_eq_true_eq, decide_eq_true_eq]; refine (marks h0 (by omega)).trans ?_; constructor <;> intro h <;> omega)
             ·
              intro hb1_25
              first
              | exact PrN hb1_25
              | ((try simp only [Pr] at hb1_25); exfalso; omega)
              | (try simp only [Pr] at hb1_25)
                refine HPlan.leftR rfl rfl ?_
                refine HPlan.leftR rfl rfl ?_
                refine HPlan.leftA rfl rfl ?_
                refine HPlan.leftR rfl rfl ?_
                refine HPlan.pickF rfl rfl rfl rfl ?_
                refine HPlan.pickF rfl rfl rfl rfl ?_
                refine HPlan.assign rfl rfl rfl ?_
                refine HPlan.fin ?_
                refine onNorm_n ?_
                refine HWp.ret ?_
                refine retQ_r (.tmp rfl .nil) ?_
                refine endK_of ⟨?_, rfl, rfl⟩ (by repeat (first | exact Part.refl _ | refine Part.pull (by repeat (first | exact Pull.here | apply Pull.there)) ?_ | refine Part.skip _ ?_ | exact Part.nil _ | exact Part.app _ _ | exact Part.appL _ _ | refine Part.appR _ ?_)) (by repeat (first | exact Part.refl _ | refine Part.pull (by repeat (first | exact Pull.here | apply Pull.there)) ?_ | refine Part.skip _ ?_ | exact Part.nil _ | exact Part.app _ _ | exact Part.appL _ _ | refine Part.appR _ ?_))
                refine congrArg LV.bool ?_
                unfold signF
                rw [Bool.eq_iff_iff]
                first
                | (simp only [decide_eq_true_eq, true_iff, Bool.true_eq]; omega)
                | (simp only [decide_eq_true_eq, false_iff, Bool.false_eq_true]; omega)
                | (rw [decide_eq_true_eq, decide_eq_true_eq]; refine (marks h0 (by omega)).trans ?_; constructor <;> intro h <;> omega)
       ·
        intro hb1_17
        first
        | exact PrN hb1_17
        | ((try simp only [Pr] at hb1_17); exfalso; omega)
        | (try simp only [Pr] at hb1_17)
          refine HPlan.leftR rfl rfl ?_
          refine HPlan.leftR rfl rfl ?_
          refine HPlan.pickF rfl rfl rfl rfl ?_
          refine HPlan.pickF rfl rfl rfl rfl ?_
          refine HPlan.move rfl rfl rfl ?_
          refine HPlan.move rfl rfl rfl ?_
          refine HPlan.intBin rfl rfl rfl rfl rfl rfl ?_
          refine HPlan.move rfl rfl rfl ?_
          refine HPlan.split ?_ ?_
          ·
           intro hb1_25
           first
           | exact PrN hb1_25
           | ((try simp only [Pr] at hb1_25); exfalso; omega)
           | (try simp only [Pr] at hb1_25)
             refine HPlan.move rfl rfl rfl ?_
             refine HPlan.intConv rfl rfl rfl q_us_21 q_it_5 (congrArg (LV.int .u8) (wrap_u8 h0 (by omega))) ?_
             refine HPlan.callPure rfl rfl rfl q_en_76 (idxb_spec _ _) keptH_nil ?_
             refine HPlan.intBin rfl rfl rfl rfl rfl rfl ?_
             refine HPlan.pickT rfl rfl rfl rfl ?_
             refine HPlan.pickF rfl rfl rfl rfl ?_
             refine HPlan.assign rfl rfl rfl ?_
             refine HPlan.fin ?_
             refine onNorm_n ?_
             refine HWp.ret ?_
             refine retQ_r (.tmp rfl .nil) ?_
             refine endK_of ⟨?_, rfl, rfl⟩ (by repeat (first | exact Part.refl _ | refine Part.pull (by repeat (first | exact Pull.here | apply Pull.there)) ?_ | refine Part.skip _ ?_ | exact Part.nil _ | exact Part.app _ _ | exact Part.appL _ _ | refine Part.appR _ ?_)) (by repeat (first | exact Part.refl _ | refine Part.pull (by repeat (first | exact Pull.here | apply Pull.there)) ?_ | refine Part.skip _ ?_ | exact Part.nil _ | exact Part.app _ _ | exact Part.appL _ _ | refine Part.appR _ ?_))
             refine congrArg LV.bool ?_
             unfold signF
             rw [Bool.eq_iff_iff]
             first
             | (simp only [decide_eq_true_eq, true_iff, Bool.true_eq]; omega)
             | (simp only [decide_eq_true_eq, false_iff, Bool.false_eq_true]; omega)
             | (rw [decide_eq_true_eq, decide_eq_true_eq]; refine (marks h0 (by omega)).trans ?_; constructor <;> intro h <;> omega)
          ·
           intro hb1_25
           first
           | exact PrN hb1_25
           | ((try simp only [Pr] at hb1_25); exfalso; omega)
           | (try simp only [Pr] at hb1_25)
             refine HPlan.leftR rfl rfl ?_
             refine HPlan.leftR rfl rfl ?_
             refine HPlan.leftA rfl rfl ?_
             refine HPlan.leftR rfl rfl ?_
             refine HPlan.pickF rfl rfl rfl rfl ?_
             refine HPlan.pickF rfl rfl rfl rfl ?_
             refine HPlan.assign rfl rfl rfl ?_
             refine HPlan.fin ?_
             refine onNorm_n ?_
             refine HWp.ret ?_
             refine retQ_r (.tmp rfl .nil) ?_
             refine endK_of ⟨?_, rfl, rfl⟩ (by repeat (first | exact Part.refl _ | refine Part.pull (by repeat (first | exact Pull.here | apply Pull.there)) ?_ | refine Part.skip _ ?_ | exact Part.nil _ | exact Part.app _ _ | exact Part.appL _ _ | refine Part.appR _ ?_)) (by repeat (first | exact Part.refl _ | refine Part.pull (by repeat (first | exact Pull.here | apply Pull.there)) ?_ | refine Part.skip _ ?_ | exact Part.nil _ | exact Part.app _ _ | exact Part.appL _ _ | refine Part.appR _ ?_))
             refine congrArg LV.bool ?_
             unfold signF
             rw [Bool.eq_iff_iff]
             first
             | (simp only [decide_eq_true_eq, true_iff, Bool.true_eq]; omega)
             | (simp only [decide_eq_true_eq, false_iff, Bool.false_eq_true]; omega)
             | (rw [decide_eq_true_eq, decide_eq_true_eq]; refine (marks h0 (by omega)).trans ?_; constructor <;> intro h <;> omega)
theorem nosign_spec (c : Int) (h0 : 0 ≤ c) : HPure Tryd.prog 138 [.int .i32 c] (.bool (!signF c)) := by
 intro L T
 refine HCalls.enterG q_f_138 rfl ?_
 refine HWp.frame (r' := ⟨6, [(0, .int .i32 c)]⟩) rfl ?_
 refine HWp.seq ?_
 refine HWp.text (.rd 0 .done) rfl ?_
 refine HPlan.assign rfl rfl rfl ?_
 refine HPlan.fin ?_
 refine onNorm_n ?_
 refine HWp.seq ?_
 refine HWp.text (.rd 0 (.act 1 [] (.rd 2 (.rd 3 .done)))) rfl ?_
 refine HPlan.move rfl rfl rfl ?_
 refine HPlan.callPure rfl rfl rfl q_en_139 (sign_spec c h0) keptH_nil ?_
 refine HPlan.not rfl rfl rfl rfl ?_
 refine HPlan.assign rfl rfl rfl ?_
 refine HPlan.fin ?_
 refine onNorm_n ?_
 refine HWp.ret ?_
 refine retQ_r (.tmp rfl .nil) ?_
 exact endK_of ⟨rfl, rfl, rfl⟩ (by repeat (first | exact Part.refl _ | refine Part.pull (by repeat (first | exact Pull.here | apply Pull.there)) ?_ | refine Part.skip _ ?_ | exact Part.nil _ | exact Part.app _ _ | exact Part.appL _ _ | refine Part.appR _ ?_)) (by repeat (first | exact Part.refl _ | refine Part.pull (by repeat (first | exact Pull.here | apply Pull.there)) ?_ | refine Part.skip _ ?_ | exact Part.nil _ | exact Part.app _ _ | exact Part.appL _ _ | refine Part.appR _ ?_))
end Go.Proofs.YthfoobfgdakbmaaDoor

set_option linter.unusedVariables false
set_option linter.unusedSimpArgs false
set_option maxRecDepth 100000
namespace Go.Proofs.YthfoobfgdakbmaaDoor
open Go Go.RowKit Go.L
theorem q_st_9 : isStrTy Tryd.prog 9 = true := by kernel_rfl
theorem q_en_138 : enterable Tryd.prog 138 = true := by kernel_rfl
theorem q_bo_4 : (match Tryd.prog.underlying 4 with | some .bool => true | _ => false) = true := by kernel_rfl
theorem q_f_143 : Tryd.prog.funcs[143]? = some Tryd.f143 := by kernel_rfl
theorem q_en_143 : enterable Tryd.prog 143 = true := by kernel_rfl
theorem q_f_126 : Tryd.prog.funcs[126]? = some Tryd.f126 := by kernel_rfl
theorem q_en_126 : enterable Tryd.prog 126 = true := by kernel_rfl
theorem q_f_96 : Tryd.prog.funcs[96]? = some Tryd.f96 := by kernel_rfl

def partOk (s : ByteArray) : Bool := s.data.toList.all fun b => signF (b.toNat : Int)
theorem sign_low {c : Int} (h : signF c = true) : 0 ≤ c ∧ c < 128 := by
  simp only [signF, decide_eq_true_eq] at h; omega
theorem byte_mem {s : ByteArray} {q : Nat} (h : q < s.size) : s[q] ∈ s.data.toList := by
  have : s[q] = s.data.toList[q]'(by simpa using h) := rfl
  rw [this]; exact List.getElem_mem _
theorem rune_good {s : ByteArray} {q : Nat} (h : q < s.size) (e : signF ((Utf8.decode s q).1 : Int) = true) : Utf8.decode s q = ((s[q]'h).toNat, 1) ∧ signF ((s[q]'h).toNat : Int) = true := by
  by_cases hl : (s[q]'h).toNat < 128
  · have := decode_at_ascii s q h hl
    rw [this] at e
    exact ⟨this, e⟩
  · have := (Go.decode_high s q h (by omega)).1
    have := (sign_low e).2
    omega
theorem rune_bad {s : ByteArray} {q : Nat} (h : q < s.size) (e : signF ((Utf8.decode s q).1 : Int) = false) : partOk s = false := by
  apply Classical.byContradiction
  intro hp
  rw [Bool.not_eq_false, partOk, List.all_eq_true] at hp
  have hb := hp _ (byte_mem h)
  have hl : (s[q]'h).toNat < 128 := by have := (sign_low hb).2; omega
  rw [decode_at_ascii s q h hl] at e
  rw [hb] at e; cases e
theorem part_all {s : ByteArray} (h : ∀ i (h : i < s.size), signF ((s[i]'h).toNat : Int) = true) : partOk s = true := by
  rw [partOk, List.all_eq_true]
  intro b hb
  obtain ⟨i, hi, rfl⟩ := List.mem_iff_getElem.1 hb
  exact h i (by simpa using hi)
theorem idx_zero {q : Nat} : (0 : Int) ≤ (q : Int) := by omega

theorem idxf_spec (s : ByteArray) (hs : s.size < 4611686018427387904) (L : Hp) (T : Tk) : HCalls Tryd.prog 143 [.str s, .fn (.func 138) [] [], .bool true] L T (fun r L' T' => ∃ n : Int, r = .int .i64 n ∧ (0 ≤ n ↔ partOk s = false) ∧ L' = L ∧ T' = T) := by
 refine HCalls.enterG q_f_143 rfl ?_
 refine HWp.frame (r' := ⟨21, [(0, .str s), (1, .fn (.func 138) [] []), (2, .bool true)]⟩) rfl ?_
 refine HWp.seq ?_
 refine HWp.text (.rd 0 .done) rfl ?_
 refine HPlan.assign rfl rfl rfl ?_
 refine HPlan.fin ?_
 refine onNorm_n ?_
 refine HWp.seq ?_
 refine HWp.seq ?_
 refine HWp.text (.rd 0 (.act 1 [] .done)) rfl ?_
 refine HPlan.move rfl rfl rfl ?_
 refine HPlan.rangeS rfl rfl rfl q_st_9 (fun i10 => ⟨keptH_nil, ?_⟩)
 refine HPlan.fin ?_
 refine onNorm_n ?_
 refine HWp.block ?_
 refine HWp.loopF (α := Nat × Nat) (fun q => s.size - q.1) (fun q => q.1 ≤ s.size ∧ ∀ i (h : i < s.size), i < q.1 → signF ((s[i]'h).toNat : Int) = true) (fun q => ⟨21, [(1, .fn (.func 138) [] []), (2, .bool true), (10, .ref i10 0)]⟩) (fun q => (i10, .siter s q.1 q.2) :: L) (fun q => T) ?_ ?_
 ·
  refine ⟨(0, 0), ⟨Nat.zero_le _, fun i _ h => absurd h (Nat.not_lt_zero _)⟩, (LessE.less (by repeat (first | exact LessE.nil | refine LessE.same rfl ?_ | refine LessE.own rfl ?_ | refine LessE.eq rfl ?_ (by first | rfl | (congr 1; omega) | simp))) rfl), (by repeat (first | exact Part.refl _ | refine Part.pull (by repeat (first | exact Pull.here | apply Pull.there)) ?_ | refine Part.skip _ ?_ | exact Part.nil _ | exact Part.app _ _ | exact Part.appL _ _ | refine Part.appR _ ?_)), (by repeat (first | exact Part.refl _ | refine Part.pull (by repeat (first | exact Pull.here | apply Pull.there)) ?_ | refine Part.skip _ ?_ | exact Part.nil _ | exact Part.app _ _ | exact Part.appL _ _ | refine Part.appR _ ?_))⟩
 ·
  rintro q ⟨hq1, hall⟩
  obtain ⟨q, ver⟩ := q
  simp only at hq1 hall ⊢
  refine HWp.seq ?_
  refine HWp.text (.act 0 [] (.rd 1 .done)) rfl ?_
  refine HPlan.nextS rfl rfl rfl (by repeat (first | exact List.Mem.head _ | apply List.Mem.tail | assumption)) keptH_nil ?_ ?_
  ·
   intro hn0
   refine HPlan.extract rfl rfl rfl rfl ?_
   refine HPlan.fin ?_
   refine onNorm_n ?_
   refine HWp.seq ?_
   refine HWp.cond_f rfl ?_
   refine HWp.exit ?_
   refine onNorm_e ?_
   refine onNorm_e ?_
   refine onExitH_hit ?_
   refine onNorm_n ?_
   refine HWp.seq ?_
   refine HWp.text (.rd 0 .done) rfl ?_
   refine HPlan.assign rfl rfl rfl ?_
   refine HPlan.fin ?_
   refine onNorm_n ?_
   refine HWp.ret ?_
   refine retQ_r (.tmp rfl .nil) ?_
   first
   | exact endK_of ⟨_, rfl, ⟨fun _ => rune_bad (by assumption) (by simpa using hc19), fun _ => idx_zero⟩, rfl, rfl⟩ (by repeat (first | exact Part.refl _ | refine Part.pull (by repeat (first | exact Pull.here | apply Pull.there)) ?_ | refine Part.skip _ ?_ | exact Part.nil _ | exact Part.app _ _ | exact Part.appL _ _ | refine Part.appR _ ?_)) (by repeat (first | exact Part.refl _ | refine Part.pull (by repeat (first | exact Pull.here | apply Pull.there)) ?_ | refine Part.skip _ ?_ | exact Part.nil _ | exact Part.app _ _ | exact Part.appL _ _ | refine Part.appR _ ?_))
   | exact endK_of ⟨_, rfl, ⟨fun h => absurd h (by decide), fun h => absurd (part_all fun i h => hall i h (by omega)) (by rw [h]; decide)⟩, rfl, rfl⟩ (by repeat (first | exact Part.refl _ | refine Part.pull (by repeat (first | exact Pull.here | apply Pull.there)) ?_ | refine Part.skip _ ?_ | exact Part.nil _ | exact Part.app _ _ | exact Part.appL _ _ | refine Part.appR _ ?_)) (by repeat (first | exact Part.refl _ | refine Part.pull (by repeat (first | exact Pull.here | apply Pull.there)) ?_ | refine Part.skip _ ?_ | exact Part.nil _ | exact Part.app _ _ | exact Part.appL _ _ | refine Part.appR _ ?_))
  ·
   intro hn1
   refine ⟨_, (by repeat (first | exact Upd.here | apply Upd.there)), keptH_nil, ?_⟩
   refine HPlan.extract rfl rfl rfl rfl ?_
   refine HPlan.fin ?_
   refine onNorm_n ?_
   refine HWp.seq ?_
   refine HWp.cond_t rfl ?_
   refine HWp.skip ?_
   refine onNorm_n ?_
   refine HWp.block ?_
   refine HWp.seq ?_
   refine HWp.text (.rd 0 (.rd 1 (.rd 2 (.rd 3 .done)))) rfl ?_
   refine HPlan.extract rfl rfl rfl rfl ?_
   refine HPlan.extract rfl rfl rfl rfl ?_
   refine HPlan.assign rfl rfl rfl ?_
   refine HPlan.assign rfl rfl rfl ?_
   refine HPlan.fin ?_
   refine onNorm_n ?_
   refine HWp.seq ?_
   refine HWp.text (.rd 0 (.rd 1 (.act 2 [] (.rd 3 (.rd 4 .done))))) rfl ?_
   refine HPlan.move rfl rfl rfl ?_
   refine HPlan.move rfl rfl rfl ?_
   refine HPlan.callPureV rfl rfl rfl rfl q_en_138 rfl (nosign_spec _ (by omega)) keptH_nil ?_
   refine HPlan.move rfl rfl rfl ?_
   refine HPlan.boolEq rfl rfl rfl rfl q_bo_4 ?_
   refine HPlan.fin ?_
   refine onNorm_n ?_
   refine HWp.cond rfl ?_ ?_
   ·
    intro hc19
    first
    | exact PrN hc19
    | ((try simp only [Pr] at hc19); exfalso; omega)
    | (try simp only [Pr] at hc19)
      refine HWp.seq ?_
      refine HWp.text (.rd 0 (.rd 1 .done)) rfl ?_
      refine HPlan.move rfl rfl rfl ?_
      refine HPlan.assign rfl rfl rfl ?_
      refine HPlan.fin ?_
      refine onNorm_n ?_
      refine HWp.ret ?_
      refine onExitH_r ?_
      refine onNorm_r ?_
      refine onExitH_r ?_
      refine onNorm_r ?_
      refine retQ_r (.tmp rfl .nil) ?_
      first
      | exact endK_of ⟨_, rfl, ⟨fun _ => rune_bad (by assumption) (by simpa using hc19), fun _ => idx_zero⟩, rfl, rfl⟩ (by repeat (first | exact Part.refl _ | refine Part.pull (by repeat (first | exact Pull.here | apply Pull.there)) ?_ | refine Part.skip _ ?_ | exact Part.nil _ | exact Part.app _ _ | exact Part.appL _ _ | refine Part.appR _ ?_)) (by repeat (first | exact Part.refl _ | refine Part.pull (by repeat (first | exact Pull.here | apply Pull.there)) ?_ | refine Part.skip _ ?_ | exact Part.nil _ | exact Part.app _ _ | exact Part.appL _ _ | refine Part.appR _ ?_))
      | exact endK_of ⟨_, rfl, ⟨fun h => absurd h (by decide), fun h => absurd (part_all fun i h => hall i h (by omega)) (by rw [h]; decide)⟩, rfl, rfl⟩ (by repeat (first | exact Part.refl _ | refine Part.pull (by repeat (first | exact Pull.here | apply Pull.there)) ?_ | refine Part.skip _ ?_ | exact Part.nil _ | exact Part.app _ _ | exact Part.appL _ _ | refine Part.appR _ ?_)) (by repeat (first | exact Part.refl _ | refine Part.pull (by repeat (first | exact Pull.here | apply Pull.there)) ?_ | refine Part.skip _ ?_ | exact Part.nil _ | exact Part.app _ _ | exact Part.appL _ _ | refine Part.appR _ ?_))
   ·
    intro hc19
    first
    | exact PrN hc19
    | ((try simp only [Pr] at hc19); exfalso; omega)
    | (try simp only [Pr] at hc19)
      obtain ⟨hdec, hsg⟩ := rune_good hn1 (by simpa using hc19)
      rw [hdec]
      refine HWp.skip ?_
      refine onExitH_n ?_
      refine onNorm_n ?_
      refine ⟨(q + 1, ver + 1), (by show s.size - (q + 1) < s.size - q; omega), ⟨by show q + 1 ≤ s.size; omega, fun i h h1 => (by by_cases e : i = q; (subst e; exact hsg); exact hall i h (by simp only at h1; omega))⟩, (LessE.less (by repeat (first | exact LessE.nil | refine LessE.same rfl ?_ | refine LessE.own rfl ?_ | refine LessE.eq rfl ?_ (by first | rfl | (congr 1; omega) | simp))) rfl), (by repeat (first | exact Part.refl _ | refine Part.pull (by repeat (first | exact Pull.here | apply Pull.there)) ?_ | refine Part.skip _ ?_ | exact Part.nil _ | exact Part.app _ _ | exact Part.appL _ _ | refine Part.appR _ ?_)), (by repeat (first | exact Part.refl _ | refine Part.pull (by repeat (first | exact Pull.here | apply Pull.there)) ?_ | refine Part.skip _ ?_ | exact Part.nil _ | exact Part.app _ _ | exact Part.appL _ _ | refine Part.appR _ ?_))⟩
theorem idxf2_spec (s : ByteArray) (hs : s.size < 4611686018427387904) (L : Hp) (T : Tk) : HCalls Tryd.prog 126 [.str s, .fn (.func 138) [] []] L T (fun r L' T' => ∃ n : Int, r = .int .i64 n ∧ (0 ≤ n ↔ partOk s = false) ∧ L' = L ∧ T' = T) := by
 refine HCalls.enterG q_f_126 rfl ?_
 refine HWp.frame (r' := ⟨8, [(0, .str s), (1, .fn (.func 138) [] [])]⟩) rfl ?_
 refine HWp.seq ?_
 refine HWp.text (.rd 0 .done) rfl ?_
 refine HPlan.assign rfl rfl rfl ?_
 refine HPlan.fin ?_
 refine onNorm_n ?_
 refine HWp.seq ?_
 refine HWp.text (.rd 0 (.rd 1 (.act 2 [] (.rd 3 .done)))) rfl ?_
 refine HPlan.move rfl rfl rfl ?_
 refine HPlan.move rfl rfl rfl ?_
 refine HPlan.callS rfl rfl rfl q_en_143 (idxf_spec s hs L T) (List.Perm.refl _) (List.Perm.refl _) ?_
 rintro r_R1_2 L_R1_2 T1 ⟨n, rfl, hn, rfl, rfl⟩
 refine ⟨keptH_nil, ?_⟩
 refine HPlan.assign rfl rfl rfl ?_
 refine HPlan.fin ?_
 refine onNorm_n ?_
 refine HWp.ret ?_
 refine retQ_r (.tmp rfl .nil) ?_
 exact endK_of ⟨_, rfl, hn, rfl, rfl⟩ (by repeat (first | exact Part.refl _ | refine Part.pull (by repeat (first | exact Pull.here | apply Pull.there)) ?_ | refine Part.skip _ ?_ | exact Part.nil _ | exact Part.app _ _ | exact Part.appL _ _ | refine Part.appR _ ?_)) (by repeat (first | exact Part.refl _ | refine Part.pull (by repeat (first | exact Pull.here | apply Pull.there)) ?_ | refine Part.skip _ ?_ | exact Part.nil _ | exact Part.app _ _ | exact Part.appL _ _ | refine Part.appR _ ?_))
theorem has_spec (s : ByteArray) (hs : s.size < 4611686018427387904) : HPure Tryd.prog 96 [.str s, .fn (.func 138) [] []] (.bool (!partOk s)) := by
 intro L T
 refine HCalls.enterG q_f_96 rfl ?_
 refine HWp.frame (r' := ⟨9, [(0, .str s), (1, .fn (.func 138) [] [])]⟩) rfl ?_
 refine HWp.seq ?_
 refine HWp.text (.rd 0 .done) rfl ?_
 refine HPlan.assign rfl rfl rfl ?_
 refine HPlan.fin ?_
 refine onNorm_n ?_
 refine HWp.seq ?_
 refine HWp.text (.rd 0 (.rd 1 (.act 2 [] (.rd 3 (.rd 4 .done))))) rfl ?_
 refine HPlan.move rfl rfl rfl ?_
 refine HPlan.move rfl rfl rfl ?_
 refine HPlan.callS rfl rfl rfl q_en_126 (idxf2_spec s hs L T) (List.Perm.refl _) (List.Perm.refl _) ?_
 rintro r_R1_2 L_R1_2 T1 ⟨n, rfl, hn, rfl, rfl⟩
 refine ⟨keptH_nil, ?_⟩
 refine HPlan.intBin rfl rfl rfl rfl rfl rfl ?_
 refine HPlan.assign rfl rfl rfl ?_
 refine HPlan.fin ?_
 refine onNorm_n ?_
 refine HWp.ret ?_
 refine retQ_r (.tmp rfl .nil) ?_
 refine endK_of ⟨?_, rfl, rfl⟩ (by repeat (first | exact Part.refl _ | refine Part.pull (by repeat (first | exact Pull.here | apply Pull.there)) ?_ | refine Part.skip _ ?_ | exact Part.nil _ | exact Part.app _ _ | exact Part.appL _ _ | refine Part.appR _ ?_)) (by repeat (first | exact Part.refl _ | refine Part.pull (by repeat (first | exact Pull.here | apply Pull.there)) ?_ | refine Part.skip _ ?_ | exact Part.nil _ | exact Part.app _ _ | exact Part.appL _ _ | refine Part.appR _ ?_))
 refine congrArg LV.bool ?_
 rw [Bool.eq_iff_iff, decide_eq_true_eq]
 refine hn.trans ?_
 simp
end Go.Proofs.YthfoobfgdakbmaaDoor

set_option linter.unusedVariables false
set_option linter.unusedSimpArgs false
set_option maxRecDepth 100000
namespace Go.Proofs.YthfoobfgdakbmaaDoor
open Go Go.RowKit Go.L
theorem q_en_96 : enterable Tryd.prog 96 = true := by kernel_rfl
theorem q_f_117 : Tryd.prog.funcs[117]? = some Tryd.f117 := by kernel_rfl
theorem q_f_57 : Tryd.prog.funcs[57]? = some Tryd.f57 := by kernel_rfl

def letterF (b : UInt8) : Bool := decide ((97 ≤ (b.toNat : Int) ∧ (b.toNat : Int) ≤ 122) ∨ (65 ≤ (b.toNat : Int) ∧ (b.toNat : Int) ≤ 90) ∨ (48 ≤ (b.toNat : Int) ∧ (b.toNat : Int) ≤ 57))
def partG (s : ByteArray) : Prop := s ≠ ⟨#[]⟩ ∧ s.size ≤ 64 ∧ s ≠ ⟨#[46]⟩ ∧ s ≠ ⟨#[46, 46]⟩
def partF (s : ByteArray) : Bool := decide (partOk s = true ∧ s ≠ ⟨#[]⟩ ∧ s.size ≤ 64 ∧ s ≠ ⟨#[46]⟩ ∧ s ≠ ⟨#[46, 46]⟩)

theorem part_spec (s : ByteArray) : HPure Tryd.prog 117 [.str s] (.bool (partF s)) := by
 intro L T
 refine HCalls.enterG q_f_117 rfl ?_
 refine HWp.frame (r' := ⟨23, [(0, .str s)]⟩) rfl ?_
 refine HWp.seq ?_
 refine HWp.text (.rd 0 .done) rfl ?_
 refine HPlan.assign rfl rfl rfl ?_
 refine HPlan.fin ?_
 refine onNorm_n ?_
 refine HWp.seq ?_
 refine HWp.text (.rd 0 (.rd 1 (.rd 2 (.rd 3 (.rd 4 (.rd 5 (.rd 6 (.rd 7 (.rd 8 (.rd 9 (.rd 10 (.rd 11 (.rd 12 (.rd 13 (.rd 14 (.rd 15 (.rd 16 (.act 17 [] (.rd 18 (.rd 19 (.rd 20 .done))))))))))))))))))))) rfl ?_
 refine HPlan.move rfl rfl rfl ?_
 refine HPlan.strBin rfl rfl rfl rfl trivial rfl ?_
 refine HPlan.move rfl rfl rfl ?_
 refine HPlan.split ?_ ?_
 ·
  intro hb1_2
  first
  | exact PrN hb1_2
  | ((try simp only [Pr] at hb1_2); exfalso; omega)
  | (try simp only [Pr] at hb1_2)
    refine HPlan.move rfl rfl rfl ?_
    refine HPlan.lenStr rfl rfl rfl q_tk_9 rfl ?_
    refine HPlan.intBin rfl rfl rfl rfl rfl rfl ?_
    refine HPlan.pickT rfl rfl rfl rfl ?_
    refine HPlan.move rfl rfl rfl ?_
    refine HPlan.split ?_ ?_
    ·
     intro hb1_7
     first
     | exact PrN hb1_7
     | ((try simp only [Pr] at hb1_7); exfalso; omega)
     | (try simp only [Pr] at hb1_7)
       refine HPlan.move rfl rfl rfl ?_
       refine HPlan.strBin rfl rfl rfl rfl trivial rfl ?_
       refine HPlan.pickT rfl rfl rfl rfl ?_
       refine HPlan.move rfl rfl rfl ?_
       refine HPlan.split ?_ ?_
       ·
        intro hb1_11
        first
        | exact PrN hb1_11
        | ((try simp only [Pr] at hb1_11); exfalso; omega)
        | (try simp only [Pr] at hb1_11)
          refine HPlan.move rfl rfl rfl ?_
          refine HPlan.strBin rfl rfl rfl rfl trivial rfl ?_
          refine HPlan.pickT rfl rfl rfl rfl ?_
          refine HPlan.move rfl rfl rfl ?_
          refine HPlan.split ?_ ?_
          ·
           intro hb1_15
           first
           | exact PrN hb1_15
           | ((try simp only [Pr] at hb1_15); exfalso; omega)
           | (try simp only [Pr] at hb1_15)
             refine HPlan.move rfl rfl rfl ?_
             refine HPlan.callPure rfl rfl rfl q_en_96 (has_spec s (by omega)) keptH_nil ?_
             refine HPlan.not rfl rfl rfl rfl ?_
             refine HPlan.pickT rfl rfl rfl rfl ?_
             refine HPlan.assign rfl rfl rfl ?_
             refine HPlan.fin ?_
             refine onNorm_n ?_
             refine HWp.ret ?_
             refine retQ_r (.tmp rfl .nil) ?_
             refine endK_of ⟨?_, rfl, rfl⟩ (by repeat (first | exact Part.refl _ | refine Part.pull (by repeat (first | exact Pull.here | apply Pull.there)) ?_ | refine Part.skip _ ?_ | exact Part.nil _ | exact Part.app _ _ | exact Part.appL _ _ | refine Part.appR _ ?_)) (by repeat (first | exact Part.refl _ | refine Part.pull (by repeat (first | exact Pull.here | apply Pull.there)) ?_ | refine Part.skip _ ?_ | exact Part.nil _ | exact Part.app _ _ | exact Part.appL _ _ | refine Part.appR _ ?_))
             refine congrArg LV.bool ?_
             unfold partF
             rw [Bool.eq_iff_iff, decide_eq_true_eq]
             first
             | (simp only [Bool.false_eq_true, false_iff]; rintro ⟨h1, h2, h3, h4, h5⟩; first | contradiction | omega)
             | (simp only [Bool.not_not]; exact ⟨fun h => ⟨h, by assumption, by omega, by assumption, by assumption⟩, fun h => h.1⟩)
          ·
           intro hb1_15
           first
           | exact PrN hb1_15
           | ((try simp only [Pr] at hb1_15); exfalso; omega)
           | (try simp only [Pr] at hb1_15)
             refine HPlan.leftR rfl rfl ?_
             refine HPlan.leftA rfl rfl ?_
             refine HPlan.leftR rfl rfl ?_
             refine HPlan.pickF rfl rfl rfl rfl ?_
             refine HPlan.assign rfl rfl rfl ?_
             refine HPlan.fin ?_
             refine onNorm_n ?_
             refine HWp.ret ?_
             refine retQ_r (.tmp rfl .nil) ?_
             refine endK_of ⟨?_, rfl, rfl⟩ (by repeat (first | exact Part.refl _ | refine Part.pull (by repeat (first | exact Pull.here | apply Pull.there)) ?_ | refine Part.skip _ ?_ | exact Part.nil _ | exact Part.app _ _ | exact Part.appL _ _ | refine Part.appR _ ?_)) (by repeat (first | exact Part.refl _ | refine Part.pull (by repeat (first | exact Pull.here | apply Pull.there)) ?_ | refine Part.skip _ ?_ | exact Part.nil _ | exact Part.app _ _ | exact Part.appL _ _ | refine Part.appR _ ?_))
             refine congrArg LV.bool ?_
             unfold partF
             rw [Bool.eq_iff_iff, decide_eq_true_eq]
             first
             | (simp only [Bool.false_eq_true, false_iff]; rintro ⟨h1, h2, h3, h4, h5⟩; first | contradiction | omega)
             | (simp only [Bool.not_not]; exact ⟨fun h => ⟨h, by assumption, by omega, by assumption, by assumption⟩, fun h => h.1⟩)
       ·
        intro hb1_11
        first
        | exact PrN hb1_11
        | ((try simp only [Pr] at hb1_11); exfalso; omega)
        | (try simp only [Pr] at hb1_11)
          refine HPlan.leftR rfl rfl ?_
          refine HPlan.leftR rfl rfl ?_
          refine HPlan.pickF rfl rfl rfl rfl ?_
          refine HPlan.move rfl rfl rfl ?_
          refine HPlan.leftR rfl rfl ?_
          refine HPlan.leftA rfl rfl ?_
          refine HPlan.leftR rfl rfl ?_
          refine HPlan.pickF rfl rfl rfl rfl ?_
          refine HPlan.assign rfl rfl rfl ?_
          refine HPlan.fin ?_
          refine onNorm_n ?_
          refine HWp.ret ?_
          refine retQ_r (.tmp rfl .nil) ?_
          refine endK_of ⟨?_, rfl, rfl⟩ (by repeat (first | exact Part.refl _ | refine Part.pull (by repeat (first | exact Pull.here | apply Pull.there)) ?_ | refine Part.skip _ ?_ | exact Part.nil _ | exact Part.app _ _ | exact Part.appL _ _ | refine Part.appR _ ?_)) (by repeat (first | exact Part.refl _ | refine Part.pull (by repeat (first | exact Pull.here | apply Pull.there)) ?_ | refine Part.skip _ ?_ | exact Part.nil _ | exact Part.app _ _ | exact Part.appL _ _ | refine Part.appR _ ?_))
          refine congrArg LV.bool ?_
          unfold partF
          rw [Bool.eq_iff_iff, decide_eq_true_eq]
          first
          | (simp only [Bool.false_eq_true, false_iff]; rintro ⟨h1, h2, h3, h4, h5⟩; first | contradiction | omega)
          | (simp only [Bool.not_not]; exact ⟨fun h => ⟨h, by assumption, by omega, by assumption, by assumption⟩, fun h => h.1⟩)
    ·
     intro hb1_7
     first
     | exact PrN hb1_7
     | ((try simp only [Pr] at hb1_7); exfalso; omega)
     | (try simp only [Pr] at hb1_7)
       refine HPlan.leftR rfl rfl ?_
       refine HPlan.leftR rfl rfl ?_
       refine HPlan.pickF rfl rfl rfl rfl ?_
       refine HPlan.move rfl rfl rfl ?_
       refine HPlan.leftR rfl rfl ?_
       refine HPlan.leftR rfl rfl ?_
       refine HPlan.pickF rfl rfl rfl rfl ?_
       refine HPlan.move rfl rfl rfl ?_
       refine HPlan.leftR rfl rfl ?_
       refine HPlan.leftA rfl rfl ?_
       refine HPlan.leftR rfl rfl ?_
       refine HPlan.pickF rfl rfl rfl rfl ?_
       refine HPlan.assign rfl rfl rfl ?_
       refine HPlan.fin ?_
       refine onNorm_n ?_
       refine HWp.ret ?_
       refine retQ_r (.tmp rfl .nil) ?_
       refine endK_of ⟨?_, rfl, rfl⟩ (by repeat (first | exact Part.refl _ | refine Part.pull (by repeat (first | exact Pull.here | apply Pull.there)) ?_ | refine Part.skip _ ?_ | exact Part.nil _ | exact Part.app _ _ | exact Part.appL _ _ | refine Part.appR _ ?_)) (by repeat (first | exact Part.refl _ | refine Part.pull (by repeat (first | exact Pull.here | apply Pull.there)) ?_ | refine Part.skip _ ?_ | exact Part.nil _ | exact Part.app _ _ | exact Part.appL _ _ | refine Part.appR _ ?_))
       refine congrArg LV.bool ?_
       unfold partF
       rw [Bool.eq_iff_iff, decide_eq_true_eq]
       first
       | (simp only [Bool.false_eq_true, false_iff]; rintro ⟨h1, h2, h3, h4, h5⟩; first | contradiction | omega)
       | (simp only [Bool.not_not]; exact ⟨fun h => ⟨h, by assumption, by omega, by assumption, by assumption⟩, fun h => h.1⟩)
 ·
  intro hb1_2
  first
  | exact PrN hb1_2
  | ((try simp only [Pr] at hb1_2); exfalso; omega)
  | (try simp only [Pr] at hb1_2)
    refine HPlan.leftR rfl rfl ?_
    refine HPlan.leftR rfl rfl ?_
    refine HPlan.leftR rfl rfl ?_
    refine HPlan.pickF rfl rfl rfl rfl ?_
    refine HPlan.move rfl rfl rfl ?_
    refine HPlan.leftR rfl rfl ?_
    refine HPlan.leftR rfl rfl ?_
    refine HPlan.pickF rfl rfl rfl rfl ?_
    refine HPlan.move rfl rfl rfl ?_
    refine HPlan.leftR rfl rfl ?_
    refine HPlan.leftR rfl rfl ?_
    refine HPlan.pickF rfl rfl rfl rfl ?_
    refine HPlan.move rfl rfl rfl ?_
    refine HPlan.leftR rfl rfl ?_
    refine HPlan.leftA rfl rfl ?_
    refine HPlan.leftR rfl rfl ?_
    refine HPlan.pickF rfl rfl rfl rfl ?_
    refine HPlan.assign rfl rfl rfl ?_
    refine HPlan.fin ?_
    refine onNorm_n ?_
    refine HWp.ret ?_
    refine retQ_r (.tmp rfl .nil) ?_
    refine endK_of ⟨?_, rfl, rfl⟩ (by repeat (first | exact Part.refl _ | refine Part.pull (by repeat (first | exact Pull.here | apply Pull.there)) ?_ | refine Part.skip _ ?_ | exact Part.nil _ | exact Part.app _ _ | exact Part.appL _ _ | refine Part.appR _ ?_)) (by repeat (first | exact Part.refl _ | refine Part.pull (by repeat (first | exact Pull.here | apply Pull.there)) ?_ | refine Part.skip _ ?_ | exact Part.nil _ | exact Part.app _ _ | exact Part.appL _ _ | refine Part.appR _ ?_))
    refine congrArg LV.bool ?_
    unfold partF
    rw [Bool.eq_iff_iff, decide_eq_true_eq]
    first
    | (simp only [Bool.false_eq_true, false_iff]; rintro ⟨h1, h2, h3, h4, h5⟩; first | contradiction | omega)
    | (simp only [Bool.not_not]; exact ⟨fun h => ⟨h, by assumption, by omega, by assumption, by assumption⟩, fun h => h.1⟩)
theorem rpart_spec (s : ByteArray) : HPure Tryd.prog 57 [.str s] (.bool (partF s)) := by
 intro L T
 refine HCalls.enterG q_f_57 rfl ?_
 refine HWp.frame (r' := ⟨70, [(0, .str s)]⟩) rfl ?_
 refine HWp.seq ?_
 refine HWp.text (.rd 0 .done) rfl ?_
 refine HPlan.assign rfl rfl rfl ?_
 refine HPlan.fin ?_
 refine onNorm_n ?_
 refine HWp.seq ?_
 refine HWp.seq ?_
 refine HWp.text (.rd 0 (.rd 1 (.rd 2 (.rd 3 (.rd 4 (.rd 5 (.rd 6 (.rd 7 (.rd 8 (.rd 9 (.rd 10 (.rd 11 (.rd 12 (.rd 13 (.rd 14 .done))))))))))))))) rfl ?_
 refine HPlan.move rfl rfl rfl ?_
 refine HPlan.strBin rfl rfl rfl rfl trivial rfl ?_
 refine HPlan.move rfl rfl rfl ?_
 refine HPlan.split ?_ ?_
 ·
  intro hb1_2
  first
  | exact PrN hb1_2
  | ((try simp only [Pr] at hb1_2); exfalso; omega)
  | (try simp only [Pr] at hb1_2)
    refine HPlan.leftR rfl rfl ?_
    refine HPlan.leftR rfl rfl ?_
    refine HPlan.pickT rfl rfl rfl rfl ?_
    refine HPlan.move rfl rfl rfl ?_
    refine HPlan.leftR rfl rfl ?_
    refine HPlan.leftR rfl rfl ?_
    refine HPlan.pickT rfl rfl rfl rfl ?_
    refine HPlan.move rfl rfl rfl ?_
    refine HPlan.leftR rfl rfl ?_
    refine HPlan.leftR rfl rfl ?_
    refine HPlan.leftR rfl rfl ?_
    refine HPlan.pickT rfl rfl rfl rfl ?_
    refine HPlan.fin ?_
    refine onNorm_n ?_
    refine HWp.cond_t rfl ?_
    refine HWp.seq ?_
    refine HWp.text (.rd 0 .done) rfl ?_
    refine HPlan.assign rfl rfl rfl ?_
    refine HPlan.fin ?_
    refine onNorm_n ?_
    refine HWp.ret ?_
    refine onNorm_r ?_
    refine retQ_r (.tmp rfl .nil) ?_
    refine endK_of ⟨?_, rfl, rfl⟩ (by repeat (first | exact Part.refl _ | refine Part.pull (by repeat (first | exact Pull.here | apply Pull.there)) ?_ | refine Part.skip _ ?_ | exact Part.nil _ | exact Part.app _ _ | exact Part.appL _ _ | refine Part.appR _ ?_)) (by repeat (first | exact Part.refl _ | refine Part.pull (by repeat (first | exact Pull.here | apply Pull.there)) ?_ | refine Part.skip _ ?_ | exact Part.nil _ | exact Part.app _ _ | exact Part.appL _ _ | refine Part.appR _ ?_))
    refine congrArg LV.bool ?_
    unfold partF
    rw [Bool.eq_iff_iff, decide_eq_true_eq]
    first
    | (simp only [Bool.false_eq_true, false_iff]; rintro ⟨h1, h2, h3, h4, h5⟩; first | contradiction | omega)
    | (simp only [true_iff, Bool.true_eq]; exact ⟨part_all fun i h => hall i h (by omega), by assumption, by omega, by assumption, by assumption⟩)
    | (simp only [Bool.false_eq_true, false_iff]; rintro ⟨h1, h2, h3, h4, h5⟩; rw [hsn (by simp only [signF, letterF, decide_eq_true_eq, decide_eq_false_iff_not] at *; omega)] at h1; cases h1)
 ·
  intro hb1_2
  first
  | exact PrN hb1_2
  | ((try simp only [Pr] at hb1_2); exfalso; omega)
  | (try simp only [Pr] at hb1_2)
    refine HPlan.move rfl rfl rfl ?_
    refine HPlan.strBin rfl rfl rfl rfl trivial rfl ?_
    refine HPlan.pickF rfl rfl rfl rfl ?_
    refine HPlan.move rfl rfl rfl ?_
    refine HPlan.split ?_ ?_
    ·
     intro hb1_6
     first
     | exact PrN hb1_6
     | ((try simp only [Pr] at hb1_6); exfalso; omega)
     | (try simp only [Pr] at hb1_6)
       refine HPlan.leftR rfl rfl ?_
       refine HPlan.leftR rfl rfl ?_
       refine HPlan.pickT rfl rfl rfl rfl ?_
       refine HPlan.move rfl rfl rfl ?_
       refine HPlan.leftR rfl rfl ?_
       refine HPlan.leftR rfl rfl ?_
       refine HPlan.leftR rfl rfl ?_
       refine HPlan.pickT rfl rfl rfl rfl ?_
       refine HPlan.fin ?_
       refine onNorm_n ?_
       refine HWp.cond_t rfl ?_
       refine HWp.seq ?_
       refine HWp.text (.rd 0 .done) rfl ?_
       refine HPlan.assign rfl rfl rfl ?_
       refine HPlan.fin ?_
       refine onNorm_n ?_
       refine HWp.ret ?_
       refine onNorm_r ?_
       refine retQ_r (.tmp rfl .nil) ?_
       refine endK_of ⟨?_, rfl, rfl⟩ (by repeat (first | exact Part.refl _ | refine Part.pull (by repeat (first | exact Pull.here | apply Pull.there)) ?_ | refine Part.skip _ ?_ | exact Part.nil _ | exact Part.app _ _ | exact Part.appL _ _ | refine Part.appR _ ?_)) (by repeat (first | exact Part.refl _ | refine Part.pull (by repeat (first | exact Pull.here | apply Pull.there)) ?_ | refine Part.skip _ ?_ | exact Part.nil _ | exact Part.app _ _ | exact Part.appL _ _ | refine Part.appR _ ?_))
       refine congrArg LV.bool ?_
       unfold partF
       rw [Bool.eq_iff_iff, decide_eq_true_eq]
       first
       | (simp only [Bool.false_eq_true, false_iff]; rintro ⟨h1, h2, h3, h4, h5⟩; first | contradiction | omega)
       | (simp only [true_iff, Bool.true_eq]; exact ⟨part_all fun i h => hall i h (by omega), by assumption, by omega, by assumption, by assumption⟩)
       | (simp only [Bool.false_eq_true, false_iff]; rintro ⟨h1, h2, h3, h4, h5⟩; rw [hsn (by simp only [signF, letterF, decide_eq_true_eq, decide_eq_false_iff_not] at *; omega)] at h1; cases h1)
    ·
     intro hb1_6
     first
     | exact PrN hb1_6
     | ((try simp only [Pr] at hb1_6); exfalso; omega)
     | (try simp only [Pr] at hb1_6)
       refine HPlan.move rfl rfl rfl ?_
       refine HPlan.strBin rfl rfl rfl rfl trivial rfl ?_
       refine HPlan.pickF rfl rfl rfl rfl ?_
       refine HPlan.move rfl rfl rfl ?_
       refine HPlan.split ?_ ?_
       ·
        intro hb1_10
        first
        | exact PrN hb1_10
        | ((try simp only [Pr] at hb1_10); exfalso; omega)
        | (try simp only [Pr] at hb1_10)
          refine HPlan.leftR rfl rfl ?_
          refine HPlan.leftR rfl rfl ?_
          refine HPlan.leftR rfl rfl ?_
          refine HPlan.pickT rfl rfl rfl rfl ?_
          refine HPlan.fin ?_
          refine onNorm_n ?_
          refine HWp.cond_t rfl ?_
          refine HWp.seq ?_
          refine HWp.text (.rd 0 .done) rfl ?_
          refine HPlan.assign rfl rfl rfl ?_
          refine HPlan.fin ?_
          refine onNorm_n ?_
          refine HWp.ret ?_
          refine onNorm_r ?_
          refine retQ_r (.tmp rfl .nil) ?_
          refine endK_of ⟨?_, rfl, rfl⟩ (by repeat (first | exact Part.refl _ | refine Part.pull (by repeat (first | exact Pull.here | apply Pull.there)) ?_ | refine Part.skip _ ?_ | exact Part.nil _ | exact Part.app _ _ | exact Part.appL _ _ | refine Part.appR _ ?_)) (by repeat (first | exact Part.refl _ | refine Part.pull (by repeat (first | exact Pull.here | apply Pull.there)) ?_ | refine Part.skip _ ?_ | exact Part.nil _ | exact Part.app _ _ | exact Part.appL _ _ | refine Part.appR _ ?_))
          refine congrArg LV.bool ?_
          unfold partF
          rw [Bool.eq_iff_iff, decide_eq_true_eq]
          first
          | (simp only [Bool.false_eq_true, false_iff]; rintro ⟨h1, h2, h3, h4, h5⟩; first | contradiction | omega)
          | (simp only [true_iff, Bool.true_eq]; exact ⟨part_all fun i h => hall i h (by omega), by assumption, by omega, by assumption, by assumption⟩)
          | (simp only [Bool.false_eq_true, false_iff]; rintro ⟨h1, h2, h3, h4, h5⟩; rw [hsn (by simp only [signF, letterF, decide_eq_true_eq, decide_eq_false_iff_not] at *; omega)] at h1; cases h1)
       ·
        intro hb1_10
        first
        | exact PrN hb1_10
        | ((try simp only [Pr] at hb1_10); exfalso; omega)
        | (try simp only [Pr] at hb1_10)
          refine HPlan.move rfl rfl rfl ?_
          refine HPlan.lenStr rfl rfl rfl q_tk_9 rfl ?_
          refine HPlan.intBin rfl rfl rfl rfl rfl rfl ?_
          refine HPlan.pickF rfl rfl rfl rfl ?_
          refine HPlan.fin ?_
          refine onNorm_n ?_
          refine HWp.cond rfl ?_ ?_
          ·
           intro hc20
           first
           | exact PrN hc20
           | ((try simp only [Pr] at hc20); exfalso; omega)
           | (try simp only [Pr] at hc20)
             refine HWp.seq ?_
             refine HWp.text (.rd 0 .done) rfl ?_
             refine HPlan.assign rfl rfl rfl ?_
             refine HPlan.fin ?_
             refine onNorm_n ?_
             refine HWp.ret ?_
             refine onNorm_r ?_
             refine retQ_r (.tmp rfl .nil) ?_
             refine endK_of ⟨?_, rfl, rfl⟩ (by repeat (first | exact Part.refl _ | refine Part.pull (by repeat (first | exact Pull.here | apply Pull.there)) ?_ | refine Part.skip _ ?_ | exact Part.nil _ | exact Part.app _ _ | exact Part.appL _ _ | refine Part.appR _ ?_)) (by repeat (first | exact Part.refl _ | refine Part.pull (by repeat (first | exact Pull.here | apply Pull.there)) ?_ | refine Part.skip _ ?_ | exact Part.nil _ | exact Part.app _ _ | exact Part.appL _ _ | refine Part.appR _ ?_))
             refine congrArg LV.bool ?_
             unfold partF
             rw [Bool.eq_iff_iff, decide_eq_true_eq]
             first
             | (simp only [Bool.false_eq_true, false_iff]; rintro ⟨h1, h2, h3, h4, h5⟩; first | contradiction | omega)
             | (simp only [true_iff, Bool.true_eq]; exact ⟨part_all fun i h => hall i h (by omega), by assumption, by omega, by assumption, by assumption⟩)
             | (simp only [Bool.false_eq_true, false_iff]; rintro ⟨h1, h2, h3, h4, h5⟩; rw [hsn (by simp only [signF, letterF, decide_eq_true_eq, decide_eq_false_iff_not] at *; omega)] at h1; cases h1)
          ·
           intro hc20
           first
           | exact PrN hc20
           | ((try simp only [Pr] at hc20); exfalso; omega)
           | (try simp only [Pr] at hc20)
             refine HWp.skip ?_
             refine onNorm_n ?_
             refine HWp.seq ?_
             refine HWp.seq ?_
             refine HWp.text (.rd 0 .done) rfl ?_
             refine HPlan.assign rfl rfl rfl ?_
             refine HPlan.fin ?_
             refine onNorm_n ?_
             refine HWp.block ?_
             refine HWp.loopF (α := Nat) (fun k => s.size - k) (fun k => k ≤ s.size ∧ ∀ i (h : i < s.size), i < k → signF ((s[i]'h).toNat : Int) = true) (fun k => ⟨70, [(0, .str s), (3, .int .i64 (k : Int))]⟩) (fun k => L) (fun k => T) ?_ ?_
             ·
              refine ⟨0, ⟨Nat.zero_le _, fun i _ h => absurd h (Nat.not_lt_zero _)⟩, (LessE.less (by repeat (first | exact LessE.nil | refine LessE.same rfl ?_ | refine LessE.own rfl ?_ | refine LessE.eq rfl ?_ (by first | rfl | (congr 1; omega) | simp))) rfl), (by repeat (first | exact Part.refl _ | refine Part.pull (by repeat (first | exact Pull.here | apply Pull.there)) ?_ | refine Part.skip _ ?_ | exact Part.nil _ | exact Part.app _ _ | exact Part.appL _ _ | refine Part.appR _ ?_)), (by repeat (first | exact Part.refl _ | refine Part.pull (by repeat (first | exact Pull.here | apply Pull.there)) ?_ | refine Part.skip _ ?_ | exact Part.nil _ | exact Part.app _ _ | exact Part.appL _ _ | refine Part.appR _ ?_))⟩
             ·
              rintro k ⟨hk1, hall⟩
              refine HWp.seq ?_
              refine HWp.seq ?_
              refine HWp.text (.rd 0 (.rd 1 (.rd 2 (.rd 3 .done)))) rfl ?_
              refine HPlan.move rfl rfl rfl ?_
              refine HPlan.move rfl rfl rfl ?_
              refine HPlan.lenStr rfl rfl rfl q_tk_9 rfl ?_
              refine HPlan.intBin rfl rfl rfl rfl rfl rfl ?_
              refine HPlan.fin ?_
              refine onNorm_n ?_
              refine HWp.cond rfl ?_ ?_
              ·
               intro hc24
               first
               | exact PrN hc24
               | ((try simp only [Pr] at hc24); exfalso; omega)
               | (try simp only [Pr] at hc24)
                 refine HWp.skip ?_
                 refine onNorm_n ?_
                 refine HWp.seq ?_
                 refine HWp.block ?_
                 refine HWp.seq ?_
                 refine HWp.text (.rd 0 (.rd 1 (.rd 2 (.rd 3 .done)))) rfl ?_
                 refine HPlan.move rfl rfl rfl ?_
                 refine HPlan.move rfl rfl rfl ?_
                 refine HPlan.indexStr rfl rfl rfl rfl q_st_9 (by omega) (by omega) (by first | exact byte_lv (by omega) | rfl) ?_
                 have hsb : signF ((s[k]'(by omega)).toNat : Int) = true → ∀ i (h : i < s.size), i < k + 1 → signF ((s[i]'h).toNat : Int) = true := fun e i h h1 => (by by_cases e1 : i = k; (subst e1; exact e); exact hall i h (by omega))
                 have hsn : ¬ signF ((s[k]'(by omega)).toNat : Int) = true → partOk s = false := fun e => by
                   apply Classical.byContradiction
                   intro hp
                   rw [Bool.not_eq_false, partOk, List.all_eq_true] at hp
                   exact e (hp _ (byte_mem (by omega)))
                 generalize hb : (s[k]'(by omega)) = b at hsb hsn ⊢
                 have hb256 := b.toNat_lt
                 refine HPlan.assign rfl rfl rfl ?_
                 refine HPlan.fin ?_
                 refine onNorm_n ?_
                 refine HWp.join (α := Bool) (fun z => z = letterF b) (fun z => ⟨70, [(0, .str s), (3, .int .i64 (k : Int)), (4, .int .u8 (b.toNat : Int)), (5, .bool z)]⟩) (fun z => L) (fun z => T) ?_ ?_
                 ·
                  refine HWp.text (.rd 0 (.rd 1 (.rd 2 (.rd 3 (.rd 4 (.rd 5 (.rd 6 (.rd 7 (.rd 8 (.rd 9 (.rd 10 (.rd 11 (.rd 12 (.rd 13 (.rd 14 (.rd 15 (.rd 16 (.rd 17 (.rd 18 (.rd 19 (.rd 20 (.rd 21 (.rd 22 .done))))))))))))))))))))))) rfl ?_
                  refine HPlan.move rfl rfl rfl ?_
                  refine HPlan.intBin rfl rfl rfl rfl rfl rfl ?_
                  refine HPlan.move rfl rfl rfl ?_
                  refine HPlan.split ?_ ?_
                  ·
                   intro hb7_2
                   first
                   | exact PrN hb7_2
                   | ((try simp only [Pr] at hb7_2); exfalso; omega)
                   | (try simp only [Pr] at hb7_2)
                     refine HPlan.move rfl rfl rfl ?_
                     refine HPlan.intBin rfl rfl rfl rfl rfl rfl ?_
                     refine HPlan.pickT rfl rfl rfl rfl ?_
                     refine HPlan.move rfl rfl rfl ?_
                     refine HPlan.split ?_ ?_
                     ·
                      intro hb7_6
                      first
                      | exact PrN hb7_6
                      | ((try simp only [Pr] at hb7_6); exfalso; omega)
                      | (try simp only [Pr] at hb7_6)
                        refine HPlan.leftR rfl rfl ?_
                        refine HPlan.leftR rfl rfl ?_
                        refine HPlan.leftR rfl rfl ?_
                        refine HPlan.leftR rfl rfl ?_
                        refine HPlan.leftR rfl rfl ?_
                        refine HPlan.leftR rfl rfl ?_
                        refine HPlan.pickT rfl rfl rfl rfl ?_
                        refine HPlan.move rfl rfl rfl ?_
                        refine HPlan.leftR rfl rfl ?_
                        refine HPlan.leftR rfl rfl ?_
                        refine HPlan.leftR rfl rfl ?_
                        refine HPlan.leftR rfl rfl ?_
                        refine HPlan.leftR rfl rfl ?_
                        refine HPlan.leftR rfl rfl ?_
                        refine HPlan.pickT rfl rfl rfl rfl ?_
                        refine HPlan.assign rfl rfl rfl ?_
                        refine HPlan.fin ?_
                        refine onNorm_n ?_
                        refine ⟨_, ?_, (LessE.less (by repeat (first | exact LessE.nil | refine LessE.same rfl ?_ | refine LessE.own rfl ?_ | refine LessE.eq rfl ?_ (by first | rfl | (congr 1; omega) | simp))) rfl), (by repeat (first | exact Part.refl _ | refine Part.pull (by repeat (first | exact Pull.here | apply Pull.there)) ?_ | refine Part.skip _ ?_ | exact Part.nil _ | exact Part.app _ _ | exact Part.appL _ _ | refine Part.appR _ ?_)), (by repeat (first | exact Part.refl _ | refine Part.pull (by repeat (first | exact Pull.here | apply Pull.there)) ?_ | refine Part.skip _ ?_ | exact Part.nil _ | exact Part.app _ _ | exact Part.appL _ _ | refine Part.appR _ ?_))⟩
                        unfold letterF
                        rw [Bool.eq_iff_iff]
                        simp only [decide_eq_true_eq, true_iff, false_iff, Bool.true_eq, Bool.false_eq_true]
                        omega
                     ·
                      intro hb7_6
                      first
                      | exact PrN hb7_6
                      | ((try simp only [Pr] at hb7_6); exfalso; omega)
                      | (try simp only [Pr] at hb7_6)
                        refine HPlan.move rfl rfl rfl ?_
                        refine HPlan.intBin rfl rfl rfl rfl rfl rfl ?_
                        refine HPlan.move rfl rfl rfl ?_
                        refine HPlan.split ?_ ?_
                        ·
                         intro hb7_9
                         first
                         | exact PrN hb7_9
                         | ((try simp only [Pr] at hb7_9); exfalso; omega)
                         | (try simp only [Pr] at hb7_9)
                           refine HPlan.move rfl rfl rfl ?_
                           refine HPlan.intBin rfl rfl rfl rfl rfl rfl ?_
                           refine HPlan.pickT rfl rfl rfl rfl ?_
                           refine HPlan.pickF rfl rfl rfl rfl ?_
                           refine HPlan.move rfl rfl rfl ?_
                           refine HPlan.split ?_ ?_
                           ·
                            intro hb7_14
                            first
                            | exact PrN hb7_14
                            | ((try simp only [Pr] at hb7_14); exfalso; omega)
                            | (try simp only [Pr] at hb7_14)
                              refine HPlan.leftR rfl rfl ?_
                              refine HPlan.leftR rfl rfl ?_
                              refine HPlan.leftR rfl rfl ?_
                              refine HPlan.leftR rfl rfl ?_
                              refine HPlan.leftR rfl rfl ?_
                              refine HPlan.leftR rfl rfl ?_
                              refine HPlan.pickT rfl rfl rfl rfl ?_
                              refine HPlan.assign rfl rfl rfl ?_
                              refine HPlan.fin ?_
                              refine onNorm_n ?_
                              refine ⟨_, ?_, (LessE.less (by repeat (first | exact LessE.nil | refine LessE.same rfl ?_ | refine LessE.own rfl ?_ | refine LessE.eq rfl ?_ (by first | rfl | (congr 1; omega) | simp))) rfl), (by repeat (first | exact Part.refl _ | refine Part.pull (by repeat (first | exact Pull.here | apply Pull.there)) ?_ | refine Part.skip _ ?_ | exact Part.nil _ | exact Part.app _ _ | exact Part.appL _ _ | refine Part.appR _ ?_)), (by repeat (first | exact Part.refl _ | refine Part.pull (by repeat (first | exact Pull.here | apply Pull.there)) ?_ | refine Part.skip _ ?_ | exact Part.nil _ | exact Part.app _ _ | exact Part.appL _ _ | refine Part.appR _ ?_))⟩
                              unfold letterF
                              rw [Bool.eq_iff_iff]
                              simp only [decide_eq_true_eq, true_iff, false_iff, Bool.true_eq, Bool.false_eq_true]
                              omega
                           ·
                            intro hb7_14
                            first
                            | exact PrN hb7_14
                            | ((try simp only [Pr] at hb7_14); exfalso; omega)
                            | (try simp only [Pr] at hb7_14)
                              refine HPlan.move rfl rfl rfl ?_
                              refine HPlan.intBin rfl rfl rfl rfl rfl rfl ?_
                              refine HPlan.move rfl rfl rfl ?_
                              refine HPlan.split ?_ ?_
                              ·
                               intro hb7_17
                               first
                               | exact PrN hb7_17
                               | ((try simp only [Pr] at hb7_17); exfalso; omega)
                               | (try simp only [Pr] at hb7_17)
                                 refine HPlan.move rfl rfl rfl ?_
                                 refine HPlan.intBin rfl rfl rfl rfl rfl rfl ?_
                                 refine HPlan.pickT rfl rfl rfl rfl ?_
                                 refine HPlan.pickF rfl rfl rfl rfl ?_
                                 refine HPlan.assign rfl rfl rfl ?_
                                 refine HPlan.fin ?_
                                 refine onNorm_n ?_
                                 refine ⟨_, ?_, (LessE.less (by repeat (first | exact LessE.nil | refine LessE.same rfl ?_ | refine LessE.own rfl ?_ | refine LessE.eq rfl ?_ (by first | rfl | (congr 1; omega) | simp))) rfl), (by repeat (first | exact Part.refl _ | refine Part.pull (by repeat (first | exact Pull.here | apply Pull.there)) ?_ | refine Part.skip _ ?_ | exact Part.nil _ | exact Part.app _ _ | exact Part.appL _ _ | refine Part.appR _ ?_)), (by repeat (first | exact Part.refl _ | refine Part.pull (by repeat (first | exact Pull.here | apply Pull.there)) ?_ | refine Part.skip _ ?_ | exact Part.nil _ | exact Part.app _ _ | exact Part.appL _ _ | refine Part.appR _ ?_))⟩
                                 unfold letterF
                                 rw [Bool.eq_iff_iff]
                                 simp only [decide_eq_true_eq, true_iff, false_iff, Bool.true_eq, Bool.false_eq_true]
                                 omega
                              ·
                               intro hb7_17
                               first
                               | exact PrN hb7_17
                               | ((try simp only [Pr] at hb7_17); exfalso; omega)
                               | (try simp only [Pr] at hb7_17)
                                 refine HPlan.leftR rfl rfl ?_
                                 refine HPlan.leftR rfl rfl ?_
                                 refine HPlan.pickF rfl rfl rfl rfl ?_
                                 refine HPlan.pickF rfl rfl rfl rfl ?_
                                 refine HPlan.assign rfl rfl rfl ?_
                                 refine HPlan.fin ?_
                                 refine onNorm_n ?_
                                 refine ⟨_, ?_, (LessE.less (by repeat (first | exact LessE.nil | refine LessE.same rfl ?_ | refine LessE.own rfl ?_ | refine LessE.eq rfl ?_ (by first | rfl | (congr 1; omega) | simp))) rfl), (by repeat (first | exact Part.refl _ | refine Part.pull (by repeat (first | exact Pull.here | apply Pull.there)) ?_ | refine Part.skip _ ?_ | exact Part.nil _ | exact Part.app _ _ | exact Part.appL _ _ | refine Part.appR _ ?_)), (by repeat (first | exact Part.refl _ | refine Part.pull (by repeat (first | exact Pull.here | apply Pull.there)) ?_ | refine Part.skip _ ?_ | exact Part.nil _ | exact Part.app _ _ | exact Part.appL _ _ | refine Part.appR _ ?_))⟩
                                 unfold letterF
                                 rw [Bool.eq_iff_iff]
                                 simp only [decide_eq_true_eq, true_iff, false_iff, Bool.true_eq, Bool.false_eq_true]
                                 omega
                        ·
                         intro hb7_9
                         first
                         | exact PrN hb7_9
                         | ((try simp only [Pr] at hb7_9); exfalso; omega)
                         | (try simp only [Pr] at hb7_9)
                           refine HPlan.leftR rfl rfl ?_
                           refine HPlan.leftR rfl rfl ?_
                           refine HPlan.pickF rfl rfl rfl rfl ?_
                           refine HPlan.pickF rfl rfl rfl rfl ?_
                           refine HPlan.move rfl rfl rfl ?_
                           refine HPlan.move rfl rfl rfl ?_
                           refine HPlan.intBin rfl rfl rfl rfl rfl rfl ?_
                           refine HPlan.move rfl rfl rfl ?_
                           refine HPlan.split ?_ ?_
                           ·
                            intro hb7_17
                            first
                            | exact PrN hb7_17
                            | ((try simp only [Pr] at hb7_17); exfalso; omega)
                            | (try simp only [Pr] at hb7_17)
                              refine HPlan.move rfl rfl rfl ?_
                              refine HPlan.intBin rfl rfl rfl rfl rfl rfl ?_
                              refine HPlan.pickT rfl rfl rfl rfl ?_
                              refine HPlan.pickF rfl rfl rfl rfl ?_
                              refine HPlan.assign rfl rfl rfl ?_
                              refine HPlan.fin ?_
                              refine onNorm_n ?_
                              refine ⟨_, ?_, (LessE.less (by repeat (first | exact LessE.nil | refine LessE.same rfl ?_ | refine LessE.own rfl ?_ | refine LessE.eq rfl ?_ (by first | rfl | (congr 1; omega) | simp))) rfl), (by repeat (first | exact Part.refl _ | refine Part.pull (by repeat (first | exact Pull.here | apply Pull.there)) ?_ | refine Part.skip _ ?_ | exact Part.nil _ | exact Part.app _ _ | exact Part.appL _ _ | refine Part.appR _ ?_)), (by repeat (first | exact Part.refl _ | refine Part.pull (by repeat (first | exact Pull.here | apply Pull.there)) ?_ | refine Part.skip _ ?_ | exact Part.nil _ | exact Part.app _ _ | exact Part.appL _ _ | refine Part.appR _ ?_))⟩
                              unfold letterF
                              rw [Bool.eq_iff_iff]
                              simp only [decide_eq_true_eq, true_iff, false_iff, Bool.true_eq, Bool.false_eq_true]
                              omega
                           ·
                            intro hb7_17
                            first
                            | exact PrN hb7_17
                            | ((try simp only [Pr] at hb7_17); exfalso; omega)
                            | (try simp only [Pr] at hb7_17)
                              refine HPlan.leftR rfl rfl ?_
                              refine HPlan.leftR rfl rfl ?_
                              refine HPlan.pickF rfl rfl rfl rfl ?_
                              refine HPlan.pickF rfl rfl rfl rfl ?_
                              refine HPlan.assign rfl rfl rfl ?_
                              refine HPlan.fin ?_
                              refine onNorm_n ?_
                              refine ⟨_, ?_, (LessE.less (by repeat (first | exact LessE.nil | refine LessE.same rfl ?_ | refine LessE.own rfl ?_ | refine LessE.eq rfl ?_ (by first | rfl | (congr 1; omega) | simp))) rfl), (by repeat (first | exact Part.refl _ | refine Part.pull (by repeat (first | exact Pull.here | apply Pull.there)) ?_ | refine Part.skip _ ?_ | exact Part.nil _ | exact Part.app _ _ | exact Part.appL _ _ | refine Part.appR _ ?_)), (by repeat (first | exact Part.refl _ | refine Part.pull (by repeat (first | exact Pull.here | apply Pull.there)) ?_ | refine Part.skip _ ?_ | exact Part.nil _ | exact Part.app _ _ | exact Part.appL _ _ | refine Part.appR _ ?_))⟩
                              unfold letterF
                              rw [Bool.eq_iff_iff]
                              simp only [decide_eq_true_eq, true_iff, false_iff, Bool.true_eq, Bool.false_eq_true]
                              omega
                  ·
                   intro hb7_2
                   first
                   | exact PrN hb7_2
                   | ((try simp only [Pr] at hb7_2); exfalso; omega)
                   | (try simp only [Pr] at hb7_2)
                     refine HPlan.leftR rfl rfl ?_
                     refine HPlan.leftR rfl rfl ?_
                     refine HPlan.pickF rfl rfl rfl rfl ?_
                     refine HPlan.move rfl rfl rfl ?_
                     refine HPlan.move rfl rfl rfl ?_
                     refine HPlan.intBin rfl rfl rfl rfl rfl rfl ?_
                     refine HPlan.move rfl rfl rfl ?_
                     refine HPlan.split ?_ ?_
                     ·
                      intro hb7_9
                      first
                      | exact PrN hb7_9
                      | ((try simp only [Pr] at hb7_9); exfalso; omega)
                      | (try simp only [Pr] at hb7_9)
                        refine HPlan.move rfl rfl rfl ?_
                        refine HPlan.intBin rfl rfl rfl rfl rfl rfl ?_
                        refine HPlan.pickT rfl rfl rfl rfl ?_
                        refine HPlan.pickF rfl rfl rfl rfl ?_
                        refine HPlan.move rfl rfl rfl ?_
                        refine HPlan.split ?_ ?_
                        ·
                         intro hb7_14
                         first
                         | exact PrN hb7_14
                         | ((try simp only [Pr] at hb7_14); exfalso; omega)
                         | (try simp only [Pr] at hb7_14)
                           refine HPlan.leftR rfl rfl ?_
                           refine HPlan.leftR rfl rfl ?_
                           refine HPlan.leftR rfl rfl ?_
                           refine HPlan.leftR rfl rfl ?_
                           refine HPlan.leftR rfl rfl ?_
                           refine HPlan.leftR rfl rfl ?_
                           refine HPlan.pickT rfl rfl rfl rfl ?_
                           refine HPlan.assign rfl rfl rfl ?_
                           refine HPlan.fin ?_
                           refine onNorm_n ?_
                           refine ⟨_, ?_, (LessE.less (by repeat (first | exact LessE.nil | refine LessE.same rfl ?_ | refine LessE.own rfl ?_ | refine LessE.eq rfl ?_ (by first | rfl | (congr 1; omega) | simp))) rfl), (by repeat (first | exact Part.refl _ | refine Part.pull (by repeat (first | exact Pull.here | apply Pull.there)) ?_ | refine Part.skip _ ?_ | exact Part.nil _ | exact Part.app _ _ | exact Part.appL _ _ | refine Part.appR _ ?_)), (by repeat (first | exact Part.refl _ | refine Part.pull (by repeat (first | exact Pull.here | apply Pull.there)) ?_ | refine Part.skip _ ?_ | exact Part.nil _ | exact Part.app _ _ | exact Part.appL _ _ | refine Part.appR _ ?_))⟩
                           unfold letterF
                           rw [Bool.eq_iff_iff]
                           simp only [decide_eq_true_eq, true_iff, false_iff, Bool.true_eq, Bool.false_eq_true]
                           omega
                        ·
                         intro hb7_14
                         first
                         | exact PrN hb7_14
                         | ((try simp only [Pr] at hb7_14); exfalso; omega)
                         | (try simp only [Pr] at hb7_14)
                           refine HPlan.move rfl rfl rfl ?_
                           refine HPlan.intBin rfl rfl rfl rfl rfl rfl ?_
                           refine HPlan.move rfl rfl rfl ?_
                           refine HPlan.split ?_ ?_
                           ·
                            intro hb7_17
                            first
                            | exact PrN hb7_17
                            | ((try simp only [Pr] at hb7_17); exfalso; omega)
                            | (try simp only [Pr] at hb7_17)
                              refine HPlan.move rfl rfl rfl ?_
                              refine HPlan.intBin rfl rfl rfl rfl rfl rfl ?_
                              refine HPlan.pickT rfl rfl rfl rfl ?_
                              refine HPlan.pickF rfl rfl rfl rfl ?_
                              refine HPlan.assign rfl rfl rfl ?_
                              refine HPlan.fin ?_
                              refine onNorm_n ?_
                              refine ⟨_, ?_, (LessE.less (by repeat (first | exact LessE.nil | refine LessE.same rfl ?_ | refine LessE.own rfl ?_ | refine LessE.eq rfl ?_ (by first | rfl | (congr 1; omega) | simp))) rfl), (by repeat (first | exact Part.refl _ | refine Part.pull (by repeat (first | exact Pull.here | apply Pull.there)) ?_ | refine Part.skip _ ?_ | exact Part.nil _ | exact Part.app _ _ | exact Part.appL _ _ | refine Part.appR _ ?_)), (by repeat (first | exact Part.refl _ | refine Part.pull (by repeat (first | exact Pull.here | apply Pull.there)) ?_ | refine Part.skip _ ?_ | exact Part.nil _ | exact Part.app _ _ | exact Part.appL _ _ | refine Part.appR _ ?_))⟩
                              unfold letterF
                              rw [Bool.eq_iff_iff]
                              simp only [decide_eq_true_eq, true_iff, false_iff, Bool.true_eq, Bool.false_eq_true]
                              omega
                           ·
                            intro hb7_17
                            first
                            | exact PrN hb7_17
                            | ((try simp only [Pr] at hb7_17); exfalso; omega)
                            | (try simp only [Pr] at hb7_17)
                              refine HPlan.leftR rfl rfl ?_
                              refine HPlan.leftR rfl rfl ?_
                              refine HPlan.pickF rfl rfl rfl rfl ?_
                              refine HPlan.pickF rfl rfl rfl rfl ?_
                              refine HPlan.assign rfl rfl rfl ?_
                              refine HPlan.fin ?_
                              refine onNorm_n ?_
                              refine ⟨_, ?_, (LessE.less (by repeat (first | exact LessE.nil | refine LessE.same rfl ?_ | refine LessE.own rfl ?_ | refine LessE.eq rfl ?_ (by first | rfl | (congr 1; omega) | simp))) rfl), (by repeat (first | exact Part.refl _ | refine Part.pull (by repeat (first | exact Pull.here | apply Pull.there)) ?_ | refine Part.skip _ ?_ | exact Part.nil _ | exact Part.app _ _ | exact Part.appL _ _ | refine Part.appR _ ?_)), (by repeat (first | exact Part.refl _ | refine Part.pull (by repeat (first | exact Pull.here | apply Pull.there)) ?_ | refine Part.skip _ ?_ | exact Part.nil _ | exact Part.app _ _ | exact Part.appL _ _ | refine Part.appR _ ?_))⟩
                              unfold letterF
                              rw [Bool.eq_iff_iff]
                              simp only [decide_eq_true_eq, true_iff, false_iff, Bool.true_eq, Bool.false_eq_true]
                              omega
                     ·
                      intro hb7_9
                      first
                      | exact PrN hb7_9
                      | ((try simp only [Pr] at hb7_9); exfalso; omega)
                      | (try simp only [Pr] at hb7_9)
                        refine HPlan.leftR rfl rfl ?_
                        refine HPlan.leftR rfl rfl ?_
                        refine HPlan.pickF rfl rfl rfl rfl ?_
                        refine HPlan.pickF rfl rfl rfl rfl ?_
                        refine HPlan.move rfl rfl rfl ?_
                        refine HPlan.move rfl rfl rfl ?_
                        refine HPlan.intBin rfl rfl rfl rfl rfl rfl ?_
                        refine HPlan.move rfl rfl rfl ?_
                        refine HPlan.split ?_ ?_
                        ·
                         intro hb7_17
                         first
                         | exact PrN hb7_17
                         | ((try simp only [Pr] at hb7_17); exfalso; omega)
                         | (try simp only [Pr] at hb7_17)
                           refine HPlan.move rfl rfl rfl ?_
                           refine HPlan.intBin rfl rfl rfl rfl rfl rfl ?_
                           refine HPlan.pickT rfl rfl rfl rfl ?_
                           refine HPlan.pickF rfl rfl rfl rfl ?_
                           refine HPlan.assign rfl rfl rfl ?_
                           refine HPlan.fin ?_
                           refine onNorm_n ?_
                           refine ⟨_, ?_, (LessE.less (by repeat (first | exact LessE.nil | refine LessE.same rfl ?_ | refine LessE.own rfl ?_ | refine LessE.eq rfl ?_ (by first | rfl | (congr 1; omega) | simp))) rfl), (by repeat (first | exact Part.refl _ | refine Part.pull (by repeat (first | exact Pull.here | apply Pull.there)) ?_ | refine Part.skip _ ?_ | exact Part.nil _ | exact Part.app _ _ | exact Part.appL _ _ | refine Part.appR _ ?_)), (by repeat (first | exact Part.refl _ | refine Part.pull (by repeat (first | exact Pull.here | apply Pull.there)) ?_ | refine Part.skip _ ?_ | exact Part.nil _ | exact Part.app _ _ | exact Part.appL _ _ | refine Part.appR _ ?_))⟩
                           unfold letterF
                           rw [Bool.eq_iff_iff]
                           simp only [decide_eq_true_eq, true_iff, false_iff, Bool.true_eq, Bool.false_eq_true]
                           omega
                        ·
                         intro hb7_17
                         first
                         | exact PrN hb7_17
                         | ((try simp only [Pr] at hb7_17); exfalso; omega)
                         | (try simp only [Pr] at hb7_17)
                           refine HPlan.leftR rfl rfl ?_
                           refine HPlan.leftR rfl rfl ?_
                           refine HPlan.pickF rfl rfl rfl rfl ?_
                           refine HPlan.pickF rfl rfl rfl rfl ?_
                           refine HPlan.assign rfl rfl rfl ?_
                           refine HPlan.fin ?_
                           refine onNorm_n ?_
                           refine ⟨_, ?_, (LessE.less (by repeat (first | exact LessE.nil | refine LessE.same rfl ?_ | refine LessE.own rfl ?_ | refine LessE.eq rfl ?_ (by first | rfl | (congr 1; omega) | simp))) rfl), (by repeat (first | exact Part.refl _ | refine Part.pull (by repeat (first | exact Pull.here | apply Pull.there)) ?_ | refine Part.skip _ ?_ | exact Part.nil _ | exact Part.app _ _ | exact Part.appL _ _ | refine Part.appR _ ?_)), (by repeat (first | exact Part.refl _ | refine Part.pull (by repeat (first | exact Pull.here | apply Pull.there)) ?_ | refine Part.skip _ ?_ | exact Part.nil _ | exact Part.app _ _ | exact Part.appL _ _ | refine Part.appR _ ?_))⟩
                           unfold letterF
                           rw [Bool.eq_iff_iff]
                           simp only [decide_eq_true_eq, true_iff, false_iff, Bool.true_eq, Bool.false_eq_true]
                           omega
                 ·
                  rintro z rfl
                  refine HWp.seq ?_
                  refine HWp.text (.rd 0 (.rd 1 (.rd 2 (.rd 3 (.rd 4 (.rd 5 (.rd 6 (.rd 7 (.rd 8 (.rd 9 (.rd 10 (.rd 11 (.rd 12 (.rd 13 (.rd 14 (.rd 15 (.rd 16 (.rd 17 .done)))))))))))))))))) rfl ?_
                  refine HPlan.move rfl rfl rfl ?_
                  refine HPlan.not rfl rfl rfl rfl ?_
                  refine HPlan.move rfl rfl rfl ?_
                  refine HPlan.split ?_ ?_
                  ·
                   intro hb8_2
                   first
                   | exact PrN hb8_2
                   | ((try simp only [Pr] at hb8_2); exfalso; omega)
                   | (try simp only [Pr] at hb8_2)
                     refine HPlan.move rfl rfl rfl ?_
                     refine HPlan.intBin rfl rfl rfl rfl rfl rfl ?_
                     refine HPlan.pickT rfl rfl rfl rfl ?_
                     refine HPlan.move rfl rfl rfl ?_
                     refine HPlan.split ?_ ?_
                     ·
                      intro hb8_6
                      first
                      | exact PrN hb8_6
                      | ((try simp only [Pr] at hb8_6); exfalso; omega)
                      | (try simp only [Pr] at hb8_6)
                        refine HPlan.move rfl rfl rfl ?_
                        refine HPlan.intBin rfl rfl rfl rfl rfl rfl ?_
                        refine HPlan.pickT rfl rfl rfl rfl ?_
                        refine HPlan.move rfl rfl rfl ?_
                        refine HPlan.split ?_ ?_
                        ·
                         intro hb8_10
                         first
                         | exact PrN hb8_10
                         | ((try simp only [Pr] at hb8_10); exfalso; omega)
                         | (try simp only [Pr] at hb8_10)
                           refine HPlan.move rfl rfl rfl ?_
                           refine HPlan.intBin rfl rfl rfl rfl rfl rfl ?_
                           refine HPlan.pickT rfl rfl rfl rfl ?_
                           refine HPlan.move rfl rfl rfl ?_
                           refine HPlan.split ?_ ?_
                           ·
                            intro hb8_14
                            first
                            | exact PrN hb8_14
                            | ((try simp only [Pr] at hb8_14); exfalso; omega)
                            | (try simp only [Pr] at hb8_14)
                              refine HPlan.move rfl rfl rfl ?_
                              refine HPlan.intBin rfl rfl rfl rfl rfl rfl ?_
                              refine HPlan.pickT rfl rfl rfl rfl ?_
                              refine HPlan.fin ?_
                              refine onNorm_n ?_
                              refine HWp.cond rfl ?_ ?_
                              ·
                               intro hc69
                               first
                               | exact PrN hc69
                               | ((try simp only [Pr] at hc69); exfalso; omega)
                               | (try simp only [Pr] at hc69)
                                 refine HWp.seq ?_
                                 refine HWp.text (.rd 0 .done) rfl ?_
                                 refine HPlan.assign rfl rfl rfl ?_
                                 refine HPlan.fin ?_
                                 refine onNorm_n ?_
                                 refine HWp.ret ?_
                                 refine onExitH_r ?_
                                 refine onNorm_r ?_
                                 refine onNorm_r ?_
                                 refine onExitH_r ?_
                                 refine onNorm_r ?_
                                 refine retQ_r (.tmp rfl .nil) ?_
                                 refine endK_of ⟨?_, rfl, rfl⟩ (by repeat (first | exact Part.refl _ | refine Part.pull (by repeat (first | exact Pull.here | apply Pull.there)) ?_ | refine Part.skip _ ?_ | exact Part.nil _ | exact Part.app _ _ | exact Part.appL _ _ | refine Part.appR _ ?_)) (by repeat (first | exact Part.refl _ | refine Part.pull (by repeat (first | exact Pull.here | apply Pull.there)) ?_ | refine Part.skip _ ?_ | exact Part.nil _ | exact Part.app _ _ | exact Part.appL _ _ | refine Part.appR _ ?_))
                                 refine congrArg LV.bool ?_
                                 unfold partF
                                 rw [Bool.eq_iff_iff, decide_eq_true_eq]
                                 first
                                 | (simp only [Bool.false_eq_true, false_iff]; rintro ⟨h1, h2, h3, h4, h5⟩; first | contradiction | omega)
                                 | (simp only [true_iff, Bool.true_eq]; exact ⟨part_all fun i h => hall i h (by omega), by assumption, by omega, by assumption, by assumption⟩)
                                 | (simp only [Bool.false_eq_true, false_iff]; rintro ⟨h1, h2, h3, h4, h5⟩; rw [hsn (by simp only [signF, letterF, decide_eq_true_eq, decide_eq_false_iff_not] at *; omega)] at h1; cases h1)
                              ·
                               intro hc69
                               first
                               | exact PrN hc69
                               | ((try simp only [Pr] at hc69); exfalso; omega)
                               | (try simp only [Pr] at hc69)
                                 refine HWp.skip ?_
                                 refine onExitH_n ?_
                                 refine onNorm_n ?_
                                 refine HWp.text (.rd 0 (.rd 1 (.rd 2 .done))) rfl ?_
                                 refine HPlan.move rfl rfl rfl ?_
                                 refine HPlan.intBin rfl rfl rfl rfl rfl (by first | exact add_i64 (by omega) (by omega) | rfl) ?_
                                 refine HPlan.assign rfl rfl rfl ?_
                                 refine HPlan.fin ?_
                                 refine onNorm_n ?_
                                 refine ⟨(k + 1), (by omega), ⟨by omega, hsb (by simp only [signF, letterF, decide_eq_true_eq, decide_eq_false_iff_not] at *; omega)⟩, (LessE.less (by repeat (first | exact LessE.nil | refine LessE.same rfl ?_ | refine LessE.own rfl ?_ | refine LessE.eq rfl ?_ (by first | rfl | (congr 1; omega) | simp))) rfl), (by repeat (first | exact Part.refl _ | refine Part.pull (by repeat (first | exact Pull.here | apply Pull.there)) ?_ | refine Part.skip _ ?_ | exact Part.nil _ | exact Part.app _ _ | exact Part.appL _ _ | refine Part.appR _ ?_)), (by repeat (first | exact Part.refl _ | refine Part.pull (by repeat (first | exact Pull.here | apply Pull.there)) ?_ | refine Part.skip _ ?_ | exact Part.nil _ | exact Part.app _ _ | exact Part.appL _ _ | refine Part.appR _ ?_))⟩
                           ·
                            intro hb8_14
                            first
                            | exact PrN hb8_14
                            | ((try simp only [Pr] at hb8_14); exfalso; omega)
                            | (try simp only [Pr] at hb8_14)
                              refine HPlan.leftR rfl rfl ?_
                              refine HPlan.leftR rfl rfl ?_
                              refine HPlan.pickF rfl rfl rfl rfl ?_
                              refine HPlan.fin ?_
                              refine onNorm_n ?_
                              refine HWp.cond_f rfl ?_
                              refine HWp.skip ?_
                              refine onExitH_n ?_
                              refine onNorm_n ?_
                              refine HWp.text (.rd 0 (.rd 1 (.rd 2 .done))) rfl ?_
                              refine HPlan.move rfl rfl rfl ?_
                              refine HPlan.intBin rfl rfl rfl rfl rfl (by first | exact add_i64 (by omega) (by omega) | rfl) ?_
                              refine HPlan.assign rfl rfl rfl ?_
                              refine HPlan.fin ?_
                              refine onNorm_n ?_
                              refine ⟨(k + 1), (by omega), ⟨by omega, hsb (by simp only [signF, letterF, decide_eq_true_eq, decide_eq_false_iff_not] at *; omega)⟩, (LessE.less (by repeat (first | exact LessE.nil | refine LessE.same rfl ?_ | refine LessE.own rfl ?_ | refine LessE.eq rfl ?_ (by first | rfl | (congr 1; omega) | simp))) rfl), (by repeat (first | exact Part.refl _ | refine Part.pull (by repeat (first | exact Pull.here | apply Pull.there)) ?_ | refine Part.skip _ ?_ | exact Part.nil _ | exact Part.app _ _ | exact Part.appL _ _ | refine Part.appR _ ?_)), (by repeat (first | exact Part.refl _ | refine Part.pull (by repeat (first | exact Pull.here | apply Pull.there)) ?_ | refine Part.skip _ ?_ | exact Part.nil _ | exact Part.app _ _ | exact Part.appL _ _ | refine Part.appR _ ?_))⟩
                        ·
                         intro hb8_10
                         first
                         | exact PrN hb8_10
                         | ((try simp only [Pr] at hb8_10); exfalso; omega)
                         | (try simp only [Pr] at hb8_10)
                           refine HPlan.leftR rfl rfl ?_
                           refine HPlan.leftR rfl rfl ?_
                           refine HPlan.pickF rfl rfl rfl rfl ?_
                           refine HPlan.move rfl rfl rfl ?_
                           refine HPlan.leftR rfl rfl ?_
                           refine HPlan.leftR rfl rfl ?_
                           refine HPlan.pickF rfl rfl rfl rfl ?_
                           refine HPlan.fin ?_
                           refine onNorm_n ?_
                           refine HWp.cond_f rfl ?_
                           refine HWp.skip ?_
                           refine onExitH_n ?_
                           refine onNorm_n ?_
                           refine HWp.text (.rd 0 (.rd 1 (.rd 2 .done))) rfl ?_
                           refine HPlan.move rfl rfl rfl ?_
                           refine HPlan.intBin rfl rfl rfl rfl rfl (by first | exact add_i64 (by omega) (by omega) | rfl) ?_
                           refine HPlan.assign rfl rfl rfl ?_
                           refine HPlan.fin ?_
                           refine onNorm_n ?_
                           refine ⟨(k + 1), (by omega), ⟨by omega, hsb (by simp only [signF, letterF, decide_eq_true_eq, decide_eq_false_iff_not] at *; omega)⟩, (LessE.less (by repeat (first | exact LessE.nil | refine LessE.same rfl ?_ | refine LessE.own rfl ?_ | refine LessE.eq rfl ?_ (by first | rfl | (congr 1; omega) | simp))) rfl), (by repeat (first | exact Part.refl _ | refine Part.pull (by repeat (first | exact Pull.here | apply Pull.there)) ?_ | refine Part.skip _ ?_ | exact Part.nil _ | exact Part.app _ _ | exact Part.appL _ _ | refine Part.appR _ ?_)), (by repeat (first | exact Part.refl _ | refine Part.pull (by repeat (first | exact Pull.here | apply Pull.there)) ?_ | refine Part.skip _ ?_ | exact Part.nil _ | exact Part.app _ _ | exact Part.appL _ _ | refine Part.appR _ ?_))⟩
                     ·
                      intro hb8_6
                      first
                      | exact PrN hb8_6
                      | ((try simp only [Pr] at hb8_6); exfalso; omega)
                      | (try simp only [Pr] at hb8_6)
                        refine HPlan.leftR rfl rfl ?_
                        refine HPlan.leftR rfl rfl ?_
                        refine HPlan.pickF rfl rfl rfl rfl ?_
                        refine HPlan.move rfl rfl rfl ?_
                        refine HPlan.leftR rfl rfl ?_
                        refine HPlan.leftR rfl rfl ?_
                        refine HPlan.pickF rfl rfl rfl rfl ?_
                        refine HPlan.move rfl rfl rfl ?_
                        refine HPlan.leftR rfl rfl ?_
                        refine HPlan.leftR rfl rfl ?_
                        refine HPlan.pickF rfl rfl rfl rfl ?_
                        refine HPlan.fin ?_
                        refine onNorm_n ?_
                        refine HWp.cond_f rfl ?_
                        refine HWp.skip ?_
                        refine onExitH_n ?_
                        refine onNorm_n ?_
                        refine HWp.text (.rd 0 (.rd 1 (.rd 2 .done))) rfl ?_
                        refine HPlan.move rfl rfl rfl ?_
                        refine HPlan.intBin rfl rfl rfl rfl rfl (by first | exact add_i64 (by omega) (by omega) | rfl) ?_
                        refine HPlan.assign rfl rfl rfl ?_
                        refine HPlan.fin ?_
                        refine onNorm_n ?_
                        refine ⟨(k + 1), (by omega), ⟨by omega, hsb (by simp only [signF, letterF, decide_eq_true_eq, decide_eq_false_iff_not] at *; omega)⟩, (LessE.less (by repeat (first | exact LessE.nil | refine LessE.same rfl ?_ | refine LessE.own rfl ?_ | refine LessE.eq rfl ?_ (by first | rfl | (congr 1; omega) | simp))) rfl), (by repeat (first | exact Part.refl _ | refine Part.pull (by repeat (first | exact Pull.here | apply Pull.there)) ?_ | refine Part.skip _ ?_ | exact Part.nil _ | exact Part.app _ _ | exact Part.appL _ _ | refine Part.appR _ ?_)), (by repeat (first | exact Part.refl _ | refine Part.pull (by repeat (first | exact Pull.here | apply Pull.there)) ?_ | refine Part.skip _ ?_ | exact Part.nil _ | exact Part.app _ _ | exact Part.appL _ _ | refine Part.appR _ ?_))⟩
                  ·
                   intro hb8_2
                   first
                   | exact PrN hb8_2
                   | ((try simp only [Pr] at hb8_2); exfalso; omega)
                   | (try simp only [Pr] at hb8_2)
                     refine HPlan.leftR rfl rfl ?_
                     refine HPlan.leftR rfl rfl ?_
                     refine HPlan.pickF rfl rfl rfl rfl ?_
                     refine HPlan.move rfl rfl rfl ?_
                     refine HPlan.leftR rfl rfl ?_
                     refine HPlan.leftR rfl rfl ?_
                     refine HPlan.pickF rfl rfl rfl rfl ?_
                     refine HPlan.move rfl rfl rfl ?_
                     refine HPlan.leftR rfl rfl ?_
                     refine HPlan.leftR rfl rfl ?_
                     refine HPlan.pickF rfl rfl rfl rfl ?_
                     refine HPlan.move rfl rfl rfl ?_
                     refine HPlan.leftR rfl rfl ?_
                     refine HPlan.leftR rfl rfl ?_
                     refine HPlan.pickF rfl rfl rfl rfl ?_
                     refine HPlan.fin ?_
                     refine onNorm_n ?_
                     refine HWp.cond_f rfl ?_
                     refine HWp.skip ?_
                     refine onExitH_n ?_
                     refine onNorm_n ?_
                     refine HWp.text (.rd 0 (.rd 1 (.rd 2 .done))) rfl ?_
                     refine HPlan.move rfl rfl rfl ?_
                     refine HPlan.intBin rfl rfl rfl rfl rfl (by first | exact add_i64 (by omega) (by omega) | rfl) ?_
                     refine HPlan.assign rfl rfl rfl ?_
                     refine HPlan.fin ?_
                     refine onNorm_n ?_
                     refine ⟨(k + 1), (by omega), ⟨by omega, hsb (by simp only [signF, letterF, decide_eq_true_eq, decide_eq_false_iff_not] at *; omega)⟩, (LessE.less (by repeat (first | exact LessE.nil | refine LessE.same rfl ?_ | refine LessE.own rfl ?_ | refine LessE.eq rfl ?_ (by first | rfl | (congr 1; omega) | simp))) rfl), (by repeat (first | exact Part.refl _ | refine Part.pull (by repeat (first | exact Pull.here | apply Pull.there)) ?_ | refine Part.skip _ ?_ | exact Part.nil _ | exact Part.app _ _ | exact Part.appL _ _ | refine Part.appR _ ?_)), (by repeat (first | exact Part.refl _ | refine Part.pull (by repeat (first | exact Pull.here | apply Pull.there)) ?_ | refine Part.skip _ ?_ | exact Part.nil _ | exact Part.app _ _ | exact Part.appL _ _ | refine Part.appR _ ?_))⟩
              ·
               intro hc24
               first
               | exact PrN hc24
               | ((try simp only [Pr] at hc24); exfalso; omega)
               | (try simp only [Pr] at hc24)
                 refine HWp.exit ?_
                 refine onNorm_e ?_
                 refine onNorm_e ?_
                 refine onExitH_hit ?_
                 refine onNorm_n ?_
                 refine HWp.seq ?_
                 refine HWp.text (.rd 0 .done) rfl ?_
                 refine HPlan.assign rfl rfl rfl ?_
                 refine HPlan.fin ?_
                 refine onNorm_n ?_
                 refine HWp.ret ?_
                 refine retQ_r (.tmp rfl .nil) ?_
                 refine endK_of ⟨?_, rfl, rfl⟩ (by repeat (first | exact Part.refl _ | refine Part.pull (by repeat (first | exact Pull.here | apply Pull.there)) ?_ | refine Part.skip _ ?_ | exact Part.nil _ | exact Part.app _ _ | exact Part.appL _ _ | refine Part.appR _ ?_)) (by repeat (first | exact Part.refl _ | refine Part.pull (by repeat (first | exact Pull.here | apply Pull.there)) ?_ | refine Part.skip _ ?_ | exact Part.nil _ | exact Part.app _ _ | exact Part.appL _ _ | refine Part.appR _ ?_))
                 refine congrArg LV.bool ?_
                 unfold partF
                 rw [Bool.eq_iff_iff, decide_eq_true_eq]
                 first
                 | (simp only [Bool.false_eq_true, false_iff]; rintro ⟨h1, h2, h3, h4, h5⟩; first | contradiction | omega)
                 | (simp only [true_iff, Bool.true_eq]; exact ⟨part_all fun i h => hall i h (by omega), by assumption, by omega, by assumption, by assumption⟩)
                 | (simp only [Bool.false_eq_true, false_iff]; rintro ⟨h1, h2, h3, h4, h5⟩; rw [hsn (by simp only [signF, letterF, decide_eq_true_eq, decide_eq_false_iff_not] at *; omega)] at h1; cases h1)
end Go.Proofs.YthfoobfgdakbmaaDoor

set_option linter.unusedVariables false
set_option linter.unusedSimpArgs false
set_option maxRecDepth 100000
namespace Go.Proofs.YthfoobfgdakbmaaDoor
open Go Go.RowKit Go.L
theorem q_se_54 : sliceElem Tryd.prog 54 = some (9, 1) := by kernel_rfl
theorem q_zs_9 : (zeroOf Tryd.prog 9).isSome = true := by kernel_rfl
theorem q_el_54 : elemIn Tryd.prog 54 = some (9, 1, 16) := by kernel_rfl
theorem q_src_54 : srcTy Tryd.prog 54 = true := by kernel_rfl
theorem q_tk_54 : tyKind Tryd.prog 54 = .sl := by kernel_rfl
theorem q_ix_54 : indexIn Tryd.prog 54 = some (none, 1) := by kernel_rfl
theorem q_sz_9 : sizeOfT Tryd.prog 9 = some 1 := by kernel_rfl
theorem q_f_56 : Tryd.prog.funcs[56]? = some Tryd.f56 := by kernel_rfl

def pieces : List UInt8 → List (List UInt8)
  | [] => [[]]
  | b :: r => if b = 47 then [] :: pieces r else (b :: (pieces r).headD []) :: (pieces r).tail
theorem pieces_pos : ∀ l, 0 < (pieces l).length
  | [] => Nat.one_pos
  | b :: r => by simp only [pieces]; split <;> simp
theorem pieces_len : ∀ l, (pieces l).length ≤ l.length + 1
  | [] => Nat.le_refl _
  | b :: r => by
    have := pieces_len r
    have := pieces_pos r
    simp only [pieces]; split <;> simp <;> omega
theorem pieces_snoc_cut : ∀ l, pieces (l ++ [47]) = pieces l ++ [[]]
  | [] => rfl
  | b :: r => by
    have ih := pieces_snoc_cut r
    have hp := pieces_pos r
    simp only [List.cons_append, pieces, ih]
    split
    · simp
    · cases hq : pieces r with
      | nil => rw [hq] at hp; simp at hp
      | cons x y => simp
theorem pieces_snoc {b : UInt8} (hb : b ≠ 47) : ∀ l, pieces (l ++ [b]) = (pieces l).set ((pieces l).length - 1) ((pieces l).getLastD [] ++ [b])
  | [] => by simp [pieces, hb]
  | c :: r => by
    have ih := pieces_snoc hb r
    have hp := pieces_pos r
    simp only [List.cons_append, pieces, ih]
    cases hq : pieces r with
    | nil => rw [hq] at hp; simp at hp
    | cons x y =>
      split
      · cases y <;> simp [List.getLastD]
      · cases y with
        | nil => simp [List.getLastD]
        | cons z w => simp [List.getLastD]
def pieceV (p : List UInt8) : LV := .str ⟨p.toArray⟩
theorem piece_cells (l : List (List UInt8)) : ∀ e ∈ l.map pieceV, e.cells.length = 1 := fun e he => by
  obtain ⟨p, _, rfl⟩ := List.mem_map.1 he; rfl
theorem piece_val (l : List (List UInt8)) : ∀ e ∈ l.map pieceV, (bif false then LV.agg e.cells else e.cells.headD .und) = e := fun e he => by
  obtain ⟨p, _, rfl⟩ := List.mem_map.1 he; rfl
theorem last_at {l : List (List UInt8)} (h : 0 < l.length) : (l.map pieceV)[(l.length - 1)]'(by rw [List.length_map]; omega) = pieceV (l.getLastD []) := by
  rw [List.getElem_map]
  congr 1
  rw [List.getLastD_eq_getLast?, List.getLast?_eq_getElem?, List.getElem?_eq_getElem (by omega)]; rfl
theorem pieces_ne (l : List UInt8) : (pieces l).map pieceV ≠ [] := fun h => by
  have := pieces_pos l
  have e := congrArg List.length h
  rw [List.length_map] at e
  simp at e
  rw [e] at this; simp at this
theorem is47 {b : UInt8} : ((b.toNat : Int) = 47) ↔ b = 47 := by
  have h : (47 : UInt8).toNat = 47 := rfl
  rw [← UInt8.toNat_inj, h]; omega
theorem piece_one {e : LV} (h : e ∈ [pieceV []]) : e.cells.length = 1 := by
  simp at h; subst h; rfl
theorem sub_one {n : Nat} (h : 0 < n) (h2 : n < 4611686018427387904) : intBin .sub .i64 (n : Int) 1 = .int .i64 ((n - 1 : Nat) : Int) := by
  rw [sub_i64 (by omega) (by omega)]
  congr 1; omega
theorem take_snoc {s : ByteArray} {k : Nat} (h : k < s.size) : s.data.toList.take (k + 1) = s.data.toList.take k ++ [s[k]] := by
  have hl : k < s.data.toList.length := by simpa using h
  rw [List.take_add_one, List.getElem?_eq_getElem hl]; rfl
theorem last_len : ∀ l, ((pieces l).getLastD []).length ≤ l.length
  | [] => Nat.le_refl _
  | b :: r => by
    have ih := last_len r
    have hp := pieces_pos r
    simp only [pieces]
    cases hq : pieces r with
    | nil => rw [hq] at hp; simp at hp
    | cons x y =>
      rw [hq] at ih
      split
      · simp [List.getLastD] at *; omega
      · cases y with
        | nil => simp [List.getLastD] at *; omega
        | cons z w => simp [List.getLastD] at *; omega
theorem ba_len (p : List UInt8) : (⟨p.toArray⟩ : ByteArray).size = p.length := by simp [ByteArray.size]
theorem extract_one {s : ByteArray} {k : Nat} (h : k < s.size) : (s.extract k (k + 1)).size = 1 := by
  rw [ByteArray.size_extract]; omega
theorem step_piece {s : ByteArray} {k : Nat} (h : k < s.size) (hb : s[k] ≠ 47) : ((pieces (s.data.toList.take k)).map pieceV).set ((pieces (s.data.toList.take k)).length - 1) (pieceV ((pieces (s.data.toList.take k)).getLastD [] ++ [s[k]])) = (pieces (s.data.toList.take (k + 1))).map pieceV := by
  rw [take_snoc h, pieces_snoc hb, List.map_set]
theorem step_len {s : ByteArray} {k : Nat} (h : k < s.size) (hb : s[k] ≠ 47) : (pieces (s.data.toList.take (k + 1))).length = (pieces (s.data.toList.take k)).length := by
  rw [take_snoc h, pieces_snoc hb, List.length_set]
theorem ba_snoc {s : ByteArray} {k : Nat} (h : k < s.size) (p : List UInt8) : (⟨p.toArray⟩ : ByteArray) ++ s.extract k (k + 1) = ⟨(p ++ [s[k]]).toArray⟩ := by
  have e : (s.extract k (k + 1)).data.toList = [s[k]] := by
    have hl : k < s.data.toList.length := by simpa using h
    rw [ByteArray.data_extract, Array.toList_extract]
    simp only [List.extract_eq_take_drop]
    rw [List.drop_eq_getElem_cons hl, Nat.add_sub_cancel_left, List.take_succ_cons, List.take_zero]; rfl
  apply ByteArray.ext
  rw [ByteArray.data_append]
  apply Array.ext'
  rw [Array.toList_append, e]

theorem parts_spec (s : ByteArray) (hs : s.size < 1073741824) (F : Hp) (T : Tk) : HCalls Tryd.prog 56 [.str s] F T (fun r L' T' => ∃ row : Row, row.ok 1 ((pieces s.data.toList).map pieceV) ∧ r = row.v ((pieces s.data.toList).map pieceV) ∧ L' = [row.o ((pieces s.data.toList).map pieceV)] ++ F ∧ T' = T) := by
 refine HCalls.enterG q_f_56 rfl ?_
 refine HWp.frame (r' := ⟨37, [(0, .str s)]⟩) rfl ?_
 refine HWp.seq ?_
 refine HWp.text (.rd 0 .done) rfl ?_
 refine HPlan.assign rfl rfl rfl ?_
 refine HPlan.fin ?_
 refine onNorm_n ?_
 refine HWp.seq ?_
 refine HWp.text (.act 0 [] (.rd 1 .done)) rfl ?_
 refine HPlan.buildSliceH rfl rfl q_se_54 q_zs_9 rfl (by decide) rfl rfl rfl (allCells_cons (by first | rfl | (simp; done)) (by first | rfl | decide | omega | (simp; done) | (simp; omega)) allCells_nil) (fun i5 => ⟨keptH_nil, ?_⟩)
 refine HPlan.assign rfl rfl rfl ?_
 refine HPlan.fin ?_
 refine onNorm_n ?_
 refine HWp.seq ?_
 refine HWp.seq ?_
 refine HWp.text (.rd 0 .done) rfl ?_
 refine HPlan.assign rfl rfl rfl ?_
 refine HPlan.fin ?_
 refine onNorm_n ?_
 refine HWp.block ?_
 refine HWp.loopF (α := Nat × Row) (fun q => s.size - q.1) (fun q => q.1 ≤ s.size ∧ q.2.ok 1 ((pieces (s.data.toList.take q.1)).map pieceV)) (fun q => ⟨37, [(0, .str s), (3, q.2.v ((pieces (s.data.toList.take q.1)).map pieceV)), (4, .int .i64 (q.1 : Int))]⟩) (fun q => q.2.o ((pieces (s.data.toList.take q.1)).map pieceV) :: F) (fun q => T) ?_ ?_
 ·
  refine ⟨(0, ⟨i5, 9, 0, 1, []⟩), ⟨Nat.zero_le _, ⟨rfl, Nat.le_refl _, piece_cells _⟩⟩, (LessE.less (by repeat (first | exact LessE.nil | refine LessE.same rfl ?_ | refine LessE.own rfl ?_ | refine LessE.eq rfl ?_ (by first | rfl | (congr 1; omega) | simp))) rfl), (by repeat (first | exact Part.refl _ | refine Part.pull (by repeat (first | exact Pull.here | apply Pull.there)) ?_ | refine Part.skip _ ?_ | exact Part.nil _ | exact Part.app _ _ | exact Part.appL _ _ | refine Part.appR _ ?_)), (by repeat (first | exact Part.refl _ | refine Part.pull (by repeat (first | exact Pull.here | apply Pull.there)) ?_ | refine Part.skip _ ?_ | exact Part.nil _ | exact Part.app _ _ | exact Part.appL _ _ | refine Part.appR _ ?_))⟩
 ·
  rintro q ⟨hq1, hok⟩
  obtain ⟨k, row⟩ := q
  simp only at hq1 hok ⊢
  have hpl := pieces_len (s.data.toList.take k)
  have hpp := pieces_pos (s.data.toList.take k)
  rw [List.length_take] at hpl
  refine HWp.seq ?_
  refine HWp.seq ?_
  refine HWp.text (.rd 0 (.rd 1 (.rd 2 (.rd 3 .done)))) rfl ?_
  refine HPlan.move rfl rfl rfl ?_
  refine HPlan.move rfl rfl rfl ?_
  refine HPlan.lenStr rfl rfl rfl q_tk_9 rfl ?_
  refine HPlan.intBin rfl rfl rfl rfl rfl rfl ?_
  refine HPlan.fin ?_
  refine onNorm_n ?_
  refine HWp.cond rfl ?_ ?_
  ·
   intro hc9
   first
   | exact PrN hc9
   | ((try simp only [Pr] at hc9); exfalso; omega)
   | (try simp only [Pr] at hc9)
     refine HWp.skip ?_
     refine onNorm_n ?_
     refine HWp.seq ?_
     refine HWp.block ?_
     refine HWp.seq ?_
     refine HWp.text (.rd 0 (.rd 1 (.rd 2 (.rd 3 .done)))) rfl ?_
     refine HPlan.move rfl rfl rfl ?_
     refine HPlan.move rfl rfl rfl ?_
     refine HPlan.indexStr rfl rfl rfl rfl q_st_9 (by omega) (by omega) (by first | exact byte_lv (by omega) | rfl) ?_
     refine HPlan.intBin rfl rfl rfl rfl rfl rfl ?_
     refine HPlan.fin ?_
     refine onNorm_n ?_
     refine HWp.cond rfl ?_ ?_
     ·
      intro hc15
      first
      | exact PrN hc15
      | ((try simp only [Pr] at hc15); exfalso; omega)
      | (try simp only [Pr] at hc15)
        refine HWp.text (.rd 0 (.act 1 [] (.act 2 [] (.rd 3 .done)))) rfl ?_
        refine HPlan.move rfl rfl rfl ?_
        refine HPlan.buildSliceN rfl rfl q_se_54 q_zs_9 rfl (by decide) rfl rfl (rfl : _ = [pieceV []]) (allCells_cons (by first | rfl | (simp; done)) (by first | rfl | decide | omega | (simp; done) | (simp; omega)) allCells_nil) keptH_nil ?_
        refine HPlan.appendR rfl rfl rfl rfl q_el_54 q_src_54 hok.own (by first | exact IsSl.sl | exact IsSl.nils | assumption | exact growV_isSl (by assumption)) (fun e he => piece_one he) (List.Perm.refl _) (by first | exact solid_cons (by first | rfl | (simp; done)) solid_nil | assumption) (by simp; omega) (by simp; omega) ?_
        intro v2 lv2 ho_v2
        refine ⟨keptH_nil, ?_⟩
        rw [show (pieces (s.data.toList.take k)).map pieceV ++ [pieceV []] = (pieces (s.data.toList.take (k + 1))).map pieceV from by rw [take_snoc (by omega), is47.1 hc15, pieces_snoc_cut, List.map_append]; rfl] at ho_v2
        obtain ⟨row2, hok2, rfl, rfl⟩ := ho_v2.row (pieces_ne _)
        refine HPlan.assign rfl rfl rfl ?_
        refine HPlan.fin ?_
        refine onExitH_n ?_
        refine onNorm_n ?_
        refine HWp.text (.rd 0 (.rd 1 (.rd 2 .done))) rfl ?_
        refine HPlan.move rfl rfl rfl ?_
        refine HPlan.intBin rfl rfl rfl rfl rfl (by first | exact add_i64 (by omega) (by omega) | rfl) ?_
        refine HPlan.assign rfl rfl rfl ?_
        refine HPlan.fin ?_
        refine onNorm_n ?_
        first
        | (rw [show row.v ((pieces (s.data.toList.take k)).map pieceV) = (Row.mk row.id row.ty (row.ver + 1) row.cap row.rest).v ((pieces (s.data.toList.take (k + 1))).map pieceV) from by simp only [Row.v, List.length_map]; rw [step_len (by omega) h47]]
           exact ⟨(k + 1, ⟨row.id, row.ty, row.ver + 1, row.cap, row.rest⟩), (by show s.size - (k + 1) < s.size - k; omega), ⟨by show k + 1 ≤ s.size; omega, ⟨by have := hok.len; simp only [List.length_map] at this ⊢; rw [step_len (by omega) h47]; exact this, by have := hok.cap; simp only [List.length_map] at this ⊢; rw [step_len (by omega) h47]; exact this, piece_cells _⟩⟩, (LessE.less (by repeat (first | exact LessE.nil | refine LessE.same rfl ?_ | refine LessE.own rfl ?_ | refine LessE.eq rfl ?_ (by first | rfl | (congr 1; omega) | simp))) rfl), (by repeat (first | exact Part.refl _ | refine Part.pull (by repeat (first | exact Pull.here | apply Pull.there)) ?_ | refine Part.skip _ ?_ | exact Part.nil _ | exact Part.app _ _ | exact Part.appL _ _ | refine Part.appR _ ?_)), (by repeat (first | exact Part.refl _ | refine Part.pull (by repeat (first | exact Pull.here | apply Pull.there)) ?_ | refine Part.skip _ ?_ | exact Part.nil _ | exact Part.app _ _ | exact Part.appL _ _ | refine Part.appR _ ?_))⟩)
        | exact ⟨(k + 1, row2), (by show s.size - (k + 1) < s.size - k; omega), ⟨by show k + 1 ≤ s.size; omega, hok2⟩, (LessE.less (by repeat (first | exact LessE.nil | refine LessE.same rfl ?_ | refine LessE.own rfl ?_ | refine LessE.eq rfl ?_ (by first | rfl | (congr 1; omega) | simp))) rfl), (by repeat (first | exact Part.refl _ | refine Part.pull (by repeat (first | exact Pull.here | apply Pull.there)) ?_ | refine Part.skip _ ?_ | exact Part.nil _ | exact Part.app _ _ | exact Part.appL _ _ | refine Part.appR _ ?_)), (by repeat (first | exact Part.refl _ | refine Part.pull (by repeat (first | exact Pull.here | apply Pull.there)) ?_ | refine Part.skip _ ?_ | exact Part.nil _ | exact Part.app _ _ | exact Part.appL _ _ | refine Part.appR _ ?_))⟩
     ·
      intro hc15
      first
      | exact PrN hc15
      | ((try simp only [Pr] at hc15); exfalso; omega)
      | (try simp only [Pr] at hc15)
        refine HWp.draw q_mix (.rd 0 (.rd 1 (.rd 2 (.rd 3 (.rd 4 (.rd 5 (.rd 6 (.rd 7 (.rd 8 (.rd 9 (.rd 10 (.rd 11 (.rd 12 (.rd 13 (.rd 14 (.rd 15 (.rd 16 (.act 17 [] .done)))))))))))))))))) (by kernel_rfl) ?_
        refine HPlan.move rfl rfl rfl ?_
        refine HPlan.move rfl rfl rfl ?_
        refine HPlan.lenO hok.own rfl rfl rfl q_tk_54 (by rw [List.length_map]) ?_
        refine HPlan.intBin rfl rfl rfl rfl rfl (sub_one hpp (by omega)) ?_
        refine HPlan.move rfl rfl rfl ?_
        refine HPlan.move rfl rfl rfl ?_
        refine HPlan.lenO hok.own rfl rfl rfl q_tk_54 (by rw [List.length_map]) ?_
        refine HPlan.intBin rfl rfl rfl rfl rfl (sub_one hpp (by omega)) ?_
        refine HPlan.indexH rfl rfl rfl rfl q_ix_54 (by omega) (by simp only [List.length_map]; omega) (rfl : _ = LV.ref row.id (0 + ((pieces (s.data.toList.take k)).length - 1) * 1)) ?_
        refine HPlan.load rfl rfl rfl q_sh_9 (by repeat (first | exact List.Mem.head _ | apply List.Mem.tail | assumption)) (by constructor <;> simp [flat_len (piece_cells _)] <;> omega) ((load_flat (k := 1) (ag := false) (piece_cells _) (by rw [List.length_map]; omega) (piece_val _) (fun _ => rfl)).trans (last_at hpp)) ?_
        refine HPlan.move rfl rfl rfl ?_
        refine HPlan.move rfl rfl rfl ?_
        refine HPlan.move rfl rfl rfl ?_
        refine HPlan.intBin rfl rfl rfl rfl rfl (by first | exact add_i64 (by omega) (by omega) | rfl) ?_
        refine HPlan.subStr rfl rfl rfl rfl rfl q_st_9 (by omega) (by omega) (by omega) (rfl : _ = LV.str (s.extract k (k + 1))) ?_
        have hll := last_len (s.data.toList.take k)
        rw [List.length_take] at hll
        have h47 : s[k] ≠ 47 := fun e => hc15 (is47.2 e)
        have hst := step_piece (s := s) (k := k) (by omega) h47
        refine HPlan.strBin rfl rfl rfl rfl (by show _ ≤ _; rw [ba_len, extract_one (by omega)]; omega) (congrArg LV.str (ba_snoc (by omega) _) : _ = pieceV ((pieces (s.data.toList.take k)).getLastD [] ++ [s[k]])) ?_
        refine HPlan.indexH rfl rfl rfl rfl q_ix_54 (by omega) (by simp only [List.length_map]; omega) (rfl : _ = LV.ref row.id (0 + ((pieces (s.data.toList.take k)).length - 1) * 1)) ?_
        refine HPlan.store rfl rfl rfl rfl q_sz_9 rfl rfl (by repeat (first | exact List.Mem.head _ | apply List.Mem.tail | assumption)) ((store_flat (piece_cells _) (by rw [List.length_map]; omega) rfl).trans (congrArg (fun z => flat z ++ row.rest) hst)) (by repeat (first | exact Upd.here | apply Upd.there)) (by simp [flat_len (piece_cells _)]; omega) keptH_nil ?_
        refine HPlan.fin ?_
        refine onExitH_n ?_
        refine onNorm_n ?_
        refine HWp.text (.rd 0 (.rd 1 (.rd 2 .done))) rfl ?_
        refine HPlan.move rfl rfl rfl ?_
        refine HPlan.intBin rfl rfl rfl rfl rfl (by first | exact add_i64 (by omega) (by omega) | rfl) ?_
        refine HPlan.assign rfl rfl rfl ?_
        refine HPlan.fin ?_
        refine onNorm_n ?_
        first
        | (rw [show row.v ((pieces (s.data.toList.take k)).map pieceV) = (Row.mk row.id row.ty (row.ver + 1) row.cap row.rest).v ((pieces (s.data.toList.take (k + 1))).map pieceV) from by simp only [Row.v, List.length_map]; rw [step_len (by omega) h47]]
           exact ⟨(k + 1, ⟨row.id, row.ty, row.ver + 1, row.cap, row.rest⟩), (by show s.size - (k + 1) < s.size - k; omega), ⟨by show k + 1 ≤ s.size; omega, ⟨by have := hok.len; simp only [List.length_map] at this ⊢; rw [step_len (by omega) h47]; exact this, by have := hok.cap; simp only [List.length_map] at this ⊢; rw [step_len (by omega) h47]; exact this, piece_cells _⟩⟩, (LessE.less (by repeat (first | exact LessE.nil | refine LessE.same rfl ?_ | refine LessE.own rfl ?_ | refine LessE.eq rfl ?_ (by first | rfl | (congr 1; omega) | simp))) rfl), (by repeat (first | exact Part.refl _ | refine Part.pull (by repeat (first | exact Pull.here | apply Pull.there)) ?_ | refine Part.skip _ ?_ | exact Part.nil _ | exact Part.app _ _ | exact Part.appL _ _ | refine Part.appR _ ?_)), (by repeat (first | exact Part.refl _ | refine Part.pull (by repeat (first | exact Pull.here | apply Pull.there)) ?_ | refine Part.skip _ ?_ | exact Part.nil _ | exact Part.app _ _ | exact Part.appL _ _ | refine Part.appR _ ?_))⟩)
        | exact ⟨(k + 1, row2), (by show s.size - (k + 1) < s.size - k; omega), ⟨by show k + 1 ≤ s.size; omega, hok2⟩, (LessE.less (by repeat (first | exact LessE.nil | refine LessE.same rfl ?_ | refine LessE.own rfl ?_ | refine LessE.eq rfl ?_ (by first | rfl | (congr 1; omega) | simp))) rfl), (by repeat (first | exact Part.refl _ | refine Part.pull (by repeat (first | exact Pull.here | apply Pull.there)) ?_ | refine Part.skip _ ?_ | exact Part.nil _ | exact Part.app _ _ | exact Part.appL _ _ | refine Part.appR _ ?_)), (by repeat (first | exact Part.refl _ | refine Part.pull (by repeat (first | exact Pull.here | apply Pull.there)) ?_ | refine Part.skip _ ?_ | exact Part.nil _ | exact Part.app _ _ | exact Part.appL _ _ | refine Part.appR _ ?_))⟩
  ·
   intro hc9
   first
   | exact PrN hc9
   | ((try simp only [Pr] at hc9); exfalso; omega)
   | (try simp only [Pr] at hc9)
     refine HWp.exit ?_
     refine onNorm_e ?_
     refine onNorm_e ?_
     obtain rfl : k = s.size := by omega
     rw [show s.data.toList.take s.size = s.data.toList from List.take_of_length_le (by simp)] at hok ⊢
     refine onExitH_hit ?_
     refine onNorm_n ?_
     refine HWp.seq ?_
     refine HWp.text (.rd 0 (.rd 1 .done)) rfl ?_
     refine HPlan.move rfl rfl rfl ?_
     refine HPlan.assign rfl rfl rfl ?_
     refine HPlan.fin ?_
     refine onNorm_n ?_
     refine HWp.ret ?_
     refine retQ_r (.tmp rfl .nil) ?_
     exact endK_of ⟨row, hok, rfl, rfl, rfl⟩ (by repeat (first | exact Part.refl _ | refine Part.pull (by repeat (first | exact Pull.here | apply Pull.there)) ?_ | refine Part.skip _ ?_ | exact Part.nil _ | exact Part.app _ _ | exact Part.appL _ _ | refine Part.appR _ ?_)) (by repeat (first | exact Part.refl _ | refine Part.pull (by repeat (first | exact Pull.here | apply Pull.there)) ?_ | refine Part.skip _ ?_ | exact Part.nil _ | exact Part.app _ _ | exact Part.appL _ _ | refine Part.appR _ ?_))
end Go.Proofs.YthfoobfgdakbmaaDoor
