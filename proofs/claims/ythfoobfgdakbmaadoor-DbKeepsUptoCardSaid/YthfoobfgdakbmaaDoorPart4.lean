/- WHAT THE WALKS STAND ON, part of a proof: D28 D29 D30 D31 D32 D33 D34 D35 D36 D37. No condition beyond what each theorem states. -/
import Derived.Test.YthfoobfgdakbmaaDoorPart2
import Derived.Test.YthfoobfgdakbmaaDoorPart3
set_option linter.unusedVariables false
set_option linter.unusedSimpArgs false
set_option maxRecDepth 100000
namespace Go.Proofs.YthfoobfgdakbmaaDoor
open Go Go.RowKit Go.L
theorem q_tk_31 : tyKind Tryd.prog 31 = .ptr := by kernel_rfl
theorem q_en_33 : enterable Tryd.prog 33 = true := by kernel_rfl
theorem q_fo_70_1 : fieldOff Tryd.prog 70 1 = some 1 := by kernel_rfl
theorem q_sh_68 : shapeOf Tryd.prog 68 = some (false, 1) := by kernel_rfl
theorem q_mt_68 : mapTy Tryd.prog 68 = some (24, 22) := by kernel_rfl
theorem q_kk_24 : KeysOk Tryd.prog 24 (.arr 32 (.int .u8)) := ⟨⟨2, by decide, by kernel_rfl⟩, by kernel_rfl⟩
theorem q_zo_22 : zeroOf Tryd.prog 22 = some LV.nils := by kernel_rfl
theorem q_en_34 : enterable Tryd.prog 34 = true := by kernel_rfl
theorem q_en_38 : enterable Tryd.prog 38 = true := by kernel_rfl
theorem q_en_37 : enterable Tryd.prog 37 = true := by kernel_rfl
theorem q_fo_70_0 : fieldOff Tryd.prog 70 0 = some 0 := by kernel_rfl
theorem q_f_13 : Tryd.prog.funcs[13]? = some Tryd.f13 := by kernel_rfl

theorem perm_two4 {α : Type} (a b c e : α) (l : List α) : (a :: b :: c :: e :: l).Perm (e :: a :: b :: c :: l) :=
  (((List.Perm.swap e c l).cons b).trans (List.Perm.swap e b (c :: l)) |>.cons a).trans (List.Perm.swap e a (b :: c :: l))
def Row.cut (r : Row) (l : List TraceD) (n : Nat) : Row := ⟨r.id, r.ty, r.ver, r.cap, flat ((l.drop n).map traceDV) ++ r.rest⟩
theorem row_cut {r : Row} {l : List TraceD} (h : r.ok 34 (l.map traceDV)) (n : Nat) : (Row.cut r l n).ok 34 ((l.take n).map traceDV) ∧ (Row.cut r l n).o ((l.take n).map traceDV) = r.o (l.map traceDV) ∧ (Row.cut r l n).v ((l.take n).map traceDV) = .hs r.id 0 (min n l.length) r.cap := by
  have e : flat ((l.take n).map traceDV) ++ flat ((l.drop n).map traceDV) = flat (l.map traceDV) := by
    rw [← flat_append, ← List.map_append, List.take_append_drop]
  have h1 := h.len
  have h2 := h.cap
  have e2 := congrArg List.length e
  rw [List.length_append, flat_len (trace_cells _), flat_len (trace_cells l), List.length_map] at e2
  refine ⟨⟨?_, ?_, trace_cells _⟩, ?_, ?_⟩
  · show _ + (flat ((l.drop n).map traceDV) ++ r.rest).length = r.cap * 34
    rw [List.length_append, List.length_map]
    rw [List.length_map] at h1 e2; omega
  · show _ ≤ r.cap
    rw [List.length_map, List.length_take]
    rw [List.length_map] at h2; omega
  · show (r.id, LObj.cells r.ty (flat ((l.take n).map traceDV) ++ (flat ((l.drop n).map traceDV) ++ r.rest)) r.ver) = (r.id, LObj.cells r.ty (flat (l.map traceDV) ++ r.rest) r.ver)
    rw [← List.append_assoc, e]
  · show LV.hs r.id 0 ((l.take n).map traceDV).length r.cap = _
    rw [List.length_map, List.length_take]
theorem perm_del {α : Type} (a b c e : α) (l : List α) : (a :: b :: c :: e :: l).Perm (e :: a :: b :: c :: l) := perm_two4 a b c e l

theorem add_old (t : TraceD) (hc : Calm t) (h0 : checkF t = 0) (h1 : t.reads.l.length < 1048576) (h2 : t.outs.l.length < 1048576) (most : Int) (hm1 : 1 ≤ most) (hm8 : most ≤ 8) (d m dv mv : Nat) (es : List (LV × LV)) (row : Row) (ts : List TraceD) (hok : row.ok 34 (ts.map traceDV)) (hl : ts.length < 1048576) (hes : ∀ p ∈ es, (KeyK.arr 32 (.int .u8)).fits p.1 = true) (hg : getL (dgV t.key) es = some (row.v (ts.map traceDV))) (G : Hp) (T : Tk) : HCalls Tryd.prog 13 [.ref d 0, traceDV t] ((d, .cells 70 [.int .i64 most, .mp m] dv) :: (m, .map es mv) :: row.o (ts.map traceDV) :: G) T (fun r L' T' => r = .int .i64 0 ∧ ∃ (mv' : Nat) (row' : Row) (t' : TraceD), SameT t' t ∧ row'.ok 34 (((t' :: keepT t ts).take most.toNat).map traceDV) ∧ L' = (d, .cells 70 [.int .i64 most, .mp m] dv) :: (m, .map (putL (dgV t.key) (row'.v (((t' :: keepT t ts).take most.toNat).map traceDV)) es) mv') :: row'.o (((t' :: keepT t ts).take most.toNat).map traceDV) :: G ∧ ∃ T0, T' = T0 ++ T) := by
 refine HCalls.enterG q_f_13 rfl ?_
 refine HWp.frame (r' := ⟨43, [(0, .ref d 0), (1, traceDV t)]⟩) rfl ?_
 refine HWp.seq ?_
 refine HWp.text (.act 0 [] (.rd 1 .done)) rfl ?_
 refine HPlan.box rfl rfl rfl (by first | rfl | (simp; done)) (fun i3 => ⟨keptH_nil, ?_⟩)
 refine HPlan.assign rfl rfl rfl ?_
 refine HPlan.fin ?_
 refine onNorm_n ?_
 refine HWp.seq ?_
 refine HWp.seq ?_
 refine HWp.text (.rd 0 (.rd 1 .done)) rfl ?_
 refine HPlan.move rfl rfl rfl ?_
 refine HPlan.nilEqK rfl rfl rfl rfl q_tk_31 rfl rfl rfl rfl ?_
 refine HPlan.fin ?_
 refine onNorm_n ?_
 refine HWp.cond rfl ?_ ?_
 ·
  intro hc8
  first
  | exact PrN hc8
  | ((try simp only [Pr] at hc8); exfalso; omega)
  | (try simp only [Pr] at hc8)
    exfalso
    skip
 ·
  intro hc8
  first
  | exact PrN hc8
  | ((try simp only [Pr] at hc8); exfalso; omega)
  | (try simp only [Pr] at hc8)
    refine HWp.skip ?_
    refine onNorm_n ?_
    refine HWp.seq ?_
    refine HWp.seq ?_
    refine HWp.text (.rd 0 (.act 1 [] (.rd 2 .done))) rfl ?_
    first
    | refine HPlan.loadI rfl rfl rfl q_sh_28 (by constructor <;> first | rfl | decide | omega | exact Nat.le_refl _ | (simp [digC_len, dgV, LV.cells, readDC_len, readDV, madeDC_len, madeDV, traceDC_len, traceDV]; done) | (simp [digC_len, dgV, LV.cells, readDC_len, readDV, madeDC_len, madeDV, traceDC_len, traceDV]; omega)) (by first | exact (traceD_all _) | rfl) ?_
    | refine HPlan.load rfl rfl rfl q_sh_28 (by repeat (first | exact List.Mem.head _ | apply List.Mem.tail | assumption)) (by constructor <;> first | rfl | decide | omega | exact Nat.le_refl _ | (simp [digC_len, dgV, LV.cells, readDC_len, readDV, madeDC_len, madeDV, traceDC_len, traceDV]; done) | (simp [digC_len, dgV, LV.cells, readDC_len, readDV, madeDC_len, madeDV, traceDC_len, traceDV]; omega)) (by first | exact (traceD_all _) | rfl) ?_
    refine HPlan.callPure rfl rfl rfl q_en_33 (check_spec t hc) keptH_nil ?_
    rw [h0]
    refine HPlan.assign rfl rfl rfl ?_
    refine HPlan.fin ?_
    refine onNorm_n ?_
    refine HWp.seq ?_
    refine HWp.text (.rd 0 (.rd 1 .done)) rfl ?_
    refine HPlan.move rfl rfl rfl ?_
    refine HPlan.intBin rfl rfl rfl rfl rfl (rfl : _ = LV.bool false) ?_
    refine HPlan.fin ?_
    refine onNorm_n ?_
    refine HWp.cond_f rfl ?_
    refine HWp.skip ?_
    refine onNorm_n ?_
    refine HWp.seq ?_
    refine HWp.draw q_mix (.rd 0 (.rd 1 (.rd 2 (.rd 3 (.rd 4 (.rd 5 (.rd 6 (.rd 7 (.act 8 [] (.rd 9 .done)))))))))) (by kernel_rfl) ?_
    refine HPlan.move rfl rfl rfl ?_
    refine HPlan.nilCheck rfl rfl rfl rfl ?_
    refine HPlan.fieldAddr rfl rfl rfl rfl q_fo_70_1 rfl ?_
    first
    | refine HPlan.loadI rfl rfl rfl q_sh_68 (by constructor <;> first | rfl | decide | omega | exact Nat.le_refl _ | (simp [digC_len, dgV, LV.cells, readDC_len, readDV, madeDC_len, madeDV, traceDC_len, traceDV]; done) | (simp [digC_len, dgV, LV.cells, readDC_len, readDV, madeDC_len, madeDV, traceDC_len, traceDV]; omega)) (by first | rfl) ?_
    | refine HPlan.load rfl rfl rfl q_sh_68 (by repeat (first | exact List.Mem.head _ | apply List.Mem.tail | assumption)) (by constructor <;> first | rfl | decide | omega | exact Nat.le_refl _ | (simp [digC_len, dgV, LV.cells, readDC_len, readDV, madeDC_len, madeDV, traceDC_len, traceDV]; done) | (simp [digC_len, dgV, LV.cells, readDC_len, readDV, madeDC_len, madeDV, traceDC_len, traceDV]; omega)) (by first | rfl) ?_
    refine HPlan.fieldAddr rfl rfl rfl rfl q_fo_28_0 rfl ?_
    first
    | refine HPlan.loadI rfl rfl rfl q_sh_24 (by constructor <;> first | rfl | decide | omega | exact Nat.le_refl _ | (simp [digC_len, dgV, LV.cells, readDC_len, readDV, madeDC_len, madeDV, traceDC_len, traceDV]; done) | (simp [digC_len, dgV, LV.cells, readDC_len, readDV, madeDC_len, madeDV, traceDC_len, traceDV]; omega)) (by first | exact (dgV_all _) | exact (readD_sum _) | exact (madeD_sum _) | exact (traceD_key _) | rfl) ?_
    | refine HPlan.load rfl rfl rfl q_sh_24 (by repeat (first | exact List.Mem.head _ | apply List.Mem.tail | assumption)) (by constructor <;> first | rfl | decide | omega | exact Nat.le_refl _ | (simp [digC_len, dgV, LV.cells, readDC_len, readDV, madeDC_len, madeDV, traceDC_len, traceDV]; done) | (simp [digC_len, dgV, LV.cells, readDC_len, readDV, madeDC_len, madeDV, traceDC_len, traceDV]; omega)) (by first | exact (dgV_all _) | exact (readD_sum _) | exact (madeD_sum _) | exact (traceD_key _) | rfl) ?_
    refine HPlan.lookup rfl rfl rfl rfl q_mt_68 q_kk_24 q_zo_22 (by repeat (first | exact List.Mem.head _ | apply List.Mem.tail | assumption)) (dg_fits _) hes (by rw [hg]; rfl : _ = row.v (ts.map traceDV)) ?_
    refine HPlan.makeFunc rfl rfl rfl rfl ?_
    refine HPlan.callS rfl rfl rfl q_en_34 (delete_spec row ts t i3 0 hok hl _ _) (perm_del _ _ _ _ _) (List.Perm.refl _) ?_
    rintro r_R6_8 L_R6_8 T1 ⟨row1, hok1, rfl, rfl, rfl⟩
    refine ⟨keptH_nil, ?_⟩
    refine HPlan.assign rfl rfl rfl ?_
    refine HPlan.fin ?_
    refine onNorm_n ?_
    refine HWp.seq ?_
    refine HWp.text (.rd 0 (.rd 1 (.act 2 [] (.act 3 [] (.act 4 [] (.rd 5 .done)))))) rfl ?_
    refine HPlan.move rfl rfl rfl ?_
    first
    | refine HPlan.loadI rfl rfl rfl q_sh_28 (by constructor <;> first | rfl | decide | omega | exact Nat.le_refl _ | (simp [digC_len, dgV, LV.cells, readDC_len, readDV, madeDC_len, madeDV, traceDC_len, traceDV]; done) | (simp [digC_len, dgV, LV.cells, readDC_len, readDV, madeDC_len, madeDV, traceDC_len, traceDV]; omega)) (by first | exact (traceD_all _) | rfl) ?_
    | refine HPlan.load rfl rfl rfl q_sh_28 (by repeat (first | exact List.Mem.head _ | apply List.Mem.tail | assumption)) (by constructor <;> first | rfl | decide | omega | exact Nat.le_refl _ | (simp [digC_len, dgV, LV.cells, readDC_len, readDV, madeDC_len, madeDV, traceDC_len, traceDV]; done) | (simp [digC_len, dgV, LV.cells, readDC_len, readDV, madeDC_len, madeDV, traceDC_len, traceDV]; omega)) (by first | exact (traceD_all _) | rfl) ?_
    refine HPlan.callS rfl rfl rfl q_en_38 (clone_spec t h1 h2 _ _) (List.Perm.refl _) (List.Perm.refl _) ?_
    rintro r_R7_2 L_R7_2 T2 ⟨t', hs', rfl, rfl, T0, rfl⟩
    refine ⟨keptH_nil, ?_⟩
    refine HPlan.buildSliceH rfl rfl q_se_22 q_zs_28 rfl (by decide) rfl rfl (rfl : _ = [traceDV t']) (allCells_cons (traceDV_solid _) (by simp [traceDV, LV.cells]) allCells_nil) (fun iv => ⟨keptH_nil, ?_⟩)
    rw [show LObj.cells 28 (flat [traceDV t']) 0 = LObj.cells 28 (flat [traceDV t'] ++ []) 0 by rw [List.append_nil]]
    refine HPlan.nodupA rfl rfl fun hnd => ?_
    have hiv : iv ≠ row1.id := by
      rw [List.map_cons, List.nodup_cons] at hnd
      exact fun e => hnd.1 (by rw [e]; simp [Row.o])
    have hkl : (keepT t ts).length < 1048576 := Nat.lt_of_le_of_lt (List.length_filter_le _ _) hl
    refine HPlan.callS rfl rfl rfl q_en_37 (insert_spec row1 ⟨iv, 28, 0, 1, []⟩ (keepT t ts) t' hok1 ⟨rfl, Nat.le_refl _, cells1 t'⟩ hiv hkl _ _) (List.Perm.swap _ _ _) (List.Perm.refl _) ?_
    rintro r_R7_4 L_R7_4 T3 ⟨row2, hok2, rfl, rfl, rfl⟩
    refine ⟨keptH_nil, ?_⟩
    refine HPlan.assign rfl rfl rfl ?_
    refine HPlan.fin ?_
    refine onNorm_n ?_
    refine HWp.seq ?_
    refine HWp.draw q_mix (.rd 0 (.rd 1 (.rd 2 (.rd 3 (.rd 4 (.rd 5 (.rd 6 (.rd 7 (.rd 8 (.rd 9 (.rd 10 (.rd 11 (.rd 12 (.rd 13 (.rd 14 (.act 15 [] .done)))))))))))))))) (by kernel_rfl) ?_
    refine HPlan.move rfl rfl rfl ?_
    refine HPlan.nilCheck rfl rfl rfl rfl ?_
    refine HPlan.fieldAddr rfl rfl rfl rfl q_fo_70_1 rfl ?_
    first
    | refine HPlan.loadI rfl rfl rfl q_sh_68 (by constructor <;> first | rfl | decide | omega | exact Nat.le_refl _ | (simp [digC_len, dgV, LV.cells, readDC_len, readDV, madeDC_len, madeDV, traceDC_len, traceDV]; done) | (simp [digC_len, dgV, LV.cells, readDC_len, readDV, madeDC_len, madeDV, traceDC_len, traceDV]; omega)) (by first | rfl) ?_
    | refine HPlan.load rfl rfl rfl q_sh_68 (by repeat (first | exact List.Mem.head _ | apply List.Mem.tail | assumption)) (by constructor <;> first | rfl | decide | omega | exact Nat.le_refl _ | (simp [digC_len, dgV, LV.cells, readDC_len, readDV, madeDC_len, madeDV, traceDC_len, traceDV]; done) | (simp [digC_len, dgV, LV.cells, readDC_len, readDV, madeDC_len, madeDV, traceDC_len, traceDV]; omega)) (by first | rfl) ?_
    refine HPlan.fieldAddr rfl rfl rfl rfl q_fo_28_0 rfl ?_
    first
    | refine HPlan.loadI rfl rfl rfl q_sh_24 (by constructor <;> first | rfl | decide | omega | exact Nat.le_refl _ | (simp [digC_len, dgV, LV.cells, readDC_len, readDV, madeDC_len, madeDV, traceDC_len, traceDV]; done) | (simp [digC_len, dgV, LV.cells, readDC_len, readDV, madeDC_len, madeDV, traceDC_len, traceDV]; omega)) (by first | exact (dgV_all _) | exact (readD_sum _) | exact (madeD_sum _) | exact (traceD_key _) | rfl) ?_
    | refine HPlan.load rfl rfl rfl q_sh_24 (by repeat (first | exact List.Mem.head _ | apply List.Mem.tail | assumption)) (by constructor <;> first | rfl | decide | omega | exact Nat.le_refl _ | (simp [digC_len, dgV, LV.cells, readDC_len, readDV, madeDC_len, madeDV, traceDC_len, traceDV]; done) | (simp [digC_len, dgV, LV.cells, readDC_len, readDV, madeDC_len, madeDV, traceDC_len, traceDV]; omega)) (by first | exact (dgV_all _) | exact (readD_sum _) | exact (madeD_sum _) | exact (traceD_key _) | rfl) ?_
    refine HPlan.move rfl rfl rfl ?_
    refine HPlan.move rfl rfl rfl ?_
    refine HPlan.lenO hok2.own rfl rfl rfl q_tk_22 (by rw [List.length_map, List.length_cons]) ?_
    refine HPlan.move rfl rfl rfl ?_
    refine HPlan.nilCheck rfl rfl rfl rfl ?_
    refine HPlan.fieldAddr rfl rfl rfl rfl q_fo_70_0 rfl ?_
    refine HPlan.load rfl rfl rfl q_sh_3 (by repeat (first | exact List.Mem.head _ | apply List.Mem.tail | assumption)) (by constructor <;> first | rfl | decide | omega | exact Nat.le_refl _ | (simp; done) | (simp; omega)) (by rfl : _ = LV.int .i64 most) ?_
    refine HPlan.min rfl rfl rfl rfl (min_lv _ _) ?_
    refine HPlan.sliceH rfl rfl rfl rfl rfl q_sv_22 (by omega) (by omega) (by have := hok2.cap; rw [List.length_map, List.length_cons] at this; omega) (by simp : _ = LV.hs row2.id 0 (min (((keepT t ts).length + 1 : Nat) : Int) most).toNat row2.cap) ?_
    refine HPlan.mapUpdate rfl rfl rfl rfl rfl q_mt_68 q_kk_24 (dg_fits _) hes rfl (by repeat (first | exact Upd.here | apply Upd.there)) keptH_nil ?_
    refine HPlan.fin ?_
    refine onNorm_n ?_
    refine HWp.seq ?_
    refine HWp.text (.rd 0 .done) rfl ?_
    refine HPlan.assign rfl rfl rfl ?_
    refine HPlan.fin ?_
    refine onNorm_n ?_
    refine HWp.ret ?_
    refine retQ_r (.tmp rfl .nil) ?_
    obtain ⟨c1, c2, c3⟩ := row_cut hok2 most.toNat
    have hmn : (min (((keepT t ts).length + 1 : Nat) : Int) most).toNat = min most.toNat (t' :: keepT t ts).length := by rw [List.length_cons]; omega
    rw [hmn, ← c3, ← c2]
    exact endK_of ⟨rfl, _, Row.cut row2 (t' :: keepT t ts) most.toNat, t', hs', c1, rfl, T0, rfl⟩ (by repeat (first | exact Part.refl _ | refine Part.pull (by repeat (first | exact Pull.here | apply Pull.there)) ?_ | refine Part.skip _ ?_ | exact Part.nil _ | exact Part.app _ _ | exact Part.appL _ _ | refine Part.appR _ ?_)) (by repeat (first | exact Part.refl _ | refine Part.pull (by repeat (first | exact Pull.here | apply Pull.there)) ?_ | refine Part.skip _ ?_ | exact Part.nil _ | exact Part.app _ _ | exact Part.appL _ _ | refine Part.appR _ ?_))
end Go.Proofs.YthfoobfgdakbmaaDoor

set_option linter.unusedVariables false
set_option linter.unusedSimpArgs false
set_option maxRecDepth 100000
namespace Go.Proofs.YthfoobfgdakbmaaDoor
open Go Go.RowKit Go.L

theorem add_new (t : TraceD) (hc : Calm t) (h0 : checkF t = 0) (h1 : t.reads.l.length < 1048576) (h2 : t.outs.l.length < 1048576) (most : Int) (hm1 : 1 ≤ most) (hm8 : most ≤ 8) (d m dv mv : Nat) (es : List (LV × LV)) (hes : ∀ p ∈ es, (KeyK.arr 32 (.int .u8)).fits p.1 = true) (hg : getL (dgV t.key) es = none) (G : Hp) (T : Tk) : HCalls Tryd.prog 13 [.ref d 0, traceDV t] ((d, .cells 70 [.int .i64 most, .mp m] dv) :: (m, .map es mv) :: G) T (fun r L' T' => r = .int .i64 0 ∧ ∃ (mv' : Nat) (row' : Row) (t' : TraceD), SameT t' t ∧ row'.ok 34 (([t'].take most.toNat).map traceDV) ∧ L' = (d, .cells 70 [.int .i64 most, .mp m] dv) :: (m, .map (putL (dgV t.key) (row'.v (([t'].take most.toNat).map traceDV)) es) mv') :: row'.o (([t'].take most.toNat).map traceDV) :: G ∧ ∃ T0, T' = T0 ++ T) := by
 refine HCalls.enterG q_f_13 rfl ?_
 refine HWp.frame (r' := ⟨43, [(0, .ref d 0), (1, traceDV t)]⟩) rfl ?_
 refine HWp.seq ?_
 refine HWp.text (.act 0 [] (.rd 1 .done)) rfl ?_
 refine HPlan.box rfl rfl rfl (by first | rfl | (simp; done)) (fun i3 => ⟨keptH_nil, ?_⟩)
 refine HPlan.assign rfl rfl rfl ?_
 refine HPlan.fin ?_
 refine onNorm_n ?_
 refine HWp.seq ?_
 refine HWp.seq ?_
 refine HWp.text (.rd 0 (.rd 1 .done)) rfl ?_
 refine HPlan.move rfl rfl rfl ?_
 refine HPlan.nilEqK rfl rfl rfl rfl q_tk_31 rfl rfl rfl rfl ?_
 refine HPlan.fin ?_
 refine onNorm_n ?_
 refine HWp.cond rfl ?_ ?_
 ·
  intro hc8
  first
  | exact PrN hc8
  | ((try simp only [Pr] at hc8); exfalso; omega)
  | (try simp only [Pr] at hc8)
    exfalso
    skip
 ·
  intro hc8
  first
  | exact PrN hc8
  | ((try simp only [Pr] at hc8); exfalso; omega)
  | (try simp only [Pr] at hc8)
    refine HWp.skip ?_
    refine onNorm_n ?_
    refine HWp.seq ?_
    refine HWp.seq ?_
    refine HWp.text (.rd 0 (.act 1 [] (.rd 2 .done))) rfl ?_
    first
    | refine HPlan.loadI rfl rfl rfl q_sh_28 (by constructor <;> first | rfl | decide | omega | exact Nat.le_refl _ | (simp [digC_len, dgV, LV.cells, readDC_len, readDV, madeDC_len, madeDV, traceDC_len, traceDV]; done) | (simp [digC_len, dgV, LV.cells, readDC_len, readDV, madeDC_len, madeDV, traceDC_len, traceDV]; omega)) (by first | exact (traceD_all _) | rfl) ?_
    | refine HPlan.load rfl rfl rfl q_sh_28 (by repeat (first | exact List.Mem.head _ | apply List.Mem.tail | assumption)) (by constructor <;> first | rfl | decide | omega | exact Nat.le_refl _ | (simp [digC_len, dgV, LV.cells, readDC_len, readDV, madeDC_len, madeDV, traceDC_len, traceDV]; done) | (simp [digC_len, dgV, LV.cells, readDC_len, readDV, madeDC_len, madeDV, traceDC_len, traceDV]; omega)) (by first | exact (traceD_all _) | rfl) ?_
    refine HPlan.callPure rfl rfl rfl q_en_33 (check_spec t hc) keptH_nil ?_
    rw [h0]
    refine HPlan.assign rfl rfl rfl ?_
    refine HPlan.fin ?_
    refine onNorm_n ?_
    refine HWp.seq ?_
    refine HWp.text (.rd 0 (.rd 1 .done)) rfl ?_
    refine HPlan.move rfl rfl rfl ?_
    refine HPlan.intBin rfl rfl rfl rfl rfl (rfl : _ = LV.bool false) ?_
    refine HPlan.fin ?_
    refine onNorm_n ?_
    refine HWp.cond_f rfl ?_
    refine HWp.skip ?_
    refine onNorm_n ?_
    refine HWp.seq ?_
    refine HWp.draw q_mix (.rd 0 (.rd 1 (.rd 2 (.rd 3 (.rd 4 (.rd 5 (.rd 6 (.rd 7 (.act 8 [] (.rd 9 .done)))))))))) (by kernel_rfl) ?_
    refine HPlan.move rfl rfl rfl ?_
    refine HPlan.nilCheck rfl rfl rfl rfl ?_
    refine HPlan.fieldAddr rfl rfl rfl rfl q_fo_70_1 rfl ?_
    first
    | refine HPlan.loadI rfl rfl rfl q_sh_68 (by constructor <;> first | rfl | decide | omega | exact Nat.le_refl _ | (simp [digC_len, dgV, LV.cells, readDC_len, readDV, madeDC_len, madeDV, traceDC_len, traceDV]; done) | (simp [digC_len, dgV, LV.cells, readDC_len, readDV, madeDC_len, madeDV, traceDC_len, traceDV]; omega)) (by first | rfl) ?_
    | refine HPlan.load rfl rfl rfl q_sh_68 (by repeat (first | exact List.Mem.head _ | apply List.Mem.tail | assumption)) (by constructor <;> first | rfl | decide | omega | exact Nat.le_refl _ | (simp [digC_len, dgV, LV.cells, readDC_len, readDV, madeDC_len, madeDV, traceDC_len, traceDV]; done) | (simp [digC_len, dgV, LV.cells, readDC_len, readDV, madeDC_len, madeDV, traceDC_len, traceDV]; omega)) (by first | rfl) ?_
    refine HPlan.fieldAddr rfl rfl rfl rfl q_fo_28_0 rfl ?_
    first
    | refine HPlan.loadI rfl rfl rfl q_sh_24 (by constructor <;> first | rfl | decide | omega | exact Nat.le_refl _ | (simp [digC_len, dgV, LV.cells, readDC_len, readDV, madeDC_len, madeDV, traceDC_len, traceDV]; done) | (simp [digC_len, dgV, LV.cells, readDC_len, readDV, madeDC_len, madeDV, traceDC_len, traceDV]; omega)) (by first | exact (dgV_all _) | exact (readD_sum _) | exact (madeD_sum _) | exact (traceD_key _) | rfl) ?_
    | refine HPlan.load rfl rfl rfl q_sh_24 (by repeat (first | exact List.Mem.head _ | apply List.Mem.tail | assumption)) (by constructor <;> first | rfl | decide | omega | exact Nat.le_refl _ | (simp [digC_len, dgV, LV.cells, readDC_len, readDV, madeDC_len, madeDV, traceDC_len, traceDV]; done) | (simp [digC_len, dgV, LV.cells, readDC_len, readDV, madeDC_len, madeDV, traceDC_len, traceDV]; omega)) (by first | exact (dgV_all _) | exact (readD_sum _) | exact (madeD_sum _) | exact (traceD_key _) | rfl) ?_
    refine HPlan.lookup rfl rfl rfl rfl q_mt_68 q_kk_24 q_zo_22 (by repeat (first | exact List.Mem.head _ | apply List.Mem.tail | assumption)) (dg_fits _) hes (by rw [hg]; rfl : _ = LV.nils) ?_
    refine HPlan.makeFunc rfl rfl rfl rfl ?_
    refine HPlan.callPure rfl rfl rfl q_en_34 (delete_nil i3) keptH_nil ?_
    refine HPlan.assign rfl rfl rfl ?_
    refine HPlan.fin ?_
    refine onNorm_n ?_
    refine HWp.seq ?_
    refine HWp.text (.rd 0 (.rd 1 (.act 2 [] (.act 3 [] (.act 4 [] (.rd 5 .done)))))) rfl ?_
    refine HPlan.move rfl rfl rfl ?_
    first
    | refine HPlan.loadI rfl rfl rfl q_sh_28 (by constructor <;> first | rfl | decide | omega | exact Nat.le_refl _ | (simp [digC_len, dgV, LV.cells, readDC_len, readDV, madeDC_len, madeDV, traceDC_len, traceDV]; done) | (simp [digC_len, dgV, LV.cells, readDC_len, readDV, madeDC_len, madeDV, traceDC_len, traceDV]; omega)) (by first | exact (traceD_all _) | rfl) ?_
    | refine HPlan.load rfl rfl rfl q_sh_28 (by repeat (first | exact List.Mem.head _ | apply List.Mem.tail | assumption)) (by constructor <;> first | rfl | decide | omega | exact Nat.le_refl _ | (simp [digC_len, dgV, LV.cells, readDC_len, readDV, madeDC_len, madeDV, traceDC_len, traceDV]; done) | (simp [digC_len, dgV, LV.cells, readDC_len, readDV, madeDC_len, madeDV, traceDC_len, traceDV]; omega)) (by first | exact (traceD_all _) | rfl) ?_
    refine HPlan.callS rfl rfl rfl q_en_38 (clone_spec t h1 h2 _ _) (List.Perm.refl _) (List.Perm.refl _) ?_
    rintro r_R7_2 L_R7_2 T2 ⟨t', hs', rfl, rfl, T0, rfl⟩
    refine ⟨keptH_nil, ?_⟩
    refine HPlan.buildSliceH rfl rfl q_se_22 q_zs_28 rfl (by decide) rfl rfl (rfl : _ = [traceDV t']) (allCells_cons (traceDV_solid _) (by simp [traceDV, LV.cells]) allCells_nil) (fun iv => ⟨keptH_nil, ?_⟩)
    rw [show LObj.cells 28 (flat [traceDV t']) 0 = LObj.cells 28 (flat [traceDV t'] ++ []) 0 by rw [List.append_nil]]
    refine HPlan.callS rfl rfl rfl q_en_37 (insert_nil ⟨iv, 28, 0, 1, []⟩ t' ⟨rfl, Nat.le_refl _, cells1 t'⟩ _ _) (List.Perm.refl _) (List.Perm.refl _) ?_
    rintro r_R7_4 L_R7_4 T3 ⟨row2, hok2, rfl, rfl, rfl⟩
    refine ⟨keptH_nil, ?_⟩
    refine HPlan.assign rfl rfl rfl ?_
    refine HPlan.fin ?_
    refine onNorm_n ?_
    refine HWp.seq ?_
    refine HWp.draw q_mix (.rd 0 (.rd 1 (.rd 2 (.rd 3 (.rd 4 (.rd 5 (.rd 6 (.rd 7 (.rd 8 (.rd 9 (.rd 10 (.rd 11 (.rd 12 (.rd 13 (.rd 14 (.act 15 [] .done)))))))))))))))) (by kernel_rfl) ?_
    refine HPlan.move rfl rfl rfl ?_
    refine HPlan.nilCheck rfl rfl rfl rfl ?_
    refine HPlan.fieldAddr rfl rfl rfl rfl q_fo_70_1 rfl ?_
    first
    | refine HPlan.loadI rfl rfl rfl q_sh_68 (by constructor <;> first | rfl | decide | omega | exact Nat.le_refl _ | (simp [digC_len, dgV, LV.cells, readDC_len, readDV, madeDC_len, madeDV, traceDC_len, traceDV]; done) | (simp [digC_len, dgV, LV.cells, readDC_len, readDV, madeDC_len, madeDV, traceDC_len, traceDV]; omega)) (by first | rfl) ?_
    | refine HPlan.load rfl rfl rfl q_sh_68 (by repeat (first | exact List.Mem.head _ | apply List.Mem.tail | assumption)) (by constructor <;> first | rfl | decide | omega | exact Nat.le_refl _ | (simp [digC_len, dgV, LV.cells, readDC_len, readDV, madeDC_len, madeDV, traceDC_len, traceDV]; done) | (simp [digC_len, dgV, LV.cells, readDC_len, readDV, madeDC_len, madeDV, traceDC_len, traceDV]; omega)) (by first | rfl) ?_
    refine HPlan.fieldAddr rfl rfl rfl rfl q_fo_28_0 rfl ?_
    first
    | refine HPlan.loadI rfl rfl rfl q_sh_24 (by constructor <;> first | rfl | decide | omega | exact Nat.le_refl _ | (simp [digC_len, dgV, LV.cells, readDC_len, readDV, madeDC_len, madeDV, traceDC_len, traceDV]; done) | (simp [digC_len, dgV, LV.cells, readDC_len, readDV, madeDC_len, madeDV, traceDC_len, traceDV]; omega)) (by first | exact (dgV_all _) | exact (readD_sum _) | exact (madeD_sum _) | exact (traceD_key _) | rfl) ?_
    | refine HPlan.load rfl rfl rfl q_sh_24 (by repeat (first | exact List.Mem.head _ | apply List.Mem.tail | assumption)) (by constructor <;> first | rfl | decide | omega | exact Nat.le_refl _ | (simp [digC_len, dgV, LV.cells, readDC_len, readDV, madeDC_len, madeDV, traceDC_len, traceDV]; done) | (simp [digC_len, dgV, LV.cells, readDC_len, readDV, madeDC_len, madeDV, traceDC_len, traceDV]; omega)) (by first | exact (dgV_all _) | exact (readD_sum _) | exact (madeD_sum _) | exact (traceD_key _) | rfl) ?_
    refine HPlan.move rfl rfl rfl ?_
    refine HPlan.move rfl rfl rfl ?_
    refine HPlan.lenO hok2.own rfl rfl rfl q_tk_22 (by rw [List.length_map] : _ = LV.int .i64 (([t'].length : Nat) : Int)) ?_
    refine HPlan.move rfl rfl rfl ?_
    refine HPlan.nilCheck rfl rfl rfl rfl ?_
    refine HPlan.fieldAddr rfl rfl rfl rfl q_fo_70_0 rfl ?_
    refine HPlan.load rfl rfl rfl q_sh_3 (by repeat (first | exact List.Mem.head _ | apply List.Mem.tail | assumption)) (by constructor <;> first | rfl | decide | omega | exact Nat.le_refl _ | (simp; done) | (simp; omega)) (by rfl : _ = LV.int .i64 most) ?_
    refine HPlan.min rfl rfl rfl rfl (min_lv _ _) ?_
    refine HPlan.sliceH rfl rfl rfl rfl rfl q_sv_22 (by omega) (by simp only [List.length_singleton]; omega) (by have := hok2.cap; rw [List.length_map] at this; omega) (by simp : _ = LV.hs row2.id 0 (min (([t'].length : Nat) : Int) most).toNat row2.cap) ?_
    refine HPlan.mapUpdate rfl rfl rfl rfl rfl q_mt_68 q_kk_24 (dg_fits _) hes rfl (by repeat (first | exact Upd.here | apply Upd.there)) keptH_nil ?_
    refine HPlan.fin ?_
    refine onNorm_n ?_
    refine HWp.seq ?_
    refine HWp.text (.rd 0 .done) rfl ?_
    refine HPlan.assign rfl rfl rfl ?_
    refine HPlan.fin ?_
    refine onNorm_n ?_
    refine HWp.ret ?_
    refine retQ_r (.tmp rfl .nil) ?_
    obtain ⟨c1, c2, c3⟩ := row_cut hok2 most.toNat
    have hmn : (min (([t'].length : Nat) : Int) most).toNat = min most.toNat [t'].length := by omega
    rw [hmn, ← c3, ← c2]
    exact endK_of ⟨rfl, _, Row.cut row2 [t'] most.toNat, t', hs', c1, rfl, T0, rfl⟩ (by repeat (first | exact Part.refl _ | refine Part.pull (by repeat (first | exact Pull.here | apply Pull.there)) ?_ | refine Part.skip _ ?_ | exact Part.nil _ | exact Part.app _ _ | exact Part.appL _ _ | refine Part.appR _ ?_)) (by repeat (first | exact Part.refl _ | refine Part.pull (by repeat (first | exact Pull.here | apply Pull.there)) ?_ | refine Part.skip _ ?_ | exact Part.nil _ | exact Part.app _ _ | exact Part.appL _ _ | refine Part.appR _ ?_))
end Go.Proofs.YthfoobfgdakbmaaDoor

set_option linter.unusedVariables false
set_option linter.unusedSimpArgs false
set_option maxRecDepth 100000
namespace Go.Proofs.YthfoobfgdakbmaaDoor
open Go Go.RowKit Go.L

theorem add_bad (t : TraceD) (hc : Calm t) (h0 : checkF t ≠ 0) (d : Nat) : HPure Tryd.prog 13 [.ref d 0, traceDV t] (.int .i64 (checkF t)) := by
 intro L T
 refine HCalls.enterG q_f_13 rfl ?_
 refine HWp.frame (r' := ⟨43, [(0, .ref d 0), (1, traceDV t)]⟩) rfl ?_
 refine HWp.seq ?_
 refine HWp.text (.act 0 [] (.rd 1 .done)) rfl ?_
 refine HPlan.box rfl rfl rfl (by first | rfl | (simp; done)) (fun i3 => ⟨keptH_nil, ?_⟩)
 refine HPlan.assign rfl rfl rfl ?_
 refine HPlan.fin ?_
 refine onNorm_n ?_
 refine HWp.seq ?_
 refine HWp.seq ?_
 refine HWp.text (.rd 0 (.rd 1 .done)) rfl ?_
 refine HPlan.move rfl rfl rfl ?_
 refine HPlan.nilEqK rfl rfl rfl rfl q_tk_31 rfl rfl rfl rfl ?_
 refine HPlan.fin ?_
 refine onNorm_n ?_
 refine HWp.cond rfl ?_ ?_
 ·
  intro hc8
  first
  | exact PrN hc8
  | ((try simp only [Pr] at hc8); exfalso; omega)
  | (try simp only [Pr] at hc8)
    exfalso
    skip
 ·
  intro hc8
  first
  | exact PrN hc8
  | ((try simp only [Pr] at hc8); exfalso; omega)
  | (try simp only [Pr] at hc8)
    refine HWp.skip ?_
    refine onNorm_n ?_
    refine HWp.seq ?_
    refine HWp.seq ?_
    refine HWp.text (.rd 0 (.act 1 [] (.rd 2 .done))) rfl ?_
    first
    | refine HPlan.loadI rfl rfl rfl q_sh_28 (by constructor <;> first | rfl | decide | omega | exact Nat.le_refl _ | (simp [digC_len, dgV, LV.cells, readDC_len, readDV, madeDC_len, madeDV, traceDC_len, traceDV]; done) | (simp [digC_len, dgV, LV.cells, readDC_len, readDV, madeDC_len, madeDV, traceDC_len, traceDV]; omega)) (by first | exact (traceD_all _) | rfl) ?_
    | refine HPlan.load rfl rfl rfl q_sh_28 (by repeat (first | exact List.Mem.head _ | apply List.Mem.tail | assumption)) (by constructor <;> first | rfl | decide | omega | exact Nat.le_refl _ | (simp [digC_len, dgV, LV.cells, readDC_len, readDV, madeDC_len, madeDV, traceDC_len, traceDV]; done) | (simp [digC_len, dgV, LV.cells, readDC_len, readDV, madeDC_len, madeDV, traceDC_len, traceDV]; omega)) (by first | exact (traceD_all _) | rfl) ?_
    refine HPlan.callPure rfl rfl rfl q_en_33 (check_spec t hc) keptH_nil ?_
    refine HPlan.assign rfl rfl rfl ?_
    refine HPlan.fin ?_
    refine onNorm_n ?_
    refine HWp.seq ?_
    refine HWp.text (.rd 0 (.rd 1 .done)) rfl ?_
    refine HPlan.move rfl rfl rfl ?_
    refine HPlan.intBin rfl rfl rfl rfl rfl (congrArg (fun b => LV.bool (!b)) (beq_eq_false_iff_ne.2 h0) : _ = LV.bool true) ?_
    refine HPlan.fin ?_
    refine onNorm_n ?_
    refine HWp.cond_t rfl ?_
    refine HWp.seq ?_
    refine HWp.text (.rd 0 (.rd 1 .done)) rfl ?_
    refine HPlan.move rfl rfl rfl ?_
    refine HPlan.assign rfl rfl rfl ?_
    refine HPlan.fin ?_
    refine onNorm_n ?_
    refine HWp.ret ?_
    refine onNorm_r ?_
    refine retQ_r (.tmp rfl .nil) ?_
    exact endK_of ⟨rfl, rfl, rfl⟩ (by repeat (first | exact Part.refl _ | refine Part.pull (by repeat (first | exact Pull.here | apply Pull.there)) ?_ | refine Part.skip _ ?_ | exact Part.nil _ | exact Part.app _ _ | exact Part.appL _ _ | refine Part.appR _ ?_)) (by repeat (first | exact Part.refl _ | refine Part.pull (by repeat (first | exact Pull.here | apply Pull.there)) ?_ | refine Part.skip _ ?_ | exact Part.nil _ | exact Part.app _ _ | exact Part.appL _ _ | refine Part.appR _ ?_))
end Go.Proofs.YthfoobfgdakbmaaDoor

set_option linter.unusedVariables false
set_option linter.unusedSimpArgs false
set_option maxRecDepth 100000
namespace Go.Proofs.YthfoobfgdakbmaaDoor
open Go Go.RowKit Go.L
theorem q_en_39 : enterable Tryd.prog 39 = true := by kernel_rfl
theorem q_f_15 : Tryd.prog.funcs[15]? = some Tryd.f15 := by kernel_rfl

theorem SameAll.set {us ts : List TraceD} {k : Nat} {x : TraceD} (h : SameAll us ts) (hk : k < us.length) (hs : SameT x us[k]) : SameAll (us.set k x) ts := by
  refine ⟨by rw [List.length_set]; exact h.1, fun i h1 h2 h3 => ?_⟩
  rw [List.length_set] at h1
  have := h.2 i h1 h2 h1
  rw [List.getElem_set]
  split
  · rename_i e
    subst e
    exact ⟨hs.1.trans this.1, hs.2.1.trans this.2.1, hs.2.2.trans this.2.2⟩
  · exact this
theorem SameAll.refl (ts : List TraceD) : SameAll ts ts := ⟨rfl, fun i _ _ _ => ⟨rfl, rfl, rfl⟩⟩
def SlimAll (ts : List TraceD) : Prop := ∀ i (h : i < ts.length), ts[i].reads.l.length < 1048576 ∧ ts[i].outs.l.length < 1048576
theorem same_lean {us ts : List TraceD} {k : Nat} (h : SameAll us ts) (hz : SlimAll ts) (hk : k < us.length) : us[k].reads.l.length < 1048576 ∧ us[k].outs.l.length < 1048576 := by
  have h1 := h.2 k hk (by have := h.1; omega) hk
  have h2 := hz k (by have := h.1; omega)
  rw [h1.2.1, h1.2.2]; exact h2

theorem of_old (k : Dig) (most : Int) (d m dv mv : Nat) (es : List (LV × LV)) (row : Row) (ts : List TraceD) (hok : row.ok 34 (ts.map traceDV)) (hne : ts ≠ []) (hl : ts.length < 1048576) (hz : SlimAll ts) (hes : ∀ p ∈ es, (KeyK.arr 32 (.int .u8)).fits p.1 = true) (hg : getL (dgV k) es = some (row.v (ts.map traceDV))) (G : Hp) (T : Tk) : HCalls Tryd.prog 15 [.ref d 0, dgV k] ((d, .cells 70 [.int .i64 most, .mp m] dv) :: (m, .map es mv) :: row.o (ts.map traceDV) :: G) T (fun r L' T' => ∃ (row' : Row) (us : List TraceD), SameAll us ts ∧ row'.ok 34 (us.map traceDV) ∧ r = row'.v (us.map traceDV) ∧ L' = row'.o (us.map traceDV) :: (d, .cells 70 [.int .i64 most, .mp m] dv) :: (m, .map es mv) :: row.o (ts.map traceDV) :: G ∧ ∃ T0, T' = T0 ++ T) := by
 refine HCalls.enterG q_f_15 rfl ?_
 refine HWp.frame (r' := ⟨31, [(0, .ref d 0), (1, dgV k)]⟩) rfl ?_
 refine HWp.seq ?_
 refine HWp.text (.act 0 [] (.rd 1 .done)) rfl ?_
 refine HPlan.box rfl rfl rfl (by first | rfl | (simp; done)) (fun i3 => ⟨keptH_nil, ?_⟩)
 refine HPlan.assign rfl rfl rfl ?_
 refine HPlan.fin ?_
 refine onNorm_n ?_
 refine HWp.seq ?_
 refine HWp.seq ?_
 refine HWp.text (.rd 0 (.rd 1 .done)) rfl ?_
 refine HPlan.move rfl rfl rfl ?_
 refine HPlan.nilEqK rfl rfl rfl rfl q_tk_31 rfl rfl rfl rfl ?_
 refine HPlan.fin ?_
 refine onNorm_n ?_
 refine HWp.cond rfl ?_ ?_
 ·
  intro hc8
  first
  | exact PrN hc8
  | ((try simp only [Pr] at hc8); exfalso; omega)
  | (try simp only [Pr] at hc8)
    exfalso
    skip
 ·
  intro hc8
  first
  | exact PrN hc8
  | ((try simp only [Pr] at hc8); exfalso; omega)
  | (try simp only [Pr] at hc8)
    refine HWp.skip ?_
    refine onNorm_n ?_
    refine HWp.seq ?_
    refine HWp.draw q_mix (.rd 0 (.rd 1 (.rd 2 (.rd 3 (.rd 4 (.rd 5 (.act 6 [] (.rd 7 .done)))))))) (by kernel_rfl) ?_
    refine HPlan.move rfl rfl rfl ?_
    refine HPlan.nilCheck rfl rfl rfl rfl ?_
    refine HPlan.fieldAddr rfl rfl rfl rfl q_fo_70_1 rfl ?_
    first
    | refine HPlan.loadI rfl rfl rfl q_sh_68 (by constructor <;> first | rfl | decide | omega | exact Nat.le_refl _ | (simp [digC_len, dgV, LV.cells, readDC_len, readDV, madeDC_len, madeDV, traceDC_len, traceDV]; done) | (simp [digC_len, dgV, LV.cells, readDC_len, readDV, madeDC_len, madeDV, traceDC_len, traceDV]; omega)) (by first | rfl) ?_
    | refine HPlan.load rfl rfl rfl q_sh_68 (by repeat (first | exact List.Mem.head _ | apply List.Mem.tail | assumption)) (by constructor <;> first | rfl | decide | omega | exact Nat.le_refl _ | (simp [digC_len, dgV, LV.cells, readDC_len, readDV, madeDC_len, madeDV, traceDC_len, traceDV]; done) | (simp [digC_len, dgV, LV.cells, readDC_len, readDV, madeDC_len, madeDV, traceDC_len, traceDV]; omega)) (by first | rfl) ?_
    first
    | refine HPlan.loadI rfl rfl rfl q_sh_24 (by constructor <;> first | rfl | decide | omega | exact Nat.le_refl _ | (simp [digC_len, dgV, LV.cells, readDC_len, readDV, madeDC_len, madeDV, traceDC_len, traceDV]; done) | (simp [digC_len, dgV, LV.cells, readDC_len, readDV, madeDC_len, madeDV, traceDC_len, traceDV]; omega)) (by first | exact (dgV_all _) | exact (readD_sum _) | exact (madeD_sum _) | exact (traceD_key _) | rfl) ?_
    | refine HPlan.load rfl rfl rfl q_sh_24 (by repeat (first | exact List.Mem.head _ | apply List.Mem.tail | assumption)) (by constructor <;> first | rfl | decide | omega | exact Nat.le_refl _ | (simp [digC_len, dgV, LV.cells, readDC_len, readDV, madeDC_len, madeDV, traceDC_len, traceDV]; done) | (simp [digC_len, dgV, LV.cells, readDC_len, readDV, madeDC_len, madeDV, traceDC_len, traceDV]; omega)) (by first | exact (dgV_all _) | exact (readD_sum _) | exact (madeD_sum _) | exact (traceD_key _) | rfl) ?_
    refine HPlan.lookup rfl rfl rfl rfl q_mt_68 q_kk_24 q_zo_22 (by repeat (first | exact List.Mem.head _ | apply List.Mem.tail | assumption)) (dg_fits _) hes (by rw [hg]; rfl : _ = row.v (ts.map traceDV)) ?_
    refine HPlan.callS rfl rfl rfl q_en_39 (clonerow_spec row ts hok hne hl _ _) (perm_del _ _ _ _ _) (List.Perm.refl _) ?_
    rintro r_R3_6 L_R3_6 T1 ⟨row2, hok2, rfl, rfl, rfl⟩
    refine ⟨keptH_nil, ?_⟩
    refine HPlan.assign rfl rfl rfl ?_
    refine HPlan.fin ?_
    refine onNorm_n ?_
    refine HWp.seq ?_
    refine HWp.seq ?_
    refine HWp.text (.rd 0 (.rd 1 (.rd 2 .done))) rfl ?_
    refine HPlan.move rfl rfl rfl ?_
    refine HPlan.lenO hok2.own rfl rfl rfl q_tk_22 (by rw [List.length_map]) ?_
    refine HPlan.move rfl rfl rfl ?_
    refine HPlan.fin ?_
    refine onNorm_n ?_
    refine HWp.block ?_
    refine HWp.loopF (α := Nat × List TraceD × Nat × Tk) (fun q => ts.length - q.1) (fun q => q.1 ≤ ts.length ∧ SameAll q.2.1 ts ∧ ∃ T0, q.2.2.2 = T0 ++ T1) (fun q => ⟨31, [(5, row2.v (q.2.1.map traceDV)), (17, .int .i64 (ts.length : Int)), (18, .int .i64 (q.1 : Int))]⟩) (fun q => (row2.id, .cells row2.ty (flat (q.2.1.map traceDV) ++ row2.rest) q.2.2.1) :: (d, .cells 70 [.int .i64 most, .mp m] dv) :: (m, .map es mv) :: row.o (ts.map traceDV) :: G) (fun q => q.2.2.2) ?_ ?_
    ·
     refine ⟨(0, ts, row2.ver, T1), ⟨Nat.zero_le _, SameAll.refl ts, [], rfl⟩, (LessE.less (by repeat (first | exact LessE.nil | refine LessE.same rfl ?_ | refine LessE.own rfl ?_ | refine LessE.eq rfl ?_ (by first | rfl | (congr 1; omega) | simp))) rfl), (by repeat (first | exact Part.refl _ | refine Part.pull (by repeat (first | exact Pull.here | apply Pull.there)) ?_ | refine Part.skip _ ?_ | exact Part.nil _ | exact Part.app _ _ | exact Part.appL _ _ | refine Part.appR _ ?_)), (by repeat (first | exact Part.refl _ | refine Part.pull (by repeat (first | exact Pull.here | apply Pull.there)) ?_ | refine Part.skip _ ?_ | exact Part.nil _ | exact Part.app _ _ | exact Part.appL _ _ | refine Part.appR _ ?_))⟩
    ·
     rintro q ⟨hq1, hsa, T0, hT0⟩
     obtain ⟨q, us, ver, Tq⟩ := q
     simp only at hq1 hsa hT0 ⊢
     have hul := hsa.1
     refine HWp.seq ?_
     refine HWp.text (.rd 0 .done) rfl ?_
     refine HPlan.intBin rfl rfl rfl rfl rfl rfl ?_
     refine HPlan.fin ?_
     refine onNorm_n ?_
     refine HWp.seq ?_
     refine HWp.cond rfl ?_ ?_
     ·
      intro hc19
      first
      | exact PrN hc19
      | ((try simp only [Pr] at hc19); exfalso; omega)
      | (try simp only [Pr] at hc19)
        refine HWp.skip ?_
        refine onNorm_n ?_
        refine HWp.seq ?_
        refine HWp.block ?_
        refine HWp.seq ?_
        refine HWp.text (.rd 0 (.rd 1 .done)) rfl ?_
        refine HPlan.move rfl rfl rfl ?_
        refine HPlan.assign rfl rfl rfl ?_
        refine HPlan.fin ?_
        refine onNorm_n ?_
        refine HWp.text (.rd 0 (.rd 1 (.rd 2 (.rd 3 (.rd 4 (.rd 5 (.act 6 [] (.rd 7 (.act 8 [] .done))))))))) rfl ?_
        refine HPlan.move rfl rfl rfl ?_
        refine HPlan.move rfl rfl rfl ?_
        refine HPlan.move rfl rfl rfl ?_
        refine HPlan.move rfl rfl rfl ?_
        refine HPlan.indexH rfl rfl rfl rfl q_ix_22 (by omega) (by simp only [List.length_map]; omega) (rfl : _ = LV.ref row2.id (0 + q * 34)) ?_
        refine HPlan.load rfl rfl rfl q_sh_28 (by repeat (first | exact List.Mem.head _ | apply List.Mem.tail | assumption)) (by constructor <;> simp [flat_len (trace_cells _)] <;> omega) (trace_load (k := q) (by omega)) ?_
        refine HPlan.callS rfl rfl rfl q_en_38 (clone_spec (us[q]'(by omega)) (same_lean hsa hz (by omega)).1 (same_lean hsa hz (by omega)).2 _ _) (List.Perm.refl _) (List.Perm.refl _) ?_
        rintro r_R7_6 L_R7_6 T3 ⟨t', hs', rfl, rfl, T2, rfl⟩
        refine ⟨keptH_nil, ?_⟩
        refine HPlan.indexH rfl rfl rfl rfl q_ix_22 (by omega) (by simp only [List.length_map]; omega) (rfl : _ = LV.ref row2.id (0 + q * 34)) ?_
        refine HPlan.store rfl rfl rfl rfl q_sz_28 (by first | rfl | (simp; done)) (by simp [traceDV, LV.cells]) (by repeat (first | exact List.Mem.head _ | apply List.Mem.tail | assumption)) (trace_store (by omega) t') (by repeat (first | exact Upd.here | apply Upd.there)) (by simp [flat_len (trace_cells _)]; omega) keptH_nil ?_
        refine HPlan.fin ?_
        refine onExitH_n ?_
        refine onNorm_n ?_
        refine HWp.text (.rd 0 (.rd 1 .done)) rfl ?_
        refine HPlan.intBin rfl rfl rfl rfl rfl (by first | exact add_i64 (by omega) (by omega) | rfl) ?_
        refine HPlan.move rfl rfl rfl ?_
        refine HPlan.fin ?_
        refine onNorm_n ?_
        rw [show row2.v (us.map traceDV) = row2.v ((us.set q t').map traceDV) by simp [Row.v]]
        exact ⟨(q + 1, us.set q t', ver + 1, T2 ++ Tq), (by show ts.length - (q + 1) < ts.length - q; omega), ⟨by show q + 1 ≤ _; omega, hsa.set (by omega) hs', T2 ++ T0, by show T2 ++ Tq = T2 ++ T0 ++ T1; rw [hT0, List.append_assoc]⟩, (LessE.less (by repeat (first | exact LessE.nil | refine LessE.same rfl ?_ | refine LessE.own rfl ?_ | refine LessE.eq rfl ?_ (by first | rfl | (congr 1; omega) | simp))) rfl), (by repeat (first | exact Part.refl _ | refine Part.pull (by repeat (first | exact Pull.here | apply Pull.there)) ?_ | refine Part.skip _ ?_ | exact Part.nil _ | exact Part.app _ _ | exact Part.appL _ _ | refine Part.appR _ ?_)), (by repeat (first | exact Part.refl _ | refine Part.pull (by repeat (first | exact Pull.here | apply Pull.there)) ?_ | refine Part.skip _ ?_ | exact Part.nil _ | exact Part.app _ _ | exact Part.appL _ _ | refine Part.appR _ ?_))⟩
     ·
      intro hc19
      first
      | exact PrN hc19
      | ((try simp only [Pr] at hc19); exfalso; omega)
      | (try simp only [Pr] at hc19)
        refine HWp.exit ?_
        refine onNorm_e ?_
        refine onNorm_e ?_
        refine onExitH_hit ?_
        refine onNorm_n ?_
        refine HWp.seq ?_
        refine HWp.text (.rd 0 (.rd 1 .done)) rfl ?_
        refine HPlan.move rfl rfl rfl ?_
        refine HPlan.assign rfl rfl rfl ?_
        refine HPlan.fin ?_
        refine onNorm_n ?_
        refine HWp.ret ?_
        refine retQ_r (.tmp rfl .nil) ?_
        exact endK_of ⟨⟨row2.id, row2.ty, ver, row2.cap, row2.rest⟩, us, hsa, ⟨by have := hok2.len; simp only [List.length_map] at this ⊢; rw [hul]; exact this, by have := hok2.cap; simp only [List.length_map] at this ⊢; rw [hul]; exact this, trace_cells _⟩, rfl, rfl, T0, hT0⟩ (by repeat (first | exact Part.refl _ | refine Part.pull (by repeat (first | exact Pull.here | apply Pull.there)) ?_ | refine Part.skip _ ?_ | exact Part.nil _ | exact Part.app _ _ | exact Part.appL _ _ | refine Part.appR _ ?_)) (by repeat (first | exact Part.refl _ | refine Part.pull (by repeat (first | exact Pull.here | apply Pull.there)) ?_ | refine Part.skip _ ?_ | exact Part.nil _ | exact Part.app _ _ | exact Part.appL _ _ | refine Part.appR _ ?_))
end Go.Proofs.YthfoobfgdakbmaaDoor

set_option linter.unusedVariables false
set_option linter.unusedSimpArgs false
set_option maxRecDepth 100000
namespace Go.Proofs.YthfoobfgdakbmaaDoor
open Go Go.RowKit Go.L

theorem clonerow_nil  : HPure Tryd.prog 39 [.nils] .nils := by
 intro L T
 refine HCalls.enterG q_f_39 rfl ?_
 refine HWp.frame (r' := ⟨8, [(0, .nils)]⟩) rfl ?_
 refine HWp.seq ?_
 refine HWp.text (.rd 0 .done) rfl ?_
 refine HPlan.assign rfl rfl rfl ?_
 refine HPlan.fin ?_
 refine onNorm_n ?_
 refine HWp.seq ?_
 refine HWp.seq ?_
 refine HWp.text (.rd 0 (.rd 1 .done)) rfl ?_
 refine HPlan.move rfl rfl rfl ?_
 refine HPlan.nilEqK rfl rfl rfl rfl q_tk_22 rfl rfl rfl rfl ?_
 refine HPlan.fin ?_
 refine onNorm_n ?_
 refine HWp.cond_t rfl ?_
 refine HWp.seq ?_
 refine HWp.text (.rd 0 .done) rfl ?_
 refine HPlan.assign rfl rfl rfl ?_
 refine HPlan.fin ?_
 refine onNorm_n ?_
 refine HWp.ret ?_
 refine onNorm_r ?_
 refine retQ_r (.tmp rfl .nil) ?_
 exact endK_of ⟨rfl, rfl, rfl⟩ (by repeat (first | exact Part.refl _ | refine Part.pull (by repeat (first | exact Pull.here | apply Pull.there)) ?_ | refine Part.skip _ ?_ | exact Part.nil _ | exact Part.app _ _ | exact Part.appL _ _ | refine Part.appR _ ?_)) (by repeat (first | exact Part.refl _ | refine Part.pull (by repeat (first | exact Pull.here | apply Pull.there)) ?_ | refine Part.skip _ ?_ | exact Part.nil _ | exact Part.app _ _ | exact Part.appL _ _ | refine Part.appR _ ?_))
theorem of_new (k : Dig) (most : Int) (d m dv mv : Nat) (es : List (LV × LV)) (hes : ∀ p ∈ es, (KeyK.arr 32 (.int .u8)).fits p.1 = true) (hg : getL (dgV k) es = none) (G : Hp) (T : Tk) : HCalls Tryd.prog 15 [.ref d 0, dgV k] ((d, .cells 70 [.int .i64 most, .mp m] dv) :: (m, .map es mv) :: G) T (fun r L' T' => r = .nils ∧ L' = (d, .cells 70 [.int .i64 most, .mp m] dv) :: (m, .map es mv) :: G ∧ T' = T) := by
 refine HCalls.enterG q_f_15 rfl ?_
 refine HWp.frame (r' := ⟨31, [(0, .ref d 0), (1, dgV k)]⟩) rfl ?_
 refine HWp.seq ?_
 refine HWp.text (.act 0 [] (.rd 1 .done)) rfl ?_
 refine HPlan.box rfl rfl rfl (by first | rfl | (simp; done)) (fun i3 => ⟨keptH_nil, ?_⟩)
 refine HPlan.assign rfl rfl rfl ?_
 refine HPlan.fin ?_
 refine onNorm_n ?_
 refine HWp.seq ?_
 refine HWp.seq ?_
 refine HWp.text (.rd 0 (.rd 1 .done)) rfl ?_
 refine HPlan.move rfl rfl rfl ?_
 refine HPlan.nilEqK rfl rfl rfl rfl q_tk_31 rfl rfl rfl rfl ?_
 refine HPlan.fin ?_
 refine onNorm_n ?_
 refine HWp.cond rfl ?_ ?_
 ·
  intro hc8
  first
  | exact PrN hc8
  | ((try simp only [Pr] at hc8); exfalso; omega)
  | (try simp only [Pr] at hc8)
    exfalso
    skip
 ·
  intro hc8
  first
  | exact PrN hc8
  | ((try simp only [Pr] at hc8); exfalso; omega)
  | (try simp only [Pr] at hc8)
    refine HWp.skip ?_
    refine onNorm_n ?_
    refine HWp.seq ?_
    refine HWp.draw q_mix (.rd 0 (.rd 1 (.rd 2 (.rd 3 (.rd 4 (.rd 5 (.act 6 [] (.rd 7 .done)))))))) (by kernel_rfl) ?_
    refine HPlan.move rfl rfl rfl ?_
    refine HPlan.nilCheck rfl rfl rfl rfl ?_
    refine HPlan.fieldAddr rfl rfl rfl rfl q_fo_70_1 rfl ?_
    first
    | refine HPlan.loadI rfl rfl rfl q_sh_68 (by constructor <;> first | rfl | decide | omega | exact Nat.le_refl _ | (simp [digC_len, dgV, LV.cells, readDC_len, readDV, madeDC_len, madeDV, traceDC_len, traceDV]; done) | (simp [digC_len, dgV, LV.cells, readDC_len, readDV, madeDC_len, madeDV, traceDC_len, traceDV]; omega)) (by first | rfl) ?_
    | refine HPlan.load rfl rfl rfl q_sh_68 (by repeat (first | exact List.Mem.head _ | apply List.Mem.tail | assumption)) (by constructor <;> first | rfl | decide | omega | exact Nat.le_refl _ | (simp [digC_len, dgV, LV.cells, readDC_len, readDV, madeDC_len, madeDV, traceDC_len, traceDV]; done) | (simp [digC_len, dgV, LV.cells, readDC_len, readDV, madeDC_len, madeDV, traceDC_len, traceDV]; omega)) (by first | rfl) ?_
    first
    | refine HPlan.loadI rfl rfl rfl q_sh_24 (by constructor <;> first | rfl | decide | omega | exact Nat.le_refl _ | (simp [digC_len, dgV, LV.cells, readDC_len, readDV, madeDC_len, madeDV, traceDC_len, traceDV]; done) | (simp [digC_len, dgV, LV.cells, readDC_len, readDV, madeDC_len, madeDV, traceDC_len, traceDV]; omega)) (by first | exact (dgV_all _) | exact (readD_sum _) | exact (madeD_sum _) | exact (traceD_key _) | rfl) ?_
    | refine HPlan.load rfl rfl rfl q_sh_24 (by repeat (first | exact List.Mem.head _ | apply List.Mem.tail | assumption)) (by constructor <;> first | rfl | decide | omega | exact Nat.le_refl _ | (simp [digC_len, dgV, LV.cells, readDC_len, readDV, madeDC_len, madeDV, traceDC_len, traceDV]; done) | (simp [digC_len, dgV, LV.cells, readDC_len, readDV, madeDC_len, madeDV, traceDC_len, traceDV]; omega)) (by first | exact (dgV_all _) | exact (readD_sum _) | exact (madeD_sum _) | exact (traceD_key _) | rfl) ?_
    refine HPlan.lookup rfl rfl rfl rfl q_mt_68 q_kk_24 q_zo_22 (by repeat (first | exact List.Mem.head _ | apply List.Mem.tail | assumption)) (dg_fits _) hes (by rw [hg]; rfl : _ = LV.nils) ?_
    refine HPlan.callPure rfl rfl rfl q_en_39 clonerow_nil keptH_nil ?_
    refine HPlan.assign rfl rfl rfl ?_
    refine HPlan.fin ?_
    refine onNorm_n ?_
    refine HWp.seq ?_
    refine HWp.seq ?_
    refine HWp.text (.rd 0 (.rd 1 (.rd 2 .done))) rfl ?_
    refine HPlan.move rfl rfl rfl ?_
    refine HPlan.lenS rfl rfl rfl q_tk_22 (IsSl.nils (k := 34)) (rfl : _ = LV.int .i64 0) ?_
    refine HPlan.move rfl rfl rfl ?_
    refine HPlan.fin ?_
    refine onNorm_n ?_
    refine HWp.block ?_
    refine HWp.loopF (α := Unit) (fun k0 => 0) (fun k0 => True) (fun k0 => ⟨31, [(5, .nils), (17, .int .i64 0), (18, .int .i64 0)]⟩) (fun k0 => (d, .cells 70 [.int .i64 most, .mp m] dv) :: (m, .map es mv) :: G) (fun k0 => T) ?_ ?_
    ·
     refine ⟨(), trivial, (LessE.less (by repeat (first | exact LessE.nil | refine LessE.same rfl ?_ | refine LessE.own rfl ?_ | refine LessE.eq rfl ?_ (by first | rfl | (congr 1; omega) | simp))) rfl), (by repeat (first | exact Part.refl _ | refine Part.pull (by repeat (first | exact Pull.here | apply Pull.there)) ?_ | refine Part.skip _ ?_ | exact Part.nil _ | exact Part.app _ _ | exact Part.appL _ _ | refine Part.appR _ ?_)), (by repeat (first | exact Part.refl _ | refine Part.pull (by repeat (first | exact Pull.here | apply Pull.there)) ?_ | refine Part.skip _ ?_ | exact Part.nil _ | exact Part.app _ _ | exact Part.appL _ _ | refine Part.appR _ ?_))⟩
    ·
     rintro k0 -
     refine HWp.seq ?_
     refine HWp.text (.rd 0 .done) rfl ?_
     refine HPlan.intBin rfl rfl rfl rfl rfl (rfl : _ = LV.bool false) ?_
     refine HPlan.fin ?_
     refine onNorm_n ?_
     refine HWp.seq ?_
     refine HWp.cond_f rfl ?_
     refine HWp.exit ?_
     refine onNorm_e ?_
     refine onNorm_e ?_
     refine onExitH_hit ?_
     refine onNorm_n ?_
     refine HWp.seq ?_
     refine HWp.text (.rd 0 (.rd 1 .done)) rfl ?_
     refine HPlan.move rfl rfl rfl ?_
     refine HPlan.assign rfl rfl rfl ?_
     refine HPlan.fin ?_
     refine onNorm_n ?_
     refine HWp.ret ?_
     refine retQ_r (.tmp rfl .nil) ?_
     exact endK_of ⟨rfl, rfl, rfl⟩ (by repeat (first | exact Part.refl _ | refine Part.pull (by repeat (first | exact Pull.here | apply Pull.there)) ?_ | refine Part.skip _ ?_ | exact Part.nil _ | exact Part.app _ _ | exact Part.appL _ _ | refine Part.appR _ ?_)) (by repeat (first | exact Part.refl _ | refine Part.pull (by repeat (first | exact Pull.here | apply Pull.there)) ?_ | refine Part.skip _ ?_ | exact Part.nil _ | exact Part.app _ _ | exact Part.appL _ _ | refine Part.appR _ ?_))
end Go.Proofs.YthfoobfgdakbmaaDoor

set_option linter.unusedVariables false
set_option linter.unusedSimpArgs false
set_option maxRecDepth 100000
namespace Go.Proofs.YthfoobfgdakbmaaDoor
open Go Go.RowKit Go.L


/-! ### Traces by what they say; what a db keeps, told by keys -/
abbrev Tr := Dig × List ReadD × List MadeD
def pj (t : TraceD) : Tr := (t.key, t.reads.l, t.outs.l)
theorem same_pj (a b : TraceD) : SameT a b ↔ pj a = pj b := by
  simp only [SameT, pj, Prod.mk.injEq]
def keepP (x : Tr) (l : List Tr) : List Tr := l.filter fun y => !decide (y = x)
theorem keep_pj (t : TraceD) : ∀ ts : List TraceD, (keepT t ts).map pj = keepP (pj t) (ts.map pj)
  | [] => rfl
  | a :: ts => by
    have ih := keep_pj t ts
    by_cases h : SameT a t
    · have h' := (same_pj a t).1 h
      simpa [keepT, keepP, List.filter_cons, h, h'] using ih
    · have h' : ¬ pj a = pj t := fun e => h ((same_pj a t).2 e)
      simpa [keepT, keepP, List.filter_cons, h, h'] using ih
theorem sameAll_pj {us ts : List TraceD} (h : us.map pj = ts.map pj) : SameAll us ts := by
  have hl := congrArg List.length h
  rw [List.length_map, List.length_map] at hl
  refine ⟨hl, fun i h1 h2 _ => (same_pj _ _).2 ?_⟩
  have := congrArg (fun l => l[i]?) h
  simpa [h1, h2] using this
theorem pj_all {us ts : List TraceD} (h : SameAll us ts) : us.map pj = ts.map pj := by
  apply List.ext_getElem
  · simp [h.1]
  · intro i h1 h2
    rw [List.length_map] at h1 h2
    rw [List.getElem_map, List.getElem_map]
    exact (same_pj _ _).1 (h.2 i h1 h2 h1)
theorem getR_put (k d : Dig) (x : Row × List TraceD) : ∀ rs, getR k (putR d x rs) = if k = d then some x else getR k rs
  | [] => by simp [putR, getR]
  | e :: r => by
    have ih := getR_put k d x r
    simp only [putR]
    by_cases h : d = e.1
    · rw [if_pos h]
      simp only [getR]
      by_cases q : k = d
      · rw [if_pos q, if_pos q]
      · rw [if_neg q, if_neg q, if_neg (fun e2 => q (e2.trans h.symm))]
    · rw [if_neg h]
      simp only [getR, ih]
      by_cases q : k = e.1
      · rw [if_pos q, if_neg (fun e2 => h (e2.symm.trans q)), if_pos q]
      · rw [if_neg q, if_neg q]
/-- What is known of a row that is kept. -/
structure Held1 (x : Row × List TraceD) (l : List Tr) : Prop where
  ok : x.1.ok 34 (x.2.map traceDV)
  ne : x.2 ≠ []
  le : x.2.length ≤ 8
  slim : SlimAll x.2
  is : x.2.map pj = l
def HeldO : Option (Row × List TraceD) → List Tr → Prop
  | some x, l => Held1 x l
  | none, l => l = []
/-- The rows that lie in memory are those that are kept. -/
def Kept (rs : List Ent) (f : Dig → List Tr) : Prop := ∀ k, HeldO (getR k rs) (f k)
theorem Kept.nil : Kept [] (fun _ => []) := fun _ => rfl
theorem Kept.put {rs : List Ent} {f : Dig → List Tr} (h : Kept rs f) {d : Dig} {x : Row × List TraceD} {g : List Tr} (h1 : Held1 x g) :
    Kept (putR d x rs) (fun k => if k = d then g else f k) := fun k => by
  simp only [getR_put]
  by_cases q : k = d
  · simp only [q, if_true]; exact h1
  · simp only [q, if_false]; exact h k
def addL (most : Nat) (x : Tr) (l : List Tr) : List Tr := (x :: keepP x l).take most
def addK (most : Nat) (t : TraceD) (f : Dig → List Tr) : Dig → List Tr := if checkF t = 0 then fun k => if k = t.key then addL most (pj t) (f k) else f k else f
/-- A db: its most, its rows. -/
def dbO (d m : Nat) (most : Int) (mv : Nat) (rs : List Ent) : Hp := (d, .cells 70 [.int .i64 most, .mp m] 0) :: (m, .map (entsR rs) mv) :: objsR rs
theorem HCalls.weaken {P : Program} {f : FuncId} {args : List LV} {L : Hp} {T : Tk} {K : LV → Hp → Tk → Prop} (h : HCalls P f args L T (endK K)) : HCalls P f args L T K := fun st hst =>
  (h st hst).mono fun r s ⟨L1, T1, h1, L2, T2, p1, p2, k⟩ => ⟨L2, T2, h1.sub p1 p2, k⟩
theorem slim_take {ts : List TraceD} (h : SlimAll ts) (n : Nat) : SlimAll (ts.take n) := fun i hi => by
  rw [List.length_take] at hi
  rw [List.getElem_take]
  exact h i (by omega)
theorem slim_cons {t : TraceD} {ts : List TraceD} (h1 : t.reads.l.length < 1048576) (h2 : t.outs.l.length < 1048576) (h : SlimAll ts) : SlimAll (t :: ts) := fun i hi => by
  cases i with
  | zero => exact ⟨h1, h2⟩
  | succ i => exact h i (by simpa using hi)
theorem slim_of {ts us : List TraceD} (h : SlimAll ts) (hs : ∀ x ∈ us, x ∈ ts) : SlimAll us := fun i hi => by
  obtain ⟨j, hj, e⟩ := List.mem_iff_getElem.1 (hs _ (List.getElem_mem hi))
  rw [← e]; exact h j hj
theorem Calm.slim {t : TraceD} (h : checkF t = 0) : t.reads.l.length < 1048576 ∧ t.outs.l.length < 1048576 := by
  by_cases h5 : 500 < t.reads.l.length ∨ 1000 < t.outs.l.length
  · rw [check_6 h5] at h; cases h
  · omega
theorem perm_old {α : Type} (a b x : α) (A B G : List α) {O : List α} (h : O.Perm (x :: (A ++ B))) : (a :: b :: O ++ G).Perm (a :: b :: x :: (A ++ B ++ G)) := by
  refine ((List.Perm.append_right G h).cons b).cons a
theorem held_new {t t' : TraceD} (hs : SameT t' t) (h0 : checkF t = 0) (most : Int) (hm1 : 1 ≤ most) (hm8 : most ≤ 8) {row : Row} {ts : List TraceD} {l : List Tr} (hl : ts.map pj = l) (hz : SlimAll ts)
    (hok : row.ok 34 (((t' :: keepT t ts).take most.toNat).map traceDV)) : Held1 (row, (t' :: keepT t ts).take most.toNat) (addL most.toNat (pj t) l) := by
  obtain ⟨h1, h2⟩ := Calm.slim h0
  refine ⟨hok, ?_, ?_, ?_, ?_⟩
  · obtain ⟨n, hn⟩ : ∃ n, most.toNat = n + 1 := ⟨most.toNat - 1, by omega⟩
    rw [hn]; simp
  · simp only [List.length_take]; omega
  · refine slim_take (slim_cons (by rw [hs.2.1]; exact h1) (by rw [hs.2.2]; exact h2) (slim_of hz fun x hx => ?_)) _
    exact (List.mem_filter.1 hx).1
  · rw [List.map_take, List.map_cons, keep_pj, hl, (same_pj _ _).1 hs]; rfl

end Go.Proofs.YthfoobfgdakbmaaDoor

set_option linter.unusedVariables false
set_option linter.unusedSimpArgs false
set_option maxRecDepth 100000
namespace Go.Proofs.YthfoobfgdakbmaaDoor
open Go Go.RowKit Go.L


theorem add_db (t : TraceD) (hc : Calm t) (most : Int) (hm1 : 1 ≤ most) (hm8 : most ≤ 8) (d m mv : Nat) (rs : List Ent) (f : Dig → List Tr) (hk : Kept rs f) (G : Hp) (T : Tk) :
    HCalls Tryd.prog 13 [.ref d 0, traceDV t] (G ++ dbO d m most mv rs) T (fun r L' T' => r = .int .i64 (checkF t) ∧ ∃ (mv' : Nat) (rs' : List Ent), Kept rs' (addK most.toNat t f) ∧ L' = G ++ dbO d m most mv' rs' ∧ ∃ T0, T' = T0 ++ T) := by
  by_cases h0 : checkF t = 0
  · obtain ⟨h1, h2⟩ := Calm.slim h0
    have hkk := hk t.key
    cases hg : getR t.key rs with
    | none =>
      rw [hg] at hkk
      refine HCalls.weaken (HCalls.use (add_new t hc h0 h1 h2 most hm1 hm8 d m 0 mv (entsR rs) (ents_fits rs) (by rw [get_rows, hg]; rfl) (objsR rs ++ G) T) List.perm_append_comm (.refl _) ?_)
      rintro r L' T' ⟨rfl, mv', row', t', hs, hok, rfl, T0, rfl⟩
      have hx := held_new hs h0 most hm1 hm8 (ts := []) (row := row') (l := f t.key) hkk.symm (fun i hi => absurd hi (Nat.not_lt_zero _)) hok
      refine ⟨_, _, ?_, .refl _, by rw [h0], mv', putR t.key (row', [t'].take most.toNat) rs, ?_, rfl, T0, rfl⟩
      · rw [put_rows t.key (row', [t'].take most.toNat) rs]
        refine .of_perm (List.Perm.trans ?_ (List.perm_append_comm (l₁ := dbO d m most mv' _) (l₂ := G)))
        unfold dbO
        refine ((?_ : List.Perm _ _).cons _).cons _
        show List.Perm _ (objsR _ ++ G)
        rw [put_none hg, objsR, objsR, List.map_append]
        exact (List.perm_append_comm (l₁ := [row'.o (([t'].take most.toNat).map traceDV)]) (l₂ := objsR rs)).append_right G
      · have e : addK most.toNat t f = fun k => if k = t.key then addL most.toNat (pj t) (f t.key) else f k := by
          funext k; unfold addK; rw [if_pos h0]
          by_cases q : k = t.key
          · subst q; rfl
          · simp only [q, if_false]
        rw [e]; exact hk.put hx
    | some x =>
      obtain ⟨row, ts⟩ := x
      rw [hg] at hkk
      obtain ⟨A, B, hAB, hput⟩ := split_rows hg
      have hp : (G ++ dbO d m most mv rs).Perm ((d, .cells 70 [.int .i64 most, .mp m] 0) :: (m, .map (entsR rs) mv) :: row.o (ts.map traceDV) :: (objsR A ++ objsR B ++ G)) := by
        refine List.perm_append_comm.trans (perm_old _ _ _ _ _ _ ?_)
        rw [hAB]; exact objs_split A B _
      refine HCalls.weaken (HCalls.use (add_old t hc h0 h1 h2 most hm1 hm8 d m 0 mv (entsR rs) row ts hkk.ok (by have : ts.length ≤ 8 := hkk.le; omega) (ents_fits rs) (by rw [get_rows, hg]; rfl) (objsR A ++ objsR B ++ G) T) hp (.refl _) ?_)
      rintro r L' T' ⟨rfl, mv', row', t', hs, hok, rfl, T0, rfl⟩
      have hx := held_new hs h0 most hm1 hm8 hkk.is hkk.slim hok
      refine ⟨_, _, ?_, .refl _, by rw [h0], mv', putR t.key (row', (t' :: keepT t ts).take most.toNat) rs, ?_, rfl, T0, rfl⟩
      · rw [put_rows t.key (row', (t' :: keepT t ts).take most.toNat) rs]
        refine .of_perm (List.Perm.trans (perm_old _ _ _ _ _ _ ?_).symm (List.perm_append_comm (l₁ := dbO d m most mv' _) (l₂ := G)))
        rw [hput]; exact objs_split A B _
      · have e : addK most.toNat t f = fun k => if k = t.key then addL most.toNat (pj t) (f t.key) else f k := by
          funext k; unfold addK; rw [if_pos h0]
          by_cases q : k = t.key
          · subst q; rfl
          · simp only [q, if_false]
        rw [e]; exact hk.put hx
  · refine HCalls.mono (add_bad t hc h0 d _ T) ?_
    rintro r L' T' ⟨rfl, rfl, rfl⟩
    exact ⟨rfl, mv, rs, by unfold addK; rw [if_neg h0]; exact hk, rfl, [], rfl⟩
theorem of_db (k : Dig) (most : Int) (d m mv : Nat) (rs : List Ent) (f : Dig → List Tr) (hk : Kept rs f) (G : Hp) (T : Tk) :
    HCalls Tryd.prog 15 [.ref d 0, dgV k] (G ++ dbO d m most mv rs) T (fun r L' T' => ∃ us : List TraceD, us.length ≤ 8 ∧ us.map pj = f k ∧ IsSl 34 (us.map traceDV) r ∧ L' = G ++ dbO d m most mv rs ∧ ∃ T0, T' = T0 ++ T) := by
  have hkk := hk k
  cases hg : getR k rs with
  | none =>
    rw [hg] at hkk
    refine HCalls.weaken (HCalls.use (of_new k most d m 0 mv (entsR rs) (ents_fits rs) (by rw [get_rows, hg]; rfl) (objsR rs ++ G) T) List.perm_append_comm (.refl _) ?_)
    rintro r L' T' ⟨rfl, rfl, rfl⟩
    exact ⟨_, _, .of_perm (List.perm_append_comm (l₁ := dbO d m most mv rs) (l₂ := G)), .refl _, [], by simp, hkk.symm, IsSl.nils, rfl, [], rfl⟩
  | some x =>
    obtain ⟨row, ts⟩ := x
    rw [hg] at hkk
    obtain ⟨A, B, hAB, hput⟩ := split_rows hg
    have hp : (G ++ dbO d m most mv rs).Perm ((d, .cells 70 [.int .i64 most, .mp m] 0) :: (m, .map (entsR rs) mv) :: row.o (ts.map traceDV) :: (objsR A ++ objsR B ++ G)) := by
      refine List.perm_append_comm.trans (perm_old _ _ _ _ _ _ ?_)
      rw [hAB]; exact objs_split A B _
    have h1 := of_old k most d m 0 mv (entsR rs) row ts hkk.ok hkk.ne (by have : ts.length ≤ 8 := hkk.le; omega) hkk.slim (ents_fits rs) (by rw [get_rows, hg]; rfl) (objsR A ++ objsR B ++ G) T
    have h2 : HCalls Tryd.prog 15 [.ref d 0, dgV k] ((d, .cells 70 [.int .i64 most, .mp m] 0) :: (m, .map (entsR rs) mv) :: row.o (ts.map traceDV) :: (objsR A ++ objsR B ++ G)) T
        (fun r L' T' => ∃ es Lv F, OwnSl 34 es r Lv ∧ L' = Lv ++ F ∧ (fun es F T' => ∃ us : List TraceD, es = us.map traceDV ∧ SameAll us ts ∧ F = (d, .cells 70 [.int .i64 most, .mp m] 0) :: (m, .map (entsR rs) mv) :: row.o (ts.map traceDV) :: (objsR A ++ objsR B ++ G) ∧ ∃ T0, T' = T0 ++ T) es F T') := by
      refine h1.mono ?_
      rintro r L' T' ⟨row', us, hs, hok, rfl, rfl, T0, rfl⟩
      exact ⟨_, _, _, hok.own, rfl, us, rfl, hs, rfl, T0, rfl⟩
    refine HCalls.weaken (HCalls.use (HCalls.freeze h2) hp (.refl _) ?_)
    rintro r L' T' ⟨es, hr, us, rfl, hs, rfl, T0, rfl⟩
    refine ⟨_, _, .of_perm hp.symm, .refl _, us, by have := hs.1; have : ts.length ≤ 8 := hkk.le; omega, (pj_all hs).trans hkk.is, ?_, rfl, T0, rfl⟩
    rcases hr with ⟨h1, rfl⟩ | rfl
    · rw [h1]; exact IsSl.nils
    · exact IsSl.sl
theorem new_db (n : Int) (h1 : 1 ≤ n) (h8 : n ≤ 8) (F : Hp) (T : Tk) : HCalls Tryd.prog 10 [.int .i64 n] F T (fun r L' T' => ∃ d m, r = .tup [.ref d 0, .int .i64 0] ∧ L' = F ++ dbO d m n 0 [] ∧ T' = T) := by
  refine HCalls.weaken (HCalls.mono (dbnew_spec n h1 h8 F T) ?_)
  rintro r L' T' ⟨d, m, rfl, rfl, rfl⟩
  exact ⟨_, _, .of_perm (List.perm_append_comm (l₁ := dbO d m n 0 []) (l₂ := F)), .refl _, d, m, rfl, rfl, rfl⟩

end Go.Proofs.YthfoobfgdakbmaaDoor

set_option linter.unusedVariables false
set_option linter.unusedSimpArgs false
set_option maxRecDepth 100000
namespace Go.Proofs.YthfoobfgdakbmaaDoor
open Go Go.RowKit Go.L


/-! ### The plain law of what is kept -/
def ddp : List Tr → List Tr
  | [] => []
  | x :: l => if x ∈ ddp l then ddp l else ddp l ++ [x]
theorem ddp_nodup : ∀ l, (ddp l).Nodup
  | [] => List.nodup_nil
  | x :: l => by
    have ih := ddp_nodup l
    simp only [ddp]
    split
    · exact ih
    · rename_i h
      refine List.nodup_append.2 ⟨ih, by simp, fun a ha b hb e => ?_⟩
      rw [List.mem_singleton] at hb
      subst e; subst hb
      exact h ha
theorem ddp_snoc (x : Tr) : ∀ l, ddp (l ++ [x]) = x :: keepP x (ddp l)
  | [] => by simp [ddp, keepP]
  | y :: l => by
    have ih := ddp_snoc x l
    simp only [List.cons_append, ddp]
    rw [ih]
    by_cases hxy : y = x
    · subst hxy
      rw [if_pos List.mem_cons_self]
      split
      · rfl
      · simp [keepP, List.filter_append]
    · by_cases hm : y ∈ ddp l
      · have h2 : y ∈ x :: keepP x (ddp l) := List.mem_cons_of_mem _ (List.mem_filter.2 ⟨hm, by simp [hxy]⟩)
        rw [if_pos h2, if_pos hm]
      · have h2 : ¬ y ∈ x :: keepP x (ddp l) := fun h => (List.mem_cons.1 h).elim hxy fun q => hm (List.mem_filter.1 q).1
        rw [if_neg h2, if_neg hm, keepP, keepP, List.filter_append]
        simp [hxy]
theorem keepP_none {x : Tr} {l : List Tr} (h : x ∉ l) : keepP x l = l := by
  rw [keepP, List.filter_eq_self]
  intro y hy
  have : y ≠ x := fun e => h (e ▸ hy)
  simp [this]
theorem take_keep (x : Tr) : ∀ (l : List Tr) (m : Nat), l.Nodup → (keepP x (l.take (m + 1))).take m = (keepP x l).take m
  | [], m, _ => by simp [keepP]
  | y :: l, m, h => by
    rw [List.nodup_cons] at h
    by_cases e : y = x
    · subst e
      have h1 : y ∉ l.take m := fun q => h.1 (List.mem_of_mem_take q)
      have e1 : keepP y (y :: l) = keepP y l := by simp [keepP]
      have e2 : keepP y ((y :: l).take (m + 1)) = keepP y (l.take m) := by simp [keepP]
      rw [e1, e2, keepP_none h.1, keepP_none h1, List.take_take, Nat.min_self]
    · have e1 : keepP x (y :: l) = y :: keepP x l := by simp [keepP, e]
      have e2 : keepP x ((y :: l).take (m + 1)) = y :: keepP x (l.take m) := by simp [keepP, e]
      rw [e1, e2]
      cases m with
      | zero => simp
      | succ m => rw [List.take_succ_cons, List.take_succ_cons, take_keep x l m h.2]
theorem addL_take (x : Tr) (l : List Tr) (h : l.Nodup) {n : Nat} (hn : 1 ≤ n) : addL n x (l.take n) = (x :: keepP x l).take n := by
  obtain ⟨m, rfl⟩ : ∃ m, n = m + 1 := ⟨n - 1, by omega⟩
  rw [addL, List.take_succ_cons, List.take_succ_cons, take_keep x l m h]
def selK (K : Dig) (l : List TraceD) : List Tr := (l.filter fun t => decide (checkF t = 0 ∧ t.key = K)).map pj
def wantS (K o : Dig) (most : Nat) (t : TraceD) (w : List Tr) : List Tr := if (checkF t = 0 ∧ t.key ≠ o) ∧ pj t ∉ w ∧ t.key = K ∧ w.length < most then w ++ [pj t] else w
def wantL (K o : Dig) (most : Nat) : List TraceD → List Tr
  | [] => []
  | t :: l => wantS K o most t (wantL K o most l)
theorem want_dd {K o : Dig} {most : Nat} (hK : K ≠ o) : ∀ l, wantL K o most l = (ddp (selK K l)).take most
  | [] => by simp [wantL, selK, ddp]
  | t :: l => by
    have ih := want_dd (most := most) hK l
    simp only [wantL, ih, wantS]
    by_cases hs : checkF t = 0 ∧ t.key = K
    · have e : selK K (t :: l) = pj t :: selK K l := by simp [selK, List.filter_cons, hs]
      have ho : t.key ≠ o := fun q => hK (hs.2.symm.trans q)
      rw [e, ddp]
      by_cases hm : pj t ∈ ddp (selK K l)
      · rw [if_pos hm, if_neg]
        intro h
        refine h.2.1 ?_
        have := h.2.2.2
        rw [List.length_take] at this
        rw [List.take_of_length_le (by omega)]; exact hm
      · rw [if_neg hm]
        by_cases hl : (ddp (selK K l)).length < most
        · rw [if_pos ⟨⟨hs.1, ho⟩, fun h => hm (List.mem_of_mem_take h), hs.2, by rw [List.length_take]; omega⟩, List.take_of_length_le (by omega), List.take_of_length_le (by rw [List.length_append, List.length_singleton]; omega)]
        · rw [if_neg (fun h => by have := h.2.2.2; rw [List.length_take] at this; omega), List.take_append_of_le_length (by omega)]
    · have e : selK K (t :: l) = selK K l := by simp [selK, List.filter_cons, hs]
      rw [e, if_neg]
      exact fun h => hs ⟨h.1.1, h.2.2.1⟩
def keepS (most : Nat) (o : TraceD) (f : Dig → List Tr) (t : TraceD) : Dig → List Tr := addK most o (if t.key = o.key then f else addK most t f)
def keptTo (most : Nat) (o : TraceD) (l : List TraceD) (j : Nat) : Dig → List Tr := (l.take j).foldl (keepS most o) (fun _ => [])
theorem keptTo_step {most : Nat} {o : TraceD} {l : List TraceD} {j : Nat} (h : j < l.length) : keptTo most o l (j + 1) = keepS most o (keptTo most o l j) l[j] := by
  unfold keptTo
  rw [List.take_add_one, List.getElem?_eq_getElem h, List.foldl_append]; rfl
theorem kept_dd {K : Dig} {most : Nat} {o : TraceD} (hK : K ≠ o.key) (hm : 1 ≤ most) (l : List TraceD) : ∀ j, j ≤ l.length → keptTo most o l j K = (ddp (selK K (l.take j))).take most
  | 0, _ => by simp [keptTo, selK, ddp]
  | j + 1, h => by
    have ih := kept_dd hK hm l j (by omega)
    have hj : j < l.length := by omega
    rw [keptTo_step hj, List.take_add_one, List.getElem?_eq_getElem hj]
    have e1 : selK K (l.take j ++ (some l[j]).toList) = selK K (l.take j) ++ selK K [l[j]] := by
      show selK K (l.take j ++ [l[j]]) = _
      rw [selK, selK, selK, List.filter_append, List.map_append]
    have e2 : ∀ f, addK most o f K = f K := fun f => by unfold addK; split <;> simp [hK]
    rw [e1, keepS, e2]
    by_cases hs : checkF l[j] = 0 ∧ l[j].key = K
    · have ho : l[j].key ≠ o.key := fun q => hK (hs.2.symm.trans q)
      have e3 : selK K [l[j]] = [pj l[j]] := by simp [selK, hs]
      rw [if_neg ho, addK, if_pos hs.1, if_pos hs.2.symm, ih, e3, ddp_snoc, addL_take _ _ (ddp_nodup _) hm]
    · have e3 : selK K [l[j]] = [] := by simp [selK, hs]
      rw [e3, List.append_nil, ← ih]
      split
      · rfl
      · unfold addK
        split
        · rename_i h0
          exact if_neg (fun q : K = l[j].key => hs ⟨h0, q.symm⟩)
        · rfl
theorem keeps_plain {K : Dig} {most : Nat} {o : TraceD} (hK : K ≠ o.key) (hm : 1 ≤ most) (l : List TraceD) : keptTo most o l l.length K = wantL K o.key most l := by
  rw [kept_dd hK hm l l.length (Nat.le_refl _), List.take_length, want_dd hK]

end Go.Proofs.YthfoobfgdakbmaaDoor

set_option linter.unusedVariables false
set_option linter.unusedSimpArgs false
set_option maxRecDepth 100000
namespace Go.Proofs.YthfoobfgdakbmaaDoor
open Go Go.RowKit Go.L
theorem q_en_10 : enterable Tryd.prog 10 = true := by kernel_rfl
theorem q_pl_28 : placesOf Tryd.prog 28 = some (fun i => ([(0, 32), (32, 1), (33, 1)] : List (Nat × Nat))[i]?) := by kernel_rfl
theorem q_pl_66 : placesOf Tryd.prog 66 = some (fun i => ([(0, 1), (1, 1), (2, 32)] : List (Nat × Nat))[i]?) := by kernel_rfl
theorem q_en_13 : enterable Tryd.prog 13 = true := by kernel_rfl
theorem q_en_15 : enterable Tryd.prog 15 = true := by kernel_rfl
theorem q_en_14 : enterable Tryd.prog 14 = true := by kernel_rfl
theorem q_f_8 : Tryd.prog.funcs[8]? = some Tryd.f8 := by kernel_rfl

/-! ### The document's example -/
def tZ : TraceD := ⟨zeroDig, ⟨[], .nils, IsSl.nils, by decide⟩, ⟨[], .nils, IsSl.nils, by decide⟩⟩
def tP (s : ByteArray) : TraceD := ⟨zeroDig, ⟨[⟨s, false, zeroDig⟩], .sl .no 34 [readDV ⟨s, false, zeroDig⟩], IsSl.sl, by show 1 < _; decide⟩, ⟨[], .nils, IsSl.nils, by decide⟩⟩
def sB : ByteArray := ⟨#[98]⟩
def sC : ByteArray := ⟨#[99]⟩
theorem calmZ : Calm tZ := ⟨(fun r h => nomatch h), (fun r h => nomatch h)⟩
theorem calmB : Calm (tP sB) := ⟨fun r h => by rw [List.mem_singleton.1 h]; decide, (fun r h => nomatch h)⟩
theorem calmC : Calm (tP sC) := ⟨fun r h => by rw [List.mem_singleton.1 h]; decide, (fun r h => nomatch h)⟩
theorem checkZ : checkF tZ = 0 := by kernel_rfl
theorem checkB : checkF (tP sB) = 0 := by kernel_rfl
theorem checkC : checkF (tP sC) = 0 := by kernel_rfl
def fA0 : Dig → List Tr := fun _ => []
def fA1 := addK 2 tZ fA0
def fA2 := addK 2 (tP sB) fA1
def fA3 := addK 2 (tP sC) fA2
def fA4 := addK 2 (tP sB) fA3
theorem ne_bc : pj (tP sB) ≠ pj (tP sC) := by decide +kernel
theorem fA3_is : fA3 zeroDig = [pj (tP sC), pj (tP sB)] := by decide +kernel
theorem fA4_is : fA4 zeroDig = [pj (tP sB), pj (tP sC)] := by decide +kernel
theorem readDV_bld (s : ByteArray) : LV.agg ([.str s, .bool false] ++ List.replicate 32 (.int .u8 0)) = readDV ⟨s, false, zeroDig⟩ := by rfl

theorem alive_spec (L : Hp) (T : Tk) : HCalls Tryd.prog 8 [] L T (fun r L' T' => r = .bool true ∧ L' = L ∧ ∃ T0, T' = T0 ++ T) := by
 refine HCalls.enterG q_f_8 rfl ?_
 refine HWp.frame (r' := ⟨75, []⟩) rfl ?_
 refine HWp.seq ?_
 refine HWp.text (.rd 0 .done) rfl ?_
 refine HPlan.assign rfl rfl rfl ?_
 refine HPlan.fin ?_
 refine onNorm_n ?_
 refine HWp.seq ?_
 refine HWp.text (.act 0 [] (.rd 1 (.rd 2 (.rd 3 (.rd 4 (.rd 5 .done)))))) rfl ?_
 refine HPlan.callS rfl rfl rfl q_en_10 (new_db 2 (by decide) (by decide) L T) (List.Perm.refl _) (List.Perm.refl _) ?_
 rintro r_R1_0 L_R1_0 T1 ⟨d, m, rfl, rfl, rfl⟩
 refine ⟨keptH_nil, ?_⟩
 refine HPlan.move rfl rfl rfl ?_
 refine HPlan.extract rfl rfl rfl rfl ?_
 refine HPlan.extract rfl rfl rfl rfl ?_
 refine HPlan.assign rfl rfl rfl ?_
 refine HPlan.assign rfl rfl rfl ?_
 refine HPlan.fin ?_
 refine onNorm_n ?_
 refine HWp.seq ?_
 refine HWp.seq ?_
 refine HWp.text (.rd 0 (.rd 1 (.rd 2 (.rd 3 (.rd 4 (.rd 5 .done)))))) rfl ?_
 refine HPlan.move rfl rfl rfl ?_
 refine HPlan.intBin rfl rfl rfl rfl rfl (rfl : _ = LV.bool false) ?_
 refine HPlan.move rfl rfl rfl ?_
 refine HPlan.move rfl rfl rfl ?_
 refine HPlan.nilEqK rfl rfl rfl rfl q_tk_31 rfl rfl rfl rfl ?_
 refine HPlan.pickF rfl rfl rfl rfl ?_
 refine HPlan.fin ?_
 refine onNorm_n ?_
 refine HWp.cond_f rfl ?_
 refine HWp.skip ?_
 refine onNorm_n ?_
 refine HWp.seq ?_
 refine HWp.text (.rd 0 (.rd 1 (.act 2 [] (.rd 3 (.rd 4 (.act 5 [] (.rd 6 (.act 7 [] (.act 8 [] (.act 9 [] (.act 10 [] (.act 11 [] (.act 12 [] .done))))))))))))) rfl ?_
 refine HPlan.build rfl rfl rfl q_zo_28 (by first | rfl | (simp; done)) q_pl_28 fillOk_nil (by rfl : _ = traceDV tZ) ?_
 refine HPlan.build rfl rfl rfl q_zo_66 (by first | rfl | (simp; done)) q_pl_66 (fillOk_cons rfl (by first | rfl | (simp; done)) (by first | rfl | decide | omega | (simp; done) | (simp; omega)) (by first | rfl | decide | omega | (simp; done) | (simp; omega)) fillOk_nil) (by rfl : _ = readDV ⟨sB, false, zeroDig⟩) ?_
 refine HPlan.buildSliceN rfl rfl q_se_25 q_zs_66 rfl (by decide) rfl rfl rfl (allCells_cons (by first | rfl | (simp; done)) (by first | rfl | decide | omega | (simp; done) | (simp; omega)) allCells_nil) keptH_nil ?_
 refine HPlan.build rfl rfl rfl q_zo_28 (by first | rfl | (simp; done)) q_pl_28 (fillOk_cons rfl (by first | rfl | (simp; done)) (by first | rfl | decide | omega | (simp; done) | (simp; omega)) (by first | rfl | decide | omega | (simp; done) | (simp; omega)) fillOk_nil) (by rfl : _ = traceDV (tP sB)) ?_
 refine HPlan.build rfl rfl rfl q_zo_66 (by first | rfl | (simp; done)) q_pl_66 (fillOk_cons rfl (by first | rfl | (simp; done)) (by first | rfl | decide | omega | (simp; done) | (simp; omega)) (by first | rfl | decide | omega | (simp; done) | (simp; omega)) fillOk_nil) (by rfl : _ = readDV ⟨sC, false, zeroDig⟩) ?_
 refine HPlan.buildSliceN rfl rfl q_se_25 q_zs_66 rfl (by decide) rfl rfl rfl (allCells_cons (by first | rfl | (simp; done)) (by first | rfl | decide | omega | (simp; done) | (simp; omega)) allCells_nil) keptH_nil ?_
 refine HPlan.build rfl rfl rfl q_zo_28 (by first | rfl | (simp; done)) q_pl_28 (fillOk_cons rfl (by first | rfl | (simp; done)) (by first | rfl | decide | omega | (simp; done) | (simp; omega)) (by first | rfl | decide | omega | (simp; done) | (simp; omega)) fillOk_nil) (by rfl : _ = traceDV (tP sC)) ?_
 refine HPlan.alloc rfl rfl q_zo_28 (by first | rfl | (simp; done)) (fun i3 => ⟨keptH_nil, ?_⟩)
 refine HPlan.alloc rfl rfl q_zo_28 (by first | rfl | (simp; done)) (fun i4 => ⟨keptH_nil, ?_⟩)
 refine HPlan.alloc rfl rfl q_zo_28 (by first | rfl | (simp; done)) (fun i5 => ⟨keptH_nil, ?_⟩)
 refine HPlan.store rfl rfl rfl rfl q_sz_28 (by first | rfl | (simp; done)) (by first | rfl | decide | omega | (simp [digC_len, dgV, LV.cells, readDC_len, readDV, madeDC_len, madeDV, traceDC_len, traceDV]; done) | (simp [digC_len, dgV, LV.cells, readDC_len, readDV, madeDC_len, madeDV, traceDC_len, traceDV]; omega)) (by repeat (first | exact List.Mem.head _ | apply List.Mem.tail | assumption)) (by first | exact (splice_whole _ (traceDC _) (by rw [traceDC_len]; rfl)) | rfl) (by repeat (first | exact Upd.here | apply Upd.there)) (by first | rfl | decide | omega | (simp [digC_len, dgV, LV.cells, readDC_len, readDV, madeDC_len, madeDV, traceDC_len, traceDV]; done) | (simp [digC_len, dgV, LV.cells, readDC_len, readDV, madeDC_len, madeDV, traceDC_len, traceDV]; omega)) keptH_nil ?_
 refine HPlan.store rfl rfl rfl rfl q_sz_28 (by first | rfl | (simp; done)) (by first | rfl | decide | omega | (simp [digC_len, dgV, LV.cells, readDC_len, readDV, madeDC_len, madeDV, traceDC_len, traceDV]; done) | (simp [digC_len, dgV, LV.cells, readDC_len, readDV, madeDC_len, madeDV, traceDC_len, traceDV]; omega)) (by repeat (first | exact List.Mem.head _ | apply List.Mem.tail | assumption)) (by first | exact (splice_whole _ (traceDC _) (by rw [traceDC_len]; rfl)) | rfl) (by repeat (first | exact Upd.here | apply Upd.there)) (by first | rfl | decide | omega | (simp [digC_len, dgV, LV.cells, readDC_len, readDV, madeDC_len, madeDV, traceDC_len, traceDV]; done) | (simp [digC_len, dgV, LV.cells, readDC_len, readDV, madeDC_len, madeDV, traceDC_len, traceDV]; omega)) keptH_nil ?_
 refine HPlan.store rfl rfl rfl rfl q_sz_28 (by first | rfl | (simp; done)) (by first | rfl | decide | omega | (simp [digC_len, dgV, LV.cells, readDC_len, readDV, madeDC_len, madeDV, traceDC_len, traceDV]; done) | (simp [digC_len, dgV, LV.cells, readDC_len, readDV, madeDC_len, madeDV, traceDC_len, traceDV]; omega)) (by repeat (first | exact List.Mem.head _ | apply List.Mem.tail | assumption)) (by first | exact (splice_whole _ (traceDC _) (by rw [traceDC_len]; rfl)) | rfl) (by repeat (first | exact Upd.here | apply Upd.there)) (by first | rfl | decide | omega | (simp [digC_len, dgV, LV.cells, readDC_len, readDV, madeDC_len, madeDV, traceDC_len, traceDV]; done) | (simp [digC_len, dgV, LV.cells, readDC_len, readDV, madeDC_len, madeDV, traceDC_len, traceDV]; omega)) keptH_nil ?_
 refine HPlan.fin ?_
 refine onNorm_n ?_
 refine HWp.seq ?_
 refine HWp.draw q_mix (.rd 0 (.rd 1 (.rd 3 (.rd 4 (.rd 6 (.rd 7 (.act 2 [4, 7] (.act 5 [7] (.act 8 [] (.rd 9 (.rd 10 (.rd 11 .done)))))))))))) (by kernel_rfl) ?_
 refine HPlan.move rfl rfl rfl ?_
 first
 | refine HPlan.loadI rfl rfl rfl q_sh_28 (by constructor <;> first | rfl | decide | omega | exact Nat.le_refl _ | (simp [digC_len, dgV, LV.cells, readDC_len, readDV, madeDC_len, madeDV, traceDC_len, traceDV]; done) | (simp [digC_len, dgV, LV.cells, readDC_len, readDV, madeDC_len, madeDV, traceDC_len, traceDV]; omega)) (by first | exact (traceD_all _) | rfl) ?_
 | refine HPlan.load rfl rfl rfl q_sh_28 (by repeat (first | exact List.Mem.head _ | apply List.Mem.tail | assumption)) (by constructor <;> first | rfl | decide | omega | exact Nat.le_refl _ | (simp [digC_len, dgV, LV.cells, readDC_len, readDV, madeDC_len, madeDV, traceDC_len, traceDV]; done) | (simp [digC_len, dgV, LV.cells, readDC_len, readDV, madeDC_len, madeDV, traceDC_len, traceDV]; omega)) (by first | exact (traceD_all _) | rfl) ?_
 refine HPlan.move rfl rfl rfl ?_
 first
 | refine HPlan.loadI rfl rfl rfl q_sh_28 (by constructor <;> first | rfl | decide | omega | exact Nat.le_refl _ | (simp [digC_len, dgV, LV.cells, readDC_len, readDV, madeDC_len, madeDV, traceDC_len, traceDV]; done) | (simp [digC_len, dgV, LV.cells, readDC_len, readDV, madeDC_len, madeDV, traceDC_len, traceDV]; omega)) (by first | exact (traceD_all _) | rfl) ?_
 | refine HPlan.load rfl rfl rfl q_sh_28 (by repeat (first | exact List.Mem.head _ | apply List.Mem.tail | assumption)) (by constructor <;> first | rfl | decide | omega | exact Nat.le_refl _ | (simp [digC_len, dgV, LV.cells, readDC_len, readDV, madeDC_len, madeDV, traceDC_len, traceDV]; done) | (simp [digC_len, dgV, LV.cells, readDC_len, readDV, madeDC_len, madeDV, traceDC_len, traceDV]; omega)) (by first | exact (traceD_all _) | rfl) ?_
 refine HPlan.move rfl rfl rfl ?_
 first
 | refine HPlan.loadI rfl rfl rfl q_sh_28 (by constructor <;> first | rfl | decide | omega | exact Nat.le_refl _ | (simp [digC_len, dgV, LV.cells, readDC_len, readDV, madeDC_len, madeDV, traceDC_len, traceDV]; done) | (simp [digC_len, dgV, LV.cells, readDC_len, readDV, madeDC_len, madeDV, traceDC_len, traceDV]; omega)) (by first | exact (traceD_all _) | rfl) ?_
 | refine HPlan.load rfl rfl rfl q_sh_28 (by repeat (first | exact List.Mem.head _ | apply List.Mem.tail | assumption)) (by constructor <;> first | rfl | decide | omega | exact Nat.le_refl _ | (simp [digC_len, dgV, LV.cells, readDC_len, readDV, madeDC_len, madeDV, traceDC_len, traceDV]; done) | (simp [digC_len, dgV, LV.cells, readDC_len, readDV, madeDC_len, madeDV, traceDC_len, traceDV]; omega)) (by first | exact (traceD_all _) | rfl) ?_
 refine HPlan.callS rfl rfl rfl q_en_13 (add_db tZ calmZ 2 (by decide) (by decide) d m _ _ fA0 Kept.nil ((i5, LObj.cells 28 (traceDC (tP sC)) (0 + 1)) :: (i4, LObj.cells 28 (traceDC (tP sB)) (0 + 1)) :: (i3, LObj.cells 28 (traceDC tZ) (0 + 1)) :: L) _) (List.Perm.refl _) (List.Perm.refl _) ?_
 rintro r_R5_2 L_R5_2 T2 ⟨rfl, mv1, rs1, hk1, rfl, T01, rfl⟩
 refine ⟨(keptH_ids (by repeat (first | exact allId_nil | refine allId_cons (by repeat (first | exact List.Mem.head _ | apply List.Mem.tail | assumption)) (by repeat (first | exact List.Mem.head _ | apply List.Mem.tail | assumption)) ?_))), ?_⟩
 rw [checkZ]
 refine HPlan.callS rfl rfl rfl q_en_13 (add_db (tP sB) calmB 2 (by decide) (by decide) d m _ _ fA1 hk1 ((i5, LObj.cells 28 (traceDC (tP sC)) (0 + 1)) :: (i4, LObj.cells 28 (traceDC (tP sB)) (0 + 1)) :: (i3, LObj.cells 28 (traceDC tZ) (0 + 1)) :: L) _) (List.Perm.refl _) (List.Perm.refl _) ?_
 rintro r_R5_5 L_R5_5 T3 ⟨rfl, mv2, rs2, hk2, rfl, T02, rfl⟩
 refine ⟨(keptH_ids (by repeat (first | exact allId_nil | refine allId_cons (by repeat (first | exact List.Mem.head _ | apply List.Mem.tail | assumption)) (by repeat (first | exact List.Mem.head _ | apply List.Mem.tail | assumption)) ?_))), ?_⟩
 rw [checkB]
 refine HPlan.callS rfl rfl rfl q_en_13 (add_db (tP sC) calmC 2 (by decide) (by decide) d m _ _ fA2 hk2 ((i5, LObj.cells 28 (traceDC (tP sC)) (0 + 1)) :: (i4, LObj.cells 28 (traceDC (tP sB)) (0 + 1)) :: (i3, LObj.cells 28 (traceDC tZ) (0 + 1)) :: L) _) (List.Perm.refl _) (List.Perm.refl _) ?_
 rintro r_R5_8 L_R5_8 T4 ⟨rfl, mv3, rs3, hk3, rfl, T03, rfl⟩
 refine ⟨keptH_nil, ?_⟩
 rw [checkC]
 refine HPlan.assign rfl rfl rfl ?_
 refine HPlan.assign rfl rfl rfl ?_
 refine HPlan.assign rfl rfl rfl ?_
 refine HPlan.fin ?_
 refine onNorm_n ?_
 refine HWp.seq ?_
 refine HWp.text (.rd 0 (.rd 1 (.act 2 [] (.rd 3 .done)))) rfl ?_
 refine HPlan.move rfl rfl rfl ?_
 refine HPlan.build rfl rfl rfl q_zo_24 (by first | rfl | (simp; done)) q_pl_24 fillOk_nil (by rfl : _ = dgV zeroDig) ?_
 refine HPlan.callS rfl rfl rfl q_en_15 (of_db zeroDig 2 d m _ _ fA3 hk3 ((i5, LObj.cells 28 (traceDC (tP sC)) (0 + 1)) :: (i4, LObj.cells 28 (traceDC (tP sB)) (0 + 1)) :: (i3, LObj.cells 28 (traceDC tZ) (0 + 1)) :: L) _) (List.Perm.refl _) (List.Perm.refl _) ?_
 rintro r_R6_2 L_R6_2 T5 ⟨us5, hul5, hup5, hus5, rfl, T05, rfl⟩
 refine ⟨keptH_nil, ?_⟩
 refine HPlan.assign rfl rfl rfl ?_
 refine HPlan.fin ?_
 refine onNorm_n ?_
 refine HWp.seq ?_
 refine HWp.text (.rd 0 (.rd 1 (.act 2 [] (.rd 3 .done)))) rfl ?_
 refine HPlan.move rfl rfl rfl ?_
 first
 | refine HPlan.loadI rfl rfl rfl q_sh_28 (by constructor <;> first | rfl | decide | omega | exact Nat.le_refl _ | (simp [digC_len, dgV, LV.cells, readDC_len, readDV, madeDC_len, madeDV, traceDC_len, traceDV]; done) | (simp [digC_len, dgV, LV.cells, readDC_len, readDV, madeDC_len, madeDV, traceDC_len, traceDV]; omega)) (by first | exact (traceD_all _) | rfl) ?_
 | refine HPlan.load rfl rfl rfl q_sh_28 (by repeat (first | exact List.Mem.head _ | apply List.Mem.tail | assumption)) (by constructor <;> first | rfl | decide | omega | exact Nat.le_refl _ | (simp [digC_len, dgV, LV.cells, readDC_len, readDV, madeDC_len, madeDV, traceDC_len, traceDV]; done) | (simp [digC_len, dgV, LV.cells, readDC_len, readDV, madeDC_len, madeDV, traceDC_len, traceDV]; omega)) (by first | exact (traceD_all _) | rfl) ?_
 refine HPlan.callS rfl rfl rfl q_en_13 (add_db (tP sB) calmB 2 (by decide) (by decide) d m _ _ fA3 hk3 ((i5, LObj.cells 28 (traceDC (tP sC)) (0 + 1)) :: (i4, LObj.cells 28 (traceDC (tP sB)) (0 + 1)) :: (i3, LObj.cells 28 (traceDC tZ) (0 + 1)) :: L) _) (List.Perm.refl _) (List.Perm.refl _) ?_
 rintro r_R7_2 L_R7_2 T6 ⟨rfl, mv4, rs4, hk4, rfl, T04, rfl⟩
 refine ⟨keptH_nil, ?_⟩
 rw [checkB]
 refine HPlan.assign rfl rfl rfl ?_
 refine HPlan.fin ?_
 refine onNorm_n ?_
 refine HWp.seq ?_
 refine HWp.text (.rd 0 (.rd 1 (.act 2 [] (.rd 3 .done)))) rfl ?_
 refine HPlan.move rfl rfl rfl ?_
 refine HPlan.build rfl rfl rfl q_zo_24 (by first | rfl | (simp; done)) q_pl_24 fillOk_nil (by rfl : _ = dgV zeroDig) ?_
 refine HPlan.callS rfl rfl rfl q_en_15 (of_db zeroDig 2 d m _ _ fA4 hk4 ((i5, LObj.cells 28 (traceDC (tP sC)) (0 + 1)) :: (i4, LObj.cells 28 (traceDC (tP sB)) (0 + 1)) :: (i3, LObj.cells 28 (traceDC tZ) (0 + 1)) :: L) _) (List.Perm.refl _) (List.Perm.refl _) ?_
 rintro r_R8_2 L_R8_2 T7 ⟨us7, hul7, hup7, hus7, rfl, T07, rfl⟩
 refine ⟨keptH_nil, ?_⟩
 refine HPlan.assign rfl rfl rfl ?_
 refine HPlan.fin ?_
 refine onNorm_n ?_
 refine HWp.seq ?_
 refine HWp.text (.rd 0 (.rd 1 (.rd 2 (.rd 3 (.rd 4 (.rd 5 (.rd 6 (.rd 7 (.rd 8 (.rd 9 (.rd 10 (.rd 11 (.rd 12 (.rd 13 (.rd 14 (.rd 15 (.rd 16 (.rd 17 (.act 18 [] (.act 19 [] (.rd 20 (.rd 21 (.rd 22 (.rd 23 (.rd 24 (.act 25 [] (.act 26 [] (.rd 27 (.rd 28 .done))))))))))))))))))))))))))))) rfl ?_
 refine HPlan.move rfl rfl rfl ?_
 refine HPlan.intBin rfl rfl rfl rfl rfl (rfl : _ = LV.bool true) ?_
 refine HPlan.move rfl rfl rfl ?_
 refine HPlan.move rfl rfl rfl ?_
 refine HPlan.intBin rfl rfl rfl rfl rfl (rfl : _ = LV.bool true) ?_
 refine HPlan.pickT rfl rfl rfl rfl ?_
 refine HPlan.move rfl rfl rfl ?_
 refine HPlan.move rfl rfl rfl ?_
 refine HPlan.intBin rfl rfl rfl rfl rfl (rfl : _ = LV.bool true) ?_
 refine HPlan.pickT rfl rfl rfl rfl ?_
 refine HPlan.move rfl rfl rfl ?_
 refine HPlan.move rfl rfl rfl ?_
 refine HPlan.intBin rfl rfl rfl rfl rfl (rfl : _ = LV.bool true) ?_
 refine HPlan.pickT rfl rfl rfl rfl ?_
 refine HPlan.move rfl rfl rfl ?_
 refine HPlan.move rfl rfl rfl ?_
 first
 | refine HPlan.loadI rfl rfl rfl q_sh_28 (by constructor <;> first | rfl | decide | omega | exact Nat.le_refl _ | (simp [digC_len, dgV, LV.cells, readDC_len, readDV, madeDC_len, madeDV, traceDC_len, traceDV]; done) | (simp [digC_len, dgV, LV.cells, readDC_len, readDV, madeDC_len, madeDV, traceDC_len, traceDV]; omega)) (by first | exact (traceD_all _) | rfl) ?_
 | refine HPlan.load rfl rfl rfl q_sh_28 (by repeat (first | exact List.Mem.head _ | apply List.Mem.tail | assumption)) (by constructor <;> first | rfl | decide | omega | exact Nat.le_refl _ | (simp [digC_len, dgV, LV.cells, readDC_len, readDV, madeDC_len, madeDV, traceDC_len, traceDV]; done) | (simp [digC_len, dgV, LV.cells, readDC_len, readDV, madeDC_len, madeDV, traceDC_len, traceDV]; omega)) (by first | exact (traceD_all _) | rfl) ?_
 first
 | refine HPlan.loadI rfl rfl rfl q_sh_28 (by constructor <;> first | rfl | decide | omega | exact Nat.le_refl _ | (simp [digC_len, dgV, LV.cells, readDC_len, readDV, madeDC_len, madeDV, traceDC_len, traceDV]; done) | (simp [digC_len, dgV, LV.cells, readDC_len, readDV, madeDC_len, madeDV, traceDC_len, traceDV]; omega)) (by first | exact (traceD_all _) | rfl) ?_
 | refine HPlan.load rfl rfl rfl q_sh_28 (by repeat (first | exact List.Mem.head _ | apply List.Mem.tail | assumption)) (by constructor <;> first | rfl | decide | omega | exact Nat.le_refl _ | (simp [digC_len, dgV, LV.cells, readDC_len, readDV, madeDC_len, madeDV, traceDC_len, traceDV]; done) | (simp [digC_len, dgV, LV.cells, readDC_len, readDV, madeDC_len, madeDV, traceDC_len, traceDV]; omega)) (by first | exact (traceD_all _) | rfl) ?_
 refine HPlan.buildSliceN rfl rfl q_se_22 q_zs_28 rfl (by decide) rfl rfl (by rfl : _ = [tP sC, tP sB].map traceDV) (allCells_cons (traceDV_solid _) (by simp [traceDV, LV.cells]) (allCells_cons (traceDV_solid _) (by simp [traceDV, LV.cells]) allCells_nil)) keptH_nil ?_
 refine HPlan.callPure rfl rfl rfl q_en_14 (sameall_yes us5 [tP sC, tP sB] _ _ hus5 IsSl.sl (by omega) (sameAll_pj (hup5.trans fA3_is))) keptH_nil ?_
 refine HPlan.pickT rfl rfl rfl rfl ?_
 refine HPlan.move rfl rfl rfl ?_
 refine HPlan.move rfl rfl rfl ?_
 first
 | refine HPlan.loadI rfl rfl rfl q_sh_28 (by constructor <;> first | rfl | decide | omega | exact Nat.le_refl _ | (simp [digC_len, dgV, LV.cells, readDC_len, readDV, madeDC_len, madeDV, traceDC_len, traceDV]; done) | (simp [digC_len, dgV, LV.cells, readDC_len, readDV, madeDC_len, madeDV, traceDC_len, traceDV]; omega)) (by first | exact (traceD_all _) | rfl) ?_
 | refine HPlan.load rfl rfl rfl q_sh_28 (by repeat (first | exact List.Mem.head _ | apply List.Mem.tail | assumption)) (by constructor <;> first | rfl | decide | omega | exact Nat.le_refl _ | (simp [digC_len, dgV, LV.cells, readDC_len, readDV, madeDC_len, madeDV, traceDC_len, traceDV]; done) | (simp [digC_len, dgV, LV.cells, readDC_len, readDV, madeDC_len, madeDV, traceDC_len, traceDV]; omega)) (by first | exact (traceD_all _) | rfl) ?_
 first
 | refine HPlan.loadI rfl rfl rfl q_sh_28 (by constructor <;> first | rfl | decide | omega | exact Nat.le_refl _ | (simp [digC_len, dgV, LV.cells, readDC_len, readDV, madeDC_len, madeDV, traceDC_len, traceDV]; done) | (simp [digC_len, dgV, LV.cells, readDC_len, readDV, madeDC_len, madeDV, traceDC_len, traceDV]; omega)) (by first | exact (traceD_all _) | rfl) ?_
 | refine HPlan.load rfl rfl rfl q_sh_28 (by repeat (first | exact List.Mem.head _ | apply List.Mem.tail | assumption)) (by constructor <;> first | rfl | decide | omega | exact Nat.le_refl _ | (simp [digC_len, dgV, LV.cells, readDC_len, readDV, madeDC_len, madeDV, traceDC_len, traceDV]; done) | (simp [digC_len, dgV, LV.cells, readDC_len, readDV, madeDC_len, madeDV, traceDC_len, traceDV]; omega)) (by first | exact (traceD_all _) | rfl) ?_
 refine HPlan.buildSliceN rfl rfl q_se_22 q_zs_28 rfl (by decide) rfl rfl (by rfl : _ = [tP sB, tP sC].map traceDV) (allCells_cons (traceDV_solid _) (by simp [traceDV, LV.cells]) (allCells_cons (traceDV_solid _) (by simp [traceDV, LV.cells]) allCells_nil)) keptH_nil ?_
 refine HPlan.callPure rfl rfl rfl q_en_14 (sameall_yes us7 [tP sB, tP sC] _ _ hus7 IsSl.sl (by omega) (sameAll_pj (hup7.trans fA4_is))) keptH_nil ?_
 refine HPlan.pickT rfl rfl rfl rfl ?_
 refine HPlan.assign rfl rfl rfl ?_
 refine HPlan.fin ?_
 refine onNorm_n ?_
 refine HWp.ret ?_
 refine retQ_r (.tmp rfl .nil) ?_
 exact endK_of ⟨rfl, rfl, [], rfl⟩ (by repeat (first | exact Part.refl _ | refine Part.pull (by repeat (first | exact Pull.here | apply Pull.there)) ?_ | refine Part.skip _ ?_ | exact Part.nil _ | exact Part.app _ _ | exact Part.appL _ _ | refine Part.appR _ ?_)) (by repeat (first | exact Part.refl _ | refine Part.pull (by repeat (first | exact Pull.here | apply Pull.there)) ?_ | refine Part.skip _ ?_ | exact Part.nil _ | exact Part.app _ _ | exact Part.appL _ _ | refine Part.appR _ ?_))
end Go.Proofs.YthfoobfgdakbmaaDoor

set_option linter.unusedVariables false
set_option linter.unusedSimpArgs false
set_option maxRecDepth 100000
namespace Go.Proofs.YthfoobfgdakbmaaDoor
open Go Go.RowKit Go.L
theorem q_en_8 : enterable Tryd.prog 8 = true := by kernel_rfl
theorem q_en_9 : enterable Tryd.prog 9 = true := by kernel_rfl
theorem q_en_11 : enterable Tryd.prog 11 = true := by kernel_rfl
theorem q_f_3 : Tryd.prog.funcs[3]? = some Tryd.f3 := by kernel_rfl

/-! ### The law's walk -/
def lastKey (l : List TraceD) : Dig := (l.getLast?.map TraceD.key).getD zeroDig
theorem lastKey_eq {l : List TraceD} (h : 0 < l.length) : lastKey l = (l[l.length - 1]'(by omega)).key := by
  rw [lastKey, List.getLast?_eq_getElem?, List.getElem?_eq_getElem (by omega)]; rfl
theorem at_last {α : Type} {f : α → LV} {l : List α} (h : 0 < l.length) : (l.map f).getD (((l.length : Int) - 1).toNat) .und = f (l[l.length - 1]'(by omega)) := by
  have e : ((l.length : Int) - 1).toNat = l.length - 1 := by omega
  rw [e]; exact at_map (k := l.length - 1) (by omega)
def badF (t ot : TraceD) : Bool := !decide (checkF t = 0 ∧ t.key ≠ ot.key)
theorem bad_1 {t ot : TraceD} (h : ¬ checkF t = 0) : true = badF t ot := by unfold badF; simp [h]
theorem bad_2 {t ot : TraceD} (h : checkF t = 0) : decide (t.key = ot.key) = badF t ot := by
  unfold badF; simp [h]
def seenTo (ws : List TraceD) (t ot : TraceD) (k : Nat) : Bool := badF t ot || (ws.take k).any fun w => decide (SameT w t)
theorem seen_0 (ws : List TraceD) (t ot : TraceD) : badF t ot = seenTo ws t ot 0 := by simp [seenTo]
theorem seen_step {ws : List TraceD} {t ot : TraceD} {k : Nat} (h : k < ws.length) : seenTo ws t ot (k + 1) = (seenTo ws t ot k || decide (SameT ws[k] t)) := by
  simp only [seenTo, List.take_add_one, List.getElem?_eq_getElem h, List.any_append, Option.toList_some, List.any_cons, List.any_nil, Bool.or_false, Bool.or_assoc]
theorem seen_1 {ws : List TraceD} {t ot : TraceD} {k : Nat} (h : k < ws.length) (e : seenTo ws t ot k = true) : true = seenTo ws t ot (k + 1) := by rw [seen_step h, e]; rfl
theorem seen_2 {ws : List TraceD} {t ot : TraceD} {k : Nat} (h : k < ws.length) (e : seenTo ws t ot k = false) : decide (SameT ws[k] t) = seenTo ws t ot (k + 1) := by rw [seen_step h, e]; rfl
theorem seen_all {ws : List TraceD} {t ot : TraceD} : seenTo ws t ot ws.length = false ↔ (checkF t = 0 ∧ t.key ≠ ot.key) ∧ pj t ∉ ws.map pj := by
  rw [seenTo, List.take_length, Bool.or_eq_false_iff]
  refine and_congr ?_ ?_
  · unfold badF; simp
  · rw [List.any_eq_false]
    simp only [decide_eq_true_eq, List.mem_map, not_exists, not_and]
    exact ⟨fun h w hw e => h w hw ((same_pj _ _).2 e), fun h w hw e => h w hw ((same_pj _ _).1 e)⟩
theorem want_yes {K : Dig} {most : Nat} {l ws : List TraceD} {ot : TraceD} {j : Nat} (hj : j < l.length) (hw : ws.map pj = wantL K ot.key most (l.drop (j + 1))) (h1 : seenTo ws l[j] ot ws.length = false) (h2 : l[j].key = K) (h3 : ws.length < most) :
    (ws ++ [l[j]]).map pj = wantL K ot.key most (l.drop j) := by
  rw [List.drop_eq_getElem_cons hj, wantL, ← hw, wantS, if_pos ⟨(seen_all.1 h1).1, (seen_all.1 h1).2, h2, by rw [List.length_map]; exact h3⟩, List.map_append]; rfl
theorem want_no {K : Dig} {most : Nat} {l ws : List TraceD} {ot : TraceD} {j : Nat} (hj : j < l.length) (hw : ws.map pj = wantL K ot.key most (l.drop (j + 1))) (h : seenTo ws l[j] ot ws.length = true ∨ ¬ l[j].key = K ∨ ¬ ws.length < most) :
    ws.map pj = wantL K ot.key most (l.drop j) := by
  rw [List.drop_eq_getElem_cons hj, wantL, ← hw, wantS, if_neg]
  rintro ⟨a, b, c, d⟩
  rw [List.length_map] at d
  rcases h with h | h | h
  · rw [seen_all.2 ⟨a, b⟩] at h; cases h
  · exact h c
  · exact h d
theorem perm_c {α : Type} (a : α) (A B : List α) : (a :: (A ++ B)).Perm (a :: (A ++ B)) := .refl _

theorem keeps_law (l : List TraceD) (ot : TraceD) (hc : ∀ t ∈ l, Calm t) (ho : Calm ot) (hl : l.length < 1048577) (most : Int) (x : LV) (hx : IsSl 34 (l.map traceDV) x) : HPure Tryd.prog 3 [.int .i64 most, x, traceDV ot] (.bool true) := by
 intro L T
 refine HCalls.enterG q_f_3 rfl ?_
 refine HWp.frame (r' := ⟨170, [(0, .int .i64 most), (1, x), (2, traceDV ot)]⟩) rfl ?_
 refine HWp.seq ?_
 refine HWp.text (.act 0 [] (.rd 1 .done)) rfl ?_
 refine HPlan.box rfl rfl rfl (by first | rfl | (simp; done)) (fun i5 => ⟨keptH_nil, ?_⟩)
 refine HPlan.assign rfl rfl rfl ?_
 refine HPlan.fin ?_
 refine onNorm_n ?_
 refine HWp.seq ?_
 refine HWp.seq ?_
 refine HWp.text (.act 0 [] (.rd 1 .done)) rfl ?_
 refine HPlan.callS rfl rfl rfl q_en_8 (alive_spec _ _) (List.Perm.refl _) (List.Perm.refl _) ?_
 rintro r_R1_0 L_R1_0 T1 ⟨rfl, rfl, T0, rfl⟩
 refine ⟨keptH_nil, ?_⟩
 refine HPlan.not rfl rfl rfl rfl ?_
 refine HPlan.fin ?_
 refine onNorm_n ?_
 refine HWp.cond_f rfl ?_
 refine HWp.skip ?_
 refine onNorm_n ?_
 refine HWp.seq ?_
 refine HWp.seq ?_
 refine HWp.text (.rd 0 (.rd 1 (.rd 2 (.rd 3 (.rd 4 (.rd 5 (.rd 6 (.rd 7 (.rd 8 (.rd 9 (.rd 10 (.rd 11 (.rd 12 (.act 13 [] (.rd 14 (.rd 15 .done)))))))))))))))) rfl ?_
 refine HPlan.move rfl rfl rfl ?_
 refine HPlan.lenS rfl rfl rfl q_tk_22 hx (by first | rw [List.length_map] | rfl) ?_
 refine HPlan.intBin rfl rfl rfl rfl rfl rfl ?_
 refine HPlan.move rfl rfl rfl ?_
 refine HPlan.split ?_ ?_
 ·
  intro hb3_3
  first
  | exact PrN hb3_3
  | ((try simp only [Pr] at hb3_3); exfalso; omega)
  | (try simp only [Pr] at hb3_3)
    refine HPlan.leftR rfl rfl ?_
    refine HPlan.leftR rfl rfl ?_
    refine HPlan.pickT rfl rfl rfl rfl ?_
    refine HPlan.move rfl rfl rfl ?_
    refine HPlan.leftR rfl rfl ?_
    refine HPlan.leftR rfl rfl ?_
    refine HPlan.pickT rfl rfl rfl rfl ?_
    refine HPlan.move rfl rfl rfl ?_
    refine HPlan.leftR rfl rfl ?_
    refine HPlan.leftA rfl rfl ?_
    refine HPlan.leftR rfl rfl ?_
    refine HPlan.pickT rfl rfl rfl rfl ?_
    refine HPlan.fin ?_
    refine onNorm_n ?_
    refine HWp.cond_t rfl ?_
    refine HWp.seq ?_
    refine HWp.text (.rd 0 .done) rfl ?_
    refine HPlan.assign rfl rfl rfl ?_
    refine HPlan.fin ?_
    refine onNorm_n ?_
    refine HWp.ret ?_
    refine onNorm_r ?_
    refine retQ_r (.tmp rfl .nil) ?_
    exact endK_of ⟨rfl, rfl, rfl⟩ (by repeat (first | exact Part.refl _ | refine Part.pull (by repeat (first | exact Pull.here | apply Pull.there)) ?_ | refine Part.skip _ ?_ | exact Part.nil _ | exact Part.app _ _ | exact Part.appL _ _ | refine Part.appR _ ?_)) (by repeat (first | exact Part.refl _ | refine Part.pull (by repeat (first | exact Pull.here | apply Pull.there)) ?_ | refine Part.skip _ ?_ | exact Part.nil _ | exact Part.app _ _ | exact Part.appL _ _ | refine Part.appR _ ?_))
 ·
  intro hb3_3
  first
  | exact PrN hb3_3
  | ((try simp only [Pr] at hb3_3); exfalso; omega)
  | (try simp only [Pr] at hb3_3)
    refine HPlan.move rfl rfl rfl ?_
    refine HPlan.intBin rfl rfl rfl rfl rfl rfl ?_
    refine HPlan.pickF rfl rfl rfl rfl ?_
    refine HPlan.move rfl rfl rfl ?_
    refine HPlan.split ?_ ?_
    ·
     intro hb3_7
     first
     | exact PrN hb3_7
     | ((try simp only [Pr] at hb3_7); exfalso; omega)
     | (try simp only [Pr] at hb3_7)
       refine HPlan.leftR rfl rfl ?_
       refine HPlan.leftR rfl rfl ?_
       refine HPlan.pickT rfl rfl rfl rfl ?_
       refine HPlan.move rfl rfl rfl ?_
       refine HPlan.leftR rfl rfl ?_
       refine HPlan.leftA rfl rfl ?_
       refine HPlan.leftR rfl rfl ?_
       refine HPlan.pickT rfl rfl rfl rfl ?_
       refine HPlan.fin ?_
       refine onNorm_n ?_
       refine HWp.cond_t rfl ?_
       refine HWp.seq ?_
       refine HWp.text (.rd 0 .done) rfl ?_
       refine HPlan.assign rfl rfl rfl ?_
       refine HPlan.fin ?_
       refine onNorm_n ?_
       refine HWp.ret ?_
       refine onNorm_r ?_
       refine retQ_r (.tmp rfl .nil) ?_
       exact endK_of ⟨rfl, rfl, rfl⟩ (by repeat (first | exact Part.refl _ | refine Part.pull (by repeat (first | exact Pull.here | apply Pull.there)) ?_ | refine Part.skip _ ?_ | exact Part.nil _ | exact Part.app _ _ | exact Part.appL _ _ | refine Part.appR _ ?_)) (by repeat (first | exact Part.refl _ | refine Part.pull (by repeat (first | exact Pull.here | apply Pull.there)) ?_ | refine Part.skip _ ?_ | exact Part.nil _ | exact Part.app _ _ | exact Part.appL _ _ | refine Part.appR _ ?_))
    ·
     intro hb3_7
     first
     | exact PrN hb3_7
     | ((try simp only [Pr] at hb3_7); exfalso; omega)
     | (try simp only [Pr] at hb3_7)
       refine HPlan.move rfl rfl rfl ?_
       refine HPlan.intBin rfl rfl rfl rfl rfl rfl ?_
       refine HPlan.pickF rfl rfl rfl rfl ?_
       refine HPlan.move rfl rfl rfl ?_
       refine HPlan.split ?_ ?_
       ·
        intro hb3_11
        first
        | exact PrN hb3_11
        | ((try simp only [Pr] at hb3_11); exfalso; omega)
        | (try simp only [Pr] at hb3_11)
          refine HPlan.leftR rfl rfl ?_
          refine HPlan.leftA rfl rfl ?_
          refine HPlan.leftR rfl rfl ?_
          refine HPlan.pickT rfl rfl rfl rfl ?_
          refine HPlan.fin ?_
          refine onNorm_n ?_
          refine HWp.cond_t rfl ?_
          refine HWp.seq ?_
          refine HWp.text (.rd 0 .done) rfl ?_
          refine HPlan.assign rfl rfl rfl ?_
          refine HPlan.fin ?_
          refine onNorm_n ?_
          refine HWp.ret ?_
          refine onNorm_r ?_
          refine retQ_r (.tmp rfl .nil) ?_
          exact endK_of ⟨rfl, rfl, rfl⟩ (by repeat (first | exact Part.refl _ | refine Part.pull (by repeat (first | exact Pull.here | apply Pull.there)) ?_ | refine Part.skip _ ?_ | exact Part.nil _ | exact Part.app _ _ | exact Part.appL _ _ | refine Part.appR _ ?_)) (by repeat (first | exact Part.refl _ | refine Part.pull (by repeat (first | exact Pull.here | apply Pull.there)) ?_ | refine Part.skip _ ?_ | exact Part.nil _ | exact Part.app _ _ | exact Part.appL _ _ | refine Part.appR _ ?_))
       ·
        intro hb3_11
        first
        | exact PrN hb3_11
        | ((try simp only [Pr] at hb3_11); exfalso; omega)
        | (try simp only [Pr] at hb3_11)
          first
          | refine HPlan.loadI rfl rfl rfl q_sh_28 (by constructor <;> first | rfl | decide | omega | exact Nat.le_refl _ | (simp [digC_len, dgV, LV.cells, readDC_len, readDV, madeDC_len, madeDV, traceDC_len, traceDV]; done) | (simp [digC_len, dgV, LV.cells, readDC_len, readDV, madeDC_len, madeDV, traceDC_len, traceDV]; omega)) (by first | exact (traceD_all _) | rfl) ?_
          | refine HPlan.load rfl rfl rfl q_sh_28 (by repeat (first | exact List.Mem.head _ | apply List.Mem.tail | assumption)) (by constructor <;> first | rfl | decide | omega | exact Nat.le_refl _ | (simp [digC_len, dgV, LV.cells, readDC_len, readDV, madeDC_len, madeDV, traceDC_len, traceDV]; done) | (simp [digC_len, dgV, LV.cells, readDC_len, readDV, madeDC_len, madeDV, traceDC_len, traceDV]; omega)) (by first | exact (traceD_all _) | rfl) ?_
          refine HPlan.callPure rfl rfl rfl q_en_9 (great_spec _) keptH_nil ?_
          refine HPlan.intBin rfl rfl rfl rfl rfl rfl ?_
          refine HPlan.pickF rfl rfl rfl rfl ?_
          refine HPlan.fin ?_
          refine onNorm_n ?_
          refine HWp.cond rfl ?_ ?_
          ·
           intro hc32
           first
           | exact PrN hc32
           | ((try simp only [Pr] at hc32); exfalso; omega)
           | (try simp only [Pr] at hc32)
             refine HWp.seq ?_
             refine HWp.text (.rd 0 .done) rfl ?_
             refine HPlan.assign rfl rfl rfl ?_
             refine HPlan.fin ?_
             refine onNorm_n ?_
             refine HWp.ret ?_
             refine onNorm_r ?_
             refine retQ_r (.tmp rfl .nil) ?_
             exact endK_of ⟨rfl, rfl, rfl⟩ (by repeat (first | exact Part.refl _ | refine Part.pull (by repeat (first | exact Pull.here | apply Pull.there)) ?_ | refine Part.skip _ ?_ | exact Part.nil _ | exact Part.app _ _ | exact Part.appL _ _ | refine Part.appR _ ?_)) (by repeat (first | exact Part.refl _ | refine Part.pull (by repeat (first | exact Pull.here | apply Pull.there)) ?_ | refine Part.skip _ ?_ | exact Part.nil _ | exact Part.app _ _ | exact Part.appL _ _ | refine Part.appR _ ?_))
          ·
           intro hc32
           first
           | exact PrN hc32
           | ((try simp only [Pr] at hc32); exfalso; omega)
           | (try simp only [Pr] at hc32)
             refine HWp.skip ?_
             refine onNorm_n ?_
             refine HWp.seq ?_
             refine HWp.seq ?_
             refine HWp.text (.rd 0 .done) rfl ?_
             refine HPlan.assign rfl rfl rfl ?_
             refine HPlan.fin ?_
             refine onNorm_n ?_
             refine HWp.block ?_
             refine HWp.loopF (α := Nat) (fun i => l.length - i) (fun i => i ≤ l.length) (fun i => ⟨170, [(0, .int .i64 most), (1, x), (5, .ref i5 0), (7, .int .i64 (i : Int))]⟩) (fun i => (i5, .cells 28 (traceDC ot) 0) :: L) (fun i => T) ?_ ?_
             ·
              refine ⟨0, (Nat.zero_le _), (LessE.less (by repeat (first | exact LessE.nil | refine LessE.same rfl ?_ | refine LessE.own rfl ?_ | refine LessE.eq rfl ?_ (by first | rfl | (congr 1; omega) | simp))) rfl), (by repeat (first | exact Part.refl _ | refine Part.pull (by repeat (first | exact Pull.here | apply Pull.there)) ?_ | refine Part.skip _ ?_ | exact Part.nil _ | exact Part.app _ _ | exact Part.appL _ _ | refine Part.appR _ ?_)), (by repeat (first | exact Part.refl _ | refine Part.pull (by repeat (first | exact Pull.here | apply Pull.there)) ?_ | refine Part.skip _ ?_ | exact Part.nil _ | exact Part.app _ _ | exact Part.appL _ _ | refine Part.appR _ ?_))⟩
             ·
              rintro i hi1
              refine HWp.seq ?_
              refine HWp.seq ?_
              refine HWp.text (.rd 0 (.rd 1 (.rd 2 (.rd 3 .done)))) rfl ?_
              refine HPlan.move rfl rfl rfl ?_
              refine HPlan.move rfl rfl rfl ?_
              refine HPlan.lenS rfl rfl rfl q_tk_22 hx (by first | rw [List.length_map] | rfl) ?_
              refine HPlan.intBin rfl rfl rfl rfl rfl rfl ?_
              refine HPlan.fin ?_
              refine onNorm_n ?_
              refine HWp.cond rfl ?_ ?_
              ·
               intro hc36
               first
               | exact PrN hc36
               | ((try simp only [Pr] at hc36); exfalso; omega)
               | (try simp only [Pr] at hc36)
                 refine HWp.skip ?_
                 refine onNorm_n ?_
                 refine HWp.seq ?_
                 refine HWp.block ?_
                 refine HWp.seq ?_
                 refine HWp.text (.rd 0 (.rd 1 (.rd 2 (.rd 3 (.act 4 [] (.rd 5 .done)))))) rfl ?_
                 refine HPlan.move rfl rfl rfl ?_
                 refine HPlan.move rfl rfl rfl ?_
                 refine HPlan.indexS rfl rfl rfl rfl q_ix_22 hx (by omega) (by simp only [List.length_map]; omega) (by first | exact at_map (by omega) | rfl) ?_
                 first
                 | refine HPlan.loadI rfl rfl rfl q_sh_28 (by constructor <;> first | rfl | decide | omega | exact Nat.le_refl _ | (simp [digC_len, dgV, LV.cells, readDC_len, readDV, madeDC_len, madeDV, traceDC_len, traceDV]; done) | (simp [digC_len, dgV, LV.cells, readDC_len, readDV, madeDC_len, madeDV, traceDC_len, traceDV]; omega)) (by first | exact (traceD_all _) | rfl) ?_
                 | refine HPlan.load rfl rfl rfl q_sh_28 (by repeat (first | exact List.Mem.head _ | apply List.Mem.tail | assumption)) (by constructor <;> first | rfl | decide | omega | exact Nat.le_refl _ | (simp [digC_len, dgV, LV.cells, readDC_len, readDV, madeDC_len, madeDV, traceDC_len, traceDV]; done) | (simp [digC_len, dgV, LV.cells, readDC_len, readDV, madeDC_len, madeDV, traceDC_len, traceDV]; omega)) (by first | exact (traceD_all _) | rfl) ?_
                 refine HPlan.callPure rfl rfl rfl q_en_9 (great_spec _) keptH_nil ?_
                 refine HPlan.intBin rfl rfl rfl rfl rfl rfl ?_
                 refine HPlan.fin ?_
                 refine onNorm_n ?_
                 refine HWp.cond rfl ?_ ?_
                 ·
                  intro hc44
                  first
                  | exact PrN hc44
                  | ((try simp only [Pr] at hc44); exfalso; omega)
                  | (try simp only [Pr] at hc44)
                    refine HWp.seq ?_
                    refine HWp.text (.rd 0 .done) rfl ?_
                    refine HPlan.assign rfl rfl rfl ?_
                    refine HPlan.fin ?_
                    refine onNorm_n ?_
                    refine HWp.ret ?_
                    refine onExitH_r ?_
                    refine onNorm_r ?_
                    refine onNorm_r ?_
                    refine onExitH_r ?_
                    refine onNorm_r ?_
                    refine retQ_r (.tmp rfl .nil) ?_
                    exact endK_of ⟨rfl, rfl, rfl⟩ (by repeat (first | exact Part.refl _ | refine Part.pull (by repeat (first | exact Pull.here | apply Pull.there)) ?_ | refine Part.skip _ ?_ | exact Part.nil _ | exact Part.app _ _ | exact Part.appL _ _ | refine Part.appR _ ?_)) (by repeat (first | exact Part.refl _ | refine Part.pull (by repeat (first | exact Pull.here | apply Pull.there)) ?_ | refine Part.skip _ ?_ | exact Part.nil _ | exact Part.app _ _ | exact Part.appL _ _ | refine Part.appR _ ?_))
                 ·
                  intro hc44
                  first
                  | exact PrN hc44
                  | ((try simp only [Pr] at hc44); exfalso; omega)
                  | (try simp only [Pr] at hc44)
                    refine HWp.skip ?_
                    refine onExitH_n ?_
                    refine onNorm_n ?_
                    refine HWp.text (.rd 0 (.rd 1 (.rd 2 .done))) rfl ?_
                    refine HPlan.move rfl rfl rfl ?_
                    refine HPlan.intBin rfl rfl rfl rfl rfl (by first | exact add_i64 (by omega) (by omega) | rfl) ?_
                    refine HPlan.assign rfl rfl rfl ?_
                    refine HPlan.fin ?_
                    refine onNorm_n ?_
                    refine ⟨(i + 1), (by omega), (by omega), (LessE.less (by repeat (first | exact LessE.nil | refine LessE.same rfl ?_ | refine LessE.own rfl ?_ | refine LessE.eq rfl ?_ (by first | rfl | (congr 1; omega) | simp))) rfl), (by repeat (first | exact Part.refl _ | refine Part.pull (by repeat (first | exact Pull.here | apply Pull.there)) ?_ | refine Part.skip _ ?_ | exact Part.nil _ | exact Part.app _ _ | exact Part.appL _ _ | refine Part.appR _ ?_)), (by repeat (first | exact Part.refl _ | refine Part.pull (by repeat (first | exact Pull.here | apply Pull.there)) ?_ | refine Part.skip _ ?_ | exact Part.nil _ | exact Part.app _ _ | exact Part.appL _ _ | refine Part.appR _ ?_))⟩
              ·
               intro hc36
               first
               | exact PrN hc36
               | ((try simp only [Pr] at hc36); exfalso; omega)
               | (try simp only [Pr] at hc36)
                 refine HWp.exit ?_
                 refine onNorm_e ?_
                 refine onNorm_e ?_
                 refine onExitH_hit ?_
                 refine onNorm_n ?_
                 refine HWp.seq ?_
                 refine HWp.text (.rd 0 (.act 1 [] (.rd 2 (.rd 3 (.rd 4 (.rd 5 (.rd 6 .done))))))) rfl ?_
                 refine HPlan.move rfl rfl rfl ?_
                 refine HPlan.callS rfl rfl rfl q_en_10 (new_db most (by omega) (by omega) _ _) (List.Perm.refl _) (List.Perm.refl _) ?_
                 rintro r_R10_1 L_R10_1 T2 ⟨d, m, rfl, rfl, rfl⟩
                 refine ⟨keptH_nil, ?_⟩
                 refine HPlan.move rfl rfl rfl ?_
                 refine HPlan.extract rfl rfl rfl rfl ?_
                 refine HPlan.extract rfl rfl rfl rfl ?_
                 refine HPlan.assign rfl rfl rfl ?_
                 refine HPlan.assign rfl rfl rfl ?_
                 refine HPlan.fin ?_
                 refine onNorm_n ?_
                 refine HWp.seq ?_
                 refine HWp.text (.rd 0 .done) rfl ?_
                 refine HPlan.assign rfl rfl rfl ?_
                 refine HPlan.fin ?_
                 refine onNorm_n ?_
                 refine HWp.seq ?_
                 refine HWp.seq ?_
                 refine HWp.text (.rd 0 (.rd 1 (.rd 2 (.rd 3 .done)))) rfl ?_
                 refine HPlan.move rfl rfl rfl ?_
                 refine HPlan.lenS rfl rfl rfl q_tk_22 hx (by first | rw [List.length_map] | rfl) ?_
                 refine HPlan.intBin rfl rfl rfl rfl rfl (by first | exact sub_i64 (by omega) (by omega) | rfl) ?_
                 refine HPlan.assign rfl rfl rfl ?_
                 refine HPlan.fin ?_
                 refine onNorm_n ?_
                 refine HWp.block ?_
                 refine HWp.loopF (α := Nat × List TraceD × Option (Nat × Nat)) (fun q => q.1) (fun q => q.1 ≤ l.length ∧ growOk q.2.2 (q.2.1.map traceDV) ∧ q.2.1.length ≤ l.length - q.1 ∧ q.2.1.map pj = wantL (lastKey l) ot.key most.toNat (l.drop q.1)) (fun q => ⟨170, [(0, .int .i64 most), (1, x), (5, .ref i5 0), (8, .ref d 0), (10, growV q.2.2 34 (q.2.1.map traceDV)), (11, .int .i64 ((q.1 : Int) - 1))]⟩) (fun q => (i5, .cells 28 (traceDC ot) 0) :: (L ++ dbO d m most 0 [])) (fun q => growT q.2.2 ++ T2) ?_ ?_
                 ·
                  refine ⟨(l.length, [], none), ⟨Nat.le_refl _, (fun _ => rfl), Nat.zero_le _, by simp [wantL]⟩, (LessE.less (by repeat (first | exact LessE.nil | refine LessE.same rfl ?_ | refine LessE.own rfl ?_ | refine LessE.eq rfl ?_ (by first | rfl | (congr 1; omega) | simp))) rfl), (by repeat (first | exact Part.refl _ | refine Part.pull (by repeat (first | exact Pull.here | apply Pull.there)) ?_ | refine Part.skip _ ?_ | exact Part.nil _ | exact Part.app _ _ | exact Part.appL _ _ | refine Part.appR _ ?_)), (by repeat (first | exact Part.refl _ | refine Part.pull (by repeat (first | exact Pull.here | apply Pull.there)) ?_ | refine Part.skip _ ?_ | exact Part.nil _ | exact Part.app _ _ | exact Part.appL _ _ | refine Part.appR _ ?_))⟩
                 ·
                  rintro q ⟨hq1, hg, hwl, hw⟩
                  obtain ⟨i, ws, o⟩ := q
                  simp only at hq1 hg hwl hw ⊢
                  refine HWp.seq ?_
                  refine HWp.seq ?_
                  refine HWp.text (.rd 0 (.rd 1 .done)) rfl ?_
                  refine HPlan.move rfl rfl rfl ?_
                  refine HPlan.intBin rfl rfl rfl rfl rfl rfl ?_
                  refine HPlan.fin ?_
                  refine onNorm_n ?_
                  refine HWp.cond rfl ?_ ?_
                  ·
                   intro hc54
                   first
                   | exact PrN hc54
                   | ((try simp only [Pr] at hc54); exfalso; omega)
                   | (try simp only [Pr] at hc54)
                     obtain ⟨j, rfl⟩ : ∃ j, i = j + 1 := ⟨i - 1, by omega⟩
                     rw [show (((j + 1 : Nat) : Int) - 1) = (j : Int) by omega]
                     refine HWp.skip ?_
                     refine onNorm_n ?_
                     refine HWp.seq ?_
                     refine HWp.block ?_
                     refine HWp.seq ?_
                     refine HWp.draw q_mix (.rd 0 (.rd 1 (.rd 2 (.rd 3 (.act 4 [] (.rd 5 (.rd 6 (.rd 7 (.rd 8 (.rd 9 (.rd 10 (.rd 11 (.rd 12 (.rd 13 (.rd 14 (.rd 15 (.rd 16 .done))))))))))))))))) (by kernel_rfl) ?_
                     refine HPlan.move rfl rfl rfl ?_
                     refine HPlan.move rfl rfl rfl ?_
                     refine HPlan.indexS rfl rfl rfl rfl q_ix_22 hx (by omega) (by simp only [List.length_map]; omega) (by first | exact at_map (by omega) | rfl) ?_
                     first
                     | refine HPlan.loadI rfl rfl rfl q_sh_28 (by constructor <;> first | rfl | decide | omega | exact Nat.le_refl _ | (simp [digC_len, dgV, LV.cells, readDC_len, readDV, madeDC_len, madeDV, traceDC_len, traceDV]; done) | (simp [digC_len, dgV, LV.cells, readDC_len, readDV, madeDC_len, madeDV, traceDC_len, traceDV]; omega)) (by first | exact (traceD_all _) | rfl) ?_
                     | refine HPlan.load rfl rfl rfl q_sh_28 (by repeat (first | exact List.Mem.head _ | apply List.Mem.tail | assumption)) (by constructor <;> first | rfl | decide | omega | exact Nat.le_refl _ | (simp [digC_len, dgV, LV.cells, readDC_len, readDV, madeDC_len, madeDV, traceDC_len, traceDV]; done) | (simp [digC_len, dgV, LV.cells, readDC_len, readDV, madeDC_len, madeDV, traceDC_len, traceDV]; omega)) (by first | exact (traceD_all _) | rfl) ?_
                     refine HPlan.callPure rfl rfl rfl q_en_11 (rcheck_spec _ (hc _ (List.getElem_mem (by omega)))) keptH_nil ?_
                     refine HPlan.intBin rfl rfl rfl rfl rfl rfl ?_
                     refine HPlan.move rfl rfl rfl ?_
                     refine HPlan.split ?_ ?_
                     ·
                      intro hb15_6
                      first
                      | exact PrN hb15_6
                      | ((try simp only [Pr] at hb15_6); exfalso; omega)
                      | (try simp only [Pr] at hb15_6)
                        refine HPlan.leftR rfl rfl ?_
                        refine HPlan.leftR rfl rfl ?_
                        refine HPlan.leftR rfl rfl ?_
                        refine HPlan.leftR rfl rfl ?_
                        refine HPlan.leftR rfl rfl ?_
                        refine HPlan.leftR rfl rfl ?_
                        refine HPlan.leftR rfl rfl ?_
                        refine HPlan.leftR rfl rfl ?_
                        refine HPlan.pickT rfl rfl rfl (by first | exact congrArg (fun b => some (LV.bool b)) (bad_1 (ot := ot) hb15_6) | exact congrArg (fun b => some (LV.bool b)) (bad_2 (ot := ot) hb15_6)) ?_
                        rw [seen_0 ws l[j] ot]
                        refine HPlan.assign rfl rfl rfl ?_
                        refine HPlan.fin ?_
                        refine onNorm_n ?_
                        refine HWp.seq ?_
                        refine HWp.seq ?_
                        refine HWp.text (.rd 0 .done) rfl ?_
                        refine HPlan.assign rfl rfl rfl ?_
                        refine HPlan.fin ?_
                        refine onNorm_n ?_
                        refine HWp.block ?_
                        refine HWp.loopF (α := Nat) (fun k => ws.length - k) (fun k => k ≤ ws.length) (fun k => ⟨170, [(0, .int .i64 most), (1, x), (5, .ref i5 0), (8, .ref d 0), (10, growV o 34 (ws.map traceDV)), (11, .int .i64 (j : Int)), (12, .bool (seenTo ws l[j] ot k)), (13, .int .i64 (k : Int))]⟩) (fun k => (i5, .cells 28 (traceDC ot) 0) :: (L ++ dbO d m most 0 [])) (fun k => growT o ++ T2) ?_ ?_
                        ·
                         refine ⟨0, (Nat.zero_le _), (LessE.less (by repeat (first | exact LessE.nil | refine LessE.same rfl ?_ | refine LessE.own rfl ?_ | refine LessE.eq rfl ?_ (by first | rfl | (congr 1; omega) | simp))) rfl), (by repeat (first | exact Part.refl _ | refine Part.pull (by repeat (first | exact Pull.here | apply Pull.there)) ?_ | refine Part.skip _ ?_ | exact Part.nil _ | exact Part.app _ _ | exact Part.appL _ _ | refine Part.appR _ ?_)), (by repeat (first | exact Part.refl _ | refine Part.pull (by repeat (first | exact Pull.here | apply Pull.there)) ?_ | refine Part.skip _ ?_ | exact Part.nil _ | exact Part.app _ _ | exact Part.appL _ _ | refine Part.appR _ ?_))⟩
                        ·
                         rintro k hk1
                         refine HWp.seq ?_
                         refine HWp.seq ?_
                         refine HWp.text (.rd 0 (.rd 1 (.rd 2 (.rd 3 .done)))) rfl ?_
                         refine HPlan.move rfl rfl rfl ?_
                         refine HPlan.move rfl rfl rfl ?_
                         refine HPlan.lenS rfl rfl rfl q_tk_22 (by first | exact IsSl.sl | exact IsSl.nils | assumption | exact growV_isSl (by assumption) | exact SlD.ok _) (by first | rw [List.length_map] | rfl) ?_
                         refine HPlan.intBin rfl rfl rfl rfl rfl rfl ?_
                         refine HPlan.fin ?_
                         refine onNorm_n ?_
                         refine HWp.cond rfl ?_ ?_
                         ·
                          intro hc76
                          first
                          | exact PrN hc76
                          | ((try simp only [Pr] at hc76); exfalso; omega)
                          | (try simp only [Pr] at hc76)
                            refine HWp.skip ?_
                            refine onNorm_n ?_
                            refine HWp.seq ?_
                            refine HWp.block ?_
                            refine HWp.draw q_mix (.rd 0 (.rd 1 (.rd 2 (.rd 3 (.rd 4 (.rd 5 (.rd 6 (.rd 7 (.rd 8 (.rd 9 (.act 10 [] (.rd 11 (.rd 12 .done))))))))))))) (by kernel_rfl) ?_
                            refine HPlan.move rfl rfl rfl ?_
                            refine HPlan.move rfl rfl rfl ?_
                            refine HPlan.split ?_ ?_
                            ·
                             intro hb19_1
                             first
                             | exact PrN hb19_1
                             | ((try simp only [Pr] at hb19_1); exfalso; omega)
                             | (try simp only [Pr] at hb19_1)
                               refine HPlan.leftR rfl rfl ?_
                               refine HPlan.leftR rfl rfl ?_
                               refine HPlan.leftR rfl rfl ?_
                               refine HPlan.leftR rfl rfl ?_
                               refine HPlan.leftR rfl rfl ?_
                               refine HPlan.leftR rfl rfl ?_
                               refine HPlan.leftR rfl rfl ?_
                               refine HPlan.leftR rfl rfl ?_
                               refine HPlan.leftA rfl rfl ?_
                               refine HPlan.pickT rfl rfl rfl (by first | exact congrArg (fun b => some (LV.bool b)) (seen_1 (by omega) hb19_1) | exact congrArg (fun b => some (LV.bool b)) (seen_2 (by omega) hb19_1)) ?_
                               refine HPlan.assign rfl rfl rfl ?_
                               refine HPlan.fin ?_
                               refine onExitH_n ?_
                               refine onNorm_n ?_
                               refine HWp.text (.rd 0 (.rd 1 (.rd 2 .done))) rfl ?_
                               refine HPlan.move rfl rfl rfl ?_
                               refine HPlan.intBin rfl rfl rfl rfl rfl (by first | exact add_i64 (by omega) (by omega) | rfl) ?_
                               refine HPlan.assign rfl rfl rfl ?_
                               refine HPlan.fin ?_
                               refine onNorm_n ?_
                               refine ⟨(k + 1), (by omega), (by omega), (LessE.less (by repeat (first | exact LessE.nil | refine LessE.same rfl ?_ | refine LessE.own rfl ?_ | refine LessE.eq rfl ?_ (by first | rfl | (congr 1; omega) | simp))) rfl), (by repeat (first | exact Part.refl _ | refine Part.pull (by repeat (first | exact Pull.here | apply Pull.there)) ?_ | refine Part.skip _ ?_ | exact Part.nil _ | exact Part.app _ _ | exact Part.appL _ _ | refine Part.appR _ ?_)), (by repeat (first | exact Part.refl _ | refine Part.pull (by repeat (first | exact Pull.here | apply Pull.there)) ?_ | refine Part.skip _ ?_ | exact Part.nil _ | exact Part.app _ _ | exact Part.appL _ _ | refine Part.appR _ ?_))⟩
                            ·
                             intro hb19_1
                             first
                             | exact PrN hb19_1
                             | ((try simp only [Pr] at hb19_1); exfalso; omega)
                             | (try simp only [Pr] at hb19_1)
                               refine HPlan.move rfl rfl rfl ?_
                               refine HPlan.move rfl rfl rfl ?_
                               refine HPlan.indexS rfl rfl rfl rfl q_ix_22 (by first | exact IsSl.sl | exact IsSl.nils | assumption | exact growV_isSl (by assumption) | exact SlD.ok _) (by omega) (by simp only [List.length_map]; omega) (by first | exact at_map (by omega) | rfl) ?_
                               first
                               | refine HPlan.loadI rfl rfl rfl q_sh_28 (by constructor <;> first | rfl | decide | omega | exact Nat.le_refl _ | (simp [digC_len, dgV, LV.cells, readDC_len, readDV, madeDC_len, madeDV, traceDC_len, traceDV]; done) | (simp [digC_len, dgV, LV.cells, readDC_len, readDV, madeDC_len, madeDV, traceDC_len, traceDV]; omega)) (by first | exact (traceD_all _) | rfl) ?_
                               | refine HPlan.load rfl rfl rfl q_sh_28 (by repeat (first | exact List.Mem.head _ | apply List.Mem.tail | assumption)) (by constructor <;> first | rfl | decide | omega | exact Nat.le_refl _ | (simp [digC_len, dgV, LV.cells, readDC_len, readDV, madeDC_len, madeDV, traceDC_len, traceDV]; done) | (simp [digC_len, dgV, LV.cells, readDC_len, readDV, madeDC_len, madeDV, traceDC_len, traceDV]; omega)) (by first | exact (traceD_all _) | rfl) ?_
                               refine HPlan.move rfl rfl rfl ?_
                               refine HPlan.move rfl rfl rfl ?_
                               refine HPlan.indexS rfl rfl rfl rfl q_ix_22 hx (by omega) (by simp only [List.length_map]; omega) (by first | exact at_map (by omega) | rfl) ?_
                               first
                               | refine HPlan.loadI rfl rfl rfl q_sh_28 (by constructor <;> first | rfl | decide | omega | exact Nat.le_refl _ | (simp [digC_len, dgV, LV.cells, readDC_len, readDV, madeDC_len, madeDV, traceDC_len, traceDV]; done) | (simp [digC_len, dgV, LV.cells, readDC_len, readDV, madeDC_len, madeDV, traceDC_len, traceDV]; omega)) (by first | exact (traceD_all _) | rfl) ?_
                               | refine HPlan.load rfl rfl rfl q_sh_28 (by repeat (first | exact List.Mem.head _ | apply List.Mem.tail | assumption)) (by constructor <;> first | rfl | decide | omega | exact Nat.le_refl _ | (simp [digC_len, dgV, LV.cells, readDC_len, readDV, madeDC_len, madeDV, traceDC_len, traceDV]; done) | (simp [digC_len, dgV, LV.cells, readDC_len, readDV, madeDC_len, madeDV, traceDC_len, traceDV]; omega)) (by first | exact (traceD_all _) | rfl) ?_
                               refine HPlan.callPure rfl rfl rfl q_en_12 (same_spec _ _) keptH_nil ?_
                               refine HPlan.pickF rfl rfl rfl (by first | exact congrArg (fun b => some (LV.bool b)) (seen_1 (by omega) hb19_1) | exact congrArg (fun b => some (LV.bool b)) (seen_2 (by omega) hb19_1)) ?_
                               refine HPlan.assign rfl rfl rfl ?_
                               refine HPlan.fin ?_
                               refine onExitH_n ?_
                               refine onNorm_n ?_
                               refine HWp.text (.rd 0 (.rd 1 (.rd 2 .done))) rfl ?_
                               refine HPlan.move rfl rfl rfl ?_
                               refine HPlan.intBin rfl rfl rfl rfl rfl (by first | exact add_i64 (by omega) (by omega) | rfl) ?_
                               refine HPlan.assign rfl rfl rfl ?_
                               refine HPlan.fin ?_
                               refine onNorm_n ?_
                               refine ⟨(k + 1), (by omega), (by omega), (LessE.less (by repeat (first | exact LessE.nil | refine LessE.same rfl ?_ | refine LessE.own rfl ?_ | refine LessE.eq rfl ?_ (by first | rfl | (congr 1; omega) | simp))) rfl), (by repeat (first | exact Part.refl _ | refine Part.pull (by repeat (first | exact Pull.here | apply Pull.there)) ?_ | refine Part.skip _ ?_ | exact Part.nil _ | exact Part.app _ _ | exact Part.appL _ _ | refine Part.appR _ ?_)), (by repeat (first | exact Part.refl _ | refine Part.pull (by repeat (first | exact Pull.here | apply Pull.there)) ?_ | refine Part.skip _ ?_ | exact Part.nil _ | exact Part.app _ _ | exact Part.appL _ _ | refine Part.appR _ ?_))⟩
                         ·
                          intro hc76
                          first
                          | exact PrN hc76
                          | ((try simp only [Pr] at hc76); exfalso; omega)
                          | (try simp only [Pr] at hc76)
                            refine HWp.exit ?_
                            refine onNorm_e ?_
                            refine onNorm_e ?_
                            obtain rfl : k = ws.length := by omega
                            refine onExitH_hit ?_
                            refine onNorm_n ?_
                            refine HWp.seq ?_
                            refine HWp.draw q_mix (.rd 0 (.rd 1 (.rd 2 (.rd 3 (.rd 4 (.rd 5 (.rd 6 (.rd 7 (.rd 8 (.rd 9 (.rd 10 (.rd 11 (.rd 12 (.rd 13 (.rd 14 (.rd 15 (.rd 16 (.rd 17 (.rd 18 (.rd 19 (.rd 20 (.rd 21 (.rd 22 .done))))))))))))))))))))))) (by kernel_rfl) ?_
                            refine HPlan.move rfl rfl rfl ?_
                            refine HPlan.not rfl rfl rfl rfl ?_
                            refine HPlan.move rfl rfl rfl ?_
                            refine HPlan.split ?_ ?_
                            ·
                             intro hb20_2
                             first
                             | exact PrN hb20_2
                             | ((try simp only [Pr] at hb20_2); exfalso; omega)
                             | (try simp only [Pr] at hb20_2)
                               refine HPlan.move rfl rfl rfl ?_
                               refine HPlan.move rfl rfl rfl ?_
                               refine HPlan.indexS rfl rfl rfl rfl q_ix_22 hx (by omega) (by simp only [List.length_map]; omega) (by first | exact at_map (by omega) | rfl) ?_
                               refine HPlan.fieldAddr rfl rfl rfl rfl q_fo_28_0 rfl ?_
                               first
                               | refine HPlan.loadI rfl rfl rfl q_sh_24 (by constructor <;> first | rfl | decide | omega | exact Nat.le_refl _ | (simp [digC_len, dgV, LV.cells, readDC_len, readDV, madeDC_len, madeDV, traceDC_len, traceDV]; done) | (simp [digC_len, dgV, LV.cells, readDC_len, readDV, madeDC_len, madeDV, traceDC_len, traceDV]; omega)) (by first | exact (dgV_all _) | exact (readD_sum _) | exact (madeD_sum _) | exact (traceD_key _) | rfl) ?_
                               | refine HPlan.load rfl rfl rfl q_sh_24 (by repeat (first | exact List.Mem.head _ | apply List.Mem.tail | assumption)) (by constructor <;> first | rfl | decide | omega | exact Nat.le_refl _ | (simp [digC_len, dgV, LV.cells, readDC_len, readDV, madeDC_len, madeDV, traceDC_len, traceDV]; done) | (simp [digC_len, dgV, LV.cells, readDC_len, readDV, madeDC_len, madeDV, traceDC_len, traceDV]; omega)) (by first | exact (dgV_all _) | exact (readD_sum _) | exact (madeD_sum _) | exact (traceD_key _) | rfl) ?_
                               refine HPlan.move rfl rfl rfl ?_
                               refine HPlan.move rfl rfl rfl ?_
                               refine HPlan.lenS rfl rfl rfl q_tk_22 hx (by first | rw [List.length_map] | rfl) ?_
                               refine HPlan.intBin rfl rfl rfl rfl rfl (by first | exact sub_i64 (by omega) (by omega) | rfl) ?_
                               refine HPlan.indexS rfl rfl rfl rfl q_ix_22 hx (by omega) (by simp only [List.length_map]; omega) (at_last (by omega)) ?_
                               refine HPlan.fieldAddr rfl rfl rfl rfl q_fo_28_0 rfl ?_
                               first
                               | refine HPlan.loadI rfl rfl rfl q_sh_24 (by constructor <;> first | rfl | decide | omega | exact Nat.le_refl _ | (simp [digC_len, dgV, LV.cells, readDC_len, readDV, madeDC_len, madeDV, traceDC_len, traceDV]; done) | (simp [digC_len, dgV, LV.cells, readDC_len, readDV, madeDC_len, madeDV, traceDC_len, traceDV]; omega)) (by first | exact (dgV_all _) | exact (readD_sum _) | exact (madeD_sum _) | exact (traceD_key _) | rfl) ?_
                               | refine HPlan.load rfl rfl rfl q_sh_24 (by repeat (first | exact List.Mem.head _ | apply List.Mem.tail | assumption)) (by constructor <;> first | rfl | decide | omega | exact Nat.le_refl _ | (simp [digC_len, dgV, LV.cells, readDC_len, readDV, madeDC_len, madeDV, traceDC_len, traceDV]; done) | (simp [digC_len, dgV, LV.cells, readDC_len, readDV, madeDC_len, madeDV, traceDC_len, traceDV]; omega)) (by first | exact (dgV_all _) | exact (readD_sum _) | exact (madeD_sum _) | exact (traceD_key _) | rfl) ?_
                               refine HPlan.aggEq rfl rfl rfl rfl q_sh_24 q_ck_24 (by decide) q_eg_24 (digC_len _) (digC_len _) (dig_fit _) (dig_fit _) (dig_eq _ _) ?_
                               refine HPlan.pickT rfl rfl rfl rfl ?_
                               refine HPlan.move rfl rfl rfl ?_
                               refine HPlan.split ?_ ?_
                               ·
                                intro hb20_17
                                first
                                | exact PrN hb20_17
                                | ((try simp only [Pr] at hb20_17); exfalso; omega)
                                | (try simp only [Pr] at hb20_17)
                                  refine HPlan.move rfl rfl rfl ?_
                                  refine HPlan.lenS rfl rfl rfl q_tk_22 (by first | exact IsSl.sl | exact IsSl.nils | assumption | exact growV_isSl (by assumption) | exact SlD.ok _) (by first | rw [List.length_map] | rfl) ?_
                                  refine HPlan.move rfl rfl rfl ?_
                                  refine HPlan.intBin rfl rfl rfl rfl rfl rfl ?_
                                  refine HPlan.pickT rfl rfl rfl rfl ?_
                                  refine HPlan.fin ?_
                                  refine onNorm_n ?_
                                  refine HWp.cond rfl ?_ ?_
                                  ·
                                   intro hc113
                                   first
                                   | exact PrN hc113
                                   | ((try simp only [Pr] at hc113); exfalso; omega)
                                   | (try simp only [Pr] at hc113)
                                     refine HWp.text (.rd 0 (.rd 1 (.rd 2 (.rd 3 (.rd 4 (.act 5 [] (.act 6 [] (.rd 7 .done)))))))) rfl ?_
                                     refine HPlan.move rfl rfl rfl ?_
                                     refine HPlan.move rfl rfl rfl ?_
                                     refine HPlan.move rfl rfl rfl ?_
                                     refine HPlan.indexS rfl rfl rfl rfl q_ix_22 hx (by omega) (by simp only [List.length_map]; omega) (by first | exact at_map (by omega) | rfl) ?_
                                     first
                                     | refine HPlan.loadI rfl rfl rfl q_sh_28 (by constructor <;> first | rfl | decide | omega | exact Nat.le_refl _ | (simp [digC_len, dgV, LV.cells, readDC_len, readDV, madeDC_len, madeDV, traceDC_len, traceDV]; done) | (simp [digC_len, dgV, LV.cells, readDC_len, readDV, madeDC_len, madeDV, traceDC_len, traceDV]; omega)) (by first | exact (traceD_all _) | rfl) ?_
                                     | refine HPlan.load rfl rfl rfl q_sh_28 (by repeat (first | exact List.Mem.head _ | apply List.Mem.tail | assumption)) (by constructor <;> first | rfl | decide | omega | exact Nat.le_refl _ | (simp [digC_len, dgV, LV.cells, readDC_len, readDV, madeDC_len, madeDV, traceDC_len, traceDV]; done) | (simp [digC_len, dgV, LV.cells, readDC_len, readDV, madeDC_len, madeDV, traceDC_len, traceDV]; omega)) (by first | exact (traceD_all _) | rfl) ?_
                                     refine HPlan.buildSliceN rfl rfl q_se_22 q_zs_28 rfl (by decide) rfl rfl (rfl : _ = [traceDV l[j]]) (allCells_cons (traceDV_solid _) (by simp [traceDV, LV.cells]) allCells_nil) keptH_nil ?_
                                     refine HPlan.appendG rfl rfl rfl rfl q_el_22 q_src_22 (by first | exact IsSl.sl | exact IsSl.nils | assumption | exact growV_isSl (by assumption)) (List.Perm.refl _) hg (solid_cons (traceDV_solid _) solid_nil) (by simp only [List.length_map, List.length_cons, List.length_nil]; omega) (by simp only [List.length_map, List.length_cons, List.length_nil]; omega) keptH_nil (fun o2 hg_o2 => ?_)
                                     rw [show ws.map traceDV ++ [traceDV l[j]] = (ws ++ [l[j]]).map traceDV by simp] at hg_o2 ⊢
                                     refine HPlan.assign rfl rfl rfl ?_
                                     refine HPlan.fin ?_
                                     refine onExitH_n ?_
                                     refine onNorm_n ?_
                                     refine HWp.text (.rd 0 (.rd 1 (.rd 2 .done))) rfl ?_
                                     refine HPlan.move rfl rfl rfl ?_
                                     refine HPlan.intBin rfl rfl rfl rfl rfl (by first | exact sub_i64 (by omega) (by omega) | rfl) ?_
                                     refine HPlan.assign rfl rfl rfl ?_
                                     refine HPlan.fin ?_
                                     refine onNorm_n ?_
                                     first
                                     | exact ⟨(j, ws ++ [l[j]], o2), (by show j < j + 1; omega), ⟨by show j ≤ _; omega, hg_o2, (by show (ws ++ [l[j]]).length ≤ l.length - j; rw [List.length_append, List.length_singleton]; omega), want_yes (ws := ws) (by omega) hw (by first | exact hb20_2 | simpa using hb20_2) (hb20_17.trans (lastKey_eq (by omega)).symm) (by omega)⟩, (LessE.less (by repeat (first | exact LessE.nil | refine LessE.same rfl ?_ | refine LessE.own rfl ?_ | refine LessE.eq rfl ?_ (by first | rfl | (congr 1; omega) | simp))) rfl), (by repeat (first | exact Part.refl _ | refine Part.pull (by repeat (first | exact Pull.here | apply Pull.there)) ?_ | refine Part.skip _ ?_ | exact Part.nil _ | exact Part.app _ _ | exact Part.appL _ _ | refine Part.appR _ ?_)), (by repeat (first | exact Part.refl _ | refine Part.pull (by repeat (first | exact Pull.here | apply Pull.there)) ?_ | refine Part.skip _ ?_ | exact Part.nil _ | exact Part.app _ _ | exact Part.appL _ _ | refine Part.appR _ ?_))⟩
                                     | exact ⟨(j, ws, o), (by show j < j + 1; omega), ⟨by show j ≤ _; omega, hg, (by show ws.length ≤ l.length - j; omega), want_no (ws := ws) (by omega) hw (by first | exact .inl (by simpa using hb20_2) | exact .inr (.inl (fun e => hb20_17 (e.trans (lastKey_eq (by omega))))) | exact .inr (.inr (by omega)))⟩, (LessE.less (by repeat (first | exact LessE.nil | refine LessE.same rfl ?_ | refine LessE.own rfl ?_ | refine LessE.eq rfl ?_ (by first | rfl | (congr 1; omega) | simp))) rfl), (by repeat (first | exact Part.refl _ | refine Part.pull (by repeat (first | exact Pull.here | apply Pull.there)) ?_ | refine Part.skip _ ?_ | exact Part.nil _ | exact Part.app _ _ | exact Part.appL _ _ | refine Part.appR _ ?_)), (by repeat (first | exact Part.refl _ | refine Part.pull (by repeat (first | exact Pull.here | apply Pull.there)) ?_ | refine Part.skip _ ?_ | exact Part.nil _ | exact Part.app _ _ | exact Part.appL _ _ | refine Part.appR _ ?_))⟩
                                  ·
                                   intro hc113
                                   first
                                   | exact PrN hc113
                                   | ((try simp only [Pr] at hc113); exfalso; omega)
                                   | (try simp only [Pr] at hc113)
                                     refine HWp.skip ?_
                                     refine onExitH_n ?_
                                     refine onNorm_n ?_
                                     refine HWp.text (.rd 0 (.rd 1 (.rd 2 .done))) rfl ?_
                                     refine HPlan.move rfl rfl rfl ?_
                                     refine HPlan.intBin rfl rfl rfl rfl rfl (by first | exact sub_i64 (by omega) (by omega) | rfl) ?_
                                     refine HPlan.assign rfl rfl rfl ?_
                                     refine HPlan.fin ?_
                                     refine onNorm_n ?_
                                     first
                                     | exact ⟨(j, ws ++ [l[j]], o2), (by show j < j + 1; omega), ⟨by show j ≤ _; omega, hg_o2, (by show (ws ++ [l[j]]).length ≤ l.length - j; rw [List.length_append, List.length_singleton]; omega), want_yes (ws := ws) (by omega) hw (by first | exact hb20_2 | simpa using hb20_2) (hb20_17.trans (lastKey_eq (by omega)).symm) (by omega)⟩, (LessE.less (by repeat (first | exact LessE.nil | refine LessE.same rfl ?_ | refine LessE.own rfl ?_ | refine LessE.eq rfl ?_ (by first | rfl | (congr 1; omega) | simp))) rfl), (by repeat (first | exact Part.refl _ | refine Part.pull (by repeat (first | exact Pull.here | apply Pull.there)) ?_ | refine Part.skip _ ?_ | exact Part.nil _ | exact Part.app _ _ | exact Part.appL _ _ | refine Part.appR _ ?_)), (by repeat (first | exact Part.refl _ | refine Part.pull (by repeat (first | exact Pull.here | apply Pull.there)) ?_ | refine Part.skip _ ?_ | exact Part.nil _ | exact Part.app _ _ | exact Part.appL _ _ | refine Part.appR _ ?_))⟩
                                     | exact ⟨(j, ws, o), (by show j < j + 1; omega), ⟨by show j ≤ _; omega, hg, (by show ws.length ≤ l.length - j; omega), want_no (ws := ws) (by omega) hw (by first | exact .inl (by simpa using hb20_2) | exact .inr (.inl (fun e => hb20_17 (e.trans (lastKey_eq (by omega))))) | exact .inr (.inr (by omega)))⟩, (LessE.less (by repeat (first | exact LessE.nil | refine LessE.same rfl ?_ | refine LessE.own rfl ?_ | refine LessE.eq rfl ?_ (by first | rfl | (congr 1; omega) | simp))) rfl), (by repeat (first | exact Part.refl _ | refine Part.pull (by repeat (first | exact Pull.here | apply Pull.there)) ?_ | refine Part.skip _ ?_ | exact Part.nil _ | exact Part.app _ _ | exact Part.appL _ _ | refine Part.appR _ ?_)), (by repeat (first | exact Part.refl _ | refine Part.pull (by repeat (first | exact Pull.here | apply Pull.there)) ?_ | refine Part.skip _ ?_ | exact Part.nil _ | exact Part.app _ _ | exact Part.appL _ _ | refine Part.appR _ ?_))⟩
                               ·
                                intro hb20_17
                                first
                                | exact PrN hb20_17
                                | ((try simp only [Pr] at hb20_17); exfalso; omega)
                                | (try simp only [Pr] at hb20_17)
                                  refine HPlan.leftR rfl rfl ?_
                                  refine HPlan.leftR rfl rfl ?_
                                  refine HPlan.leftR rfl rfl ?_
                                  refine HPlan.leftR rfl rfl ?_
                                  refine HPlan.pickF rfl rfl rfl rfl ?_
                                  refine HPlan.fin ?_
                                  refine onNorm_n ?_
                                  refine HWp.cond_f rfl ?_
                                  refine HWp.skip ?_
                                  refine onExitH_n ?_
                                  refine onNorm_n ?_
                                  refine HWp.text (.rd 0 (.rd 1 (.rd 2 .done))) rfl ?_
                                  refine HPlan.move rfl rfl rfl ?_
                                  refine HPlan.intBin rfl rfl rfl rfl rfl (by first | exact sub_i64 (by omega) (by omega) | rfl) ?_
                                  refine HPlan.assign rfl rfl rfl ?_
                                  refine HPlan.fin ?_
                                  refine onNorm_n ?_
                                  first
                                  | exact ⟨(j, ws ++ [l[j]], o2), (by show j < j + 1; omega), ⟨by show j ≤ _; omega, hg_o2, (by show (ws ++ [l[j]]).length ≤ l.length - j; rw [List.length_append, List.length_singleton]; omega), want_yes (ws := ws) (by omega) hw (by first | exact hb20_2 | simpa using hb20_2) (hb20_17.trans (lastKey_eq (by omega)).symm) (by omega)⟩, (LessE.less (by repeat (first | exact LessE.nil | refine LessE.same rfl ?_ | refine LessE.own rfl ?_ | refine LessE.eq rfl ?_ (by first | rfl | (congr 1; omega) | simp))) rfl), (by repeat (first | exact Part.refl _ | refine Part.pull (by repeat (first | exact Pull.here | apply Pull.there)) ?_ | refine Part.skip _ ?_ | exact Part.nil _ | exact Part.app _ _ | exact Part.appL _ _ | refine Part.appR _ ?_)), (by repeat (first | exact Part.refl _ | refine Part.pull (by repeat (first | exact Pull.here | apply Pull.there)) ?_ | refine Part.skip _ ?_ | exact Part.nil _ | exact Part.app _ _ | exact Part.appL _ _ | refine Part.appR _ ?_))⟩
                                  | exact ⟨(j, ws, o), (by show j < j + 1; omega), ⟨by show j ≤ _; omega, hg, (by show ws.length ≤ l.length - j; omega), want_no (ws := ws) (by omega) hw (by first | exact .inl (by simpa using hb20_2) | exact .inr (.inl (fun e => hb20_17 (e.trans (lastKey_eq (by omega))))) | exact .inr (.inr (by omega)))⟩, (LessE.less (by repeat (first | exact LessE.nil | refine LessE.same rfl ?_ | refine LessE.own rfl ?_ | refine LessE.eq rfl ?_ (by first | rfl | (congr 1; omega) | simp))) rfl), (by repeat (first | exact Part.refl _ | refine Part.pull (by repeat (first | exact Pull.here | apply Pull.there)) ?_ | refine Part.skip _ ?_ | exact Part.nil _ | exact Part.app _ _ | exact Part.appL _ _ | refine Part.appR _ ?_)), (by repeat (first | exact Part.refl _ | refine Part.pull (by repeat (first | exact Pull.here | apply Pull.there)) ?_ | refine Part.skip _ ?_ | exact Part.nil _ | exact Part.app _ _ | exact Part.appL _ _ | refine Part.appR _ ?_))⟩
                            ·
                             intro hb20_2
                             first
                             | exact PrN hb20_2
                             | ((try simp only [Pr] at hb20_2); exfalso; omega)
                             | (try simp only [Pr] at hb20_2)
                               refine HPlan.leftR rfl rfl ?_
                               refine HPlan.leftR rfl rfl ?_
                               refine HPlan.leftR rfl rfl ?_
                               refine HPlan.leftR rfl rfl ?_
                               refine HPlan.leftR rfl rfl ?_
                               refine HPlan.leftR rfl rfl ?_
                               refine HPlan.leftR rfl rfl ?_
                               refine HPlan.leftR rfl rfl ?_
                               refine HPlan.leftR rfl rfl ?_
                               refine HPlan.leftR rfl rfl ?_
                               refine HPlan.leftR rfl rfl ?_
                               refine HPlan.leftR rfl rfl ?_
                               refine HPlan.leftR rfl rfl ?_
                               refine HPlan.pickF rfl rfl rfl rfl ?_
                               refine HPlan.move rfl rfl rfl ?_
                               refine HPlan.leftR rfl rfl ?_
                               refine HPlan.leftR rfl rfl ?_
                               refine HPlan.leftR rfl rfl ?_
                               refine HPlan.leftR rfl rfl ?_
                               refine HPlan.pickF rfl rfl rfl rfl ?_
                               refine HPlan.fin ?_
                               refine onNorm_n ?_
                               refine HWp.cond_f rfl ?_
                               refine HWp.skip ?_
                               refine onExitH_n ?_
                               refine onNorm_n ?_
                               refine HWp.text (.rd 0 (.rd 1 (.rd 2 .done))) rfl ?_
                               refine HPlan.move rfl rfl rfl ?_
                               refine HPlan.intBin rfl rfl rfl rfl rfl (by first | exact sub_i64 (by omega) (by omega) | rfl) ?_
                               refine HPlan.assign rfl rfl rfl ?_
                               refine HPlan.fin ?_
                               refine onNorm_n ?_
                               first
                               | exact ⟨(j, ws ++ [l[j]], o2), (by show j < j + 1; omega), ⟨by show j ≤ _; omega, hg_o2, (by show (ws ++ [l[j]]).length ≤ l.length - j; rw [List.length_append, List.length_singleton]; omega), want_yes (ws := ws) (by omega) hw (by first | exact hb20_2 | simpa using hb20_2) (hb20_17.trans (lastKey_eq (by omega)).symm) (by omega)⟩, (LessE.less (by repeat (first | exact LessE.nil | refine LessE.same rfl ?_ | refine LessE.own rfl ?_ | refine LessE.eq rfl ?_ (by first | rfl | (congr 1; omega) | simp))) rfl), (by repeat (first | exact Part.refl _ | refine Part.pull (by repeat (first | exact Pull.here | apply Pull.there)) ?_ | refine Part.skip _ ?_ | exact Part.nil _ | exact Part.app _ _ | exact Part.appL _ _ | refine Part.appR _ ?_)), (by repeat (first | exact Part.refl _ | refine Part.pull (by repeat (first | exact Pull.here | apply Pull.there)) ?_ | refine Part.skip _ ?_ | exact Part.nil _ | exact Part.app _ _ | exact Part.appL _ _ | refine Part.appR _ ?_))⟩
                               | exact ⟨(j, ws, o), (by show j < j + 1; omega), ⟨by show j ≤ _; omega, hg, (by show ws.length ≤ l.length - j; omega), want_no (ws := ws) (by omega) hw (by first | exact .inl (by simpa using hb20_2) | exact .inr (.inl (fun e => hb20_17 (e.trans (lastKey_eq (by omega))))) | exact .inr (.inr (by omega)))⟩, (LessE.less (by repeat (first | exact LessE.nil | refine LessE.same rfl ?_ | refine LessE.own rfl ?_ | refine LessE.eq rfl ?_ (by first | rfl | (congr 1; omega) | simp))) rfl), (by repeat (first | exact Part.refl _ | refine Part.pull (by repeat (first | exact Pull.here | apply Pull.there)) ?_ | refine Part.skip _ ?_ | exact Part.nil _ | exact Part.app _ _ | exact Part.appL _ _ | refine Part.appR _ ?_)), (by repeat (first | exact Part.refl _ | refine Part.pull (by repeat (first | exact Pull.here | apply Pull.there)) ?_ | refine Part.skip _ ?_ | exact Part.nil _ | exact Part.app _ _ | exact Part.appL _ _ | refine Part.appR _ ?_))⟩
                     ·
                      intro hb15_6
                      first
                      | exact PrN hb15_6
                      | ((try simp only [Pr] at hb15_6); exfalso; omega)
                      | (try simp only [Pr] at hb15_6)
                        refine HPlan.move rfl rfl rfl ?_
                        refine HPlan.move rfl rfl rfl ?_
                        refine HPlan.indexS rfl rfl rfl rfl q_ix_22 hx (by omega) (by simp only [List.length_map]; omega) (by first | exact at_map (by omega) | rfl) ?_
                        refine HPlan.fieldAddr rfl rfl rfl rfl q_fo_28_0 rfl ?_
                        first
                        | refine HPlan.loadI rfl rfl rfl q_sh_24 (by constructor <;> first | rfl | decide | omega | exact Nat.le_refl _ | (simp [digC_len, dgV, LV.cells, readDC_len, readDV, madeDC_len, madeDV, traceDC_len, traceDV]; done) | (simp [digC_len, dgV, LV.cells, readDC_len, readDV, madeDC_len, madeDV, traceDC_len, traceDV]; omega)) (by first | exact (dgV_all _) | exact (readD_sum _) | exact (madeD_sum _) | exact (traceD_key _) | rfl) ?_
                        | refine HPlan.load rfl rfl rfl q_sh_24 (by repeat (first | exact List.Mem.head _ | apply List.Mem.tail | assumption)) (by constructor <;> first | rfl | decide | omega | exact Nat.le_refl _ | (simp [digC_len, dgV, LV.cells, readDC_len, readDV, madeDC_len, madeDV, traceDC_len, traceDV]; done) | (simp [digC_len, dgV, LV.cells, readDC_len, readDV, madeDC_len, madeDV, traceDC_len, traceDV]; omega)) (by first | exact (dgV_all _) | exact (readD_sum _) | exact (madeD_sum _) | exact (traceD_key _) | rfl) ?_
                        refine HPlan.fieldAddr rfl rfl rfl rfl q_fo_28_0 rfl ?_
                        first
                        | refine HPlan.loadI rfl rfl rfl q_sh_24 (by constructor <;> first | rfl | decide | omega | exact Nat.le_refl _ | (simp [digC_len, dgV, LV.cells, readDC_len, readDV, madeDC_len, madeDV, traceDC_len, traceDV]; done) | (simp [digC_len, dgV, LV.cells, readDC_len, readDV, madeDC_len, madeDV, traceDC_len, traceDV]; omega)) (by first | exact (dgV_all _) | exact (readD_sum _) | exact (madeD_sum _) | exact (traceD_key _) | rfl) ?_
                        | refine HPlan.load rfl rfl rfl q_sh_24 (by repeat (first | exact List.Mem.head _ | apply List.Mem.tail | assumption)) (by constructor <;> first | rfl | decide | omega | exact Nat.le_refl _ | (simp [digC_len, dgV, LV.cells, readDC_len, readDV, madeDC_len, madeDV, traceDC_len, traceDV]; done) | (simp [digC_len, dgV, LV.cells, readDC_len, readDV, madeDC_len, madeDV, traceDC_len, traceDV]; omega)) (by first | exact (dgV_all _) | exact (readD_sum _) | exact (madeD_sum _) | exact (traceD_key _) | rfl) ?_
                        refine HPlan.aggEq rfl rfl rfl rfl q_sh_24 q_ck_24 (by decide) q_eg_24 (digC_len _) (digC_len _) (dig_fit _) (dig_fit _) (dig_eq _ _) ?_
                        refine HPlan.pickF rfl rfl rfl (by first | exact congrArg (fun b => some (LV.bool b)) (bad_1 (ot := ot) hb15_6) | exact congrArg (fun b => some (LV.bool b)) (bad_2 (ot := ot) hb15_6)) ?_
                        rw [seen_0 ws l[j] ot]
                        refine HPlan.assign rfl rfl rfl ?_
                        refine HPlan.fin ?_
                        refine onNorm_n ?_
                        refine HWp.seq ?_
                        refine HWp.seq ?_
                        refine HWp.text (.rd 0 .done) rfl ?_
                        refine HPlan.assign rfl rfl rfl ?_
                        refine HPlan.fin ?_
                        refine onNorm_n ?_
                        refine HWp.block ?_
                        refine HWp.loopF (α := Nat) (fun k => ws.length - k) (fun k => k ≤ ws.length) (fun k => ⟨170, [(0, .int .i64 most), (1, x), (5, .ref i5 0), (8, .ref d 0), (10, growV o 34 (ws.map traceDV)), (11, .int .i64 (j : Int)), (12, .bool (seenTo ws l[j] ot k)), (13, .int .i64 (k : Int))]⟩) (fun k => (i5, .cells 28 (traceDC ot) 0) :: (L ++ dbO d m most 0 [])) (fun k => growT o ++ T2) ?_ ?_
                        ·
                         refine ⟨0, (Nat.zero_le _), (LessE.less (by repeat (first | exact LessE.nil | refine LessE.same rfl ?_ | refine LessE.own rfl ?_ | refine LessE.eq rfl ?_ (by first | rfl | (congr 1; omega) | simp))) rfl), (by repeat (first | exact Part.refl _ | refine Part.pull (by repeat (first | exact Pull.here | apply Pull.there)) ?_ | refine Part.skip _ ?_ | exact Part.nil _ | exact Part.app _ _ | exact Part.appL _ _ | refine Part.appR _ ?_)), (by repeat (first | exact Part.refl _ | refine Part.pull (by repeat (first | exact Pull.here | apply Pull.there)) ?_ | refine Part.skip _ ?_ | exact Part.nil _ | exact Part.app _ _ | exact Part.appL _ _ | refine Part.appR _ ?_))⟩
                        ·
                         rintro k hk1
                         refine HWp.seq ?_
                         refine HWp.seq ?_
                         refine HWp.text (.rd 0 (.rd 1 (.rd 2 (.rd 3 .done)))) rfl ?_
                         refine HPlan.move rfl rfl rfl ?_
                         refine HPlan.move rfl rfl rfl ?_
                         refine HPlan.lenS rfl rfl rfl q_tk_22 (by first | exact IsSl.sl | exact IsSl.nils | assumption | exact growV_isSl (by assumption) | exact SlD.ok _) (by first | rw [List.length_map] | rfl) ?_
                         refine HPlan.intBin rfl rfl rfl rfl rfl rfl ?_
                         refine HPlan.fin ?_
                         refine onNorm_n ?_
                         refine HWp.cond rfl ?_ ?_
                         ·
                          intro hc76
                          first
                          | exact PrN hc76
                          | ((try simp only [Pr] at hc76); exfalso; omega)
                          | (try simp only [Pr] at hc76)
                            refine HWp.skip ?_
                            refine onNorm_n ?_
                            refine HWp.seq ?_
                            refine HWp.block ?_
                            refine HWp.draw q_mix (.rd 0 (.rd 1 (.rd 2 (.rd 3 (.rd 4 (.rd 5 (.rd 6 (.rd 7 (.rd 8 (.rd 9 (.act 10 [] (.rd 11 (.rd 12 .done))))))))))))) (by kernel_rfl) ?_
                            refine HPlan.move rfl rfl rfl ?_
                            refine HPlan.move rfl rfl rfl ?_
                            refine HPlan.split ?_ ?_
                            ·
                             intro hb19_1
                             first
                             | exact PrN hb19_1
                             | ((try simp only [Pr] at hb19_1); exfalso; omega)
                             | (try simp only [Pr] at hb19_1)
                               refine HPlan.leftR rfl rfl ?_
                               refine HPlan.leftR rfl rfl ?_
                               refine HPlan.leftR rfl rfl ?_
                               refine HPlan.leftR rfl rfl ?_
                               refine HPlan.leftR rfl rfl ?_
                               refine HPlan.leftR rfl rfl ?_
                               refine HPlan.leftR rfl rfl ?_
                               refine HPlan.leftR rfl rfl ?_
                               refine HPlan.leftA rfl rfl ?_
                               refine HPlan.pickT rfl rfl rfl (by first | exact congrArg (fun b => some (LV.bool b)) (seen_1 (by omega) hb19_1) | exact congrArg (fun b => some (LV.bool b)) (seen_2 (by omega) hb19_1)) ?_
                               refine HPlan.assign rfl rfl rfl ?_
                               refine HPlan.fin ?_
                               refine onExitH_n ?_
                               refine onNorm_n ?_
                               refine HWp.text (.rd 0 (.rd 1 (.rd 2 .done))) rfl ?_
                               refine HPlan.move rfl rfl rfl ?_
                               refine HPlan.intBin rfl rfl rfl rfl rfl (by first | exact add_i64 (by omega) (by omega) | rfl) ?_
                               refine HPlan.assign rfl rfl rfl ?_
                               refine HPlan.fin ?_
                               refine onNorm_n ?_
                               refine ⟨(k + 1), (by omega), (by omega), (LessE.less (by repeat (first | exact LessE.nil | refine LessE.same rfl ?_ | refine LessE.own rfl ?_ | refine LessE.eq rfl ?_ (by first | rfl | (congr 1; omega) | simp))) rfl), (by repeat (first | exact Part.refl _ | refine Part.pull (by repeat (first | exact Pull.here | apply Pull.there)) ?_ | refine Part.skip _ ?_ | exact Part.nil _ | exact Part.app _ _ | exact Part.appL _ _ | refine Part.appR _ ?_)), (by repeat (first | exact Part.refl _ | refine Part.pull (by repeat (first | exact Pull.here | apply Pull.there)) ?_ | refine Part.skip _ ?_ | exact Part.nil _ | exact Part.app _ _ | exact Part.appL _ _ | refine Part.appR _ ?_))⟩
                            ·
                             intro hb19_1
                             first
                             | exact PrN hb19_1
                             | ((try simp only [Pr] at hb19_1); exfalso; omega)
                             | (try simp only [Pr] at hb19_1)
                               refine HPlan.move rfl rfl rfl ?_
                               refine HPlan.move rfl rfl rfl ?_
                               refine HPlan.indexS rfl rfl rfl rfl q_ix_22 (by first | exact IsSl.sl | exact IsSl.nils | assumption | exact growV_isSl (by assumption) | exact SlD.ok _) (by omega) (by simp only [List.length_map]; omega) (by first | exact at_map (by omega) | rfl) ?_
                               first
                               | refine HPlan.loadI rfl rfl rfl q_sh_28 (by constructor <;> first | rfl | decide | omega | exact Nat.le_refl _ | (simp [digC_len, dgV, LV.cells, readDC_len, readDV, madeDC_len, madeDV, traceDC_len, traceDV]; done) | (simp [digC_len, dgV, LV.cells, readDC_len, readDV, madeDC_len, madeDV, traceDC_len, traceDV]; omega)) (by first | exact (traceD_all _) | rfl) ?_
                               | refine HPlan.load rfl rfl rfl q_sh_28 (by repeat (first | exact List.Mem.head _ | apply List.Mem.tail | assumption)) (by constructor <;> first | rfl | decide | omega | exact Nat.le_refl _ | (simp [digC_len, dgV, LV.cells, readDC_len, readDV, madeDC_len, madeDV, traceDC_len, traceDV]; done) | (simp [digC_len, dgV, LV.cells, readDC_len, readDV, madeDC_len, madeDV, traceDC_len, traceDV]; omega)) (by first | exact (traceD_all _) | rfl) ?_
                               refine HPlan.move rfl rfl rfl ?_
                               refine HPlan.move rfl rfl rfl ?_
                               refine HPlan.indexS rfl rfl rfl rfl q_ix_22 hx (by omega) (by simp only [List.length_map]; omega) (by first | exact at_map (by omega) | rfl) ?_
                               first
                               | refine HPlan.loadI rfl rfl rfl q_sh_28 (by constructor <;> first | rfl | decide | omega | exact Nat.le_refl _ | (simp [digC_len, dgV, LV.cells, readDC_len, readDV, madeDC_len, madeDV, traceDC_len, traceDV]; done) | (simp [digC_len, dgV, LV.cells, readDC_len, readDV, madeDC_len, madeDV, traceDC_len, traceDV]; omega)) (by first | exact (traceD_all _) | rfl) ?_
                               | refine HPlan.load rfl rfl rfl q_sh_28 (by repeat (first | exact List.Mem.head _ | apply List.Mem.tail | assumption)) (by constructor <;> first | rfl | decide | omega | exact Nat.le_refl _ | (simp [digC_len, dgV, LV.cells, readDC_len, readDV, madeDC_len, madeDV, traceDC_len, traceDV]; done) | (simp [digC_len, dgV, LV.cells, readDC_len, readDV, madeDC_len, madeDV, traceDC_len, traceDV]; omega)) (by first | exact (traceD_all _) | rfl) ?_
                               refine HPlan.callPure rfl rfl rfl q_en_12 (same_spec _ _) keptH_nil ?_
                               refine HPlan.pickF rfl rfl rfl (by first | exact congrArg (fun b => some (LV.bool b)) (seen_1 (by omega) hb19_1) | exact congrArg (fun b => some (LV.bool b)) (seen_2 (by omega) hb19_1)) ?_
                               refine HPlan.assign rfl rfl rfl ?_
                               refine HPlan.fin ?_
                               refine onExitH_n ?_
                               refine onNorm_n ?_
                               refine HWp.text (.rd 0 (.rd 1 (.rd 2 .done))) rfl ?_
                               refine HPlan.move rfl rfl rfl ?_
                               refine HPlan.intBin rfl rfl rfl rfl rfl (by first | exact add_i64 (by omega) (by omega) | rfl) ?_
                               refine HPlan.assign rfl rfl rfl ?_
                               refine HPlan.fin ?_
                               refine onNorm_n ?_
                               refine ⟨(k + 1), (by omega), (by omega), (LessE.less (by repeat (first | exact LessE.nil | refine LessE.same rfl ?_ | refine LessE.own rfl ?_ | refine LessE.eq rfl ?_ (by first | rfl | (congr 1; omega) | simp))) rfl), (by repeat (first | exact Part.refl _ | refine Part.pull (by repeat (first | exact Pull.here | apply Pull.there)) ?_ | refine Part.skip _ ?_ | exact Part.nil _ | exact Part.app _ _ | exact Part.appL _ _ | refine Part.appR _ ?_)), (by repeat (first | exact Part.refl _ | refine Part.pull (by repeat (first | exact Pull.here | apply Pull.there)) ?_ | refine Part.skip _ ?_ | exact Part.nil _ | exact Part.app _ _ | exact Part.appL _ _ | refine Part.appR _ ?_))⟩
                         ·
                          intro hc76
                          first
                          | exact PrN hc76
                          | ((try simp only [Pr] at hc76); exfalso; omega)
                          | (try simp only [Pr] at hc76)
                            refine HWp.exit ?_
                            refine onNorm_e ?_
                            refine onNorm_e ?_
                            obtain rfl : k = ws.length := by omega
                            refine onExitH_hit ?_
                            refine onNorm_n ?_
                            refine HWp.seq ?_
                            refine HWp.draw q_mix (.rd 0 (.rd 1 (.rd 2 (.rd 3 (.rd 4 (.rd 5 (.rd 6 (.rd 7 (.rd 8 (.rd 9 (.rd 10 (.rd 11 (.rd 12 (.rd 13 (.rd 14 (.rd 15 (.rd 16 (.rd 17 (.rd 18 (.rd 19 (.rd 20 (.rd 21 (.rd 22 .done))))))))))))))))))))))) (by kernel_rfl) ?_
                            refine HPlan.move rfl rfl rfl ?_
                            refine HPlan.not rfl rfl rfl rfl ?_
                            refine HPlan.move rfl rfl rfl ?_
                            refine HPlan.split ?_ ?_
                            ·
                             intro hb20_2
                             first
                             | exact PrN hb20_2
                             | ((try simp only [Pr] at hb20_2); exfalso; omega)
                             | (try simp only [Pr] at hb20_2)
                               refine HPlan.move rfl rfl rfl ?_
                               refine HPlan.move rfl rfl rfl ?_
                               refine HPlan.indexS rfl rfl rfl rfl q_ix_22 hx (by omega) (by simp only [List.length_map]; omega) (by first | exact at_map (by omega) | rfl) ?_
                               refine HPlan.fieldAddr rfl rfl rfl rfl q_fo_28_0 rfl ?_
                               first
                               | refine HPlan.loadI rfl rfl rfl q_sh_24 (by constructor <;> first | rfl | decide | omega | exact Nat.le_refl _ | (simp [digC_len, dgV, LV.cells, readDC_len, readDV, madeDC_len, madeDV, traceDC_len, traceDV]; done) | (simp [digC_len, dgV, LV.cells, readDC_len, readDV, madeDC_len, madeDV, traceDC_len, traceDV]; omega)) (by first | exact (dgV_all _) | exact (readD_sum _) | exact (madeD_sum _) | exact (traceD_key _) | rfl) ?_
                               | refine HPlan.load rfl rfl rfl q_sh_24 (by repeat (first | exact List.Mem.head _ | apply List.Mem.tail | assumption)) (by constructor <;> first | rfl | decide | omega | exact Nat.le_refl _ | (simp [digC_len, dgV, LV.cells, readDC_len, readDV, madeDC_len, madeDV, traceDC_len, traceDV]; done) | (simp [digC_len, dgV, LV.cells, readDC_len, readDV, madeDC_len, madeDV, traceDC_len, traceDV]; omega)) (by first | exact (dgV_all _) | exact (readD_sum _) | exact (madeD_sum _) | exact (traceD_key _) | rfl) ?_
                               refine HPlan.move rfl rfl rfl ?_
                               refine HPlan.move rfl rfl rfl ?_
                               refine HPlan.lenS rfl rfl rfl q_tk_22 hx (by first | rw [List.length_map] | rfl) ?_
                               refine HPlan.intBin rfl rfl rfl rfl rfl (by first | exact sub_i64 (by omega) (by omega) | rfl) ?_
                               refine HPlan.indexS rfl rfl rfl rfl q_ix_22 hx (by omega) (by simp only [List.length_map]; omega) (at_last (by omega)) ?_
                               refine HPlan.fieldAddr rfl rfl rfl rfl q_fo_28_0 rfl ?_
                               first
                               | refine HPlan.loadI rfl rfl rfl q_sh_24 (by constructor <;> first | rfl | decide | omega | exact Nat.le_refl _ | (simp [digC_len, dgV, LV.cells, readDC_len, readDV, madeDC_len, madeDV, traceDC_len, traceDV]; done) | (simp [digC_len, dgV, LV.cells, readDC_len, readDV, madeDC_len, madeDV, traceDC_len, traceDV]; omega)) (by first | exact (dgV_all _) | exact (readD_sum _) | exact (madeD_sum _) | exact (traceD_key _) | rfl) ?_
                               | refine HPlan.load rfl rfl rfl q_sh_24 (by repeat (first | exact List.Mem.head _ | apply List.Mem.tail | assumption)) (by constructor <;> first | rfl | decide | omega | exact Nat.le_refl _ | (simp [digC_len, dgV, LV.cells, readDC_len, readDV, madeDC_len, madeDV, traceDC_len, traceDV]; done) | (simp [digC_len, dgV, LV.cells, readDC_len, readDV, madeDC_len, madeDV, traceDC_len, traceDV]; omega)) (by first | exact (dgV_all _) | exact (readD_sum _) | exact (madeD_sum _) | exact (traceD_key _) | rfl) ?_
                               refine HPlan.aggEq rfl rfl rfl rfl q_sh_24 q_ck_24 (by decide) q_eg_24 (digC_len _) (digC_len _) (dig_fit _) (dig_fit _) (dig_eq _ _) ?_
                               refine HPlan.pickT rfl rfl rfl rfl ?_
                               refine HPlan.move rfl rfl rfl ?_
                               refine HPlan.split ?_ ?_
                               ·
                                intro hb20_17
                                first
                                | exact PrN hb20_17
                                | ((try simp only [Pr] at hb20_17); exfalso; omega)
                                | (try simp only [Pr] at hb20_17)
                                  refine HPlan.move rfl rfl rfl ?_
                                  refine HPlan.lenS rfl rfl rfl q_tk_22 (by first | exact IsSl.sl | exact IsSl.nils | assumption | exact growV_isSl (by assumption) | exact SlD.ok _) (by first | rw [List.length_map] | rfl) ?_
                                  refine HPlan.move rfl rfl rfl ?_
                                  refine HPlan.intBin rfl rfl rfl rfl rfl rfl ?_
                                  refine HPlan.pickT rfl rfl rfl rfl ?_
                                  refine HPlan.fin ?_
                                  refine onNorm_n ?_
                                  refine HWp.cond rfl ?_ ?_
                                  ·
                                   intro hc113
                                   first
                                   | exact PrN hc113
                                   | ((try simp only [Pr] at hc113); exfalso; omega)
                                   | (try simp only [Pr] at hc113)
                                     refine HWp.text (.rd 0 (.rd 1 (.rd 2 (.rd 3 (.rd 4 (.act 5 [] (.act 6 [] (.rd 7 .done)))))))) rfl ?_
                                     refine HPlan.move rfl rfl rfl ?_
                                     refine HPlan.move rfl rfl rfl ?_
                                     refine HPlan.move rfl rfl rfl ?_
                                     refine HPlan.indexS rfl rfl rfl rfl q_ix_22 hx (by omega) (by simp only [List.length_map]; omega) (by first | exact at_map (by omega) | rfl) ?_
                                     first
                                     | refine HPlan.loadI rfl rfl rfl q_sh_28 (by constructor <;> first | rfl | decide | omega | exact Nat.le_refl _ | (simp [digC_len, dgV, LV.cells, readDC_len, readDV, madeDC_len, madeDV, traceDC_len, traceDV]; done) | (simp [digC_len, dgV, LV.cells, readDC_len, readDV, madeDC_len, madeDV, traceDC_len, traceDV]; omega)) (by first | exact (traceD_all _) | rfl) ?_
                                     | refine HPlan.load rfl rfl rfl q_sh_28 (by repeat (first | exact List.Mem.head _ | apply List.Mem.tail | assumption)) (by constructor <;> first | rfl | decide | omega | exact Nat.le_refl _ | (simp [digC_len, dgV, LV.cells, readDC_len, readDV, madeDC_len, madeDV, traceDC_len, traceDV]; done) | (simp [digC_len, dgV, LV.cells, readDC_len, readDV, madeDC_len, madeDV, traceDC_len, traceDV]; omega)) (by first | exact (traceD_all _) | rfl) ?_
                                     refine HPlan.buildSliceN rfl rfl q_se_22 q_zs_28 rfl (by decide) rfl rfl (rfl : _ = [traceDV l[j]]) (allCells_cons (traceDV_solid _) (by simp [traceDV, LV.cells]) allCells_nil) keptH_nil ?_
                                     refine HPlan.appendG rfl rfl rfl rfl q_el_22 q_src_22 (by first | exact IsSl.sl | exact IsSl.nils | assumption | exact growV_isSl (by assumption)) (List.Perm.refl _) hg (solid_cons (traceDV_solid _) solid_nil) (by simp only [List.length_map, List.length_cons, List.length_nil]; omega) (by simp only [List.length_map, List.length_cons, List.length_nil]; omega) keptH_nil (fun o2 hg_o2 => ?_)
                                     rw [show ws.map traceDV ++ [traceDV l[j]] = (ws ++ [l[j]]).map traceDV by simp] at hg_o2 ⊢
                                     refine HPlan.assign rfl rfl rfl ?_
                                     refine HPlan.fin ?_
                                     refine onExitH_n ?_
                                     refine onNorm_n ?_
                                     refine HWp.text (.rd 0 (.rd 1 (.rd 2 .done))) rfl ?_
                                     refine HPlan.move rfl rfl rfl ?_
                                     refine HPlan.intBin rfl rfl rfl rfl rfl (by first | exact sub_i64 (by omega) (by omega) | rfl) ?_
                                     refine HPlan.assign rfl rfl rfl ?_
                                     refine HPlan.fin ?_
                                     refine onNorm_n ?_
                                     first
                                     | exact ⟨(j, ws ++ [l[j]], o2), (by show j < j + 1; omega), ⟨by show j ≤ _; omega, hg_o2, (by show (ws ++ [l[j]]).length ≤ l.length - j; rw [List.length_append, List.length_singleton]; omega), want_yes (ws := ws) (by omega) hw (by first | exact hb20_2 | simpa using hb20_2) (hb20_17.trans (lastKey_eq (by omega)).symm) (by omega)⟩, (LessE.less (by repeat (first | exact LessE.nil | refine LessE.same rfl ?_ | refine LessE.own rfl ?_ | refine LessE.eq rfl ?_ (by first | rfl | (congr 1; omega) | simp))) rfl), (by repeat (first | exact Part.refl _ | refine Part.pull (by repeat (first | exact Pull.here | apply Pull.there)) ?_ | refine Part.skip _ ?_ | exact Part.nil _ | exact Part.app _ _ | exact Part.appL _ _ | refine Part.appR _ ?_)), (by repeat (first | exact Part.refl _ | refine Part.pull (by repeat (first | exact Pull.here | apply Pull.there)) ?_ | refine Part.skip _ ?_ | exact Part.nil _ | exact Part.app _ _ | exact Part.appL _ _ | refine Part.appR _ ?_))⟩
                                     | exact ⟨(j, ws, o), (by show j < j + 1; omega), ⟨by show j ≤ _; omega, hg, (by show ws.length ≤ l.length - j; omega), want_no (ws := ws) (by omega) hw (by first | exact .inl (by simpa using hb20_2) | exact .inr (.inl (fun e => hb20_17 (e.trans (lastKey_eq (by omega))))) | exact .inr (.inr (by omega)))⟩, (LessE.less (by repeat (first | exact LessE.nil | refine LessE.same rfl ?_ | refine LessE.own rfl ?_ | refine LessE.eq rfl ?_ (by first | rfl | (congr 1; omega) | simp))) rfl), (by repeat (first | exact Part.refl _ | refine Part.pull (by repeat (first | exact Pull.here | apply Pull.there)) ?_ | refine Part.skip _ ?_ | exact Part.nil _ | exact Part.app _ _ | exact Part.appL _ _ | refine Part.appR _ ?_)), (by repeat (first | exact Part.refl _ | refine Part.pull (by repeat (first | exact Pull.here | apply Pull.there)) ?_ | refine Part.skip _ ?_ | exact Part.nil _ | exact Part.app _ _ | exact Part.appL _ _ | refine Part.appR _ ?_))⟩
                                  ·
                                   intro hc113
                                   first
                                   | exact PrN hc113
                                   | ((try simp only [Pr] at hc113); exfalso; omega)
                                   | (try simp only [Pr] at hc113)
                                     refine HWp.skip ?_
                                     refine onExitH_n ?_
                                     refine onNorm_n ?_
                                     refine HWp.text (.rd 0 (.rd 1 (.rd 2 .done))) rfl ?_
                                     refine HPlan.move rfl rfl rfl ?_
                                     refine HPlan.intBin rfl rfl rfl rfl rfl (by first | exact sub_i64 (by omega) (by omega) | rfl) ?_
                                     refine HPlan.assign rfl rfl rfl ?_
                                     refine HPlan.fin ?_
                                     refine onNorm_n ?_
                                     first
                                     | exact ⟨(j, ws ++ [l[j]], o2), (by show j < j + 1; omega), ⟨by show j ≤ _; omega, hg_o2, (by show (ws ++ [l[j]]).length ≤ l.length - j; rw [List.length_append, List.length_singleton]; omega), want_yes (ws := ws) (by omega) hw (by first | exact hb20_2 | simpa using hb20_2) (hb20_17.trans (lastKey_eq (by omega)).symm) (by omega)⟩, (LessE.less (by repeat (first | exact LessE.nil | refine LessE.same rfl ?_ | refine LessE.own rfl ?_ | refine LessE.eq rfl ?_ (by first | rfl | (congr 1; omega) | simp))) rfl), (by repeat (first | exact Part.refl _ | refine Part.pull (by repeat (first | exact Pull.here | apply Pull.there)) ?_ | refine Part.skip _ ?_ | exact Part.nil _ | exact Part.app _ _ | exact Part.appL _ _ | refine Part.appR _ ?_)), (by repeat (first | exact Part.refl _ | refine Part.pull (by repeat (first | exact Pull.here | apply Pull.there)) ?_ | refine Part.skip _ ?_ | exact Part.nil _ | exact Part.app _ _ | exact Part.appL _ _ | refine Part.appR _ ?_))⟩
                                     | exact ⟨(j, ws, o), (by show j < j + 1; omega), ⟨by show j ≤ _; omega, hg, (by show ws.length ≤ l.length - j; omega), want_no (ws := ws) (by omega) hw (by first | exact .inl (by simpa using hb20_2) | exact .inr (.inl (fun e => hb20_17 (e.trans (lastKey_eq (by omega))))) | exact .inr (.inr (by omega)))⟩, (LessE.less (by repeat (first | exact LessE.nil | refine LessE.same rfl ?_ | refine LessE.own rfl ?_ | refine LessE.eq rfl ?_ (by first | rfl | (congr 1; omega) | simp))) rfl), (by repeat (first | exact Part.refl _ | refine Part.pull (by repeat (first | exact Pull.here | apply Pull.there)) ?_ | refine Part.skip _ ?_ | exact Part.nil _ | exact Part.app _ _ | exact Part.appL _ _ | refine Part.appR _ ?_)), (by repeat (first | exact Part.refl _ | refine Part.pull (by repeat (first | exact Pull.here | apply Pull.there)) ?_ | refine Part.skip _ ?_ | exact Part.nil _ | exact Part.app _ _ | exact Part.appL _ _ | refine Part.appR _ ?_))⟩
                               ·
                                intro hb20_17
                                first
                                | exact PrN hb20_17
                                | ((try simp only [Pr] at hb20_17); exfalso; omega)
                                | (try simp only [Pr] at hb20_17)
                                  refine HPlan.leftR rfl rfl ?_
                                  refine HPlan.leftR rfl rfl ?_
                                  refine HPlan.leftR rfl rfl ?_
                                  refine HPlan.leftR rfl rfl ?_
                                  refine HPlan.pickF rfl rfl rfl rfl ?_
                                  refine HPlan.fin ?_
                                  refine onNorm_n ?_
                                  refine HWp.cond_f rfl ?_
                                  refine HWp.skip ?_
                                  refine onExitH_n ?_
                                  refine onNorm_n ?_
                                  refine HWp.text (.rd 0 (.rd 1 (.rd 2 .done))) rfl ?_
                                  refine HPlan.move rfl rfl rfl ?_
                                  refine HPlan.intBin rfl rfl rfl rfl rfl (by first | exact sub_i64 (by omega) (by omega) | rfl) ?_
                                  refine HPlan.assign rfl rfl rfl ?_
                                  refine HPlan.fin ?_
                                  refine onNorm_n ?_
                                  first
                                  | exact ⟨(j, ws ++ [l[j]], o2), (by show j < j + 1; omega), ⟨by show j ≤ _; omega, hg_o2, (by show (ws ++ [l[j]]).length ≤ l.length - j; rw [List.length_append, List.length_singleton]; omega), want_yes (ws := ws) (by omega) hw (by first | exact hb20_2 | simpa using hb20_2) (hb20_17.trans (lastKey_eq (by omega)).symm) (by omega)⟩, (LessE.less (by repeat (first | exact LessE.nil | refine LessE.same rfl ?_ | refine LessE.own rfl ?_ | refine LessE.eq rfl ?_ (by first | rfl | (congr 1; omega) | simp))) rfl), (by repeat (first | exact Part.refl _ | refine Part.pull (by repeat (first | exact Pull.here | apply Pull.there)) ?_ | refine Part.skip _ ?_ | exact Part.nil _ | exact Part.app _ _ | exact Part.appL _ _ | refine Part.appR _ ?_)), (by repeat (first | exact Part.refl _ | refine Part.pull (by repeat (first | exact Pull.here | apply Pull.there)) ?_ | refine Part.skip _ ?_ | exact Part.nil _ | exact Part.app _ _ | exact Part.appL _ _ | refine Part.appR _ ?_))⟩
                                  | exact ⟨(j, ws, o), (by show j < j + 1; omega), ⟨by show j ≤ _; omega, hg, (by show ws.length ≤ l.length - j; omega), want_no (ws := ws) (by omega) hw (by first | exact .inl (by simpa using hb20_2) | exact .inr (.inl (fun e => hb20_17 (e.trans (lastKey_eq (by omega))))) | exact .inr (.inr (by omega)))⟩, (LessE.less (by repeat (first | exact LessE.nil | refine LessE.same rfl ?_ | refine LessE.own rfl ?_ | refine LessE.eq rfl ?_ (by first | rfl | (congr 1; omega) | simp))) rfl), (by repeat (first | exact Part.refl _ | refine Part.pull (by repeat (first | exact Pull.here | apply Pull.there)) ?_ | refine Part.skip _ ?_ | exact Part.nil _ | exact Part.app _ _ | exact Part.appL _ _ | refine Part.appR _ ?_)), (by repeat (first | exact Part.refl _ | refine Part.pull (by repeat (first | exact Pull.here | apply Pull.there)) ?_ | refine Part.skip _ ?_ | exact Part.nil _ | exact Part.app _ _ | exact Part.appL _ _ | refine Part.appR _ ?_))⟩
                            ·
                             intro hb20_2
                             first
                             | exact PrN hb20_2
                             | ((try simp only [Pr] at hb20_2); exfalso; omega)
                             | (try simp only [Pr] at hb20_2)
                               refine HPlan.leftR rfl rfl ?_
                               refine HPlan.leftR rfl rfl ?_
                               refine HPlan.leftR rfl rfl ?_
                               refine HPlan.leftR rfl rfl ?_
                               refine HPlan.leftR rfl rfl ?_
                               refine HPlan.leftR rfl rfl ?_
                               refine HPlan.leftR rfl rfl ?_
                               refine HPlan.leftR rfl rfl ?_
                               refine HPlan.leftR rfl rfl ?_
                               refine HPlan.leftR rfl rfl ?_
                               refine HPlan.leftR rfl rfl ?_
                               refine HPlan.leftR rfl rfl ?_
                               refine HPlan.leftR rfl rfl ?_
                               refine HPlan.pickF rfl rfl rfl rfl ?_
                               refine HPlan.move rfl rfl rfl ?_
                               refine HPlan.leftR rfl rfl ?_
                               refine HPlan.leftR rfl rfl ?_
                               refine HPlan.leftR rfl rfl ?_
                               refine HPlan.leftR rfl rfl ?_
                               refine HPlan.pickF rfl rfl rfl rfl ?_
                               refine HPlan.fin ?_
                               refine onNorm_n ?_
                               refine HWp.cond_f rfl ?_
                               refine HWp.skip ?_
                               refine onExitH_n ?_
                               refine onNorm_n ?_
                               refine HWp.text (.rd 0 (.rd 1 (.rd 2 .done))) rfl ?_
                               refine HPlan.move rfl rfl rfl ?_
                               refine HPlan.intBin rfl rfl rfl rfl rfl (by first | exact sub_i64 (by omega) (by omega) | rfl) ?_
                               refine HPlan.assign rfl rfl rfl ?_
                               refine HPlan.fin ?_
                               refine onNorm_n ?_
                               first
                               | exact ⟨(j, ws ++ [l[j]], o2), (by show j < j + 1; omega), ⟨by show j ≤ _; omega, hg_o2, (by show (ws ++ [l[j]]).length ≤ l.length - j; rw [List.length_append, List.length_singleton]; omega), want_yes (ws := ws) (by omega) hw (by first | exact hb20_2 | simpa using hb20_2) (hb20_17.trans (lastKey_eq (by omega)).symm) (by omega)⟩, (LessE.less (by repeat (first | exact LessE.nil | refine LessE.same rfl ?_ | refine LessE.own rfl ?_ | refine LessE.eq rfl ?_ (by first | rfl | (congr 1; omega) | simp))) rfl), (by repeat (first | exact Part.refl _ | refine Part.pull (by repeat (first | exact Pull.here | apply Pull.there)) ?_ | refine Part.skip _ ?_ | exact Part.nil _ | exact Part.app _ _ | exact Part.appL _ _ | refine Part.appR _ ?_)), (by repeat (first | exact Part.refl _ | refine Part.pull (by repeat (first | exact Pull.here | apply Pull.there)) ?_ | refine Part.skip _ ?_ | exact Part.nil _ | exact Part.app _ _ | exact Part.appL _ _ | refine Part.appR _ ?_))⟩
                               | exact ⟨(j, ws, o), (by show j < j + 1; omega), ⟨by show j ≤ _; omega, hg, (by show ws.length ≤ l.length - j; omega), want_no (ws := ws) (by omega) hw (by first | exact .inl (by simpa using hb20_2) | exact .inr (.inl (fun e => hb20_17 (e.trans (lastKey_eq (by omega))))) | exact .inr (.inr (by omega)))⟩, (LessE.less (by repeat (first | exact LessE.nil | refine LessE.same rfl ?_ | refine LessE.own rfl ?_ | refine LessE.eq rfl ?_ (by first | rfl | (congr 1; omega) | simp))) rfl), (by repeat (first | exact Part.refl _ | refine Part.pull (by repeat (first | exact Pull.here | apply Pull.there)) ?_ | refine Part.skip _ ?_ | exact Part.nil _ | exact Part.app _ _ | exact Part.appL _ _ | refine Part.appR _ ?_)), (by repeat (first | exact Part.refl _ | refine Part.pull (by repeat (first | exact Pull.here | apply Pull.there)) ?_ | refine Part.skip _ ?_ | exact Part.nil _ | exact Part.app _ _ | exact Part.appL _ _ | refine Part.appR _ ?_))⟩
                  ·
                   intro hc54
                   first
                   | exact PrN hc54
                   | ((try simp only [Pr] at hc54); exfalso; omega)
                   | (try simp only [Pr] at hc54)
                     refine HWp.exit ?_
                     refine onNorm_e ?_
                     refine onNorm_e ?_
                     obtain rfl : i = 0 := by omega
                     rw [List.drop_zero] at hw
                     refine onExitH_hit ?_
                     refine onNorm_n ?_
                     refine HWp.seq ?_
                     refine HWp.seq ?_
                     refine HWp.text (.rd 0 .done) rfl ?_
                     refine HPlan.assign rfl rfl rfl ?_
                     refine HPlan.fin ?_
                     refine onNorm_n ?_
                     refine HWp.block ?_
                     refine HWp.loopF (α := Nat × List Ent × Nat) (fun q => l.length - q.1) (fun q => q.1 ≤ l.length ∧ Kept q.2.1 (keptTo most.toNat ot l q.1)) (fun q => ⟨170, [(0, .int .i64 most), (1, x), (5, .ref i5 0), (8, .ref d 0), (10, growV o 34 (ws.map traceDV)), (14, .int .i64 (q.1 : Int))]⟩) (fun q => (i5, .cells 28 (traceDC ot) 0) :: (L ++ dbO d m most q.2.2 q.2.1)) (fun q => T2) ?_ ?_
                     ·
                      refine ⟨(0, [], 0), ⟨Nat.zero_le _, Kept.nil⟩, (LessE.less (by repeat (first | exact LessE.nil | refine LessE.same rfl ?_ | refine LessE.own rfl ?_ | refine LessE.eq rfl ?_ (by first | rfl | (congr 1; omega) | simp))) rfl), (by repeat (first | exact Part.refl _ | refine Part.pull (by repeat (first | exact Pull.here | apply Pull.there)) ?_ | refine Part.skip _ ?_ | exact Part.nil _ | exact Part.app _ _ | exact Part.appL _ _ | refine Part.appR _ ?_)), (by repeat (first | exact Part.refl _ | refine Part.pull (by repeat (first | exact Pull.here | apply Pull.there)) ?_ | refine Part.skip _ ?_ | exact Part.nil _ | exact Part.app _ _ | exact Part.appL _ _ | refine Part.appR _ ?_))⟩
                     ·
                      rintro q ⟨hq2, hk⟩
                      obtain ⟨i, rs, mv⟩ := q
                      simp only at hq2 hk ⊢
                      refine HWp.seq ?_
                      refine HWp.seq ?_
                      refine HWp.text (.rd 0 (.rd 1 (.rd 2 (.rd 3 .done)))) rfl ?_
                      refine HPlan.move rfl rfl rfl ?_
                      refine HPlan.move rfl rfl rfl ?_
                      refine HPlan.lenS rfl rfl rfl q_tk_22 hx (by first | rw [List.length_map] | rfl) ?_
                      refine HPlan.intBin rfl rfl rfl rfl rfl rfl ?_
                      refine HPlan.fin ?_
                      refine onNorm_n ?_
                      refine HWp.cond rfl ?_ ?_
                      ·
                       intro hc124
                       first
                       | exact PrN hc124
                       | ((try simp only [Pr] at hc124); exfalso; omega)
                       | (try simp only [Pr] at hc124)
                         refine HWp.skip ?_
                         refine onNorm_n ?_
                         refine HWp.seq ?_
                         refine HWp.block ?_
                         refine HWp.seq ?_
                         refine HWp.seq ?_
                         refine HWp.draw q_mix (.rd 0 (.rd 1 (.rd 2 (.rd 3 (.rd 4 (.rd 5 (.rd 6 (.rd 7 .done)))))))) (by kernel_rfl) ?_
                         refine HPlan.move rfl rfl rfl ?_
                         refine HPlan.move rfl rfl rfl ?_
                         refine HPlan.indexS rfl rfl rfl rfl q_ix_22 hx (by omega) (by simp only [List.length_map]; omega) (by first | exact at_map (by omega) | rfl) ?_
                         refine HPlan.fieldAddr rfl rfl rfl rfl q_fo_28_0 rfl ?_
                         first
                         | refine HPlan.loadI rfl rfl rfl q_sh_24 (by constructor <;> first | rfl | decide | omega | exact Nat.le_refl _ | (simp [digC_len, dgV, LV.cells, readDC_len, readDV, madeDC_len, madeDV, traceDC_len, traceDV]; done) | (simp [digC_len, dgV, LV.cells, readDC_len, readDV, madeDC_len, madeDV, traceDC_len, traceDV]; omega)) (by first | exact (dgV_all _) | exact (readD_sum _) | exact (madeD_sum _) | exact (traceD_key _) | rfl) ?_
                         | refine HPlan.load rfl rfl rfl q_sh_24 (by repeat (first | exact List.Mem.head _ | apply List.Mem.tail | assumption)) (by constructor <;> first | rfl | decide | omega | exact Nat.le_refl _ | (simp [digC_len, dgV, LV.cells, readDC_len, readDV, madeDC_len, madeDV, traceDC_len, traceDV]; done) | (simp [digC_len, dgV, LV.cells, readDC_len, readDV, madeDC_len, madeDV, traceDC_len, traceDV]; omega)) (by first | exact (dgV_all _) | exact (readD_sum _) | exact (madeD_sum _) | exact (traceD_key _) | rfl) ?_
                         refine HPlan.fieldAddr rfl rfl rfl rfl q_fo_28_0 rfl ?_
                         first
                         | refine HPlan.loadI rfl rfl rfl q_sh_24 (by constructor <;> first | rfl | decide | omega | exact Nat.le_refl _ | (simp [digC_len, dgV, LV.cells, readDC_len, readDV, madeDC_len, madeDV, traceDC_len, traceDV]; done) | (simp [digC_len, dgV, LV.cells, readDC_len, readDV, madeDC_len, madeDV, traceDC_len, traceDV]; omega)) (by first | exact (dgV_all _) | exact (readD_sum _) | exact (madeD_sum _) | exact (traceD_key _) | rfl) ?_
                         | refine HPlan.load rfl rfl rfl q_sh_24 (by repeat (first | exact List.Mem.head _ | apply List.Mem.tail | assumption)) (by constructor <;> first | rfl | decide | omega | exact Nat.le_refl _ | (simp [digC_len, dgV, LV.cells, readDC_len, readDV, madeDC_len, madeDV, traceDC_len, traceDV]; done) | (simp [digC_len, dgV, LV.cells, readDC_len, readDV, madeDC_len, madeDV, traceDC_len, traceDV]; omega)) (by first | exact (dgV_all _) | exact (readD_sum _) | exact (madeD_sum _) | exact (traceD_key _) | rfl) ?_
                         refine HPlan.aggNe rfl rfl rfl rfl q_sh_24 q_ck_24 (by decide) q_eg_24 (digC_len _) (digC_len _) (dig_fit _) (dig_fit _) (dig_eq _ _) ?_
                         refine HPlan.fin ?_
                         refine onNorm_n ?_
                         refine HWp.cond rfl ?_ ?_
                         ·
                          intro hc134
                          first
                          | exact PrN hc134
                          | ((try simp only [Pr] at hc134); exfalso; omega)
                          | (try simp only [Pr] at hc134)
                            refine HWp.text (.rd 0 (.rd 1 (.rd 2 (.rd 3 (.rd 4 (.act 5 [] .done)))))) rfl ?_
                            refine HPlan.move rfl rfl rfl ?_
                            refine HPlan.move rfl rfl rfl ?_
                            refine HPlan.move rfl rfl rfl ?_
                            refine HPlan.indexS rfl rfl rfl rfl q_ix_22 hx (by omega) (by simp only [List.length_map]; omega) (by first | exact at_map (by omega) | rfl) ?_
                            first
                            | refine HPlan.loadI rfl rfl rfl q_sh_28 (by constructor <;> first | rfl | decide | omega | exact Nat.le_refl _ | (simp [digC_len, dgV, LV.cells, readDC_len, readDV, madeDC_len, madeDV, traceDC_len, traceDV]; done) | (simp [digC_len, dgV, LV.cells, readDC_len, readDV, madeDC_len, madeDV, traceDC_len, traceDV]; omega)) (by first | exact (traceD_all _) | rfl) ?_
                            | refine HPlan.load rfl rfl rfl q_sh_28 (by repeat (first | exact List.Mem.head _ | apply List.Mem.tail | assumption)) (by constructor <;> first | rfl | decide | omega | exact Nat.le_refl _ | (simp [digC_len, dgV, LV.cells, readDC_len, readDV, madeDC_len, madeDV, traceDC_len, traceDV]; done) | (simp [digC_len, dgV, LV.cells, readDC_len, readDV, madeDC_len, madeDV, traceDC_len, traceDV]; omega)) (by first | exact (traceD_all _) | rfl) ?_
                            refine HPlan.callS rfl rfl rfl q_en_13 (add_db l[i] (hc _ (List.getElem_mem (by omega))) most (by omega) (by omega) d m mv rs _ hk ((i5, .cells 28 (traceDC ot) 0) :: L) _) (List.Perm.refl _) (List.Perm.refl _) ?_
                            rintro r_R26_5 L_R26_5 T3 ⟨rfl, mv1, rs1, hk1, rfl, T01, rfl⟩
                            refine ⟨keptH_nil, ?_⟩
                            have hk3 := (show Kept rs1 (if l[i].key = ot.key then keptTo most.toNat ot l i else addK most.toNat l[i] (keptTo most.toNat ot l i)) by rw [if_neg hc134]; exact hk1)
                            refine HPlan.fin ?_
                            refine onNorm_n ?_
                            refine HWp.text (.rd 0 (.rd 1 (.act 2 [] .done))) rfl ?_
                            refine HPlan.move rfl rfl rfl ?_
                            first
                            | refine HPlan.loadI rfl rfl rfl q_sh_28 (by constructor <;> first | rfl | decide | omega | exact Nat.le_refl _ | (simp [digC_len, dgV, LV.cells, readDC_len, readDV, madeDC_len, madeDV, traceDC_len, traceDV]; done) | (simp [digC_len, dgV, LV.cells, readDC_len, readDV, madeDC_len, madeDV, traceDC_len, traceDV]; omega)) (by first | exact (traceD_all _) | rfl) ?_
                            | refine HPlan.load rfl rfl rfl q_sh_28 (by repeat (first | exact List.Mem.head _ | apply List.Mem.tail | assumption)) (by constructor <;> first | rfl | decide | omega | exact Nat.le_refl _ | (simp [digC_len, dgV, LV.cells, readDC_len, readDV, madeDC_len, madeDV, traceDC_len, traceDV]; done) | (simp [digC_len, dgV, LV.cells, readDC_len, readDV, madeDC_len, madeDV, traceDC_len, traceDV]; omega)) (by first | exact (traceD_all _) | rfl) ?_
                            refine HPlan.callS rfl rfl rfl q_en_13 (add_db ot ho most (by omega) (by omega) d m _ _ _ hk3 ((i5, .cells 28 (traceDC ot) 0) :: L) _) (List.Perm.refl _) (List.Perm.refl _) ?_
                            rintro r_R27_2 L_R27_2 T4 ⟨rfl, mv2, rs2, hk2, rfl, T02, rfl⟩
                            refine ⟨keptH_nil, ?_⟩
                            refine HPlan.fin ?_
                            refine onExitH_n ?_
                            refine onNorm_n ?_
                            refine HWp.text (.rd 0 (.rd 1 (.rd 2 .done))) rfl ?_
                            refine HPlan.move rfl rfl rfl ?_
                            refine HPlan.intBin rfl rfl rfl rfl rfl (by first | exact add_i64 (by omega) (by omega) | rfl) ?_
                            refine HPlan.assign rfl rfl rfl ?_
                            refine HPlan.fin ?_
                            refine onNorm_n ?_
                            refine ⟨(i + 1, rs2, mv2), (by show l.length - (i + 1) < l.length - i; omega), ⟨by show i + 1 ≤ _; omega, by show Kept rs2 (keptTo most.toNat ot l (i + 1)); rw [keptTo_step (by omega), keepS]; exact hk2⟩, (LessE.less (by repeat (first | exact LessE.nil | refine LessE.same rfl ?_ | refine LessE.own rfl ?_ | refine LessE.eq rfl ?_ (by first | rfl | (congr 1; omega) | simp))) rfl), (by repeat (first | exact Part.refl _ | refine Part.pull (by repeat (first | exact Pull.here | apply Pull.there)) ?_ | refine Part.skip _ ?_ | exact Part.nil _ | exact Part.app _ _ | exact Part.appL _ _ | refine Part.appR _ ?_)), (by repeat (first | exact Part.refl _ | refine Part.pull (by repeat (first | exact Pull.here | apply Pull.there)) ?_ | refine Part.skip _ ?_ | exact Part.nil _ | exact Part.app _ _ | exact Part.appL _ _ | refine Part.appR _ ?_))⟩
                         ·
                          intro hc134
                          first
                          | exact PrN hc134
                          | ((try simp only [Pr] at hc134); exfalso; omega)
                          | (try simp only [Pr] at hc134)
                            have hk3 := (show Kept rs (if l[i].key = ot.key then keptTo most.toNat ot l i else addK most.toNat l[i] (keptTo most.toNat ot l i)) by rw [if_pos hc134]; exact hk)
                            refine HWp.skip ?_
                            refine onNorm_n ?_
                            refine HWp.text (.rd 0 (.rd 1 (.act 2 [] .done))) rfl ?_
                            refine HPlan.move rfl rfl rfl ?_
                            first
                            | refine HPlan.loadI rfl rfl rfl q_sh_28 (by constructor <;> first | rfl | decide | omega | exact Nat.le_refl _ | (simp [digC_len, dgV, LV.cells, readDC_len, readDV, madeDC_len, madeDV, traceDC_len, traceDV]; done) | (simp [digC_len, dgV, LV.cells, readDC_len, readDV, madeDC_len, madeDV, traceDC_len, traceDV]; omega)) (by first | exact (traceD_all _) | rfl) ?_
                            | refine HPlan.load rfl rfl rfl q_sh_28 (by repeat (first | exact List.Mem.head _ | apply List.Mem.tail | assumption)) (by constructor <;> first | rfl | decide | omega | exact Nat.le_refl _ | (simp [digC_len, dgV, LV.cells, readDC_len, readDV, madeDC_len, madeDV, traceDC_len, traceDV]; done) | (simp [digC_len, dgV, LV.cells, readDC_len, readDV, madeDC_len, madeDV, traceDC_len, traceDV]; omega)) (by first | exact (traceD_all _) | rfl) ?_
                            refine HPlan.callS rfl rfl rfl q_en_13 (add_db ot ho most (by omega) (by omega) d m _ _ _ hk3 ((i5, .cells 28 (traceDC ot) 0) :: L) _) (List.Perm.refl _) (List.Perm.refl _) ?_
                            rintro r_R27_2 L_R27_2 T4 ⟨rfl, mv2, rs2, hk2, rfl, T02, rfl⟩
                            refine ⟨keptH_nil, ?_⟩
                            refine HPlan.fin ?_
                            refine onExitH_n ?_
                            refine onNorm_n ?_
                            refine HWp.text (.rd 0 (.rd 1 (.rd 2 .done))) rfl ?_
                            refine HPlan.move rfl rfl rfl ?_
                            refine HPlan.intBin rfl rfl rfl rfl rfl (by first | exact add_i64 (by omega) (by omega) | rfl) ?_
                            refine HPlan.assign rfl rfl rfl ?_
                            refine HPlan.fin ?_
                            refine onNorm_n ?_
                            refine ⟨(i + 1, rs2, mv2), (by show l.length - (i + 1) < l.length - i; omega), ⟨by show i + 1 ≤ _; omega, by show Kept rs2 (keptTo most.toNat ot l (i + 1)); rw [keptTo_step (by omega), keepS]; exact hk2⟩, (LessE.less (by repeat (first | exact LessE.nil | refine LessE.same rfl ?_ | refine LessE.own rfl ?_ | refine LessE.eq rfl ?_ (by first | rfl | (congr 1; omega) | simp))) rfl), (by repeat (first | exact Part.refl _ | refine Part.pull (by repeat (first | exact Pull.here | apply Pull.there)) ?_ | refine Part.skip _ ?_ | exact Part.nil _ | exact Part.app _ _ | exact Part.appL _ _ | refine Part.appR _ ?_)), (by repeat (first | exact Part.refl _ | refine Part.pull (by repeat (first | exact Pull.here | apply Pull.there)) ?_ | refine Part.skip _ ?_ | exact Part.nil _ | exact Part.app _ _ | exact Part.appL _ _ | refine Part.appR _ ?_))⟩
                      ·
                       intro hc124
                       first
                       | exact PrN hc124
                       | ((try simp only [Pr] at hc124); exfalso; omega)
                       | (try simp only [Pr] at hc124)
                         refine HWp.exit ?_
                         refine onNorm_e ?_
                         refine onNorm_e ?_
                         obtain rfl : i = l.length := by omega
                         refine onExitH_hit ?_
                         refine onNorm_n ?_
                         refine HWp.seq ?_
                         refine HWp.seq ?_
                         refine HWp.draw q_mix (.rd 0 (.rd 1 (.rd 2 (.rd 3 (.rd 4 (.rd 5 (.rd 6 (.rd 7 (.rd 8 (.rd 9 (.rd 10 (.rd 11 (.rd 12 (.rd 13 (.rd 14 .done))))))))))))))) (by kernel_rfl) ?_
                         refine HPlan.move rfl rfl rfl ?_
                         refine HPlan.lenS rfl rfl rfl q_tk_22 hx (by first | rw [List.length_map] | rfl) ?_
                         refine HPlan.intBin rfl rfl rfl rfl rfl rfl ?_
                         refine HPlan.move rfl rfl rfl ?_
                         refine HPlan.split ?_ ?_
                         ·
                          intro hb28_3
                          first
                          | exact PrN hb28_3
                          | ((try simp only [Pr] at hb28_3); exfalso; omega)
                          | (try simp only [Pr] at hb28_3)
                            refine HPlan.leftR rfl rfl ?_
                            refine HPlan.leftR rfl rfl ?_
                            refine HPlan.leftR rfl rfl ?_
                            refine HPlan.leftR rfl rfl ?_
                            refine HPlan.leftR rfl rfl ?_
                            refine HPlan.leftR rfl rfl ?_
                            refine HPlan.leftR rfl rfl ?_
                            refine HPlan.leftR rfl rfl ?_
                            refine HPlan.leftR rfl rfl ?_
                            refine HPlan.leftR rfl rfl ?_
                            refine HPlan.pickT rfl rfl rfl rfl ?_
                            refine HPlan.fin ?_
                            refine onNorm_n ?_
                            refine HWp.cond_t rfl ?_
                            refine HWp.seq ?_
                            refine HWp.text (.rd 0 .done) rfl ?_
                            refine HPlan.assign rfl rfl rfl ?_
                            refine HPlan.fin ?_
                            refine onNorm_n ?_
                            refine HWp.ret ?_
                            refine onNorm_r ?_
                            refine retQ_r (.tmp rfl .nil) ?_
                            exact endK_of ⟨rfl, rfl, rfl⟩ (by repeat (first | exact Part.refl _ | refine Part.pull (by repeat (first | exact Pull.here | apply Pull.there)) ?_ | refine Part.skip _ ?_ | exact Part.nil _ | exact Part.app _ _ | exact Part.appL _ _ | refine Part.appR _ ?_)) (by repeat (first | exact Part.refl _ | refine Part.pull (by repeat (first | exact Pull.here | apply Pull.there)) ?_ | refine Part.skip _ ?_ | exact Part.nil _ | exact Part.app _ _ | exact Part.appL _ _ | refine Part.appR _ ?_))
                         ·
                          intro hb28_3
                          first
                          | exact PrN hb28_3
                          | ((try simp only [Pr] at hb28_3); exfalso; omega)
                          | (try simp only [Pr] at hb28_3)
                            refine HPlan.move rfl rfl rfl ?_
                            refine HPlan.move rfl rfl rfl ?_
                            refine HPlan.lenS rfl rfl rfl q_tk_22 hx (by first | rw [List.length_map] | rfl) ?_
                            refine HPlan.intBin rfl rfl rfl rfl rfl (by first | exact sub_i64 (by omega) (by omega) | rfl) ?_
                            refine HPlan.indexS rfl rfl rfl rfl q_ix_22 hx (by omega) (by simp only [List.length_map]; omega) (at_last (by omega)) ?_
                            refine HPlan.fieldAddr rfl rfl rfl rfl q_fo_28_0 rfl ?_
                            first
                            | refine HPlan.loadI rfl rfl rfl q_sh_24 (by constructor <;> first | rfl | decide | omega | exact Nat.le_refl _ | (simp [digC_len, dgV, LV.cells, readDC_len, readDV, madeDC_len, madeDV, traceDC_len, traceDV]; done) | (simp [digC_len, dgV, LV.cells, readDC_len, readDV, madeDC_len, madeDV, traceDC_len, traceDV]; omega)) (by first | exact (dgV_all _) | exact (readD_sum _) | exact (madeD_sum _) | exact (traceD_key _) | rfl) ?_
                            | refine HPlan.load rfl rfl rfl q_sh_24 (by repeat (first | exact List.Mem.head _ | apply List.Mem.tail | assumption)) (by constructor <;> first | rfl | decide | omega | exact Nat.le_refl _ | (simp [digC_len, dgV, LV.cells, readDC_len, readDV, madeDC_len, madeDV, traceDC_len, traceDV]; done) | (simp [digC_len, dgV, LV.cells, readDC_len, readDV, madeDC_len, madeDV, traceDC_len, traceDV]; omega)) (by first | exact (dgV_all _) | exact (readD_sum _) | exact (madeD_sum _) | exact (traceD_key _) | rfl) ?_
                            refine HPlan.fieldAddr rfl rfl rfl rfl q_fo_28_0 rfl ?_
                            first
                            | refine HPlan.loadI rfl rfl rfl q_sh_24 (by constructor <;> first | rfl | decide | omega | exact Nat.le_refl _ | (simp [digC_len, dgV, LV.cells, readDC_len, readDV, madeDC_len, madeDV, traceDC_len, traceDV]; done) | (simp [digC_len, dgV, LV.cells, readDC_len, readDV, madeDC_len, madeDV, traceDC_len, traceDV]; omega)) (by first | exact (dgV_all _) | exact (readD_sum _) | exact (madeD_sum _) | exact (traceD_key _) | rfl) ?_
                            | refine HPlan.load rfl rfl rfl q_sh_24 (by repeat (first | exact List.Mem.head _ | apply List.Mem.tail | assumption)) (by constructor <;> first | rfl | decide | omega | exact Nat.le_refl _ | (simp [digC_len, dgV, LV.cells, readDC_len, readDV, madeDC_len, madeDV, traceDC_len, traceDV]; done) | (simp [digC_len, dgV, LV.cells, readDC_len, readDV, madeDC_len, madeDV, traceDC_len, traceDV]; omega)) (by first | exact (dgV_all _) | exact (readD_sum _) | exact (madeD_sum _) | exact (traceD_key _) | rfl) ?_
                            refine HPlan.aggEq rfl rfl rfl rfl q_sh_24 q_ck_24 (by decide) q_eg_24 (digC_len _) (digC_len _) (dig_fit _) (dig_fit _) (dig_eq _ _) ?_
                            refine HPlan.pickF rfl rfl rfl rfl ?_
                            refine HPlan.fin ?_
                            refine onNorm_n ?_
                            refine HWp.cond rfl ?_ ?_
                            ·
                             intro hc158
                             first
                             | exact PrN hc158
                             | ((try simp only [Pr] at hc158); exfalso; omega)
                             | (try simp only [Pr] at hc158)
                               refine HWp.seq ?_
                               refine HWp.text (.rd 0 .done) rfl ?_
                               refine HPlan.assign rfl rfl rfl ?_
                               refine HPlan.fin ?_
                               refine onNorm_n ?_
                               refine HWp.ret ?_
                               refine onNorm_r ?_
                               refine retQ_r (.tmp rfl .nil) ?_
                               exact endK_of ⟨rfl, rfl, rfl⟩ (by repeat (first | exact Part.refl _ | refine Part.pull (by repeat (first | exact Pull.here | apply Pull.there)) ?_ | refine Part.skip _ ?_ | exact Part.nil _ | exact Part.app _ _ | exact Part.appL _ _ | refine Part.appR _ ?_)) (by repeat (first | exact Part.refl _ | refine Part.pull (by repeat (first | exact Pull.here | apply Pull.there)) ?_ | refine Part.skip _ ?_ | exact Part.nil _ | exact Part.app _ _ | exact Part.appL _ _ | refine Part.appR _ ?_))
                            ·
                             intro hc158
                             first
                             | exact PrN hc158
                             | ((try simp only [Pr] at hc158); exfalso; omega)
                             | (try simp only [Pr] at hc158)
                               refine HWp.skip ?_
                               refine onNorm_n ?_
                               refine HWp.seq ?_
                               refine HWp.text (.rd 0 (.rd 1 (.rd 2 (.rd 3 (.rd 4 (.rd 5 (.rd 6 (.rd 7 (.act 8 [] (.rd 9 (.act 10 [] (.rd 11 .done)))))))))))) rfl ?_
                               refine HPlan.move rfl rfl rfl ?_
                               refine HPlan.move rfl rfl rfl ?_
                               refine HPlan.move rfl rfl rfl ?_
                               refine HPlan.lenS rfl rfl rfl q_tk_22 hx (by first | rw [List.length_map] | rfl) ?_
                               refine HPlan.intBin rfl rfl rfl rfl rfl (by first | exact sub_i64 (by omega) (by omega) | rfl) ?_
                               refine HPlan.indexS rfl rfl rfl rfl q_ix_22 hx (by omega) (by simp only [List.length_map]; omega) (at_last (by omega)) ?_
                               refine HPlan.fieldAddr rfl rfl rfl rfl q_fo_28_0 rfl ?_
                               first
                               | refine HPlan.loadI rfl rfl rfl q_sh_24 (by constructor <;> first | rfl | decide | omega | exact Nat.le_refl _ | (simp [digC_len, dgV, LV.cells, readDC_len, readDV, madeDC_len, madeDV, traceDC_len, traceDV]; done) | (simp [digC_len, dgV, LV.cells, readDC_len, readDV, madeDC_len, madeDV, traceDC_len, traceDV]; omega)) (by first | exact (dgV_all _) | exact (readD_sum _) | exact (madeD_sum _) | exact (traceD_key _) | rfl) ?_
                               | refine HPlan.load rfl rfl rfl q_sh_24 (by repeat (first | exact List.Mem.head _ | apply List.Mem.tail | assumption)) (by constructor <;> first | rfl | decide | omega | exact Nat.le_refl _ | (simp [digC_len, dgV, LV.cells, readDC_len, readDV, madeDC_len, madeDV, traceDC_len, traceDV]; done) | (simp [digC_len, dgV, LV.cells, readDC_len, readDV, madeDC_len, madeDV, traceDC_len, traceDV]; omega)) (by first | exact (dgV_all _) | exact (readD_sum _) | exact (madeD_sum _) | exact (traceD_key _) | rfl) ?_
                               refine HPlan.callS rfl rfl rfl q_en_15 (of_db _ most d m mv rs _ hk ((i5, .cells 28 (traceDC ot) 0) :: L) _) (List.Perm.refl _) (List.Perm.refl _) ?_
                               rintro r_R30_8 L_R30_8 T5 ⟨us, hul, hup, hus, rfl, T05, rfl⟩
                               refine ⟨keptH_nil, ?_⟩
                               refine HPlan.move rfl rfl rfl ?_
                               refine HPlan.callPure rfl rfl rfl q_en_14 (sameall_yes us ws _ _ hus (growV_isSl hg) (by omega) (sameAll_pj (hup.trans (by rw [hw, lastKey_eq (by omega)]; exact keeps_plain hc158 (by omega) l)))) keptH_nil ?_
                               refine HPlan.assign rfl rfl rfl ?_
                               refine HPlan.fin ?_
                               refine onNorm_n ?_
                               refine HWp.ret ?_
                               refine retQ_r (.tmp rfl .nil) ?_
                               exact endK_of ⟨rfl, rfl, rfl⟩ (by repeat (first | exact Part.refl _ | refine Part.pull (by repeat (first | exact Pull.here | apply Pull.there)) ?_ | refine Part.skip _ ?_ | exact Part.nil _ | exact Part.app _ _ | exact Part.appL _ _ | refine Part.appR _ ?_)) (by repeat (first | exact Part.refl _ | refine Part.pull (by repeat (first | exact Pull.here | apply Pull.there)) ?_ | refine Part.skip _ ?_ | exact Part.nil _ | exact Part.app _ _ | exact Part.appL _ _ | refine Part.appR _ ?_))
end Go.Proofs.YthfoobfgdakbmaaDoor
