/- WHAT THE WALKS STAND ON, part of a proof: D17 D18 D19 D20 D21 D22 D23 D24 D25 D26 D27. No condition beyond what each theorem states. -/
import Derived.Test.YthfoobfgdakbmaaDoorPart1
import Derived.Test.YthfoobfgdakbmaaDoorPart2
set_option linter.unusedVariables false
set_option linter.unusedSimpArgs false
set_option maxRecDepth 100000
namespace Go.Proofs.YthfoobfgdakbmaaDoor
open Go Go.RowKit Go.L
theorem q_en_59 : enterable Tryd.prog 59 = true := by kernel_rfl
theorem q_en_60 : enterable Tryd.prog 60 = true := by kernel_rfl
theorem q_f_33 : Tryd.prog.funcs[33]? = some Tryd.f33 := by kernel_rfl
theorem q_f_11 : Tryd.prog.funcs[11]? = some Tryd.f11 := by kernel_rfl

structure Calm (t : TraceD) : Prop where
  reads : ∀ r ∈ t.reads.l, r.path.size < 1073741824
  outs : ∀ r ∈ t.outs.l, r.path.size < 1073741824
def checkF (t : TraceD) : Int := if 500 < t.reads.l.length ∨ 1000 < t.outs.l.length then 6 else if readsF t.reads.l ≠ 0 then readsF t.reads.l else outsF t.outs.l
theorem check_6 {t : TraceD} (h : 500 < t.reads.l.length ∨ 1000 < t.outs.l.length) : checkF t = 6 := by unfold checkF; rw [if_pos h]
theorem check_r {t : TraceD} (h1 : ¬ 500 < t.reads.l.length) (h2 : ¬ 1000 < t.outs.l.length) (h3 : readsF t.reads.l ≠ 0) : checkF t = readsF t.reads.l := by
  unfold checkF; rw [if_neg (by omega), if_pos h3]
theorem check_o {t : TraceD} (h1 : ¬ 500 < t.reads.l.length) (h2 : ¬ 1000 < t.outs.l.length) (h3 : readsF t.reads.l = 0) : checkF t = outsF t.outs.l := by
  unfold checkF; rw [if_neg (by omega), if_neg (by omega)]
theorem less_total : ∀ (a b : List UInt8), Op.bytesLess a b = false → a ≠ b → Op.bytesLess b a = true
  | [], [], _, h => (h rfl).elim
  | [], y :: b, h, _ => by simp [Op.bytesLess] at h
  | x :: a, [], _, _ => by simp [Op.bytesLess]
  | x :: a, y :: b, h, hn => by
    have ih := less_total a b
    simp only [Op.bytesLess] at h ⊢
    by_cases e : x = y
    · subst e
      simp at h ⊢
      exact ih h (fun e => hn (by rw [e]))
    · have e1 : (x == y) = false := beq_eq_false_iff_ne.2 e
      have e2 : (y == x) = false := beq_eq_false_iff_ne.2 (fun q => e q.symm)
      simp only [e1, e2, Bool.false_and, Bool.or_false, decide_eq_false_iff_not, decide_eq_true_eq, UInt8.lt_iff_toNat_lt] at h ⊢
      have : x.toNat ≠ y.toNat := fun q => e (UInt8.toNat_inj.1 q)
      omega
theorem less_asymm : ∀ (a b : List UInt8), Op.bytesLess a b = true → Op.bytesLess b a = false
  | [], [], h => by simp [Op.bytesLess] at h
  | [], y :: b, h => by simp [Op.bytesLess]
  | x :: a, [], h => by simp [Op.bytesLess] at h
  | x :: a, y :: b, h => by
    have ih := less_asymm a b
    simp only [Op.bytesLess] at h ⊢
    by_cases e : x = y
    · subst e
      simp at h ⊢
      exact ih h
    · have e1 : (x == y) = false := beq_eq_false_iff_ne.2 e
      have e2 : (y == x) = false := beq_eq_false_iff_ne.2 (fun q => e q.symm)
      simp only [e1, e2, Bool.false_and, Bool.or_false, decide_eq_false_iff_not, decide_eq_true_eq, UInt8.lt_iff_toNat_lt] at h ⊢
      omega
theorem str_total {a b : ByteArray} (h : a ≠ b) : strLt a b = !strLt b a := by
  have hn : a.toList ≠ b.toList := fun e => h (by have := bytes_beq a b; rw [e] at this; simpa using this)
  unfold strLt
  cases e : Op.bytesLess a.toList b.toList with
  | true => rw [less_asymm _ _ e]; rfl
  | false => rw [less_total _ _ e hn]; rfl
def NoneMet (l : List ReadD) (k j : Nat) : Prop := ∀ i (h : i < l.length), i < j → l[i].path ≠ ((l[k]?).map ReadD.path).getD .empty
theorem NoneMet.mem {l : List ReadD} {k : Nat} (h : k < l.length) (hn : NoneMet l k k) : l[k].path ∉ (l.take k).map ReadD.path := fun hm => by
  obtain ⟨r, hr, e⟩ := List.mem_map.1 hm
  obtain ⟨i, hi, rfl⟩ := List.mem_iff_getElem.1 hr
  rw [List.length_take] at hi
  have := hn i (by omega) (by omega)
  rw [List.getElem?_eq_getElem h] at this
  apply this
  rw [List.getElem_take] at e
  exact e
theorem met_mem {l : List ReadD} {k j : Nat} (h : k < l.length) (hj : j < k) (e : l[j].path = l[k].path) : l[k].path ∈ (l.take k).map ReadD.path := by
  rw [← e]
  exact List.mem_map_of_mem (List.mem_iff_getElem.2 ⟨j, by rw [List.length_take]; omega, by rw [List.getElem_take]⟩)

theorem check_spec (t : TraceD) (hc : Calm t) : HPure Tryd.prog 33 [traceDV t] (.int .i64 (checkF t)) := by
 have hsm := t.reads.small
 have hsm2 := t.outs.small
 intro L T
 refine HCalls.enterG q_f_33 rfl ?_
 refine HWp.frame (r' := ⟨23, [(0, traceDV t)]⟩) rfl ?_
 refine HWp.seq ?_
 refine HWp.text (.act 0 [] (.rd 1 .done)) rfl ?_
 refine HPlan.box rfl rfl rfl (by first | rfl | (simp; done)) (fun i1 => ⟨keptH_nil, ?_⟩)
 refine HPlan.assign rfl rfl rfl ?_
 refine HPlan.fin ?_
 refine onNorm_n ?_
 refine HWp.seq ?_
 refine HWp.seq ?_
 refine HWp.text (.rd 0 (.rd 1 (.rd 2 (.rd 3 (.rd 4 (.rd 5 (.rd 6 (.rd 7 (.rd 8 (.rd 9 .done)))))))))) rfl ?_
 refine HPlan.fieldAddr rfl rfl rfl rfl q_fo_28_1 rfl ?_
 first
 | refine HPlan.loadI rfl rfl rfl q_sh_25 (by constructor <;> first | rfl | decide | omega | exact Nat.le_refl _ | (simp [digC_len, dgV, LV.cells, readDC_len, readDV, madeDC_len, madeDV, traceDC_len, traceDV]; done) | (simp [digC_len, dgV, LV.cells, readDC_len, readDV, madeDC_len, madeDV, traceDC_len, traceDV]; omega)) (by first | exact (traceD_reads _) | rfl) ?_
 | refine HPlan.load rfl rfl rfl q_sh_25 (by repeat (first | exact List.Mem.head _ | apply List.Mem.tail | assumption)) (by constructor <;> first | rfl | decide | omega | exact Nat.le_refl _ | (simp [digC_len, dgV, LV.cells, readDC_len, readDV, madeDC_len, madeDV, traceDC_len, traceDV]; done) | (simp [digC_len, dgV, LV.cells, readDC_len, readDV, madeDC_len, madeDV, traceDC_len, traceDV]; omega)) (by first | exact (traceD_reads _) | rfl) ?_
 refine HPlan.lenS rfl rfl rfl q_tk_25 (by first | exact IsSl.sl | exact IsSl.nils | assumption | exact growV_isSl (by assumption) | exact SlD.ok _) (by first | rw [List.length_map] | rfl) ?_
 refine HPlan.intBin rfl rfl rfl rfl rfl rfl ?_
 refine HPlan.move rfl rfl rfl ?_
 refine HPlan.split ?_ ?_
 ·
  intro hb1_4
  first
  | exact PrN hb1_4
  | ((try simp only [Pr] at hb1_4); exfalso; omega)
  | (try simp only [Pr] at hb1_4)
    refine HPlan.leftR rfl rfl ?_
    refine HPlan.leftR rfl rfl ?_
    refine HPlan.leftR rfl rfl ?_
    refine HPlan.leftR rfl rfl ?_
    refine HPlan.pickT rfl rfl rfl rfl ?_
    refine HPlan.fin ?_
    refine onNorm_n ?_
    refine HWp.cond_t rfl ?_
    refine HWp.seq ?_
    refine HWp.text (.rd 0 .done) rfl ?_
    refine HPlan.assign rfl rfl rfl ?_
    refine HPlan.fin ?_
    refine onNorm_n ?_
    refine HWp.ret ?_
    refine onNorm_r ?_
    refine retQ_r (.tmp rfl .nil) ?_
    refine endK_of ⟨?_, rfl, rfl⟩ (by repeat (first | exact Part.refl _ | refine Part.pull (by repeat (first | exact Pull.here | apply Pull.there)) ?_ | refine Part.skip _ ?_ | exact Part.nil _ | exact Part.app _ _ | exact Part.appL _ _ | refine Part.appR _ ?_)) (by repeat (first | exact Part.refl _ | refine Part.pull (by repeat (first | exact Pull.here | apply Pull.there)) ?_ | refine Part.skip _ ?_ | exact Part.nil _ | exact Part.app _ _ | exact Part.appL _ _ | refine Part.appR _ ?_))
    refine congrArg (LV.int .i64) ?_
    first
    | exact (check_6 (by omega)).symm
    | exact (check_r (by omega) (by omega) hc18).symm
    | exact (check_o (by omega) (by omega) hc18).symm
 ·
  intro hb1_4
  first
  | exact PrN hb1_4
  | ((try simp only [Pr] at hb1_4); exfalso; omega)
  | (try simp only [Pr] at hb1_4)
    refine HPlan.fieldAddr rfl rfl rfl rfl q_fo_28_2 rfl ?_
    first
    | refine HPlan.loadI rfl rfl rfl q_sh_26 (by constructor <;> first | rfl | decide | omega | exact Nat.le_refl _ | (simp [digC_len, dgV, LV.cells, readDC_len, readDV, madeDC_len, madeDV, traceDC_len, traceDV]; done) | (simp [digC_len, dgV, LV.cells, readDC_len, readDV, madeDC_len, madeDV, traceDC_len, traceDV]; omega)) (by first | exact (traceD_outs _) | rfl) ?_
    | refine HPlan.load rfl rfl rfl q_sh_26 (by repeat (first | exact List.Mem.head _ | apply List.Mem.tail | assumption)) (by constructor <;> first | rfl | decide | omega | exact Nat.le_refl _ | (simp [digC_len, dgV, LV.cells, readDC_len, readDV, madeDC_len, madeDV, traceDC_len, traceDV]; done) | (simp [digC_len, dgV, LV.cells, readDC_len, readDV, madeDC_len, madeDV, traceDC_len, traceDV]; omega)) (by first | exact (traceD_outs _) | rfl) ?_
    refine HPlan.lenS rfl rfl rfl q_tk_26 (by first | exact IsSl.sl | exact IsSl.nils | assumption | exact growV_isSl (by assumption) | exact SlD.ok _) (by first | rw [List.length_map] | rfl) ?_
    refine HPlan.intBin rfl rfl rfl rfl rfl rfl ?_
    refine HPlan.pickF rfl rfl rfl rfl ?_
    refine HPlan.fin ?_
    refine onNorm_n ?_
    refine HWp.cond rfl ?_ ?_
    ·
     intro hc13
     first
     | exact PrN hc13
     | ((try simp only [Pr] at hc13); exfalso; omega)
     | (try simp only [Pr] at hc13)
       refine HWp.seq ?_
       refine HWp.text (.rd 0 .done) rfl ?_
       refine HPlan.assign rfl rfl rfl ?_
       refine HPlan.fin ?_
       refine onNorm_n ?_
       refine HWp.ret ?_
       refine onNorm_r ?_
       refine retQ_r (.tmp rfl .nil) ?_
       refine endK_of ⟨?_, rfl, rfl⟩ (by repeat (first | exact Part.refl _ | refine Part.pull (by repeat (first | exact Pull.here | apply Pull.there)) ?_ | refine Part.skip _ ?_ | exact Part.nil _ | exact Part.app _ _ | exact Part.appL _ _ | refine Part.appR _ ?_)) (by repeat (first | exact Part.refl _ | refine Part.pull (by repeat (first | exact Pull.here | apply Pull.there)) ?_ | refine Part.skip _ ?_ | exact Part.nil _ | exact Part.app _ _ | exact Part.appL _ _ | refine Part.appR _ ?_))
       refine congrArg (LV.int .i64) ?_
       first
       | exact (check_6 (by omega)).symm
       | exact (check_r (by omega) (by omega) hc18).symm
       | exact (check_o (by omega) (by omega) hc18).symm
    ·
     intro hc13
     first
     | exact PrN hc13
     | ((try simp only [Pr] at hc13); exfalso; omega)
     | (try simp only [Pr] at hc13)
       refine HWp.skip ?_
       refine onNorm_n ?_
       refine HWp.seq ?_
       refine HWp.seq ?_
       refine HWp.text (.rd 0 (.rd 1 (.act 2 [] (.rd 3 .done)))) rfl ?_
       refine HPlan.fieldAddr rfl rfl rfl rfl q_fo_28_1 rfl ?_
       first
       | refine HPlan.loadI rfl rfl rfl q_sh_25 (by constructor <;> first | rfl | decide | omega | exact Nat.le_refl _ | (simp [digC_len, dgV, LV.cells, readDC_len, readDV, madeDC_len, madeDV, traceDC_len, traceDV]; done) | (simp [digC_len, dgV, LV.cells, readDC_len, readDV, madeDC_len, madeDV, traceDC_len, traceDV]; omega)) (by first | exact (traceD_reads _) | rfl) ?_
       | refine HPlan.load rfl rfl rfl q_sh_25 (by repeat (first | exact List.Mem.head _ | apply List.Mem.tail | assumption)) (by constructor <;> first | rfl | decide | omega | exact Nat.le_refl _ | (simp [digC_len, dgV, LV.cells, readDC_len, readDV, madeDC_len, madeDV, traceDC_len, traceDV]; done) | (simp [digC_len, dgV, LV.cells, readDC_len, readDV, madeDC_len, madeDV, traceDC_len, traceDV]; omega)) (by first | exact (traceD_reads _) | rfl) ?_
       refine HPlan.callPure rfl rfl rfl q_en_59 (reads_spec t.reads hc.reads) keptH_nil ?_
       refine HPlan.assign rfl rfl rfl ?_
       refine HPlan.fin ?_
       refine onNorm_n ?_
       refine HWp.seq ?_
       refine HWp.text (.rd 0 (.rd 1 .done)) rfl ?_
       refine HPlan.move rfl rfl rfl ?_
       refine HPlan.intBin rfl rfl rfl rfl rfl rfl ?_
       refine HPlan.fin ?_
       refine onNorm_n ?_
       refine HWp.cond rfl ?_ ?_
       ·
        intro hc18
        first
        | exact PrN hc18
        | ((try simp only [Pr] at hc18); exfalso; omega)
        | (try simp only [Pr] at hc18)
          refine HWp.seq ?_
          refine HWp.text (.rd 0 (.rd 1 .done)) rfl ?_
          refine HPlan.move rfl rfl rfl ?_
          refine HPlan.assign rfl rfl rfl ?_
          refine HPlan.fin ?_
          refine onNorm_n ?_
          refine HWp.ret ?_
          refine onNorm_r ?_
          refine retQ_r (.tmp rfl .nil) ?_
          refine endK_of ⟨?_, rfl, rfl⟩ (by repeat (first | exact Part.refl _ | refine Part.pull (by repeat (first | exact Pull.here | apply Pull.there)) ?_ | refine Part.skip _ ?_ | exact Part.nil _ | exact Part.app _ _ | exact Part.appL _ _ | refine Part.appR _ ?_)) (by repeat (first | exact Part.refl _ | refine Part.pull (by repeat (first | exact Pull.here | apply Pull.there)) ?_ | refine Part.skip _ ?_ | exact Part.nil _ | exact Part.app _ _ | exact Part.appL _ _ | refine Part.appR _ ?_))
          refine congrArg (LV.int .i64) ?_
          first
          | exact (check_6 (by omega)).symm
          | exact (check_r (by omega) (by omega) hc18).symm
          | exact (check_o (by omega) (by omega) hc18).symm
       ·
        intro hc18
        first
        | exact PrN hc18
        | ((try simp only [Pr] at hc18); exfalso; omega)
        | (try simp only [Pr] at hc18)
          refine HWp.skip ?_
          refine onNorm_n ?_
          refine HWp.seq ?_
          refine HWp.text (.rd 0 (.rd 1 (.act 2 [] (.rd 3 .done)))) rfl ?_
          refine HPlan.fieldAddr rfl rfl rfl rfl q_fo_28_2 rfl ?_
          first
          | refine HPlan.loadI rfl rfl rfl q_sh_26 (by constructor <;> first | rfl | decide | omega | exact Nat.le_refl _ | (simp [digC_len, dgV, LV.cells, readDC_len, readDV, madeDC_len, madeDV, traceDC_len, traceDV]; done) | (simp [digC_len, dgV, LV.cells, readDC_len, readDV, madeDC_len, madeDV, traceDC_len, traceDV]; omega)) (by first | exact (traceD_outs _) | rfl) ?_
          | refine HPlan.load rfl rfl rfl q_sh_26 (by repeat (first | exact List.Mem.head _ | apply List.Mem.tail | assumption)) (by constructor <;> first | rfl | decide | omega | exact Nat.le_refl _ | (simp [digC_len, dgV, LV.cells, readDC_len, readDV, madeDC_len, madeDV, traceDC_len, traceDV]; done) | (simp [digC_len, dgV, LV.cells, readDC_len, readDV, madeDC_len, madeDV, traceDC_len, traceDV]; omega)) (by first | exact (traceD_outs _) | rfl) ?_
          refine HPlan.callPure rfl rfl rfl q_en_60 (outs_spec t.outs hc.outs) keptH_nil ?_
          refine HPlan.assign rfl rfl rfl ?_
          refine HPlan.fin ?_
          refine onNorm_n ?_
          refine HWp.ret ?_
          refine retQ_r (.tmp rfl .nil) ?_
          refine endK_of ⟨?_, rfl, rfl⟩ (by repeat (first | exact Part.refl _ | refine Part.pull (by repeat (first | exact Pull.here | apply Pull.there)) ?_ | refine Part.skip _ ?_ | exact Part.nil _ | exact Part.app _ _ | exact Part.appL _ _ | refine Part.appR _ ?_)) (by repeat (first | exact Part.refl _ | refine Part.pull (by repeat (first | exact Pull.here | apply Pull.there)) ?_ | refine Part.skip _ ?_ | exact Part.nil _ | exact Part.app _ _ | exact Part.appL _ _ | refine Part.appR _ ?_))
          refine congrArg (LV.int .i64) ?_
          first
          | exact (check_6 (by omega)).symm
          | exact (check_r (by omega) (by omega) hc18).symm
          | exact (check_o (by omega) (by omega) hc18).symm
theorem rcheck_spec (t : TraceD) (hc : Calm t) : HPure Tryd.prog 11 [traceDV t] (.int .i64 (checkF t)) := by
 have hsm := t.reads.small
 have hsm2 := t.outs.small
 intro L T
 refine HCalls.enterG q_f_11 rfl ?_
 refine HWp.frame (r' := ⟨99, [(0, traceDV t)]⟩) rfl ?_
 refine HWp.seq ?_
 refine HWp.text (.act 0 [] (.rd 1 .done)) rfl ?_
 refine HPlan.box rfl rfl rfl (by first | rfl | (simp; done)) (fun i1 => ⟨keptH_nil, ?_⟩)
 refine HPlan.assign rfl rfl rfl ?_
 refine HPlan.fin ?_
 refine onNorm_n ?_
 refine HWp.seq ?_
 refine HWp.seq ?_
 refine HWp.text (.rd 0 (.rd 1 (.rd 2 (.rd 3 (.rd 4 (.rd 5 (.rd 6 (.rd 7 (.rd 8 (.rd 9 .done)))))))))) rfl ?_
 refine HPlan.fieldAddr rfl rfl rfl rfl q_fo_28_1 rfl ?_
 first
 | refine HPlan.loadI rfl rfl rfl q_sh_25 (by constructor <;> first | rfl | decide | omega | exact Nat.le_refl _ | (simp [digC_len, dgV, LV.cells, readDC_len, readDV, madeDC_len, madeDV, traceDC_len, traceDV]; done) | (simp [digC_len, dgV, LV.cells, readDC_len, readDV, madeDC_len, madeDV, traceDC_len, traceDV]; omega)) (by first | exact (traceD_reads _) | rfl) ?_
 | refine HPlan.load rfl rfl rfl q_sh_25 (by repeat (first | exact List.Mem.head _ | apply List.Mem.tail | assumption)) (by constructor <;> first | rfl | decide | omega | exact Nat.le_refl _ | (simp [digC_len, dgV, LV.cells, readDC_len, readDV, madeDC_len, madeDV, traceDC_len, traceDV]; done) | (simp [digC_len, dgV, LV.cells, readDC_len, readDV, madeDC_len, madeDV, traceDC_len, traceDV]; omega)) (by first | exact (traceD_reads _) | rfl) ?_
 refine HPlan.lenS rfl rfl rfl q_tk_25 (by first | exact IsSl.sl | exact IsSl.nils | assumption | exact growV_isSl (by assumption) | exact SlD.ok _) (by first | rw [List.length_map] | rfl) ?_
 refine HPlan.intBin rfl rfl rfl rfl rfl rfl ?_
 refine HPlan.move rfl rfl rfl ?_
 refine HPlan.split ?_ ?_
 ·
  intro hb1_4
  first
  | exact PrN hb1_4
  | ((try simp only [Pr] at hb1_4); exfalso; omega)
  | (try simp only [Pr] at hb1_4)
    refine HPlan.leftR rfl rfl ?_
    refine HPlan.leftR rfl rfl ?_
    refine HPlan.leftR rfl rfl ?_
    refine HPlan.leftR rfl rfl ?_
    refine HPlan.pickT rfl rfl rfl rfl ?_
    refine HPlan.fin ?_
    refine onNorm_n ?_
    refine HWp.cond_t rfl ?_
    refine HWp.seq ?_
    refine HWp.text (.rd 0 .done) rfl ?_
    refine HPlan.assign rfl rfl rfl ?_
    refine HPlan.fin ?_
    refine onNorm_n ?_
    refine HWp.ret ?_
    refine onNorm_r ?_
    refine retQ_r (.tmp rfl .nil) ?_
    refine endK_of ⟨?_, rfl, rfl⟩ (by repeat (first | exact Part.refl _ | refine Part.pull (by repeat (first | exact Pull.here | apply Pull.there)) ?_ | refine Part.skip _ ?_ | exact Part.nil _ | exact Part.app _ _ | exact Part.appL _ _ | refine Part.appR _ ?_)) (by repeat (first | exact Part.refl _ | refine Part.pull (by repeat (first | exact Pull.here | apply Pull.there)) ?_ | refine Part.skip _ ?_ | exact Part.nil _ | exact Part.app _ _ | exact Part.appL _ _ | refine Part.appR _ ?_))
    refine congrArg (LV.int .i64) ?_
    first
    | exact (check_6 (by omega)).symm
    | (have e := hF.trans (readsAt_1 (by omega) (by simpa using hc33)); rw [check_r (by omega) (by omega) (by rw [e]; decide), e]; done)
    | (have e := hF.trans (readsAt_8 (by omega) (by simpa using hc33) (met_mem (by omega) (by omega) hc47)); rw [check_r (by omega) (by omega) (by rw [e]; decide), e]; done)
    | (have e := hF.trans (readsAt_5 (by omega) (by simpa using hc33) hnm ⟨hb14_3, hc56⟩); rw [check_r (by omega) (by omega) (by rw [e]; decide), e]; done)
    | (have e := hG.trans (outsAt_1 (by omega) (by simpa using hc72)); rw [check_o (by omega) (by omega) hF, e]; done)
    | (have e := hG.trans (outsAt_8 (by omega) (by simpa using hc72) (by omega) hc85); rw [check_o (by omega) (by omega) hF, e]; done)
    | (have e := hG.trans (outsAt_2 (by omega) (by simpa using hc72) (by omega) hc85 (by rw [str_total (fun q => hc85 q.symm)]; simpa [hc85] using hc98)); rw [check_o (by omega) (by omega) hF, e]; done)
    | (rw [outsAt_end] at hG; rw [check_o (by omega) (by omega) hF, hG]; done)
 ·
  intro hb1_4
  first
  | exact PrN hb1_4
  | ((try simp only [Pr] at hb1_4); exfalso; omega)
  | (try simp only [Pr] at hb1_4)
    refine HPlan.fieldAddr rfl rfl rfl rfl q_fo_28_2 rfl ?_
    first
    | refine HPlan.loadI rfl rfl rfl q_sh_26 (by constructor <;> first | rfl | decide | omega | exact Nat.le_refl _ | (simp [digC_len, dgV, LV.cells, readDC_len, readDV, madeDC_len, madeDV, traceDC_len, traceDV]; done) | (simp [digC_len, dgV, LV.cells, readDC_len, readDV, madeDC_len, madeDV, traceDC_len, traceDV]; omega)) (by first | exact (traceD_outs _) | rfl) ?_
    | refine HPlan.load rfl rfl rfl q_sh_26 (by repeat (first | exact List.Mem.head _ | apply List.Mem.tail | assumption)) (by constructor <;> first | rfl | decide | omega | exact Nat.le_refl _ | (simp [digC_len, dgV, LV.cells, readDC_len, readDV, madeDC_len, madeDV, traceDC_len, traceDV]; done) | (simp [digC_len, dgV, LV.cells, readDC_len, readDV, madeDC_len, madeDV, traceDC_len, traceDV]; omega)) (by first | exact (traceD_outs _) | rfl) ?_
    refine HPlan.lenS rfl rfl rfl q_tk_26 (by first | exact IsSl.sl | exact IsSl.nils | assumption | exact growV_isSl (by assumption) | exact SlD.ok _) (by first | rw [List.length_map] | rfl) ?_
    refine HPlan.intBin rfl rfl rfl rfl rfl rfl ?_
    refine HPlan.pickF rfl rfl rfl rfl ?_
    refine HPlan.fin ?_
    refine onNorm_n ?_
    refine HWp.cond rfl ?_ ?_
    ·
     intro hc17
     first
     | exact PrN hc17
     | ((try simp only [Pr] at hc17); exfalso; omega)
     | (try simp only [Pr] at hc17)
       refine HWp.seq ?_
       refine HWp.text (.rd 0 .done) rfl ?_
       refine HPlan.assign rfl rfl rfl ?_
       refine HPlan.fin ?_
       refine onNorm_n ?_
       refine HWp.ret ?_
       refine onNorm_r ?_
       refine retQ_r (.tmp rfl .nil) ?_
       refine endK_of ⟨?_, rfl, rfl⟩ (by repeat (first | exact Part.refl _ | refine Part.pull (by repeat (first | exact Pull.here | apply Pull.there)) ?_ | refine Part.skip _ ?_ | exact Part.nil _ | exact Part.app _ _ | exact Part.appL _ _ | refine Part.appR _ ?_)) (by repeat (first | exact Part.refl _ | refine Part.pull (by repeat (first | exact Pull.here | apply Pull.there)) ?_ | refine Part.skip _ ?_ | exact Part.nil _ | exact Part.app _ _ | exact Part.appL _ _ | refine Part.appR _ ?_))
       refine congrArg (LV.int .i64) ?_
       first
       | exact (check_6 (by omega)).symm
       | (have e := hF.trans (readsAt_1 (by omega) (by simpa using hc33)); rw [check_r (by omega) (by omega) (by rw [e]; decide), e]; done)
       | (have e := hF.trans (readsAt_8 (by omega) (by simpa using hc33) (met_mem (by omega) (by omega) hc47)); rw [check_r (by omega) (by omega) (by rw [e]; decide), e]; done)
       | (have e := hF.trans (readsAt_5 (by omega) (by simpa using hc33) hnm ⟨hb14_3, hc56⟩); rw [check_r (by omega) (by omega) (by rw [e]; decide), e]; done)
       | (have e := hG.trans (outsAt_1 (by omega) (by simpa using hc72)); rw [check_o (by omega) (by omega) hF, e]; done)
       | (have e := hG.trans (outsAt_8 (by omega) (by simpa using hc72) (by omega) hc85); rw [check_o (by omega) (by omega) hF, e]; done)
       | (have e := hG.trans (outsAt_2 (by omega) (by simpa using hc72) (by omega) hc85 (by rw [str_total (fun q => hc85 q.symm)]; simpa [hc85] using hc98)); rw [check_o (by omega) (by omega) hF, e]; done)
       | (rw [outsAt_end] at hG; rw [check_o (by omega) (by omega) hF, hG]; done)
    ·
     intro hc17
     first
     | exact PrN hc17
     | ((try simp only [Pr] at hc17); exfalso; omega)
     | (try simp only [Pr] at hc17)
       refine HWp.skip ?_
       refine onNorm_n ?_
       refine HWp.seq ?_
       refine HWp.seq ?_
       refine HWp.text (.rd 0 .done) rfl ?_
       refine HPlan.assign rfl rfl rfl ?_
       refine HPlan.fin ?_
       refine onNorm_n ?_
       refine HWp.block ?_
       refine HWp.loopF (α := Nat) (fun k => t.reads.l.length - k) (fun k => k ≤ t.reads.l.length ∧ readsF t.reads.l = readsAt t.reads.l k) (fun k => ⟨99, [(1, .ref i1 0), (3, .int .i64 (k : Int))]⟩) (fun k => (i1, .cells 28 (traceDC t) 0) :: L) (fun k => T) ?_ ?_
       ·
        refine ⟨0, ⟨Nat.zero_le _, rfl⟩, (LessE.less (by repeat (first | exact LessE.nil | refine LessE.same rfl ?_ | refine LessE.own rfl ?_ | refine LessE.eq rfl ?_ (by first | rfl | (congr 1; omega) | simp))) rfl), (by repeat (first | exact Part.refl _ | refine Part.pull (by repeat (first | exact Pull.here | apply Pull.there)) ?_ | refine Part.skip _ ?_ | exact Part.nil _ | exact Part.app _ _ | exact Part.appL _ _ | refine Part.appR _ ?_)), (by repeat (first | exact Part.refl _ | refine Part.pull (by repeat (first | exact Pull.here | apply Pull.there)) ?_ | refine Part.skip _ ?_ | exact Part.nil _ | exact Part.app _ _ | exact Part.appL _ _ | refine Part.appR _ ?_))⟩
       ·
        rintro k ⟨hk1, hF⟩
        refine HWp.seq ?_
        refine HWp.seq ?_
        refine HWp.text (.rd 0 (.rd 1 (.rd 2 (.rd 3 (.rd 4 .done))))) rfl ?_
        refine HPlan.move rfl rfl rfl ?_
        refine HPlan.fieldAddr rfl rfl rfl rfl q_fo_28_1 rfl ?_
        first
        | refine HPlan.loadI rfl rfl rfl q_sh_25 (by constructor <;> first | rfl | decide | omega | exact Nat.le_refl _ | (simp [digC_len, dgV, LV.cells, readDC_len, readDV, madeDC_len, madeDV, traceDC_len, traceDV]; done) | (simp [digC_len, dgV, LV.cells, readDC_len, readDV, madeDC_len, madeDV, traceDC_len, traceDV]; omega)) (by first | exact (traceD_reads _) | rfl) ?_
        | refine HPlan.load rfl rfl rfl q_sh_25 (by repeat (first | exact List.Mem.head _ | apply List.Mem.tail | assumption)) (by constructor <;> first | rfl | decide | omega | exact Nat.le_refl _ | (simp [digC_len, dgV, LV.cells, readDC_len, readDV, madeDC_len, madeDV, traceDC_len, traceDV]; done) | (simp [digC_len, dgV, LV.cells, readDC_len, readDV, madeDC_len, madeDV, traceDC_len, traceDV]; omega)) (by first | exact (traceD_reads _) | rfl) ?_
        refine HPlan.lenS rfl rfl rfl q_tk_25 (by first | exact IsSl.sl | exact IsSl.nils | assumption | exact growV_isSl (by assumption) | exact SlD.ok _) (by first | rw [List.length_map] | rfl) ?_
        refine HPlan.intBin rfl rfl rfl rfl rfl rfl ?_
        refine HPlan.fin ?_
        refine onNorm_n ?_
        refine HWp.cond rfl ?_ ?_
        ·
         intro hc22
         first
         | exact PrN hc22
         | ((try simp only [Pr] at hc22); exfalso; omega)
         | (try simp only [Pr] at hc22)
           refine HWp.skip ?_
           refine onNorm_n ?_
           refine HWp.seq ?_
           refine HWp.block ?_
           refine HWp.seq ?_
           refine HWp.text (.rd 0 (.rd 1 (.rd 2 (.rd 3 (.rd 4 (.act 5 [] (.act 6 [] .done))))))) rfl ?_
           refine HPlan.fieldAddr rfl rfl rfl rfl q_fo_28_1 rfl ?_
           first
           | refine HPlan.loadI rfl rfl rfl q_sh_25 (by constructor <;> first | rfl | decide | omega | exact Nat.le_refl _ | (simp [digC_len, dgV, LV.cells, readDC_len, readDV, madeDC_len, madeDV, traceDC_len, traceDV]; done) | (simp [digC_len, dgV, LV.cells, readDC_len, readDV, madeDC_len, madeDV, traceDC_len, traceDV]; omega)) (by first | exact (traceD_reads _) | rfl) ?_
           | refine HPlan.load rfl rfl rfl q_sh_25 (by repeat (first | exact List.Mem.head _ | apply List.Mem.tail | assumption)) (by constructor <;> first | rfl | decide | omega | exact Nat.le_refl _ | (simp [digC_len, dgV, LV.cells, readDC_len, readDV, madeDC_len, madeDV, traceDC_len, traceDV]; done) | (simp [digC_len, dgV, LV.cells, readDC_len, readDV, madeDC_len, madeDV, traceDC_len, traceDV]; omega)) (by first | exact (traceD_reads _) | rfl) ?_
           refine HPlan.move rfl rfl rfl ?_
           refine HPlan.indexS rfl rfl rfl rfl q_ix_25 (by first | exact IsSl.sl | exact IsSl.nils | assumption | exact growV_isSl (by assumption) | exact SlD.ok _) (by omega) (by simp only [List.length_map]; omega) (by first | exact at_map (by omega) | rfl) ?_
           first
           | refine HPlan.loadI rfl rfl rfl q_sh_66 (by constructor <;> first | rfl | decide | omega | exact Nat.le_refl _ | (simp [digC_len, dgV, LV.cells, readDC_len, readDV, madeDC_len, madeDV, traceDC_len, traceDV]; done) | (simp [digC_len, dgV, LV.cells, readDC_len, readDV, madeDC_len, madeDV, traceDC_len, traceDV]; omega)) (by first | exact (readD_all _) | rfl) ?_
           | refine HPlan.load rfl rfl rfl q_sh_66 (by repeat (first | exact List.Mem.head _ | apply List.Mem.tail | assumption)) (by constructor <;> first | rfl | decide | omega | exact Nat.le_refl _ | (simp [digC_len, dgV, LV.cells, readDC_len, readDV, madeDC_len, madeDV, traceDC_len, traceDV]; done) | (simp [digC_len, dgV, LV.cells, readDC_len, readDV, madeDC_len, madeDV, traceDC_len, traceDV]; omega)) (by first | exact (readD_all _) | rfl) ?_
           refine HPlan.alloc rfl rfl q_zo_66 (by first | rfl | (simp; done)) (fun i4 => ⟨keptH_nil, ?_⟩)
           refine HPlan.store rfl rfl rfl rfl q_sz_66 (by first | rfl | (simp; done)) (by first | rfl | decide | omega | (simp [digC_len, dgV, LV.cells, readDC_len, readDV, madeDC_len, madeDV, traceDC_len, traceDV]; done) | (simp [digC_len, dgV, LV.cells, readDC_len, readDV, madeDC_len, madeDV, traceDC_len, traceDV]; omega)) (by repeat (first | exact List.Mem.head _ | apply List.Mem.tail | assumption)) (by first | exact (splice_whole _ (readDC _) (by rw [readDC_len]; rfl)) | rfl) (by repeat (first | exact Upd.here | apply Upd.there)) (by first | rfl | decide | omega | (simp [digC_len, dgV, LV.cells, readDC_len, readDV, madeDC_len, madeDV, traceDC_len, traceDV]; done) | (simp [digC_len, dgV, LV.cells, readDC_len, readDV, madeDC_len, madeDV, traceDC_len, traceDV]; omega)) keptH_nil ?_
           refine HPlan.fin ?_
           refine onNorm_n ?_
           refine HWp.seq ?_
           refine HWp.seq ?_
           refine HWp.text (.rd 0 (.rd 1 (.act 2 [] (.rd 3 .done)))) rfl ?_
           refine HPlan.fieldAddr rfl rfl rfl rfl q_fo_66_0 rfl ?_
           first
           | refine HPlan.loadI rfl rfl rfl q_sh_9 (by constructor <;> first | rfl | decide | omega | exact Nat.le_refl _ | (simp [digC_len, dgV, LV.cells, readDC_len, readDV, madeDC_len, madeDV, traceDC_len, traceDV]; done) | (simp [digC_len, dgV, LV.cells, readDC_len, readDV, madeDC_len, madeDV, traceDC_len, traceDV]; omega)) (by first | exact (readD_path _) | exact (madeD_path _) | exact (piece_load _) | rfl) ?_
           | refine HPlan.load rfl rfl rfl q_sh_9 (by repeat (first | exact List.Mem.head _ | apply List.Mem.tail | assumption)) (by constructor <;> first | rfl | decide | omega | exact Nat.le_refl _ | (simp [digC_len, dgV, LV.cells, readDC_len, readDV, madeDC_len, madeDV, traceDC_len, traceDV]; done) | (simp [digC_len, dgV, LV.cells, readDC_len, readDV, madeDC_len, madeDV, traceDC_len, traceDV]; omega)) (by first | exact (readD_path _) | exact (madeD_path _) | exact (piece_load _) | rfl) ?_
           refine HPlan.callPure rfl rfl rfl q_en_31 (rmay_spec _ (hc.reads _ (List.getElem_mem (by omega)))) keptH_nil ?_
           refine HPlan.not rfl rfl rfl rfl ?_
           refine HPlan.fin ?_
           refine onNorm_n ?_
           refine HWp.cond rfl ?_ ?_
           ·
            intro hc33
            first
            | exact PrN hc33
            | ((try simp only [Pr] at hc33); exfalso; omega)
            | (try simp only [Pr] at hc33)
              refine HWp.seq ?_
              refine HWp.text (.rd 0 .done) rfl ?_
              refine HPlan.assign rfl rfl rfl ?_
              refine HPlan.fin ?_
              refine onNorm_n ?_
              refine HWp.ret ?_
              refine onNorm_r ?_
              refine onExitH_r ?_
              refine onNorm_r ?_
              refine onNorm_r ?_
              refine onExitH_r ?_
              refine onNorm_r ?_
              refine retQ_r (.tmp rfl .nil) ?_
              refine endK_of ⟨?_, rfl, rfl⟩ (by repeat (first | exact Part.refl _ | refine Part.pull (by repeat (first | exact Pull.here | apply Pull.there)) ?_ | refine Part.skip _ ?_ | exact Part.nil _ | exact Part.app _ _ | exact Part.appL _ _ | refine Part.appR _ ?_)) (by repeat (first | exact Part.refl _ | refine Part.pull (by repeat (first | exact Pull.here | apply Pull.there)) ?_ | refine Part.skip _ ?_ | exact Part.nil _ | exact Part.app _ _ | exact Part.appL _ _ | refine Part.appR _ ?_))
              refine congrArg (LV.int .i64) ?_
              first
              | exact (check_6 (by omega)).symm
              | (have e := hF.trans (readsAt_1 (by omega) (by simpa using hc33)); rw [check_r (by omega) (by omega) (by rw [e]; decide), e]; done)
              | (have e := hF.trans (readsAt_8 (by omega) (by simpa using hc33) (met_mem (by omega) (by omega) hc47)); rw [check_r (by omega) (by omega) (by rw [e]; decide), e]; done)
              | (have e := hF.trans (readsAt_5 (by omega) (by simpa using hc33) hnm ⟨hb14_3, hc56⟩); rw [check_r (by omega) (by omega) (by rw [e]; decide), e]; done)
              | (have e := hG.trans (outsAt_1 (by omega) (by simpa using hc72)); rw [check_o (by omega) (by omega) hF, e]; done)
              | (have e := hG.trans (outsAt_8 (by omega) (by simpa using hc72) (by omega) hc85); rw [check_o (by omega) (by omega) hF, e]; done)
              | (have e := hG.trans (outsAt_2 (by omega) (by simpa using hc72) (by omega) hc85 (by rw [str_total (fun q => hc85 q.symm)]; simpa [hc85] using hc98)); rw [check_o (by omega) (by omega) hF, e]; done)
              | (rw [outsAt_end] at hG; rw [check_o (by omega) (by omega) hF, hG]; done)
           ·
            intro hc33
            first
            | exact PrN hc33
            | ((try simp only [Pr] at hc33); exfalso; omega)
            | (try simp only [Pr] at hc33)
              refine HWp.skip ?_
              refine onNorm_n ?_
              refine HWp.seq ?_
              refine HWp.seq ?_
              refine HWp.text (.rd 0 .done) rfl ?_
              refine HPlan.assign rfl rfl rfl ?_
              refine HPlan.fin ?_
              refine onNorm_n ?_
              refine HWp.block ?_
              refine HWp.loopF (α := Nat) (fun j => k - j) (fun j => j ≤ k ∧ NoneMet t.reads.l k j) (fun j => ⟨99, [(1, .ref i1 0), (3, .int .i64 (k : Int)), (4, .ref i4 0), (5, .int .i64 (j : Int))]⟩) (fun j => (i4, .cells 66 (readDC t.reads.l[k]) 1) :: (i1, .cells 28 (traceDC t) 0) :: L) (fun j => T) ?_ ?_
              ·
               refine ⟨0, ⟨Nat.zero_le _, fun i _ h => absurd h (Nat.not_lt_zero _)⟩, (LessE.less (by repeat (first | exact LessE.nil | refine LessE.same rfl ?_ | refine LessE.own rfl ?_ | refine LessE.eq rfl ?_ (by first | rfl | (congr 1; omega) | simp))) rfl), (by repeat (first | exact Part.refl _ | refine Part.pull (by repeat (first | exact Pull.here | apply Pull.there)) ?_ | refine Part.skip _ ?_ | exact Part.nil _ | exact Part.app _ _ | exact Part.appL _ _ | refine Part.appR _ ?_)), (by repeat (first | exact Part.refl _ | refine Part.pull (by repeat (first | exact Pull.here | apply Pull.there)) ?_ | refine Part.skip _ ?_ | exact Part.nil _ | exact Part.app _ _ | exact Part.appL _ _ | refine Part.appR _ ?_))⟩
              ·
               rintro j ⟨hj1, hN⟩
               refine HWp.seq ?_
               refine HWp.seq ?_
               refine HWp.text (.rd 0 (.rd 1 (.rd 2 .done))) rfl ?_
               refine HPlan.move rfl rfl rfl ?_
               refine HPlan.move rfl rfl rfl ?_
               refine HPlan.intBin rfl rfl rfl rfl rfl rfl ?_
               refine HPlan.fin ?_
               refine onNorm_n ?_
               refine HWp.cond rfl ?_ ?_
               ·
                intro hc36
                first
                | exact PrN hc36
                | ((try simp only [Pr] at hc36); exfalso; omega)
                | (try simp only [Pr] at hc36)
                  refine HWp.skip ?_
                  refine onNorm_n ?_
                  refine HWp.seq ?_
                  refine HWp.block ?_
                  refine HWp.seq ?_
                  refine HWp.draw q_mix (.rd 0 (.rd 1 (.rd 2 (.rd 3 (.rd 4 (.rd 5 (.rd 6 (.rd 7 (.rd 8 .done))))))))) (by kernel_rfl) ?_
                  refine HPlan.fieldAddr rfl rfl rfl rfl q_fo_28_1 rfl ?_
                  first
                  | refine HPlan.loadI rfl rfl rfl q_sh_25 (by constructor <;> first | rfl | decide | omega | exact Nat.le_refl _ | (simp [digC_len, dgV, LV.cells, readDC_len, readDV, madeDC_len, madeDV, traceDC_len, traceDV]; done) | (simp [digC_len, dgV, LV.cells, readDC_len, readDV, madeDC_len, madeDV, traceDC_len, traceDV]; omega)) (by first | exact (traceD_reads _) | rfl) ?_
                  | refine HPlan.load rfl rfl rfl q_sh_25 (by repeat (first | exact List.Mem.head _ | apply List.Mem.tail | assumption)) (by constructor <;> first | rfl | decide | omega | exact Nat.le_refl _ | (simp [digC_len, dgV, LV.cells, readDC_len, readDV, madeDC_len, madeDV, traceDC_len, traceDV]; done) | (simp [digC_len, dgV, LV.cells, readDC_len, readDV, madeDC_len, madeDV, traceDC_len, traceDV]; omega)) (by first | exact (traceD_reads _) | rfl) ?_
                  refine HPlan.move rfl rfl rfl ?_
                  refine HPlan.indexS rfl rfl rfl rfl q_ix_25 (by first | exact IsSl.sl | exact IsSl.nils | assumption | exact growV_isSl (by assumption) | exact SlD.ok _) (by omega) (by simp only [List.length_map]; omega) (by first | exact at_map (by omega) | rfl) ?_
                  refine HPlan.fieldAddr rfl rfl rfl rfl q_fo_66_0 rfl ?_
                  first
                  | refine HPlan.loadI rfl rfl rfl q_sh_9 (by constructor <;> first | rfl | decide | omega | exact Nat.le_refl _ | (simp [digC_len, dgV, LV.cells, readDC_len, readDV, madeDC_len, madeDV, traceDC_len, traceDV]; done) | (simp [digC_len, dgV, LV.cells, readDC_len, readDV, madeDC_len, madeDV, traceDC_len, traceDV]; omega)) (by first | exact (readD_path _) | exact (madeD_path _) | exact (piece_load _) | rfl) ?_
                  | refine HPlan.load rfl rfl rfl q_sh_9 (by repeat (first | exact List.Mem.head _ | apply List.Mem.tail | assumption)) (by constructor <;> first | rfl | decide | omega | exact Nat.le_refl _ | (simp [digC_len, dgV, LV.cells, readDC_len, readDV, madeDC_len, madeDV, traceDC_len, traceDV]; done) | (simp [digC_len, dgV, LV.cells, readDC_len, readDV, madeDC_len, madeDV, traceDC_len, traceDV]; omega)) (by first | exact (readD_path _) | exact (madeD_path _) | exact (piece_load _) | rfl) ?_
                  refine HPlan.fieldAddr rfl rfl rfl rfl q_fo_66_0 rfl ?_
                  first
                  | refine HPlan.loadI rfl rfl rfl q_sh_9 (by constructor <;> first | rfl | decide | omega | exact Nat.le_refl _ | (simp [digC_len, dgV, LV.cells, readDC_len, readDV, madeDC_len, madeDV, traceDC_len, traceDV]; done) | (simp [digC_len, dgV, LV.cells, readDC_len, readDV, madeDC_len, madeDV, traceDC_len, traceDV]; omega)) (by first | exact (readD_path _) | exact (madeD_path _) | exact (piece_load _) | rfl) ?_
                  | refine HPlan.load rfl rfl rfl q_sh_9 (by repeat (first | exact List.Mem.head _ | apply List.Mem.tail | assumption)) (by constructor <;> first | rfl | decide | omega | exact Nat.le_refl _ | (simp [digC_len, dgV, LV.cells, readDC_len, readDV, madeDC_len, madeDV, traceDC_len, traceDV]; done) | (simp [digC_len, dgV, LV.cells, readDC_len, readDV, madeDC_len, madeDV, traceDC_len, traceDV]; omega)) (by first | exact (readD_path _) | exact (madeD_path _) | exact (piece_load _) | rfl) ?_
                  refine HPlan.strBin rfl rfl rfl rfl trivial rfl ?_
                  refine HPlan.fin ?_
                  refine onNorm_n ?_
                  refine HWp.cond rfl ?_ ?_
                  ·
                   intro hc47
                   first
                   | exact PrN hc47
                   | ((try simp only [Pr] at hc47); exfalso; omega)
                   | (try simp only [Pr] at hc47)
                     refine HWp.seq ?_
                     refine HWp.text (.rd 0 .done) rfl ?_
                     refine HPlan.assign rfl rfl rfl ?_
                     refine HPlan.fin ?_
                     refine onNorm_n ?_
                     refine HWp.ret ?_
                     refine onExitH_r ?_
                     refine onNorm_r ?_
                     refine onNorm_r ?_
                     refine onExitH_r ?_
                     refine onNorm_r ?_
                     refine onExitH_r ?_
                     refine onNorm_r ?_
                     refine onNorm_r ?_
                     refine onExitH_r ?_
                     refine onNorm_r ?_
                     refine retQ_r (.tmp rfl .nil) ?_
                     refine endK_of ⟨?_, rfl, rfl⟩ (by repeat (first | exact Part.refl _ | refine Part.pull (by repeat (first | exact Pull.here | apply Pull.there)) ?_ | refine Part.skip _ ?_ | exact Part.nil _ | exact Part.app _ _ | exact Part.appL _ _ | refine Part.appR _ ?_)) (by repeat (first | exact Part.refl _ | refine Part.pull (by repeat (first | exact Pull.here | apply Pull.there)) ?_ | refine Part.skip _ ?_ | exact Part.nil _ | exact Part.app _ _ | exact Part.appL _ _ | refine Part.appR _ ?_))
                     refine congrArg (LV.int .i64) ?_
                     first
                     | exact (check_6 (by omega)).symm
                     | (have e := hF.trans (readsAt_1 (by omega) (by simpa using hc33)); rw [check_r (by omega) (by omega) (by rw [e]; decide), e]; done)
                     | (have e := hF.trans (readsAt_8 (by omega) (by simpa using hc33) (met_mem (by omega) (by omega) hc47)); rw [check_r (by omega) (by omega) (by rw [e]; decide), e]; done)
                     | (have e := hF.trans (readsAt_5 (by omega) (by simpa using hc33) hnm ⟨hb14_3, hc56⟩); rw [check_r (by omega) (by omega) (by rw [e]; decide), e]; done)
                     | (have e := hG.trans (outsAt_1 (by omega) (by simpa using hc72)); rw [check_o (by omega) (by omega) hF, e]; done)
                     | (have e := hG.trans (outsAt_8 (by omega) (by simpa using hc72) (by omega) hc85); rw [check_o (by omega) (by omega) hF, e]; done)
                     | (have e := hG.trans (outsAt_2 (by omega) (by simpa using hc72) (by omega) hc85 (by rw [str_total (fun q => hc85 q.symm)]; simpa [hc85] using hc98)); rw [check_o (by omega) (by omega) hF, e]; done)
                     | (rw [outsAt_end] at hG; rw [check_o (by omega) (by omega) hF, hG]; done)
                  ·
                   intro hc47
                   first
                   | exact PrN hc47
                   | ((try simp only [Pr] at hc47); exfalso; omega)
                   | (try simp only [Pr] at hc47)
                     refine HWp.skip ?_
                     refine onExitH_n ?_
                     refine onNorm_n ?_
                     refine HWp.text (.rd 0 (.rd 1 (.rd 2 .done))) rfl ?_
                     refine HPlan.move rfl rfl rfl ?_
                     refine HPlan.intBin rfl rfl rfl rfl rfl (by first | exact add_i64 (by omega) (by omega) | rfl) ?_
                     refine HPlan.assign rfl rfl rfl ?_
                     refine HPlan.fin ?_
                     refine onNorm_n ?_
                     refine ⟨(j + 1), (by omega), ⟨by omega, fun i h h1 => (by by_cases e : i = j; (subst e; rw [List.getElem?_eq_getElem (by omega)]; exact hc47); exact hN i h (by omega))⟩, (LessE.less (by repeat (first | exact LessE.nil | refine LessE.same rfl ?_ | refine LessE.own rfl ?_ | refine LessE.eq rfl ?_ (by first | rfl | (congr 1; omega) | simp))) rfl), (by repeat (first | exact Part.refl _ | refine Part.pull (by repeat (first | exact Pull.here | apply Pull.there)) ?_ | refine Part.skip _ ?_ | exact Part.nil _ | exact Part.app _ _ | exact Part.appL _ _ | refine Part.appR _ ?_)), (by repeat (first | exact Part.refl _ | refine Part.pull (by repeat (first | exact Pull.here | apply Pull.there)) ?_ | refine Part.skip _ ?_ | exact Part.nil _ | exact Part.app _ _ | exact Part.appL _ _ | refine Part.appR _ ?_))⟩
               ·
                intro hc36
                first
                | exact PrN hc36
                | ((try simp only [Pr] at hc36); exfalso; omega)
                | (try simp only [Pr] at hc36)
                  refine HWp.exit ?_
                  refine onNorm_e ?_
                  refine onNorm_e ?_
                  have hjk : j = k := by omega
                  rw [hjk] at hN
                  have hnm := hN.mem (by omega)
                  refine onExitH_hit ?_
                  refine onNorm_n ?_
                  refine HWp.seq ?_
                  refine HWp.text (.rd 0 (.rd 1 (.rd 2 (.rd 3 (.rd 4 (.rd 5 (.rd 6 (.rd 7 (.rd 8 .done))))))))) rfl ?_
                  refine HPlan.fieldAddr rfl rfl rfl rfl q_fo_66_1 rfl ?_
                  first
                  | refine HPlan.loadI rfl rfl rfl q_sh_4 (by constructor <;> first | rfl | decide | omega | exact Nat.le_refl _ | (simp [digC_len, dgV, LV.cells, readDC_len, readDV, madeDC_len, madeDV, traceDC_len, traceDV]; done) | (simp [digC_len, dgV, LV.cells, readDC_len, readDV, madeDC_len, madeDV, traceDC_len, traceDV]; omega)) (by first | exact (readD_is _) | rfl) ?_
                  | refine HPlan.load rfl rfl rfl q_sh_4 (by repeat (first | exact List.Mem.head _ | apply List.Mem.tail | assumption)) (by constructor <;> first | rfl | decide | omega | exact Nat.le_refl _ | (simp [digC_len, dgV, LV.cells, readDC_len, readDV, madeDC_len, madeDV, traceDC_len, traceDV]; done) | (simp [digC_len, dgV, LV.cells, readDC_len, readDV, madeDC_len, madeDV, traceDC_len, traceDV]; omega)) (by first | exact (readD_is _) | rfl) ?_
                  refine HPlan.not rfl rfl rfl rfl ?_
                  refine HPlan.move rfl rfl rfl ?_
                  refine HPlan.split ?_ ?_
                  ·
                   intro hb14_3
                   first
                   | exact PrN hb14_3
                   | ((try simp only [Pr] at hb14_3); exfalso; omega)
                   | (try simp only [Pr] at hb14_3)
                     refine HPlan.fieldAddr rfl rfl rfl rfl q_fo_66_2 rfl ?_
                     first
                     | refine HPlan.loadI rfl rfl rfl q_sh_24 (by constructor <;> first | rfl | decide | omega | exact Nat.le_refl _ | (simp [digC_len, dgV, LV.cells, readDC_len, readDV, madeDC_len, madeDV, traceDC_len, traceDV]; done) | (simp [digC_len, dgV, LV.cells, readDC_len, readDV, madeDC_len, madeDV, traceDC_len, traceDV]; omega)) (by first | exact (dgV_all _) | exact (readD_sum _) | exact (madeD_sum _) | exact (traceD_key _) | rfl) ?_
                     | refine HPlan.load rfl rfl rfl q_sh_24 (by repeat (first | exact List.Mem.head _ | apply List.Mem.tail | assumption)) (by constructor <;> first | rfl | decide | omega | exact Nat.le_refl _ | (simp [digC_len, dgV, LV.cells, readDC_len, readDV, madeDC_len, madeDV, traceDC_len, traceDV]; done) | (simp [digC_len, dgV, LV.cells, readDC_len, readDV, madeDC_len, madeDV, traceDC_len, traceDV]; omega)) (by first | exact (dgV_all _) | exact (readD_sum _) | exact (madeD_sum _) | exact (traceD_key _) | rfl) ?_
                     refine HPlan.build rfl rfl rfl q_zo_24 (by first | rfl | (simp; done)) q_pl_24 fillOk_nil (rfl : _ = dgV zeroDig) ?_
                     refine HPlan.aggNe rfl rfl rfl rfl q_sh_24 q_ck_24 (by decide) q_eg_24 (digC_len _) (digC_len _) (dig_fit _) (dig_fit _) (dig_eq _ _) ?_
                     refine HPlan.pickT rfl rfl rfl rfl ?_
                     refine HPlan.fin ?_
                     refine onNorm_n ?_
                     refine HWp.cond rfl ?_ ?_
                     ·
                      intro hc56
                      first
                      | exact PrN hc56
                      | ((try simp only [Pr] at hc56); exfalso; omega)
                      | (try simp only [Pr] at hc56)
                        refine HWp.seq ?_
                        refine HWp.text (.rd 0 .done) rfl ?_
                        refine HPlan.assign rfl rfl rfl ?_
                        refine HPlan.fin ?_
                        refine onNorm_n ?_
                        refine HWp.ret ?_
                        refine onExitH_r ?_
                        refine onNorm_r ?_
                        refine onNorm_r ?_
                        refine onExitH_r ?_
                        refine onNorm_r ?_
                        refine retQ_r (.tmp rfl .nil) ?_
                        refine endK_of ⟨?_, rfl, rfl⟩ (by repeat (first | exact Part.refl _ | refine Part.pull (by repeat (first | exact Pull.here | apply Pull.there)) ?_ | refine Part.skip _ ?_ | exact Part.nil _ | exact Part.app _ _ | exact Part.appL _ _ | refine Part.appR _ ?_)) (by repeat (first | exact Part.refl _ | refine Part.pull (by repeat (first | exact Pull.here | apply Pull.there)) ?_ | refine Part.skip _ ?_ | exact Part.nil _ | exact Part.app _ _ | exact Part.appL _ _ | refine Part.appR _ ?_))
                        refine congrArg (LV.int .i64) ?_
                        first
                        | exact (check_6 (by omega)).symm
                        | (have e := hF.trans (readsAt_1 (by omega) (by simpa using hc33)); rw [check_r (by omega) (by omega) (by rw [e]; decide), e]; done)
                        | (have e := hF.trans (readsAt_8 (by omega) (by simpa using hc33) (met_mem (by omega) (by omega) hc47)); rw [check_r (by omega) (by omega) (by rw [e]; decide), e]; done)
                        | (have e := hF.trans (readsAt_5 (by omega) (by simpa using hc33) hnm ⟨hb14_3, hc56⟩); rw [check_r (by omega) (by omega) (by rw [e]; decide), e]; done)
                        | (have e := hG.trans (outsAt_1 (by omega) (by simpa using hc72)); rw [check_o (by omega) (by omega) hF, e]; done)
                        | (have e := hG.trans (outsAt_8 (by omega) (by simpa using hc72) (by omega) hc85); rw [check_o (by omega) (by omega) hF, e]; done)
                        | (have e := hG.trans (outsAt_2 (by omega) (by simpa using hc72) (by omega) hc85 (by rw [str_total (fun q => hc85 q.symm)]; simpa [hc85] using hc98)); rw [check_o (by omega) (by omega) hF, e]; done)
                        | (rw [outsAt_end] at hG; rw [check_o (by omega) (by omega) hF, hG]; done)
                     ·
                      intro hc56
                      first
                      | exact PrN hc56
                      | ((try simp only [Pr] at hc56); exfalso; omega)
                      | (try simp only [Pr] at hc56)
                        refine HWp.skip ?_
                        refine onExitH_n ?_
                        refine onNorm_n ?_
                        refine HWp.text (.rd 0 (.rd 1 (.rd 2 .done))) rfl ?_
                        have hF1 : readsF t.reads.l = readsAt t.reads.l (k + 1) := hF.trans (readsAt_step (by omega) (by simpa using hc33) hnm (by first | (intro hh; rw [hb14_3] at hh; cases hh.1; done) | (intro hh; exact hh.2 hc56)))
                        refine HPlan.move rfl rfl rfl ?_
                        refine HPlan.intBin rfl rfl rfl rfl rfl (by first | exact add_i64 (by omega) (by omega) | rfl) ?_
                        refine HPlan.assign rfl rfl rfl ?_
                        refine HPlan.fin ?_
                        refine onNorm_n ?_
                        refine ⟨(k + 1), (by omega), ⟨by omega, hF1⟩, (LessE.less (by repeat (first | exact LessE.nil | refine LessE.same rfl ?_ | refine LessE.own rfl ?_ | refine LessE.eq rfl ?_ (by first | rfl | (congr 1; omega) | simp))) rfl), (by repeat (first | exact Part.refl _ | refine Part.pull (by repeat (first | exact Pull.here | apply Pull.there)) ?_ | refine Part.skip _ ?_ | exact Part.nil _ | exact Part.app _ _ | exact Part.appL _ _ | refine Part.appR _ ?_)), (by repeat (first | exact Part.refl _ | refine Part.pull (by repeat (first | exact Pull.here | apply Pull.there)) ?_ | refine Part.skip _ ?_ | exact Part.nil _ | exact Part.app _ _ | exact Part.appL _ _ | refine Part.appR _ ?_))⟩
                  ·
                   intro hb14_3
                   first
                   | exact PrN hb14_3
                   | ((try simp only [Pr] at hb14_3); exfalso; omega)
                   | (try simp only [Pr] at hb14_3)
                     refine HPlan.leftR rfl rfl ?_
                     refine HPlan.leftR rfl rfl ?_
                     refine HPlan.leftR rfl rfl ?_
                     refine HPlan.leftR rfl rfl ?_
                     refine HPlan.pickF rfl rfl rfl rfl ?_
                     refine HPlan.fin ?_
                     refine onNorm_n ?_
                     refine HWp.cond_f rfl ?_
                     refine HWp.skip ?_
                     refine onExitH_n ?_
                     refine onNorm_n ?_
                     refine HWp.text (.rd 0 (.rd 1 (.rd 2 .done))) rfl ?_
                     have hF1 : readsF t.reads.l = readsAt t.reads.l (k + 1) := hF.trans (readsAt_step (by omega) (by simpa using hc33) hnm (by first | (intro hh; rw [hb14_3] at hh; cases hh.1; done) | (intro hh; exact hh.2 hc56)))
                     refine HPlan.move rfl rfl rfl ?_
                     refine HPlan.intBin rfl rfl rfl rfl rfl (by first | exact add_i64 (by omega) (by omega) | rfl) ?_
                     refine HPlan.assign rfl rfl rfl ?_
                     refine HPlan.fin ?_
                     refine onNorm_n ?_
                     refine ⟨(k + 1), (by omega), ⟨by omega, hF1⟩, (LessE.less (by repeat (first | exact LessE.nil | refine LessE.same rfl ?_ | refine LessE.own rfl ?_ | refine LessE.eq rfl ?_ (by first | rfl | (congr 1; omega) | simp))) rfl), (by repeat (first | exact Part.refl _ | refine Part.pull (by repeat (first | exact Pull.here | apply Pull.there)) ?_ | refine Part.skip _ ?_ | exact Part.nil _ | exact Part.app _ _ | exact Part.appL _ _ | refine Part.appR _ ?_)), (by repeat (first | exact Part.refl _ | refine Part.pull (by repeat (first | exact Pull.here | apply Pull.there)) ?_ | refine Part.skip _ ?_ | exact Part.nil _ | exact Part.app _ _ | exact Part.appL _ _ | refine Part.appR _ ?_))⟩
        ·
         intro hc22
         first
         | exact PrN hc22
         | ((try simp only [Pr] at hc22); exfalso; omega)
         | (try simp only [Pr] at hc22)
           refine HWp.exit ?_
           refine onNorm_e ?_
           refine onNorm_e ?_
           obtain rfl : k = t.reads.l.length := by omega
           rw [readsAt_end] at hF
           refine onExitH_hit ?_
           refine onNorm_n ?_
           refine HWp.seq ?_
           refine HWp.seq ?_
           refine HWp.text (.rd 0 .done) rfl ?_
           refine HPlan.assign rfl rfl rfl ?_
           refine HPlan.fin ?_
           refine onNorm_n ?_
           refine HWp.block ?_
           refine HWp.loopF (α := Nat) (fun q => t.outs.l.length - q) (fun q => q ≤ t.outs.l.length ∧ outsF t.outs.l = outsAt t.outs.l q) (fun q => ⟨99, [(1, .ref i1 0), (6, .int .i64 (q : Int))]⟩) (fun q => (i1, .cells 28 (traceDC t) 0) :: L) (fun q => T) ?_ ?_
           ·
            refine ⟨0, ⟨Nat.zero_le _, rfl⟩, (LessE.less (by repeat (first | exact LessE.nil | refine LessE.same rfl ?_ | refine LessE.own rfl ?_ | refine LessE.eq rfl ?_ (by first | rfl | (congr 1; omega) | simp))) rfl), (by repeat (first | exact Part.refl _ | refine Part.pull (by repeat (first | exact Pull.here | apply Pull.there)) ?_ | refine Part.skip _ ?_ | exact Part.nil _ | exact Part.app _ _ | exact Part.appL _ _ | refine Part.appR _ ?_)), (by repeat (first | exact Part.refl _ | refine Part.pull (by repeat (first | exact Pull.here | apply Pull.there)) ?_ | refine Part.skip _ ?_ | exact Part.nil _ | exact Part.app _ _ | exact Part.appL _ _ | refine Part.appR _ ?_))⟩
           ·
            rintro q ⟨hq1, hG⟩
            refine HWp.seq ?_
            refine HWp.seq ?_
            refine HWp.text (.rd 0 (.rd 1 (.rd 2 (.rd 3 (.rd 4 .done))))) rfl ?_
            refine HPlan.move rfl rfl rfl ?_
            refine HPlan.fieldAddr rfl rfl rfl rfl q_fo_28_2 rfl ?_
            first
            | refine HPlan.loadI rfl rfl rfl q_sh_26 (by constructor <;> first | rfl | decide | omega | exact Nat.le_refl _ | (simp [digC_len, dgV, LV.cells, readDC_len, readDV, madeDC_len, madeDV, traceDC_len, traceDV]; done) | (simp [digC_len, dgV, LV.cells, readDC_len, readDV, madeDC_len, madeDV, traceDC_len, traceDV]; omega)) (by first | exact (traceD_outs _) | rfl) ?_
            | refine HPlan.load rfl rfl rfl q_sh_26 (by repeat (first | exact List.Mem.head _ | apply List.Mem.tail | assumption)) (by constructor <;> first | rfl | decide | omega | exact Nat.le_refl _ | (simp [digC_len, dgV, LV.cells, readDC_len, readDV, madeDC_len, madeDV, traceDC_len, traceDV]; done) | (simp [digC_len, dgV, LV.cells, readDC_len, readDV, madeDC_len, madeDV, traceDC_len, traceDV]; omega)) (by first | exact (traceD_outs _) | rfl) ?_
            refine HPlan.lenS rfl rfl rfl q_tk_26 (by first | exact IsSl.sl | exact IsSl.nils | assumption | exact growV_isSl (by assumption) | exact SlD.ok _) (by first | rw [List.length_map] | rfl) ?_
            refine HPlan.intBin rfl rfl rfl rfl rfl rfl ?_
            refine HPlan.fin ?_
            refine onNorm_n ?_
            refine HWp.cond rfl ?_ ?_
            ·
             intro hc61
             first
             | exact PrN hc61
             | ((try simp only [Pr] at hc61); exfalso; omega)
             | (try simp only [Pr] at hc61)
               refine HWp.skip ?_
               refine onNorm_n ?_
               refine HWp.seq ?_
               refine HWp.block ?_
               refine HWp.seq ?_
               refine HWp.text (.rd 0 (.rd 1 (.rd 2 (.rd 3 (.rd 4 (.rd 5 (.rd 6 .done))))))) rfl ?_
               refine HPlan.fieldAddr rfl rfl rfl rfl q_fo_28_2 rfl ?_
               first
               | refine HPlan.loadI rfl rfl rfl q_sh_26 (by constructor <;> first | rfl | decide | omega | exact Nat.le_refl _ | (simp [digC_len, dgV, LV.cells, readDC_len, readDV, madeDC_len, madeDV, traceDC_len, traceDV]; done) | (simp [digC_len, dgV, LV.cells, readDC_len, readDV, madeDC_len, madeDV, traceDC_len, traceDV]; omega)) (by first | exact (traceD_outs _) | rfl) ?_
               | refine HPlan.load rfl rfl rfl q_sh_26 (by repeat (first | exact List.Mem.head _ | apply List.Mem.tail | assumption)) (by constructor <;> first | rfl | decide | omega | exact Nat.le_refl _ | (simp [digC_len, dgV, LV.cells, readDC_len, readDV, madeDC_len, madeDV, traceDC_len, traceDV]; done) | (simp [digC_len, dgV, LV.cells, readDC_len, readDV, madeDC_len, madeDV, traceDC_len, traceDV]; omega)) (by first | exact (traceD_outs _) | rfl) ?_
               refine HPlan.move rfl rfl rfl ?_
               refine HPlan.indexS rfl rfl rfl rfl q_ix_26 (by first | exact IsSl.sl | exact IsSl.nils | assumption | exact growV_isSl (by assumption) | exact SlD.ok _) (by omega) (by simp only [List.length_map]; omega) (by first | exact at_map (by omega) | rfl) ?_
               refine HPlan.fieldAddr rfl rfl rfl rfl q_fo_73_0 rfl ?_
               first
               | refine HPlan.loadI rfl rfl rfl q_sh_9 (by constructor <;> first | rfl | decide | omega | exact Nat.le_refl _ | (simp [digC_len, dgV, LV.cells, readDC_len, readDV, madeDC_len, madeDV, traceDC_len, traceDV]; done) | (simp [digC_len, dgV, LV.cells, readDC_len, readDV, madeDC_len, madeDV, traceDC_len, traceDV]; omega)) (by first | exact (readD_path _) | exact (madeD_path _) | exact (piece_load _) | rfl) ?_
               | refine HPlan.load rfl rfl rfl q_sh_9 (by repeat (first | exact List.Mem.head _ | apply List.Mem.tail | assumption)) (by constructor <;> first | rfl | decide | omega | exact Nat.le_refl _ | (simp [digC_len, dgV, LV.cells, readDC_len, readDV, madeDC_len, madeDV, traceDC_len, traceDV]; done) | (simp [digC_len, dgV, LV.cells, readDC_len, readDV, madeDC_len, madeDV, traceDC_len, traceDV]; omega)) (by first | exact (readD_path _) | exact (madeD_path _) | exact (piece_load _) | rfl) ?_
               refine HPlan.assign rfl rfl rfl ?_
               refine HPlan.fin ?_
               refine onNorm_n ?_
               refine HWp.seq ?_
               refine HWp.seq ?_
               refine HWp.text (.rd 0 (.act 1 [] (.rd 2 .done))) rfl ?_
               refine HPlan.move rfl rfl rfl ?_
               refine HPlan.callPure rfl rfl rfl q_en_32 (runder_spec out_ne _ (hc.outs _ (List.getElem_mem (by omega)))) keptH_nil ?_
               refine HPlan.not rfl rfl rfl rfl ?_
               refine HPlan.fin ?_
               refine onNorm_n ?_
               refine HWp.cond rfl ?_ ?_
               ·
                intro hc72
                first
                | exact PrN hc72
                | ((try simp only [Pr] at hc72); exfalso; omega)
                | (try simp only [Pr] at hc72)
                  refine HWp.seq ?_
                  refine HWp.text (.rd 0 .done) rfl ?_
                  refine HPlan.assign rfl rfl rfl ?_
                  refine HPlan.fin ?_
                  refine onNorm_n ?_
                  refine HWp.ret ?_
                  refine onNorm_r ?_
                  refine onExitH_r ?_
                  refine onNorm_r ?_
                  refine onNorm_r ?_
                  refine onExitH_r ?_
                  refine onNorm_r ?_
                  refine retQ_r (.tmp rfl .nil) ?_
                  refine endK_of ⟨?_, rfl, rfl⟩ (by repeat (first | exact Part.refl _ | refine Part.pull (by repeat (first | exact Pull.here | apply Pull.there)) ?_ | refine Part.skip _ ?_ | exact Part.nil _ | exact Part.app _ _ | exact Part.appL _ _ | refine Part.appR _ ?_)) (by repeat (first | exact Part.refl _ | refine Part.pull (by repeat (first | exact Pull.here | apply Pull.there)) ?_ | refine Part.skip _ ?_ | exact Part.nil _ | exact Part.app _ _ | exact Part.appL _ _ | refine Part.appR _ ?_))
                  refine congrArg (LV.int .i64) ?_
                  first
                  | exact (check_6 (by omega)).symm
                  | (have e := hF.trans (readsAt_1 (by omega) (by simpa using hc33)); rw [check_r (by omega) (by omega) (by rw [e]; decide), e]; done)
                  | (have e := hF.trans (readsAt_8 (by omega) (by simpa using hc33) (met_mem (by omega) (by omega) hc47)); rw [check_r (by omega) (by omega) (by rw [e]; decide), e]; done)
                  | (have e := hF.trans (readsAt_5 (by omega) (by simpa using hc33) hnm ⟨hb14_3, hc56⟩); rw [check_r (by omega) (by omega) (by rw [e]; decide), e]; done)
                  | (have e := hG.trans (outsAt_1 (by omega) (by simpa using hc72)); rw [check_o (by omega) (by omega) hF, e]; done)
                  | (have e := hG.trans (outsAt_8 (by omega) (by simpa using hc72) (by omega) hc85); rw [check_o (by omega) (by omega) hF, e]; done)
                  | (have e := hG.trans (outsAt_2 (by omega) (by simpa using hc72) (by omega) hc85 (by rw [str_total (fun q => hc85 q.symm)]; simpa [hc85] using hc98)); rw [check_o (by omega) (by omega) hF, e]; done)
                  | (rw [outsAt_end] at hG; rw [check_o (by omega) (by omega) hF, hG]; done)
               ·
                intro hc72
                first
                | exact PrN hc72
                | ((try simp only [Pr] at hc72); exfalso; omega)
                | (try simp only [Pr] at hc72)
                  refine HWp.skip ?_
                  refine onNorm_n ?_
                  refine HWp.seq ?_
                  refine HWp.seq ?_
                  refine HWp.text (.rd 0 (.rd 1 (.rd 2 (.rd 3 (.rd 4 (.rd 5 (.rd 6 (.rd 7 (.rd 8 (.rd 9 (.rd 10 (.rd 11 (.rd 12 .done))))))))))))) rfl ?_
                  refine HPlan.move rfl rfl rfl ?_
                  refine HPlan.intBin rfl rfl rfl rfl rfl rfl ?_
                  refine HPlan.move rfl rfl rfl ?_
                  refine HPlan.split ?_ ?_
                  ·
                   intro hb22_2
                   first
                   | exact PrN hb22_2
                   | ((try simp only [Pr] at hb22_2); exfalso; omega)
                   | (try simp only [Pr] at hb22_2)
                     refine HPlan.fieldAddr rfl rfl rfl rfl q_fo_28_2 rfl ?_
                     first
                     | refine HPlan.loadI rfl rfl rfl q_sh_26 (by constructor <;> first | rfl | decide | omega | exact Nat.le_refl _ | (simp [digC_len, dgV, LV.cells, readDC_len, readDV, madeDC_len, madeDV, traceDC_len, traceDV]; done) | (simp [digC_len, dgV, LV.cells, readDC_len, readDV, madeDC_len, madeDV, traceDC_len, traceDV]; omega)) (by first | exact (traceD_outs _) | rfl) ?_
                     | refine HPlan.load rfl rfl rfl q_sh_26 (by repeat (first | exact List.Mem.head _ | apply List.Mem.tail | assumption)) (by constructor <;> first | rfl | decide | omega | exact Nat.le_refl _ | (simp [digC_len, dgV, LV.cells, readDC_len, readDV, madeDC_len, madeDV, traceDC_len, traceDV]; done) | (simp [digC_len, dgV, LV.cells, readDC_len, readDV, madeDC_len, madeDV, traceDC_len, traceDV]; omega)) (by first | exact (traceD_outs _) | rfl) ?_
                     refine HPlan.move rfl rfl rfl ?_
                     refine HPlan.intBin rfl rfl rfl rfl rfl (sub_one (by omega) (by omega)) ?_
                     refine HPlan.indexS rfl rfl rfl rfl q_ix_26 (by first | exact IsSl.sl | exact IsSl.nils | assumption | exact growV_isSl (by assumption) | exact SlD.ok _) (by omega) (by simp only [List.length_map]; omega) (at_map (k := q - 1) (by omega)) ?_
                     refine HPlan.fieldAddr rfl rfl rfl rfl q_fo_73_0 rfl ?_
                     first
                     | refine HPlan.loadI rfl rfl rfl q_sh_9 (by constructor <;> first | rfl | decide | omega | exact Nat.le_refl _ | (simp [digC_len, dgV, LV.cells, readDC_len, readDV, madeDC_len, madeDV, traceDC_len, traceDV]; done) | (simp [digC_len, dgV, LV.cells, readDC_len, readDV, madeDC_len, madeDV, traceDC_len, traceDV]; omega)) (by first | exact (readD_path _) | exact (madeD_path _) | exact (piece_load _) | rfl) ?_
                     | refine HPlan.load rfl rfl rfl q_sh_9 (by repeat (first | exact List.Mem.head _ | apply List.Mem.tail | assumption)) (by constructor <;> first | rfl | decide | omega | exact Nat.le_refl _ | (simp [digC_len, dgV, LV.cells, readDC_len, readDV, madeDC_len, madeDV, traceDC_len, traceDV]; done) | (simp [digC_len, dgV, LV.cells, readDC_len, readDV, madeDC_len, madeDV, traceDC_len, traceDV]; omega)) (by first | exact (readD_path _) | exact (madeD_path _) | exact (piece_load _) | rfl) ?_
                     refine HPlan.move rfl rfl rfl ?_
                     refine HPlan.strBin rfl rfl rfl rfl trivial rfl ?_
                     refine HPlan.pickT rfl rfl rfl rfl ?_
                     refine HPlan.fin ?_
                     refine onNorm_n ?_
                     refine HWp.cond rfl ?_ ?_
                     ·
                      intro hc85
                      first
                      | exact PrN hc85
                      | ((try simp only [Pr] at hc85); exfalso; omega)
                      | (try simp only [Pr] at hc85)
                        refine HWp.seq ?_
                        refine HWp.text (.rd 0 .done) rfl ?_
                        refine HPlan.assign rfl rfl rfl ?_
                        refine HPlan.fin ?_
                        refine onNorm_n ?_
                        refine HWp.ret ?_
                        refine onNorm_r ?_
                        refine onExitH_r ?_
                        refine onNorm_r ?_
                        refine onNorm_r ?_
                        refine onExitH_r ?_
                        refine onNorm_r ?_
                        refine retQ_r (.tmp rfl .nil) ?_
                        refine endK_of ⟨?_, rfl, rfl⟩ (by repeat (first | exact Part.refl _ | refine Part.pull (by repeat (first | exact Pull.here | apply Pull.there)) ?_ | refine Part.skip _ ?_ | exact Part.nil _ | exact Part.app _ _ | exact Part.appL _ _ | refine Part.appR _ ?_)) (by repeat (first | exact Part.refl _ | refine Part.pull (by repeat (first | exact Pull.here | apply Pull.there)) ?_ | refine Part.skip _ ?_ | exact Part.nil _ | exact Part.app _ _ | exact Part.appL _ _ | refine Part.appR _ ?_))
                        refine congrArg (LV.int .i64) ?_
                        first
                        | exact (check_6 (by omega)).symm
                        | (have e := hF.trans (readsAt_1 (by omega) (by simpa using hc33)); rw [check_r (by omega) (by omega) (by rw [e]; decide), e]; done)
                        | (have e := hF.trans (readsAt_8 (by omega) (by simpa using hc33) (met_mem (by omega) (by omega) hc47)); rw [check_r (by omega) (by omega) (by rw [e]; decide), e]; done)
                        | (have e := hF.trans (readsAt_5 (by omega) (by simpa using hc33) hnm ⟨hb14_3, hc56⟩); rw [check_r (by omega) (by omega) (by rw [e]; decide), e]; done)
                        | (have e := hG.trans (outsAt_1 (by omega) (by simpa using hc72)); rw [check_o (by omega) (by omega) hF, e]; done)
                        | (have e := hG.trans (outsAt_8 (by omega) (by simpa using hc72) (by omega) hc85); rw [check_o (by omega) (by omega) hF, e]; done)
                        | (have e := hG.trans (outsAt_2 (by omega) (by simpa using hc72) (by omega) hc85 (by rw [str_total (fun q => hc85 q.symm)]; simpa [hc85] using hc98)); rw [check_o (by omega) (by omega) hF, e]; done)
                        | (rw [outsAt_end] at hG; rw [check_o (by omega) (by omega) hF, hG]; done)
                     ·
                      intro hc85
                      first
                      | exact PrN hc85
                      | ((try simp only [Pr] at hc85); exfalso; omega)
                      | (try simp only [Pr] at hc85)
                        refine HWp.skip ?_
                        refine onNorm_n ?_
                        refine HWp.seq ?_
                        refine HWp.text (.rd 0 (.rd 1 (.rd 2 (.rd 3 (.rd 4 (.rd 5 (.rd 6 (.rd 7 (.rd 8 (.rd 9 (.rd 10 (.rd 11 (.rd 12 .done))))))))))))) rfl ?_
                        refine HPlan.move rfl rfl rfl ?_
                        refine HPlan.intBin rfl rfl rfl rfl rfl rfl ?_
                        refine HPlan.move rfl rfl rfl ?_
                        refine HPlan.split ?_ ?_
                        ·
                         intro hb24_2
                         first
                         | exact PrN hb24_2
                         | ((try simp only [Pr] at hb24_2); exfalso; omega)
                         | (try simp only [Pr] at hb24_2)
                           refine HPlan.fieldAddr rfl rfl rfl rfl q_fo_28_2 rfl ?_
                           first
                           | refine HPlan.loadI rfl rfl rfl q_sh_26 (by constructor <;> first | rfl | decide | omega | exact Nat.le_refl _ | (simp [digC_len, dgV, LV.cells, readDC_len, readDV, madeDC_len, madeDV, traceDC_len, traceDV]; done) | (simp [digC_len, dgV, LV.cells, readDC_len, readDV, madeDC_len, madeDV, traceDC_len, traceDV]; omega)) (by first | exact (traceD_outs _) | rfl) ?_
                           | refine HPlan.load rfl rfl rfl q_sh_26 (by repeat (first | exact List.Mem.head _ | apply List.Mem.tail | assumption)) (by constructor <;> first | rfl | decide | omega | exact Nat.le_refl _ | (simp [digC_len, dgV, LV.cells, readDC_len, readDV, madeDC_len, madeDV, traceDC_len, traceDV]; done) | (simp [digC_len, dgV, LV.cells, readDC_len, readDV, madeDC_len, madeDV, traceDC_len, traceDV]; omega)) (by first | exact (traceD_outs _) | rfl) ?_
                           refine HPlan.move rfl rfl rfl ?_
                           refine HPlan.intBin rfl rfl rfl rfl rfl (sub_one (by omega) (by omega)) ?_
                           refine HPlan.indexS rfl rfl rfl rfl q_ix_26 (by first | exact IsSl.sl | exact IsSl.nils | assumption | exact growV_isSl (by assumption) | exact SlD.ok _) (by omega) (by simp only [List.length_map]; omega) (at_map (k := q - 1) (by omega)) ?_
                           refine HPlan.fieldAddr rfl rfl rfl rfl q_fo_73_0 rfl ?_
                           first
                           | refine HPlan.loadI rfl rfl rfl q_sh_9 (by constructor <;> first | rfl | decide | omega | exact Nat.le_refl _ | (simp [digC_len, dgV, LV.cells, readDC_len, readDV, madeDC_len, madeDV, traceDC_len, traceDV]; done) | (simp [digC_len, dgV, LV.cells, readDC_len, readDV, madeDC_len, madeDV, traceDC_len, traceDV]; omega)) (by first | exact (readD_path _) | exact (madeD_path _) | exact (piece_load _) | rfl) ?_
                           | refine HPlan.load rfl rfl rfl q_sh_9 (by repeat (first | exact List.Mem.head _ | apply List.Mem.tail | assumption)) (by constructor <;> first | rfl | decide | omega | exact Nat.le_refl _ | (simp [digC_len, dgV, LV.cells, readDC_len, readDV, madeDC_len, madeDV, traceDC_len, traceDV]; done) | (simp [digC_len, dgV, LV.cells, readDC_len, readDV, madeDC_len, madeDV, traceDC_len, traceDV]; omega)) (by first | exact (readD_path _) | exact (madeD_path _) | exact (piece_load _) | rfl) ?_
                           refine HPlan.move rfl rfl rfl ?_
                           refine HPlan.strBin rfl rfl rfl rfl trivial rfl ?_
                           refine HPlan.pickT rfl rfl rfl rfl ?_
                           refine HPlan.fin ?_
                           refine onNorm_n ?_
                           refine HWp.cond rfl ?_ ?_
                           ·
                            intro hc98
                            first
                            | exact PrN hc98
                            | ((try simp only [Pr] at hc98); exfalso; omega)
                            | (try simp only [Pr] at hc98)
                              refine HWp.seq ?_
                              refine HWp.text (.rd 0 .done) rfl ?_
                              refine HPlan.assign rfl rfl rfl ?_
                              refine HPlan.fin ?_
                              refine onNorm_n ?_
                              refine HWp.ret ?_
                              refine onExitH_r ?_
                              refine onNorm_r ?_
                              refine onNorm_r ?_
                              refine onExitH_r ?_
                              refine onNorm_r ?_
                              refine retQ_r (.tmp rfl .nil) ?_
                              refine endK_of ⟨?_, rfl, rfl⟩ (by repeat (first | exact Part.refl _ | refine Part.pull (by repeat (first | exact Pull.here | apply Pull.there)) ?_ | refine Part.skip _ ?_ | exact Part.nil _ | exact Part.app _ _ | exact Part.appL _ _ | refine Part.appR _ ?_)) (by repeat (first | exact Part.refl _ | refine Part.pull (by repeat (first | exact Pull.here | apply Pull.there)) ?_ | refine Part.skip _ ?_ | exact Part.nil _ | exact Part.app _ _ | exact Part.appL _ _ | refine Part.appR _ ?_))
                              refine congrArg (LV.int .i64) ?_
                              first
                              | exact (check_6 (by omega)).symm
                              | (have e := hF.trans (readsAt_1 (by omega) (by simpa using hc33)); rw [check_r (by omega) (by omega) (by rw [e]; decide), e]; done)
                              | (have e := hF.trans (readsAt_8 (by omega) (by simpa using hc33) (met_mem (by omega) (by omega) hc47)); rw [check_r (by omega) (by omega) (by rw [e]; decide), e]; done)
                              | (have e := hF.trans (readsAt_5 (by omega) (by simpa using hc33) hnm ⟨hb14_3, hc56⟩); rw [check_r (by omega) (by omega) (by rw [e]; decide), e]; done)
                              | (have e := hG.trans (outsAt_1 (by omega) (by simpa using hc72)); rw [check_o (by omega) (by omega) hF, e]; done)
                              | (have e := hG.trans (outsAt_8 (by omega) (by simpa using hc72) (by omega) hc85); rw [check_o (by omega) (by omega) hF, e]; done)
                              | (have e := hG.trans (outsAt_2 (by omega) (by simpa using hc72) (by omega) hc85 (by rw [str_total (fun q => hc85 q.symm)]; simpa [hc85] using hc98)); rw [check_o (by omega) (by omega) hF, e]; done)
                              | (rw [outsAt_end] at hG; rw [check_o (by omega) (by omega) hF, hG]; done)
                           ·
                            intro hc98
                            first
                            | exact PrN hc98
                            | ((try simp only [Pr] at hc98); exfalso; omega)
                            | (try simp only [Pr] at hc98)
                              refine HWp.skip ?_
                              refine onExitH_n ?_
                              refine onNorm_n ?_
                              refine HWp.text (.rd 0 (.rd 1 (.rd 2 .done))) rfl ?_
                              have hG1 : outsF t.outs.l = outsAt t.outs.l (q + 1) := hG.trans (outsAt_step (by omega) (by simpa using hc72) (fun h0 => by first | omega | (refine ⟨hc85, ?_⟩; rw [str_total (fun q => hc85 q.symm)]; simpa [hc85] using hc98)))
                              refine HPlan.move rfl rfl rfl ?_
                              refine HPlan.intBin rfl rfl rfl rfl rfl (by first | exact add_i64 (by omega) (by omega) | rfl) ?_
                              refine HPlan.assign rfl rfl rfl ?_
                              refine HPlan.fin ?_
                              refine onNorm_n ?_
                              refine ⟨(q + 1), (by omega), ⟨by omega, hG1⟩, (LessE.less (by repeat (first | exact LessE.nil | refine LessE.same rfl ?_ | refine LessE.own rfl ?_ | refine LessE.eq rfl ?_ (by first | rfl | (congr 1; omega) | simp))) rfl), (by repeat (first | exact Part.refl _ | refine Part.pull (by repeat (first | exact Pull.here | apply Pull.there)) ?_ | refine Part.skip _ ?_ | exact Part.nil _ | exact Part.app _ _ | exact Part.appL _ _ | refine Part.appR _ ?_)), (by repeat (first | exact Part.refl _ | refine Part.pull (by repeat (first | exact Pull.here | apply Pull.there)) ?_ | refine Part.skip _ ?_ | exact Part.nil _ | exact Part.app _ _ | exact Part.appL _ _ | refine Part.appR _ ?_))⟩
                        ·
                         intro hb24_2
                         first
                         | exact PrN hb24_2
                         | ((try simp only [Pr] at hb24_2); exfalso; omega)
                         | (try simp only [Pr] at hb24_2)
                           refine HPlan.leftR rfl rfl ?_
                           refine HPlan.leftR rfl rfl ?_
                           refine HPlan.leftR rfl rfl ?_
                           refine HPlan.leftR rfl rfl ?_
                           refine HPlan.leftR rfl rfl ?_
                           refine HPlan.leftR rfl rfl ?_
                           refine HPlan.leftR rfl rfl ?_
                           refine HPlan.leftR rfl rfl ?_
                           refine HPlan.leftR rfl rfl ?_
                           refine HPlan.pickF rfl rfl rfl rfl ?_
                           refine HPlan.fin ?_
                           refine onNorm_n ?_
                           refine HWp.cond_f rfl ?_
                           refine HWp.skip ?_
                           refine onExitH_n ?_
                           refine onNorm_n ?_
                           refine HWp.text (.rd 0 (.rd 1 (.rd 2 .done))) rfl ?_
                           have hG1 : outsF t.outs.l = outsAt t.outs.l (q + 1) := hG.trans (outsAt_step (by omega) (by simpa using hc72) (fun h0 => by first | omega | (refine ⟨hc85, ?_⟩; rw [str_total (fun q => hc85 q.symm)]; simpa [hc85] using hc98)))
                           refine HPlan.move rfl rfl rfl ?_
                           refine HPlan.intBin rfl rfl rfl rfl rfl (by first | exact add_i64 (by omega) (by omega) | rfl) ?_
                           refine HPlan.assign rfl rfl rfl ?_
                           refine HPlan.fin ?_
                           refine onNorm_n ?_
                           refine ⟨(q + 1), (by omega), ⟨by omega, hG1⟩, (LessE.less (by repeat (first | exact LessE.nil | refine LessE.same rfl ?_ | refine LessE.own rfl ?_ | refine LessE.eq rfl ?_ (by first | rfl | (congr 1; omega) | simp))) rfl), (by repeat (first | exact Part.refl _ | refine Part.pull (by repeat (first | exact Pull.here | apply Pull.there)) ?_ | refine Part.skip _ ?_ | exact Part.nil _ | exact Part.app _ _ | exact Part.appL _ _ | refine Part.appR _ ?_)), (by repeat (first | exact Part.refl _ | refine Part.pull (by repeat (first | exact Pull.here | apply Pull.there)) ?_ | refine Part.skip _ ?_ | exact Part.nil _ | exact Part.app _ _ | exact Part.appL _ _ | refine Part.appR _ ?_))⟩
                  ·
                   intro hb22_2
                   first
                   | exact PrN hb22_2
                   | ((try simp only [Pr] at hb22_2); exfalso; omega)
                   | (try simp only [Pr] at hb22_2)
                     refine HPlan.leftR rfl rfl ?_
                     refine HPlan.leftR rfl rfl ?_
                     refine HPlan.leftR rfl rfl ?_
                     refine HPlan.leftR rfl rfl ?_
                     refine HPlan.leftR rfl rfl ?_
                     refine HPlan.leftR rfl rfl ?_
                     refine HPlan.leftR rfl rfl ?_
                     refine HPlan.leftR rfl rfl ?_
                     refine HPlan.leftR rfl rfl ?_
                     refine HPlan.pickF rfl rfl rfl rfl ?_
                     refine HPlan.fin ?_
                     refine onNorm_n ?_
                     refine HWp.cond_f rfl ?_
                     refine HWp.skip ?_
                     refine onNorm_n ?_
                     refine HWp.seq ?_
                     refine HWp.text (.rd 0 (.rd 1 (.rd 2 (.rd 3 (.rd 4 (.rd 5 (.rd 6 (.rd 7 (.rd 8 (.rd 9 (.rd 10 (.rd 11 (.rd 12 .done))))))))))))) rfl ?_
                     refine HPlan.move rfl rfl rfl ?_
                     refine HPlan.intBin rfl rfl rfl rfl rfl rfl ?_
                     refine HPlan.move rfl rfl rfl ?_
                     refine HPlan.split ?_ ?_
                     ·
                      intro hb24_2
                      first
                      | exact PrN hb24_2
                      | ((try simp only [Pr] at hb24_2); exfalso; omega)
                      | (try simp only [Pr] at hb24_2)
                        refine HPlan.fieldAddr rfl rfl rfl rfl q_fo_28_2 rfl ?_
                        first
                        | refine HPlan.loadI rfl rfl rfl q_sh_26 (by constructor <;> first | rfl | decide | omega | exact Nat.le_refl _ | (simp [digC_len, dgV, LV.cells, readDC_len, readDV, madeDC_len, madeDV, traceDC_len, traceDV]; done) | (simp [digC_len, dgV, LV.cells, readDC_len, readDV, madeDC_len, madeDV, traceDC_len, traceDV]; omega)) (by first | exact (traceD_outs _) | rfl) ?_
                        | refine HPlan.load rfl rfl rfl q_sh_26 (by repeat (first | exact List.Mem.head _ | apply List.Mem.tail | assumption)) (by constructor <;> first | rfl | decide | omega | exact Nat.le_refl _ | (simp [digC_len, dgV, LV.cells, readDC_len, readDV, madeDC_len, madeDV, traceDC_len, traceDV]; done) | (simp [digC_len, dgV, LV.cells, readDC_len, readDV, madeDC_len, madeDV, traceDC_len, traceDV]; omega)) (by first | exact (traceD_outs _) | rfl) ?_
                        refine HPlan.move rfl rfl rfl ?_
                        refine HPlan.intBin rfl rfl rfl rfl rfl (sub_one (by omega) (by omega)) ?_
                        refine HPlan.indexS rfl rfl rfl rfl q_ix_26 (by first | exact IsSl.sl | exact IsSl.nils | assumption | exact growV_isSl (by assumption) | exact SlD.ok _) (by omega) (by simp only [List.length_map]; omega) (at_map (k := q - 1) (by omega)) ?_
                        refine HPlan.fieldAddr rfl rfl rfl rfl q_fo_73_0 rfl ?_
                        first
                        | refine HPlan.loadI rfl rfl rfl q_sh_9 (by constructor <;> first | rfl | decide | omega | exact Nat.le_refl _ | (simp [digC_len, dgV, LV.cells, readDC_len, readDV, madeDC_len, madeDV, traceDC_len, traceDV]; done) | (simp [digC_len, dgV, LV.cells, readDC_len, readDV, madeDC_len, madeDV, traceDC_len, traceDV]; omega)) (by first | exact (readD_path _) | exact (madeD_path _) | exact (piece_load _) | rfl) ?_
                        | refine HPlan.load rfl rfl rfl q_sh_9 (by repeat (first | exact List.Mem.head _ | apply List.Mem.tail | assumption)) (by constructor <;> first | rfl | decide | omega | exact Nat.le_refl _ | (simp [digC_len, dgV, LV.cells, readDC_len, readDV, madeDC_len, madeDV, traceDC_len, traceDV]; done) | (simp [digC_len, dgV, LV.cells, readDC_len, readDV, madeDC_len, madeDV, traceDC_len, traceDV]; omega)) (by first | exact (readD_path _) | exact (madeD_path _) | exact (piece_load _) | rfl) ?_
                        refine HPlan.move rfl rfl rfl ?_
                        refine HPlan.strBin rfl rfl rfl rfl trivial rfl ?_
                        refine HPlan.pickT rfl rfl rfl rfl ?_
                        refine HPlan.fin ?_
                        refine onNorm_n ?_
                        refine HWp.cond rfl ?_ ?_
                        ·
                         intro hc98
                         first
                         | exact PrN hc98
                         | ((try simp only [Pr] at hc98); exfalso; omega)
                         | (try simp only [Pr] at hc98)
                           refine HWp.seq ?_
                           refine HWp.text (.rd 0 .done) rfl ?_
                           refine HPlan.assign rfl rfl rfl ?_
                           refine HPlan.fin ?_
                           refine onNorm_n ?_
                           refine HWp.ret ?_
                           refine onExitH_r ?_
                           refine onNorm_r ?_
                           refine onNorm_r ?_
                           refine onExitH_r ?_
                           refine onNorm_r ?_
                           refine retQ_r (.tmp rfl .nil) ?_
                           refine endK_of ⟨?_, rfl, rfl⟩ (by repeat (first | exact Part.refl _ | refine Part.pull (by repeat (first | exact Pull.here | apply Pull.there)) ?_ | refine Part.skip _ ?_ | exact Part.nil _ | exact Part.app _ _ | exact Part.appL _ _ | refine Part.appR _ ?_)) (by repeat (first | exact Part.refl _ | refine Part.pull (by repeat (first | exact Pull.here | apply Pull.there)) ?_ | refine Part.skip _ ?_ | exact Part.nil _ | exact Part.app _ _ | exact Part.appL _ _ | refine Part.appR _ ?_))
                           refine congrArg (LV.int .i64) ?_
                           first
                           | exact (check_6 (by omega)).symm
                           | (have e := hF.trans (readsAt_1 (by omega) (by simpa using hc33)); rw [check_r (by omega) (by omega) (by rw [e]; decide), e]; done)
                           | (have e := hF.trans (readsAt_8 (by omega) (by simpa using hc33) (met_mem (by omega) (by omega) hc47)); rw [check_r (by omega) (by omega) (by rw [e]; decide), e]; done)
                           | (have e := hF.trans (readsAt_5 (by omega) (by simpa using hc33) hnm ⟨hb14_3, hc56⟩); rw [check_r (by omega) (by omega) (by rw [e]; decide), e]; done)
                           | (have e := hG.trans (outsAt_1 (by omega) (by simpa using hc72)); rw [check_o (by omega) (by omega) hF, e]; done)
                           | (have e := hG.trans (outsAt_8 (by omega) (by simpa using hc72) (by omega) hc85); rw [check_o (by omega) (by omega) hF, e]; done)
                           | (have e := hG.trans (outsAt_2 (by omega) (by simpa using hc72) (by omega) hc85 (by rw [str_total (fun q => hc85 q.symm)]; simpa [hc85] using hc98)); rw [check_o (by omega) (by omega) hF, e]; done)
                           | (rw [outsAt_end] at hG; rw [check_o (by omega) (by omega) hF, hG]; done)
                        ·
                         intro hc98
                         first
                         | exact PrN hc98
                         | ((try simp only [Pr] at hc98); exfalso; omega)
                         | (try simp only [Pr] at hc98)
                           refine HWp.skip ?_
                           refine onExitH_n ?_
                           refine onNorm_n ?_
                           refine HWp.text (.rd 0 (.rd 1 (.rd 2 .done))) rfl ?_
                           have hG1 : outsF t.outs.l = outsAt t.outs.l (q + 1) := hG.trans (outsAt_step (by omega) (by simpa using hc72) (fun h0 => by first | omega | (refine ⟨hc85, ?_⟩; rw [str_total (fun q => hc85 q.symm)]; simpa [hc85] using hc98)))
                           refine HPlan.move rfl rfl rfl ?_
                           refine HPlan.intBin rfl rfl rfl rfl rfl (by first | exact add_i64 (by omega) (by omega) | rfl) ?_
                           refine HPlan.assign rfl rfl rfl ?_
                           refine HPlan.fin ?_
                           refine onNorm_n ?_
                           refine ⟨(q + 1), (by omega), ⟨by omega, hG1⟩, (LessE.less (by repeat (first | exact LessE.nil | refine LessE.same rfl ?_ | refine LessE.own rfl ?_ | refine LessE.eq rfl ?_ (by first | rfl | (congr 1; omega) | simp))) rfl), (by repeat (first | exact Part.refl _ | refine Part.pull (by repeat (first | exact Pull.here | apply Pull.there)) ?_ | refine Part.skip _ ?_ | exact Part.nil _ | exact Part.app _ _ | exact Part.appL _ _ | refine Part.appR _ ?_)), (by repeat (first | exact Part.refl _ | refine Part.pull (by repeat (first | exact Pull.here | apply Pull.there)) ?_ | refine Part.skip _ ?_ | exact Part.nil _ | exact Part.app _ _ | exact Part.appL _ _ | refine Part.appR _ ?_))⟩
                     ·
                      intro hb24_2
                      first
                      | exact PrN hb24_2
                      | ((try simp only [Pr] at hb24_2); exfalso; omega)
                      | (try simp only [Pr] at hb24_2)
                        refine HPlan.leftR rfl rfl ?_
                        refine HPlan.leftR rfl rfl ?_
                        refine HPlan.leftR rfl rfl ?_
                        refine HPlan.leftR rfl rfl ?_
                        refine HPlan.leftR rfl rfl ?_
                        refine HPlan.leftR rfl rfl ?_
                        refine HPlan.leftR rfl rfl ?_
                        refine HPlan.leftR rfl rfl ?_
                        refine HPlan.leftR rfl rfl ?_
                        refine HPlan.pickF rfl rfl rfl rfl ?_
                        refine HPlan.fin ?_
                        refine onNorm_n ?_
                        refine HWp.cond_f rfl ?_
                        refine HWp.skip ?_
                        refine onExitH_n ?_
                        refine onNorm_n ?_
                        refine HWp.text (.rd 0 (.rd 1 (.rd 2 .done))) rfl ?_
                        have hG1 : outsF t.outs.l = outsAt t.outs.l (q + 1) := hG.trans (outsAt_step (by omega) (by simpa using hc72) (fun h0 => by first | omega | (refine ⟨hc85, ?_⟩; rw [str_total (fun q => hc85 q.symm)]; simpa [hc85] using hc98)))
                        refine HPlan.move rfl rfl rfl ?_
                        refine HPlan.intBin rfl rfl rfl rfl rfl (by first | exact add_i64 (by omega) (by omega) | rfl) ?_
                        refine HPlan.assign rfl rfl rfl ?_
                        refine HPlan.fin ?_
                        refine onNorm_n ?_
                        refine ⟨(q + 1), (by omega), ⟨by omega, hG1⟩, (LessE.less (by repeat (first | exact LessE.nil | refine LessE.same rfl ?_ | refine LessE.own rfl ?_ | refine LessE.eq rfl ?_ (by first | rfl | (congr 1; omega) | simp))) rfl), (by repeat (first | exact Part.refl _ | refine Part.pull (by repeat (first | exact Pull.here | apply Pull.there)) ?_ | refine Part.skip _ ?_ | exact Part.nil _ | exact Part.app _ _ | exact Part.appL _ _ | refine Part.appR _ ?_)), (by repeat (first | exact Part.refl _ | refine Part.pull (by repeat (first | exact Pull.here | apply Pull.there)) ?_ | refine Part.skip _ ?_ | exact Part.nil _ | exact Part.app _ _ | exact Part.appL _ _ | refine Part.appR _ ?_))⟩
            ·
             intro hc61
             first
             | exact PrN hc61
             | ((try simp only [Pr] at hc61); exfalso; omega)
             | (try simp only [Pr] at hc61)
               refine HWp.exit ?_
               refine onNorm_e ?_
               refine onNorm_e ?_
               obtain rfl : q = t.outs.l.length := by omega
               refine onExitH_hit ?_
               refine onNorm_n ?_
               refine HWp.seq ?_
               refine HWp.text (.rd 0 .done) rfl ?_
               refine HPlan.assign rfl rfl rfl ?_
               refine HPlan.fin ?_
               refine onNorm_n ?_
               refine HWp.ret ?_
               refine retQ_r (.tmp rfl .nil) ?_
               refine endK_of ⟨?_, rfl, rfl⟩ (by repeat (first | exact Part.refl _ | refine Part.pull (by repeat (first | exact Pull.here | apply Pull.there)) ?_ | refine Part.skip _ ?_ | exact Part.nil _ | exact Part.app _ _ | exact Part.appL _ _ | refine Part.appR _ ?_)) (by repeat (first | exact Part.refl _ | refine Part.pull (by repeat (first | exact Pull.here | apply Pull.there)) ?_ | refine Part.skip _ ?_ | exact Part.nil _ | exact Part.app _ _ | exact Part.appL _ _ | refine Part.appR _ ?_))
               refine congrArg (LV.int .i64) ?_
               first
               | exact (check_6 (by omega)).symm
               | (have e := hF.trans (readsAt_1 (by omega) (by simpa using hc33)); rw [check_r (by omega) (by omega) (by rw [e]; decide), e]; done)
               | (have e := hF.trans (readsAt_8 (by omega) (by simpa using hc33) (met_mem (by omega) (by omega) hc47)); rw [check_r (by omega) (by omega) (by rw [e]; decide), e]; done)
               | (have e := hF.trans (readsAt_5 (by omega) (by simpa using hc33) hnm ⟨hb14_3, hc56⟩); rw [check_r (by omega) (by omega) (by rw [e]; decide), e]; done)
               | (have e := hG.trans (outsAt_1 (by omega) (by simpa using hc72)); rw [check_o (by omega) (by omega) hF, e]; done)
               | (have e := hG.trans (outsAt_8 (by omega) (by simpa using hc72) (by omega) hc85); rw [check_o (by omega) (by omega) hF, e]; done)
               | (have e := hG.trans (outsAt_2 (by omega) (by simpa using hc72) (by omega) hc85 (by rw [str_total (fun q => hc85 q.symm)]; simpa [hc85] using hc98)); rw [check_o (by omega) (by omega) hF, e]; done)
               | (rw [outsAt_end] at hG; rw [check_o (by omega) (by omega) hF, hG]; done)
end Go.Proofs.YthfoobfgdakbmaaDoor

set_option linter.unusedVariables false
set_option linter.unusedSimpArgs false
set_option maxRecDepth 100000
namespace Go.Proofs.YthfoobfgdakbmaaDoor
open Go Go.RowKit Go.L
theorem q_f_62 : Tryd.prog.funcs[62]? = some Tryd.f62 := by kernel_rfl
theorem q_f_63 : Tryd.prog.funcs[63]? = some Tryd.f63 := by kernel_rfl
theorem q_en_62 : enterable Tryd.prog 62 = true := by kernel_rfl
theorem q_en_63 : enterable Tryd.prog 63 = true := by kernel_rfl
theorem q_f_36 : Tryd.prog.funcs[36]? = some Tryd.f36 := by kernel_rfl
theorem q_f_66 : Tryd.prog.funcs[66]? = some Tryd.f66 := by kernel_rfl
theorem q_se_25 : sliceElem Tryd.prog 25 = some (66, 34) := by kernel_rfl
theorem q_zs_66 : (zeroOf Tryd.prog 66).isSome = true := by kernel_rfl
theorem q_el_25 : elemIn Tryd.prog 25 = some (66, 34, 56) := by kernel_rfl
theorem q_src_25 : srcTy Tryd.prog 25 = true := by kernel_rfl
theorem q_f_67 : Tryd.prog.funcs[67]? = some Tryd.f67 := by kernel_rfl
theorem q_se_26 : sliceElem Tryd.prog 26 = some (73, 33) := by kernel_rfl
theorem q_zs_73 : (zeroOf Tryd.prog 73).isSome = true := by kernel_rfl
theorem q_el_26 : elemIn Tryd.prog 26 = some (73, 33, 48) := by kernel_rfl
theorem q_src_26 : srcTy Tryd.prog 26 = true := by kernel_rfl
theorem isSl_alt {k : Nat} {es : List LV} {v : LV} (h : IsSl k es v) : (es = [] ∧ v = .nils) ∨ ∃ o, v = .sl o k es := by
  cases h with
  | nils => exact .inl ⟨rfl, rfl⟩
  | sl => exact .inr ⟨_, rfl⟩
theorem eqr_spec (a b : SlD 34 readDV) : HPure Tryd.prog 62 [a.v, b.v] (.bool (decide (a.l = b.l))) := by
 have hsm1 := a.small
 have hsm2 := b.small
 intro L T
 refine HCalls.enterG q_f_62 rfl ?_
 refine HWp.frame (r' := ⟨26, [(0, a.v), (1, b.v)]⟩) rfl ?_
 refine HWp.seq ?_
 refine HWp.text (.rd 0 .done) rfl ?_
 refine HPlan.assign rfl rfl rfl ?_
 refine HPlan.fin ?_
 refine onNorm_n ?_
 refine HWp.seq ?_
 refine HWp.seq ?_
 refine HWp.text (.rd 0 (.rd 1 (.rd 2 (.rd 3 (.rd 4 .done))))) rfl ?_
 refine HPlan.move rfl rfl rfl ?_
 refine HPlan.lenS rfl rfl rfl q_tk_25 (by first | exact IsSl.sl | exact IsSl.nils | assumption | exact growV_isSl (by assumption) | exact SlD.ok _) (by first | rw [List.length_map] | rfl) ?_
 refine HPlan.move rfl rfl rfl ?_
 refine HPlan.lenS rfl rfl rfl q_tk_25 (by first | exact IsSl.sl | exact IsSl.nils | assumption | exact growV_isSl (by assumption) | exact SlD.ok _) (by first | rw [List.length_map] | rfl) ?_
 refine HPlan.intBin rfl rfl rfl rfl rfl rfl ?_
 refine HPlan.fin ?_
 refine onNorm_n ?_
 refine HWp.cond rfl ?_ ?_
 ·
  intro hc10
  first
  | exact PrN hc10
  | ((try simp only [Pr] at hc10); exfalso; omega)
  | (try simp only [Pr] at hc10)
    refine HWp.seq ?_
    refine HWp.text (.rd 0 .done) rfl ?_
    refine HPlan.assign rfl rfl rfl ?_
    refine HPlan.fin ?_
    refine onNorm_n ?_
    refine HWp.ret ?_
    refine onNorm_r ?_
    refine retQ_r (.tmp rfl .nil) ?_
    refine endK_of ⟨?_, rfl, rfl⟩ (by repeat (first | exact Part.refl _ | refine Part.pull (by repeat (first | exact Pull.here | apply Pull.there)) ?_ | refine Part.skip _ ?_ | exact Part.nil _ | exact Part.app _ _ | exact Part.appL _ _ | refine Part.appR _ ?_)) (by repeat (first | exact Part.refl _ | refine Part.pull (by repeat (first | exact Pull.here | apply Pull.there)) ?_ | refine Part.skip _ ?_ | exact Part.nil _ | exact Part.app _ _ | exact Part.appL _ _ | refine Part.appR _ ?_))
    refine congrArg LV.bool ?_
    first
    | exact (decide_eq_true (hag.eq (by omega))).symm
    | exact (decide_eq_false (fun h => hc24 (by simp only [h]))).symm
    | exact (decide_eq_false (fun h => hc10 (by rw [h]))).symm
 ·
  intro hc10
  first
  | exact PrN hc10
  | ((try simp only [Pr] at hc10); exfalso; omega)
  | (try simp only [Pr] at hc10)
    refine HWp.skip ?_
    refine onNorm_n ?_
    refine HWp.seq ?_
    refine HWp.seq ?_
    refine HWp.text (.rd 0 (.rd 1 (.rd 2 .done))) rfl ?_
    refine HPlan.move rfl rfl rfl ?_
    refine HPlan.lenS rfl rfl rfl q_tk_25 (by first | exact IsSl.sl | exact IsSl.nils | assumption | exact growV_isSl (by assumption) | exact SlD.ok _) (by first | rw [List.length_map] | rfl) ?_
    refine HPlan.move rfl rfl rfl ?_
    refine HPlan.fin ?_
    refine onNorm_n ?_
    refine HWp.block ?_
    refine HWp.loopF (α := Nat) (fun k => a.l.length - k) (fun k => k ≤ a.l.length ∧ AgreeTo a.l b.l k) (fun k => ⟨26, [(0, a.v), (1, b.v), (12, .int .i64 (a.l.length : Int)), (13, .int .i64 (k : Int))]⟩) (fun k => L) (fun k => T) ?_ ?_
    ·
     refine ⟨0, ⟨Nat.zero_le _, AgreeTo.zero _ _⟩, (LessE.less (by repeat (first | exact LessE.nil | refine LessE.same rfl ?_ | refine LessE.own rfl ?_ | refine LessE.eq rfl ?_ (by first | rfl | (congr 1; omega) | simp))) rfl), (by repeat (first | exact Part.refl _ | refine Part.pull (by repeat (first | exact Pull.here | apply Pull.there)) ?_ | refine Part.skip _ ?_ | exact Part.nil _ | exact Part.app _ _ | exact Part.appL _ _ | refine Part.appR _ ?_)), (by repeat (first | exact Part.refl _ | refine Part.pull (by repeat (first | exact Pull.here | apply Pull.there)) ?_ | refine Part.skip _ ?_ | exact Part.nil _ | exact Part.app _ _ | exact Part.appL _ _ | refine Part.appR _ ?_))⟩
    ·
     rintro k ⟨hk1, hag⟩
     refine HWp.seq ?_
     refine HWp.text (.rd 0 .done) rfl ?_
     refine HPlan.intBin rfl rfl rfl rfl rfl rfl ?_
     refine HPlan.fin ?_
     refine onNorm_n ?_
     refine HWp.seq ?_
     refine HWp.cond rfl ?_ ?_
     ·
      intro hc14
      first
      | exact PrN hc14
      | ((try simp only [Pr] at hc14); exfalso; omega)
      | (try simp only [Pr] at hc14)
        refine HWp.skip ?_
        refine onNorm_n ?_
        refine HWp.seq ?_
        refine HWp.block ?_
        refine HWp.seq ?_
        refine HWp.text (.rd 0 (.rd 1 .done)) rfl ?_
        refine HPlan.move rfl rfl rfl ?_
        refine HPlan.assign rfl rfl rfl ?_
        refine HPlan.fin ?_
        refine onNorm_n ?_
        refine HWp.seq ?_
        refine HWp.draw q_mix (.rd 0 (.rd 1 (.rd 2 (.rd 3 (.rd 4 (.rd 5 (.rd 6 (.rd 7 (.rd 8 .done))))))))) (by kernel_rfl) ?_
        refine HPlan.move rfl rfl rfl ?_
        refine HPlan.move rfl rfl rfl ?_
        refine HPlan.indexS rfl rfl rfl rfl q_ix_25 (by first | exact IsSl.sl | exact IsSl.nils | assumption | exact growV_isSl (by assumption) | exact SlD.ok _) (by omega) (by simp only [List.length_map]; omega) (by first | exact at_map (by omega) | rfl) ?_
        first
        | refine HPlan.loadI rfl rfl rfl q_sh_66 (by constructor <;> first | rfl | decide | omega | exact Nat.le_refl _ | (simp [digC_len, dgV, LV.cells, readDC_len, readDV, madeDC_len, madeDV, traceDC_len, traceDV]; done) | (simp [digC_len, dgV, LV.cells, readDC_len, readDV, madeDC_len, madeDV, traceDC_len, traceDV]; omega)) (by first | exact (readD_all _) | rfl) ?_
        | refine HPlan.load rfl rfl rfl q_sh_66 (by repeat (first | exact List.Mem.head _ | apply List.Mem.tail | assumption)) (by constructor <;> first | rfl | decide | omega | exact Nat.le_refl _ | (simp [digC_len, dgV, LV.cells, readDC_len, readDV, madeDC_len, madeDV, traceDC_len, traceDV]; done) | (simp [digC_len, dgV, LV.cells, readDC_len, readDV, madeDC_len, madeDV, traceDC_len, traceDV]; omega)) (by first | exact (readD_all _) | rfl) ?_
        refine HPlan.move rfl rfl rfl ?_
        refine HPlan.move rfl rfl rfl ?_
        refine HPlan.indexS rfl rfl rfl rfl q_ix_25 (by first | exact IsSl.sl | exact IsSl.nils | assumption | exact growV_isSl (by assumption) | exact SlD.ok _) (by omega) (by simp only [List.length_map]; omega) (by first | exact at_map (by omega) | rfl) ?_
        first
        | refine HPlan.loadI rfl rfl rfl q_sh_66 (by constructor <;> first | rfl | decide | omega | exact Nat.le_refl _ | (simp [digC_len, dgV, LV.cells, readDC_len, readDV, madeDC_len, madeDV, traceDC_len, traceDV]; done) | (simp [digC_len, dgV, LV.cells, readDC_len, readDV, madeDC_len, madeDV, traceDC_len, traceDV]; omega)) (by first | exact (readD_all _) | rfl) ?_
        | refine HPlan.load rfl rfl rfl q_sh_66 (by repeat (first | exact List.Mem.head _ | apply List.Mem.tail | assumption)) (by constructor <;> first | rfl | decide | omega | exact Nat.le_refl _ | (simp [digC_len, dgV, LV.cells, readDC_len, readDV, madeDC_len, madeDV, traceDC_len, traceDV]; done) | (simp [digC_len, dgV, LV.cells, readDC_len, readDV, madeDC_len, madeDV, traceDC_len, traceDV]; omega)) (by first | exact (readD_all _) | rfl) ?_
        refine HPlan.aggNe rfl rfl rfl rfl q_sh_66 q_ck_66 (by decide) q_eg_66 (readDC_len _) (readDC_len _) (readD_fit _) (readD_fit _) (readD_eq _ _) ?_
        refine HPlan.fin ?_
        refine onNorm_n ?_
        refine HWp.cond rfl ?_ ?_
        ·
         intro hc24
         first
         | exact PrN hc24
         | ((try simp only [Pr] at hc24); exfalso; omega)
         | (try simp only [Pr] at hc24)
           refine HWp.seq ?_
           refine HWp.text (.rd 0 .done) rfl ?_
           refine HPlan.assign rfl rfl rfl ?_
           refine HPlan.fin ?_
           refine onNorm_n ?_
           refine HWp.ret ?_
           refine onExitH_r ?_
           refine onNorm_r ?_
           refine onNorm_r ?_
           refine onExitH_r ?_
           refine onNorm_r ?_
           refine retQ_r (.tmp rfl .nil) ?_
           refine endK_of ⟨?_, rfl, rfl⟩ (by repeat (first | exact Part.refl _ | refine Part.pull (by repeat (first | exact Pull.here | apply Pull.there)) ?_ | refine Part.skip _ ?_ | exact Part.nil _ | exact Part.app _ _ | exact Part.appL _ _ | refine Part.appR _ ?_)) (by repeat (first | exact Part.refl _ | refine Part.pull (by repeat (first | exact Pull.here | apply Pull.there)) ?_ | refine Part.skip _ ?_ | exact Part.nil _ | exact Part.app _ _ | exact Part.appL _ _ | refine Part.appR _ ?_))
           refine congrArg LV.bool ?_
           first
           | exact (decide_eq_true (hag.eq (by omega))).symm
           | exact (decide_eq_false (fun h => hc24 (by simp only [h]))).symm
           | exact (decide_eq_false (fun h => hc10 (by rw [h]))).symm
        ·
         intro hc24
         first
         | exact PrN hc24
         | ((try simp only [Pr] at hc24); exfalso; omega)
         | (try simp only [Pr] at hc24)
           refine HWp.skip ?_
           refine onExitH_n ?_
           refine onNorm_n ?_
           refine HWp.text (.rd 0 (.rd 1 .done)) rfl ?_
           refine HPlan.intBin rfl rfl rfl rfl rfl (by first | exact add_i64 (by omega) (by omega) | rfl) ?_
           refine HPlan.move rfl rfl rfl ?_
           refine HPlan.fin ?_
           refine onNorm_n ?_
           refine ⟨(k + 1), (by omega), ⟨by omega, hag.step (by omega) (by omega) hc24⟩, (LessE.less (by repeat (first | exact LessE.nil | refine LessE.same rfl ?_ | refine LessE.own rfl ?_ | refine LessE.eq rfl ?_ (by first | rfl | (congr 1; omega) | simp))) rfl), (by repeat (first | exact Part.refl _ | refine Part.pull (by repeat (first | exact Pull.here | apply Pull.there)) ?_ | refine Part.skip _ ?_ | exact Part.nil _ | exact Part.app _ _ | exact Part.appL _ _ | refine Part.appR _ ?_)), (by repeat (first | exact Part.refl _ | refine Part.pull (by repeat (first | exact Pull.here | apply Pull.there)) ?_ | refine Part.skip _ ?_ | exact Part.nil _ | exact Part.app _ _ | exact Part.appL _ _ | refine Part.appR _ ?_))⟩
     ·
      intro hc14
      first
      | exact PrN hc14
      | ((try simp only [Pr] at hc14); exfalso; omega)
      | (try simp only [Pr] at hc14)
        refine HWp.exit ?_
        refine onNorm_e ?_
        refine onNorm_e ?_
        obtain rfl : k = a.l.length := by omega
        refine onExitH_hit ?_
        refine onNorm_n ?_
        refine HWp.seq ?_
        refine HWp.text (.rd 0 .done) rfl ?_
        refine HPlan.assign rfl rfl rfl ?_
        refine HPlan.fin ?_
        refine onNorm_n ?_
        refine HWp.ret ?_
        refine retQ_r (.tmp rfl .nil) ?_
        refine endK_of ⟨?_, rfl, rfl⟩ (by repeat (first | exact Part.refl _ | refine Part.pull (by repeat (first | exact Pull.here | apply Pull.there)) ?_ | refine Part.skip _ ?_ | exact Part.nil _ | exact Part.app _ _ | exact Part.appL _ _ | refine Part.appR _ ?_)) (by repeat (first | exact Part.refl _ | refine Part.pull (by repeat (first | exact Pull.here | apply Pull.there)) ?_ | refine Part.skip _ ?_ | exact Part.nil _ | exact Part.app _ _ | exact Part.appL _ _ | refine Part.appR _ ?_))
        refine congrArg LV.bool ?_
        first
        | exact (decide_eq_true (hag.eq (by omega))).symm
        | exact (decide_eq_false (fun h => hc24 (by simp only [h]))).symm
        | exact (decide_eq_false (fun h => hc10 (by rw [h]))).symm
theorem eqm_spec (a b : SlD 33 madeDV) : HPure Tryd.prog 63 [a.v, b.v] (.bool (decide (a.l = b.l))) := by
 have hsm1 := a.small
 have hsm2 := b.small
 intro L T
 refine HCalls.enterG q_f_63 rfl ?_
 refine HWp.frame (r' := ⟨26, [(0, a.v), (1, b.v)]⟩) rfl ?_
 refine HWp.seq ?_
 refine HWp.text (.rd 0 .done) rfl ?_
 refine HPlan.assign rfl rfl rfl ?_
 refine HPlan.fin ?_
 refine onNorm_n ?_
 refine HWp.seq ?_
 refine HWp.seq ?_
 refine HWp.text (.rd 0 (.rd 1 (.rd 2 (.rd 3 (.rd 4 .done))))) rfl ?_
 refine HPlan.move rfl rfl rfl ?_
 refine HPlan.lenS rfl rfl rfl q_tk_26 (by first | exact IsSl.sl | exact IsSl.nils | assumption | exact growV_isSl (by assumption) | exact SlD.ok _) (by first | rw [List.length_map] | rfl) ?_
 refine HPlan.move rfl rfl rfl ?_
 refine HPlan.lenS rfl rfl rfl q_tk_26 (by first | exact IsSl.sl | exact IsSl.nils | assumption | exact growV_isSl (by assumption) | exact SlD.ok _) (by first | rw [List.length_map] | rfl) ?_
 refine HPlan.intBin rfl rfl rfl rfl rfl rfl ?_
 refine HPlan.fin ?_
 refine onNorm_n ?_
 refine HWp.cond rfl ?_ ?_
 ·
  intro hc10
  first
  | exact PrN hc10
  | ((try simp only [Pr] at hc10); exfalso; omega)
  | (try simp only [Pr] at hc10)
    refine HWp.seq ?_
    refine HWp.text (.rd 0 .done) rfl ?_
    refine HPlan.assign rfl rfl rfl ?_
    refine HPlan.fin ?_
    refine onNorm_n ?_
    refine HWp.ret ?_
    refine onNorm_r ?_
    refine retQ_r (.tmp rfl .nil) ?_
    refine endK_of ⟨?_, rfl, rfl⟩ (by repeat (first | exact Part.refl _ | refine Part.pull (by repeat (first | exact Pull.here | apply Pull.there)) ?_ | refine Part.skip _ ?_ | exact Part.nil _ | exact Part.app _ _ | exact Part.appL _ _ | refine Part.appR _ ?_)) (by repeat (first | exact Part.refl _ | refine Part.pull (by repeat (first | exact Pull.here | apply Pull.there)) ?_ | refine Part.skip _ ?_ | exact Part.nil _ | exact Part.app _ _ | exact Part.appL _ _ | refine Part.appR _ ?_))
    refine congrArg LV.bool ?_
    first
    | exact (decide_eq_true (hag.eq (by omega))).symm
    | exact (decide_eq_false (fun h => hc24 (by simp only [h]))).symm
    | exact (decide_eq_false (fun h => hc10 (by rw [h]))).symm
 ·
  intro hc10
  first
  | exact PrN hc10
  | ((try simp only [Pr] at hc10); exfalso; omega)
  | (try simp only [Pr] at hc10)
    refine HWp.skip ?_
    refine onNorm_n ?_
    refine HWp.seq ?_
    refine HWp.seq ?_
    refine HWp.text (.rd 0 (.rd 1 (.rd 2 .done))) rfl ?_
    refine HPlan.move rfl rfl rfl ?_
    refine HPlan.lenS rfl rfl rfl q_tk_26 (by first | exact IsSl.sl | exact IsSl.nils | assumption | exact growV_isSl (by assumption) | exact SlD.ok _) (by first | rw [List.length_map] | rfl) ?_
    refine HPlan.move rfl rfl rfl ?_
    refine HPlan.fin ?_
    refine onNorm_n ?_
    refine HWp.block ?_
    refine HWp.loopF (α := Nat) (fun k => a.l.length - k) (fun k => k ≤ a.l.length ∧ AgreeTo a.l b.l k) (fun k => ⟨26, [(0, a.v), (1, b.v), (12, .int .i64 (a.l.length : Int)), (13, .int .i64 (k : Int))]⟩) (fun k => L) (fun k => T) ?_ ?_
    ·
     refine ⟨0, ⟨Nat.zero_le _, AgreeTo.zero _ _⟩, (LessE.less (by repeat (first | exact LessE.nil | refine LessE.same rfl ?_ | refine LessE.own rfl ?_ | refine LessE.eq rfl ?_ (by first | rfl | (congr 1; omega) | simp))) rfl), (by repeat (first | exact Part.refl _ | refine Part.pull (by repeat (first | exact Pull.here | apply Pull.there)) ?_ | refine Part.skip _ ?_ | exact Part.nil _ | exact Part.app _ _ | exact Part.appL _ _ | refine Part.appR _ ?_)), (by repeat (first | exact Part.refl _ | refine Part.pull (by repeat (first | exact Pull.here | apply Pull.there)) ?_ | refine Part.skip _ ?_ | exact Part.nil _ | exact Part.app _ _ | exact Part.appL _ _ | refine Part.appR _ ?_))⟩
    ·
     rintro k ⟨hk1, hag⟩
     refine HWp.seq ?_
     refine HWp.text (.rd 0 .done) rfl ?_
     refine HPlan.intBin rfl rfl rfl rfl rfl rfl ?_
     refine HPlan.fin ?_
     refine onNorm_n ?_
     refine HWp.seq ?_
     refine HWp.cond rfl ?_ ?_
     ·
      intro hc14
      first
      | exact PrN hc14
      | ((try simp only [Pr] at hc14); exfalso; omega)
      | (try simp only [Pr] at hc14)
        refine HWp.skip ?_
        refine onNorm_n ?_
        refine HWp.seq ?_
        refine HWp.block ?_
        refine HWp.seq ?_
        refine HWp.text (.rd 0 (.rd 1 .done)) rfl ?_
        refine HPlan.move rfl rfl rfl ?_
        refine HPlan.assign rfl rfl rfl ?_
        refine HPlan.fin ?_
        refine onNorm_n ?_
        refine HWp.seq ?_
        refine HWp.draw q_mix (.rd 0 (.rd 1 (.rd 2 (.rd 3 (.rd 4 (.rd 5 (.rd 6 (.rd 7 (.rd 8 .done))))))))) (by kernel_rfl) ?_
        refine HPlan.move rfl rfl rfl ?_
        refine HPlan.move rfl rfl rfl ?_
        refine HPlan.indexS rfl rfl rfl rfl q_ix_26 (by first | exact IsSl.sl | exact IsSl.nils | assumption | exact growV_isSl (by assumption) | exact SlD.ok _) (by omega) (by simp only [List.length_map]; omega) (by first | exact at_map (by omega) | rfl) ?_
        first
        | refine HPlan.loadI rfl rfl rfl q_sh_73 (by constructor <;> first | rfl | decide | omega | exact Nat.le_refl _ | (simp [digC_len, dgV, LV.cells, readDC_len, readDV, madeDC_len, madeDV, traceDC_len, traceDV]; done) | (simp [digC_len, dgV, LV.cells, readDC_len, readDV, madeDC_len, madeDV, traceDC_len, traceDV]; omega)) (by first | exact (madeD_all _) | rfl) ?_
        | refine HPlan.load rfl rfl rfl q_sh_73 (by repeat (first | exact List.Mem.head _ | apply List.Mem.tail | assumption)) (by constructor <;> first | rfl | decide | omega | exact Nat.le_refl _ | (simp [digC_len, dgV, LV.cells, readDC_len, readDV, madeDC_len, madeDV, traceDC_len, traceDV]; done) | (simp [digC_len, dgV, LV.cells, readDC_len, readDV, madeDC_len, madeDV, traceDC_len, traceDV]; omega)) (by first | exact (madeD_all _) | rfl) ?_
        refine HPlan.move rfl rfl rfl ?_
        refine HPlan.move rfl rfl rfl ?_
        refine HPlan.indexS rfl rfl rfl rfl q_ix_26 (by first | exact IsSl.sl | exact IsSl.nils | assumption | exact growV_isSl (by assumption) | exact SlD.ok _) (by omega) (by simp only [List.length_map]; omega) (by first | exact at_map (by omega) | rfl) ?_
        first
        | refine HPlan.loadI rfl rfl rfl q_sh_73 (by constructor <;> first | rfl | decide | omega | exact Nat.le_refl _ | (simp [digC_len, dgV, LV.cells, readDC_len, readDV, madeDC_len, madeDV, traceDC_len, traceDV]; done) | (simp [digC_len, dgV, LV.cells, readDC_len, readDV, madeDC_len, madeDV, traceDC_len, traceDV]; omega)) (by first | exact (madeD_all _) | rfl) ?_
        | refine HPlan.load rfl rfl rfl q_sh_73 (by repeat (first | exact List.Mem.head _ | apply List.Mem.tail | assumption)) (by constructor <;> first | rfl | decide | omega | exact Nat.le_refl _ | (simp [digC_len, dgV, LV.cells, readDC_len, readDV, madeDC_len, madeDV, traceDC_len, traceDV]; done) | (simp [digC_len, dgV, LV.cells, readDC_len, readDV, madeDC_len, madeDV, traceDC_len, traceDV]; omega)) (by first | exact (madeD_all _) | rfl) ?_
        refine HPlan.aggNe rfl rfl rfl rfl q_sh_73 q_ck_73 (by decide) q_eg_73 (madeDC_len _) (madeDC_len _) (madeD_fit _) (madeD_fit _) (madeD_eq _ _) ?_
        refine HPlan.fin ?_
        refine onNorm_n ?_
        refine HWp.cond rfl ?_ ?_
        ·
         intro hc24
         first
         | exact PrN hc24
         | ((try simp only [Pr] at hc24); exfalso; omega)
         | (try simp only [Pr] at hc24)
           refine HWp.seq ?_
           refine HWp.text (.rd 0 .done) rfl ?_
           refine HPlan.assign rfl rfl rfl ?_
           refine HPlan.fin ?_
           refine onNorm_n ?_
           refine HWp.ret ?_
           refine onExitH_r ?_
           refine onNorm_r ?_
           refine onNorm_r ?_
           refine onExitH_r ?_
           refine onNorm_r ?_
           refine retQ_r (.tmp rfl .nil) ?_
           refine endK_of ⟨?_, rfl, rfl⟩ (by repeat (first | exact Part.refl _ | refine Part.pull (by repeat (first | exact Pull.here | apply Pull.there)) ?_ | refine Part.skip _ ?_ | exact Part.nil _ | exact Part.app _ _ | exact Part.appL _ _ | refine Part.appR _ ?_)) (by repeat (first | exact Part.refl _ | refine Part.pull (by repeat (first | exact Pull.here | apply Pull.there)) ?_ | refine Part.skip _ ?_ | exact Part.nil _ | exact Part.app _ _ | exact Part.appL _ _ | refine Part.appR _ ?_))
           refine congrArg LV.bool ?_
           first
           | exact (decide_eq_true (hag.eq (by omega))).symm
           | exact (decide_eq_false (fun h => hc24 (by simp only [h]))).symm
           | exact (decide_eq_false (fun h => hc10 (by rw [h]))).symm
        ·
         intro hc24
         first
         | exact PrN hc24
         | ((try simp only [Pr] at hc24); exfalso; omega)
         | (try simp only [Pr] at hc24)
           refine HWp.skip ?_
           refine onExitH_n ?_
           refine onNorm_n ?_
           refine HWp.text (.rd 0 (.rd 1 .done)) rfl ?_
           refine HPlan.intBin rfl rfl rfl rfl rfl (by first | exact add_i64 (by omega) (by omega) | rfl) ?_
           refine HPlan.move rfl rfl rfl ?_
           refine HPlan.fin ?_
           refine onNorm_n ?_
           refine ⟨(k + 1), (by omega), ⟨by omega, hag.step (by omega) (by omega) hc24⟩, (LessE.less (by repeat (first | exact LessE.nil | refine LessE.same rfl ?_ | refine LessE.own rfl ?_ | refine LessE.eq rfl ?_ (by first | rfl | (congr 1; omega) | simp))) rfl), (by repeat (first | exact Part.refl _ | refine Part.pull (by repeat (first | exact Pull.here | apply Pull.there)) ?_ | refine Part.skip _ ?_ | exact Part.nil _ | exact Part.app _ _ | exact Part.appL _ _ | refine Part.appR _ ?_)), (by repeat (first | exact Part.refl _ | refine Part.pull (by repeat (first | exact Pull.here | apply Pull.there)) ?_ | refine Part.skip _ ?_ | exact Part.nil _ | exact Part.app _ _ | exact Part.appL _ _ | refine Part.appR _ ?_))⟩
     ·
      intro hc14
      first
      | exact PrN hc14
      | ((try simp only [Pr] at hc14); exfalso; omega)
      | (try simp only [Pr] at hc14)
        refine HWp.exit ?_
        refine onNorm_e ?_
        refine onNorm_e ?_
        obtain rfl : k = a.l.length := by omega
        refine onExitH_hit ?_
        refine onNorm_n ?_
        refine HWp.seq ?_
        refine HWp.text (.rd 0 .done) rfl ?_
        refine HPlan.assign rfl rfl rfl ?_
        refine HPlan.fin ?_
        refine onNorm_n ?_
        refine HWp.ret ?_
        refine retQ_r (.tmp rfl .nil) ?_
        refine endK_of ⟨?_, rfl, rfl⟩ (by repeat (first | exact Part.refl _ | refine Part.pull (by repeat (first | exact Pull.here | apply Pull.there)) ?_ | refine Part.skip _ ?_ | exact Part.nil _ | exact Part.app _ _ | exact Part.appL _ _ | refine Part.appR _ ?_)) (by repeat (first | exact Part.refl _ | refine Part.pull (by repeat (first | exact Pull.here | apply Pull.there)) ?_ | refine Part.skip _ ?_ | exact Part.nil _ | exact Part.app _ _ | exact Part.appL _ _ | refine Part.appR _ ?_))
        refine congrArg LV.bool ?_
        first
        | exact (decide_eq_true (hag.eq (by omega))).symm
        | exact (decide_eq_false (fun h => hc24 (by simp only [h]))).symm
        | exact (decide_eq_false (fun h => hc10 (by rw [h]))).symm
theorem tsame_spec (a b : TraceD) : HPure Tryd.prog 36 [traceDV a, traceDV b] (.bool (decide (SameT a b))) := by
 intro L T
 refine HCalls.enterG q_f_36 rfl ?_
 refine HWp.frame (r' := ⟨24, [(0, traceDV a), (1, traceDV b)]⟩) rfl ?_
 refine HWp.seq ?_
 refine HWp.text (.act 0 [] (.act 1 [] (.rd 2 .done))) rfl ?_
 refine HPlan.box rfl rfl rfl (by first | rfl | (simp; done)) (fun i2 => ⟨keptH_nil, ?_⟩)
 refine HPlan.box rfl rfl rfl (by first | rfl | (simp; done)) (fun i3 => ⟨keptH_nil, ?_⟩)
 refine HPlan.assign rfl rfl rfl ?_
 refine HPlan.fin ?_
 refine onNorm_n ?_
 refine HWp.seq ?_
 refine HWp.text (.rd 0 (.rd 1 (.rd 2 (.rd 3 (.rd 4 (.rd 5 (.rd 6 (.rd 7 (.rd 8 (.rd 9 (.act 10 [] (.rd 11 (.rd 12 (.rd 13 (.rd 14 (.rd 15 (.rd 16 (.act 17 [] (.rd 18 (.rd 19 .done)))))))))))))))))))) rfl ?_
 refine HPlan.fieldAddr rfl rfl rfl rfl q_fo_28_0 rfl ?_
 first
 | refine HPlan.loadI rfl rfl rfl q_sh_24 (by constructor <;> first | rfl | decide | omega | exact Nat.le_refl _ | (simp [digC_len, dgV, LV.cells, readDC_len, readDV, madeDC_len, madeDV, traceDC_len, traceDV]; done) | (simp [digC_len, dgV, LV.cells, readDC_len, readDV, madeDC_len, madeDV, traceDC_len, traceDV]; omega)) (by first | exact (dgV_all _) | exact (readD_sum _) | exact (madeD_sum _) | exact (traceD_key _) | rfl) ?_
 | refine HPlan.load rfl rfl rfl q_sh_24 (by repeat (first | exact List.Mem.head _ | apply List.Mem.tail | assumption)) (by constructor <;> first | rfl | decide | omega | exact Nat.le_refl _ | (simp [digC_len, dgV, LV.cells, readDC_len, readDV, madeDC_len, madeDV, traceDC_len, traceDV]; done) | (simp [digC_len, dgV, LV.cells, readDC_len, readDV, madeDC_len, madeDV, traceDC_len, traceDV]; omega)) (by first | exact (dgV_all _) | exact (readD_sum _) | exact (madeD_sum _) | exact (traceD_key _) | rfl) ?_
 refine HPlan.fieldAddr rfl rfl rfl rfl q_fo_28_0 rfl ?_
 first
 | refine HPlan.loadI rfl rfl rfl q_sh_24 (by constructor <;> first | rfl | decide | omega | exact Nat.le_refl _ | (simp [digC_len, dgV, LV.cells, readDC_len, readDV, madeDC_len, madeDV, traceDC_len, traceDV]; done) | (simp [digC_len, dgV, LV.cells, readDC_len, readDV, madeDC_len, madeDV, traceDC_len, traceDV]; omega)) (by first | exact (dgV_all _) | exact (readD_sum _) | exact (madeD_sum _) | exact (traceD_key _) | rfl) ?_
 | refine HPlan.load rfl rfl rfl q_sh_24 (by repeat (first | exact List.Mem.head _ | apply List.Mem.tail | assumption)) (by constructor <;> first | rfl | decide | omega | exact Nat.le_refl _ | (simp [digC_len, dgV, LV.cells, readDC_len, readDV, madeDC_len, madeDV, traceDC_len, traceDV]; done) | (simp [digC_len, dgV, LV.cells, readDC_len, readDV, madeDC_len, madeDV, traceDC_len, traceDV]; omega)) (by first | exact (dgV_all _) | exact (readD_sum _) | exact (madeD_sum _) | exact (traceD_key _) | rfl) ?_
 refine HPlan.aggEq rfl rfl rfl rfl q_sh_24 q_ck_24 (by decide) q_eg_24 (digC_len _) (digC_len _) (dig_fit _) (dig_fit _) (dig_eq _ _) ?_
 refine HPlan.move rfl rfl rfl ?_
 refine HPlan.split ?_ ?_
 ·
  intro hb1_5
  first
  | exact PrN hb1_5
  | ((try simp only [Pr] at hb1_5); exfalso; omega)
  | (try simp only [Pr] at hb1_5)
    refine HPlan.fieldAddr rfl rfl rfl rfl q_fo_28_1 rfl ?_
    first
    | refine HPlan.loadI rfl rfl rfl q_sh_25 (by constructor <;> first | rfl | decide | omega | exact Nat.le_refl _ | (simp [digC_len, dgV, LV.cells, readDC_len, readDV, madeDC_len, madeDV, traceDC_len, traceDV]; done) | (simp [digC_len, dgV, LV.cells, readDC_len, readDV, madeDC_len, madeDV, traceDC_len, traceDV]; omega)) (by first | exact (traceD_reads _) | rfl) ?_
    | refine HPlan.load rfl rfl rfl q_sh_25 (by repeat (first | exact List.Mem.head _ | apply List.Mem.tail | assumption)) (by constructor <;> first | rfl | decide | omega | exact Nat.le_refl _ | (simp [digC_len, dgV, LV.cells, readDC_len, readDV, madeDC_len, madeDV, traceDC_len, traceDV]; done) | (simp [digC_len, dgV, LV.cells, readDC_len, readDV, madeDC_len, madeDV, traceDC_len, traceDV]; omega)) (by first | exact (traceD_reads _) | rfl) ?_
    refine HPlan.fieldAddr rfl rfl rfl rfl q_fo_28_1 rfl ?_
    first
    | refine HPlan.loadI rfl rfl rfl q_sh_25 (by constructor <;> first | rfl | decide | omega | exact Nat.le_refl _ | (simp [digC_len, dgV, LV.cells, readDC_len, readDV, madeDC_len, madeDV, traceDC_len, traceDV]; done) | (simp [digC_len, dgV, LV.cells, readDC_len, readDV, madeDC_len, madeDV, traceDC_len, traceDV]; omega)) (by first | exact (traceD_reads _) | rfl) ?_
    | refine HPlan.load rfl rfl rfl q_sh_25 (by repeat (first | exact List.Mem.head _ | apply List.Mem.tail | assumption)) (by constructor <;> first | rfl | decide | omega | exact Nat.le_refl _ | (simp [digC_len, dgV, LV.cells, readDC_len, readDV, madeDC_len, madeDV, traceDC_len, traceDV]; done) | (simp [digC_len, dgV, LV.cells, readDC_len, readDV, madeDC_len, madeDV, traceDC_len, traceDV]; omega)) (by first | exact (traceD_reads _) | rfl) ?_
    refine HPlan.callPure rfl rfl rfl q_en_62 (eqr_spec a.reads b.reads) keptH_nil ?_
    refine HPlan.pickT rfl rfl rfl rfl ?_
    refine HPlan.move rfl rfl rfl ?_
    refine HPlan.split ?_ ?_
    ·
     intro hb1_12
     first
     | exact PrN hb1_12
     | ((try simp only [Pr] at hb1_12); exfalso; omega)
     | (try simp only [Pr] at hb1_12)
       refine HPlan.fieldAddr rfl rfl rfl rfl q_fo_28_2 rfl ?_
       first
       | refine HPlan.loadI rfl rfl rfl q_sh_26 (by constructor <;> first | rfl | decide | omega | exact Nat.le_refl _ | (simp [digC_len, dgV, LV.cells, readDC_len, readDV, madeDC_len, madeDV, traceDC_len, traceDV]; done) | (simp [digC_len, dgV, LV.cells, readDC_len, readDV, madeDC_len, madeDV, traceDC_len, traceDV]; omega)) (by first | exact (traceD_outs _) | rfl) ?_
       | refine HPlan.load rfl rfl rfl q_sh_26 (by repeat (first | exact List.Mem.head _ | apply List.Mem.tail | assumption)) (by constructor <;> first | rfl | decide | omega | exact Nat.le_refl _ | (simp [digC_len, dgV, LV.cells, readDC_len, readDV, madeDC_len, madeDV, traceDC_len, traceDV]; done) | (simp [digC_len, dgV, LV.cells, readDC_len, readDV, madeDC_len, madeDV, traceDC_len, traceDV]; omega)) (by first | exact (traceD_outs _) | rfl) ?_
       refine HPlan.fieldAddr rfl rfl rfl rfl q_fo_28_2 rfl ?_
       first
       | refine HPlan.loadI rfl rfl rfl q_sh_26 (by constructor <;> first | rfl | decide | omega | exact Nat.le_refl _ | (simp [digC_len, dgV, LV.cells, readDC_len, readDV, madeDC_len, madeDV, traceDC_len, traceDV]; done) | (simp [digC_len, dgV, LV.cells, readDC_len, readDV, madeDC_len, madeDV, traceDC_len, traceDV]; omega)) (by first | exact (traceD_outs _) | rfl) ?_
       | refine HPlan.load rfl rfl rfl q_sh_26 (by repeat (first | exact List.Mem.head _ | apply List.Mem.tail | assumption)) (by constructor <;> first | rfl | decide | omega | exact Nat.le_refl _ | (simp [digC_len, dgV, LV.cells, readDC_len, readDV, madeDC_len, madeDV, traceDC_len, traceDV]; done) | (simp [digC_len, dgV, LV.cells, readDC_len, readDV, madeDC_len, madeDV, traceDC_len, traceDV]; omega)) (by first | exact (traceD_outs _) | rfl) ?_
       refine HPlan.callPure rfl rfl rfl q_en_63 (eqm_spec a.outs b.outs) keptH_nil ?_
       refine HPlan.pickT rfl rfl rfl rfl ?_
       refine HPlan.assign rfl rfl rfl ?_
       refine HPlan.fin ?_
       refine onNorm_n ?_
       refine HWp.ret ?_
       refine retQ_r (.tmp rfl .nil) ?_
       refine endK_of ⟨?_, rfl, rfl⟩ (by repeat (first | exact Part.refl _ | refine Part.pull (by repeat (first | exact Pull.here | apply Pull.there)) ?_ | refine Part.skip _ ?_ | exact Part.nil _ | exact Part.app _ _ | exact Part.appL _ _ | refine Part.appR _ ?_)) (by repeat (first | exact Part.refl _ | refine Part.pull (by repeat (first | exact Pull.here | apply Pull.there)) ?_ | refine Part.skip _ ?_ | exact Part.nil _ | exact Part.app _ _ | exact Part.appL _ _ | refine Part.appR _ ?_))
       refine congrArg LV.bool ?_
       first
       | exact (decide_eq_false (fun h : SameT a b => hb1_5 h.1)).symm
       | exact (decide_eq_false (fun h : SameT a b => hb1_12 h.2.1)).symm
       | exact decide_eq_decide.2 ⟨fun h => ⟨hb1_5, hb1_12, h⟩, fun h => h.2.2⟩
    ·
     intro hb1_12
     first
     | exact PrN hb1_12
     | ((try simp only [Pr] at hb1_12); exfalso; omega)
     | (try simp only [Pr] at hb1_12)
       refine HPlan.leftR rfl rfl ?_
       refine HPlan.leftR rfl rfl ?_
       refine HPlan.leftR rfl rfl ?_
       refine HPlan.leftR rfl rfl ?_
       refine HPlan.leftA rfl rfl ?_
       refine HPlan.pickF rfl rfl rfl rfl ?_
       refine HPlan.assign rfl rfl rfl ?_
       refine HPlan.fin ?_
       refine onNorm_n ?_
       refine HWp.ret ?_
       refine retQ_r (.tmp rfl .nil) ?_
       refine endK_of ⟨?_, rfl, rfl⟩ (by repeat (first | exact Part.refl _ | refine Part.pull (by repeat (first | exact Pull.here | apply Pull.there)) ?_ | refine Part.skip _ ?_ | exact Part.nil _ | exact Part.app _ _ | exact Part.appL _ _ | refine Part.appR _ ?_)) (by repeat (first | exact Part.refl _ | refine Part.pull (by repeat (first | exact Pull.here | apply Pull.there)) ?_ | refine Part.skip _ ?_ | exact Part.nil _ | exact Part.app _ _ | exact Part.appL _ _ | refine Part.appR _ ?_))
       refine congrArg LV.bool ?_
       first
       | exact (decide_eq_false (fun h : SameT a b => hb1_5 h.1)).symm
       | exact (decide_eq_false (fun h : SameT a b => hb1_12 h.2.1)).symm
       | exact decide_eq_decide.2 ⟨fun h => ⟨hb1_5, hb1_12, h⟩, fun h => h.2.2⟩
 ·
  intro hb1_5
  first
  | exact PrN hb1_5
  | ((try simp only [Pr] at hb1_5); exfalso; omega)
  | (try simp only [Pr] at hb1_5)
    refine HPlan.leftR rfl rfl ?_
    refine HPlan.leftR rfl rfl ?_
    refine HPlan.leftR rfl rfl ?_
    refine HPlan.leftR rfl rfl ?_
    refine HPlan.leftA rfl rfl ?_
    refine HPlan.pickF rfl rfl rfl rfl ?_
    refine HPlan.move rfl rfl rfl ?_
    refine HPlan.leftR rfl rfl ?_
    refine HPlan.leftR rfl rfl ?_
    refine HPlan.leftR rfl rfl ?_
    refine HPlan.leftR rfl rfl ?_
    refine HPlan.leftA rfl rfl ?_
    refine HPlan.pickF rfl rfl rfl rfl ?_
    refine HPlan.assign rfl rfl rfl ?_
    refine HPlan.fin ?_
    refine onNorm_n ?_
    refine HWp.ret ?_
    refine retQ_r (.tmp rfl .nil) ?_
    refine endK_of ⟨?_, rfl, rfl⟩ (by repeat (first | exact Part.refl _ | refine Part.pull (by repeat (first | exact Pull.here | apply Pull.there)) ?_ | refine Part.skip _ ?_ | exact Part.nil _ | exact Part.app _ _ | exact Part.appL _ _ | refine Part.appR _ ?_)) (by repeat (first | exact Part.refl _ | refine Part.pull (by repeat (first | exact Pull.here | apply Pull.there)) ?_ | refine Part.skip _ ?_ | exact Part.nil _ | exact Part.app _ _ | exact Part.appL _ _ | refine Part.appR _ ?_))
    refine congrArg LV.bool ?_
    first
    | exact (decide_eq_false (fun h : SameT a b => hb1_5 h.1)).symm
    | exact (decide_eq_false (fun h : SameT a b => hb1_12 h.2.1)).symm
    | exact decide_eq_decide.2 ⟨fun h => ⟨hb1_5, hb1_12, h⟩, fun h => h.2.2⟩
theorem cloner_nil  : HPure Tryd.prog 66 [.nils] .nils := by
 intro L T
 refine HCalls.enterG q_f_66 rfl ?_
 refine HWp.frame (r' := ⟨8, [(0, .nils)]⟩) rfl ?_
 refine HWp.seq ?_
 refine HWp.text (.rd 0 .done) rfl ?_
 refine HPlan.assign rfl rfl rfl ?_
 refine HPlan.fin ?_
 refine onNorm_n ?_
 refine HWp.seq ?_
 refine HWp.seq ?_
 refine HWp.text (.rd 0 (.rd 1 .done)) rfl ?_
 refine HPlan.move rfl rfl rfl ?_
 refine HPlan.nilEqK rfl rfl rfl rfl q_tk_25 rfl rfl rfl rfl ?_
 refine HPlan.fin ?_
 refine onNorm_n ?_
 refine HWp.cond_t rfl ?_
 refine HWp.seq ?_
 refine HWp.text (.rd 0 .done) rfl ?_
 refine HPlan.assign rfl rfl rfl ?_
 refine HPlan.fin ?_
 refine onNorm_n ?_
 refine HWp.ret ?_
 refine onNorm_r ?_
 refine retQ_r (.tmp rfl .nil) ?_
 exact endK_of ⟨rfl, rfl, rfl⟩ (by repeat (first | exact Part.refl _ | refine Part.pull (by repeat (first | exact Pull.here | apply Pull.there)) ?_ | refine Part.skip _ ?_ | exact Part.nil _ | exact Part.app _ _ | exact Part.appL _ _ | refine Part.appR _ ?_)) (by repeat (first | exact Part.refl _ | refine Part.pull (by repeat (first | exact Pull.here | apply Pull.there)) ?_ | refine Part.skip _ ?_ | exact Part.nil _ | exact Part.app _ _ | exact Part.appL _ _ | refine Part.appR _ ?_))
theorem cloner_sl (o : Own) (l : List ReadD) (hs : l.length < 1048576) (F : Hp) (T : Tk) : HCalls Tryd.prog 66 [.sl o 34 (l.map readDV)] F T (fun r L' T' => IsSl 34 (l.map readDV) r ∧ L' = F ∧ ∃ T0, T' = T0 ++ T) := by
 refine HCalls.enterG q_f_66 rfl ?_
 refine HWp.frame (r' := ⟨8, [(0, .sl o 34 (l.map readDV))]⟩) rfl ?_
 refine HWp.seq ?_
 refine HWp.text (.rd 0 .done) rfl ?_
 refine HPlan.assign rfl rfl rfl ?_
 refine HPlan.fin ?_
 refine onNorm_n ?_
 refine HWp.seq ?_
 refine HWp.seq ?_
 refine HWp.text (.rd 0 (.rd 1 .done)) rfl ?_
 refine HPlan.move rfl rfl rfl ?_
 refine HPlan.nilEqK rfl rfl rfl rfl q_tk_25 rfl rfl rfl rfl ?_
 refine HPlan.fin ?_
 refine onNorm_n ?_
 refine HWp.cond_f rfl ?_
 refine HWp.skip ?_
 refine onNorm_n ?_
 refine HWp.seq ?_
 refine HWp.text (.act 0 [] (.rd 1 (.act 2 [] (.rd 3 .done)))) rfl ?_
 refine HPlan.buildSlice rfl rfl q_se_25 q_zs_66 rfl (by decide) rfl rfl rfl allCells_nil keptH_nil (fun tk => ?_)
 refine HPlan.move rfl rfl rfl ?_
 refine HPlan.appendG rfl rfl (rfl : _ = some (growV (some (tk, 0)) _ [])) rfl q_el_25 q_src_25 (by first | exact IsSl.sl | exact IsSl.nils | assumption | exact growV_isSl (by assumption)) (List.Perm.refl _) (fun h => nomatch h) (fun e he => by obtain ⟨x, _, rfl⟩ := List.mem_map.1 he; simp) (by simp only [List.length_nil, List.length_map]; omega) (by simp only [List.length_nil, List.length_map]; omega) keptH_nil (fun o2 hg_o2 => ?_)
 refine HPlan.assign rfl rfl rfl ?_
 refine HPlan.fin ?_
 refine onNorm_n ?_
 refine HWp.ret ?_
 refine retQ_r (.tmp rfl .nil) ?_
 exact endK_of ⟨growV_isSl hg_o2, rfl, _, rfl⟩ (by repeat (first | exact Part.refl _ | refine Part.pull (by repeat (first | exact Pull.here | apply Pull.there)) ?_ | refine Part.skip _ ?_ | exact Part.nil _ | exact Part.app _ _ | exact Part.appL _ _ | refine Part.appR _ ?_)) (by repeat (first | exact Part.refl _ | refine Part.pull (by repeat (first | exact Pull.here | apply Pull.there)) ?_ | refine Part.skip _ ?_ | exact Part.nil _ | exact Part.app _ _ | exact Part.appL _ _ | refine Part.appR _ ?_))
theorem cloner (a : SlD 34 readDV) (hs : a.l.length < 1048576) (F : Hp) (T : Tk) : HCalls Tryd.prog 66 [a.v] F T (fun r L' T' => IsSl 34 (a.l.map readDV) r ∧ L' = F ∧ ∃ T0, T' = T0 ++ T) := by
  rcases isSl_alt a.ok with ⟨e, ev⟩ | ⟨o, ev⟩
  · rw [ev]
    exact HCalls.mono (cloner_nil F T) fun r L' T' ⟨e1, e2, e3⟩ => ⟨by rw [e1, e]; exact .nils, e2, [], e3⟩
  · rw [ev]; exact cloner_sl _ a.l hs F T

theorem clonem_nil  : HPure Tryd.prog 67 [.nils] .nils := by
 intro L T
 refine HCalls.enterG q_f_67 rfl ?_
 refine HWp.frame (r' := ⟨8, [(0, .nils)]⟩) rfl ?_
 refine HWp.seq ?_
 refine HWp.text (.rd 0 .done) rfl ?_
 refine HPlan.assign rfl rfl rfl ?_
 refine HPlan.fin ?_
 refine onNorm_n ?_
 refine HWp.seq ?_
 refine HWp.seq ?_
 refine HWp.text (.rd 0 (.rd 1 .done)) rfl ?_
 refine HPlan.move rfl rfl rfl ?_
 refine HPlan.nilEqK rfl rfl rfl rfl q_tk_26 rfl rfl rfl rfl ?_
 refine HPlan.fin ?_
 refine onNorm_n ?_
 refine HWp.cond_t rfl ?_
 refine HWp.seq ?_
 refine HWp.text (.rd 0 .done) rfl ?_
 refine HPlan.assign rfl rfl rfl ?_
 refine HPlan.fin ?_
 refine onNorm_n ?_
 refine HWp.ret ?_
 refine onNorm_r ?_
 refine retQ_r (.tmp rfl .nil) ?_
 exact endK_of ⟨rfl, rfl, rfl⟩ (by repeat (first | exact Part.refl _ | refine Part.pull (by repeat (first | exact Pull.here | apply Pull.there)) ?_ | refine Part.skip _ ?_ | exact Part.nil _ | exact Part.app _ _ | exact Part.appL _ _ | refine Part.appR _ ?_)) (by repeat (first | exact Part.refl _ | refine Part.pull (by repeat (first | exact Pull.here | apply Pull.there)) ?_ | refine Part.skip _ ?_ | exact Part.nil _ | exact Part.app _ _ | exact Part.appL _ _ | refine Part.appR _ ?_))
theorem clonem_sl (o : Own) (l : List MadeD) (hs : l.length < 1048576) (F : Hp) (T : Tk) : HCalls Tryd.prog 67 [.sl o 33 (l.map madeDV)] F T (fun r L' T' => IsSl 33 (l.map madeDV) r ∧ L' = F ∧ ∃ T0, T' = T0 ++ T) := by
 refine HCalls.enterG q_f_67 rfl ?_
 refine HWp.frame (r' := ⟨8, [(0, .sl o 33 (l.map madeDV))]⟩) rfl ?_
 refine HWp.seq ?_
 refine HWp.text (.rd 0 .done) rfl ?_
 refine HPlan.assign rfl rfl rfl ?_
 refine HPlan.fin ?_
 refine onNorm_n ?_
 refine HWp.seq ?_
 refine HWp.seq ?_
 refine HWp.text (.rd 0 (.rd 1 .done)) rfl ?_
 refine HPlan.move rfl rfl rfl ?_
 refine HPlan.nilEqK rfl rfl rfl rfl q_tk_26 rfl rfl rfl rfl ?_
 refine HPlan.fin ?_
 refine onNorm_n ?_
 refine HWp.cond_f rfl ?_
 refine HWp.skip ?_
 refine onNorm_n ?_
 refine HWp.seq ?_
 refine HWp.text (.act 0 [] (.rd 1 (.act 2 [] (.rd 3 .done)))) rfl ?_
 refine HPlan.buildSlice rfl rfl q_se_26 q_zs_73 rfl (by decide) rfl rfl rfl allCells_nil keptH_nil (fun tk => ?_)
 refine HPlan.move rfl rfl rfl ?_
 refine HPlan.appendG rfl rfl (rfl : _ = some (growV (some (tk, 0)) _ [])) rfl q_el_26 q_src_26 (by first | exact IsSl.sl | exact IsSl.nils | assumption | exact growV_isSl (by assumption)) (List.Perm.refl _) (fun h => nomatch h) (fun e he => by obtain ⟨x, _, rfl⟩ := List.mem_map.1 he; simp) (by simp only [List.length_nil, List.length_map]; omega) (by simp only [List.length_nil, List.length_map]; omega) keptH_nil (fun o2 hg_o2 => ?_)
 refine HPlan.assign rfl rfl rfl ?_
 refine HPlan.fin ?_
 refine onNorm_n ?_
 refine HWp.ret ?_
 refine retQ_r (.tmp rfl .nil) ?_
 exact endK_of ⟨growV_isSl hg_o2, rfl, _, rfl⟩ (by repeat (first | exact Part.refl _ | refine Part.pull (by repeat (first | exact Pull.here | apply Pull.there)) ?_ | refine Part.skip _ ?_ | exact Part.nil _ | exact Part.app _ _ | exact Part.appL _ _ | refine Part.appR _ ?_)) (by repeat (first | exact Part.refl _ | refine Part.pull (by repeat (first | exact Pull.here | apply Pull.there)) ?_ | refine Part.skip _ ?_ | exact Part.nil _ | exact Part.app _ _ | exact Part.appL _ _ | refine Part.appR _ ?_))
theorem clonem (a : SlD 33 madeDV) (hs : a.l.length < 1048576) (F : Hp) (T : Tk) : HCalls Tryd.prog 67 [a.v] F T (fun r L' T' => IsSl 33 (a.l.map madeDV) r ∧ L' = F ∧ ∃ T0, T' = T0 ++ T) := by
  rcases isSl_alt a.ok with ⟨e, ev⟩ | ⟨o, ev⟩
  · rw [ev]
    exact HCalls.mono (clonem_nil F T) fun r L' T' ⟨e1, e2, e3⟩ => ⟨by rw [e1, e]; exact .nils, e2, [], e3⟩
  · rw [ev]; exact clonem_sl _ a.l hs F T

end Go.Proofs.YthfoobfgdakbmaaDoor

set_option linter.unusedVariables false
set_option linter.unusedSimpArgs false
set_option maxRecDepth 100000
namespace Go.Proofs.YthfoobfgdakbmaaDoor
open Go Go.RowKit Go.L
theorem q_zo_28 : zeroOf Tryd.prog 28 = some (LV.agg [(LV.int .u8 0), (LV.int .u8 0), (LV.int .u8 0), (LV.int .u8 0), (LV.int .u8 0), (LV.int .u8 0), (LV.int .u8 0), (LV.int .u8 0), (LV.int .u8 0), (LV.int .u8 0), (LV.int .u8 0), (LV.int .u8 0), (LV.int .u8 0), (LV.int .u8 0), (LV.int .u8 0), (LV.int .u8 0), (LV.int .u8 0), (LV.int .u8 0), (LV.int .u8 0), (LV.int .u8 0), (LV.int .u8 0), (LV.int .u8 0), (LV.int .u8 0), (LV.int .u8 0), (LV.int .u8 0), (LV.int .u8 0), (LV.int .u8 0), (LV.int .u8 0), (LV.int .u8 0), (LV.int .u8 0), (LV.int .u8 0), (LV.int .u8 0), LV.nils, LV.nils]) := by kernel_rfl
theorem q_en_66 : enterable Tryd.prog 66 = true := by kernel_rfl
theorem q_en_67 : enterable Tryd.prog 67 = true := by kernel_rfl
theorem q_sz_25 : sizeOfT Tryd.prog 25 = some 1 := by kernel_rfl
theorem q_sz_26 : sizeOfT Tryd.prog 26 = some 1 := by kernel_rfl
theorem q_sz_28 : sizeOfT Tryd.prog 28 = some 34 := by kernel_rfl
theorem q_f_38 : Tryd.prog.funcs[38]? = some Tryd.f38 := by kernel_rfl

def TraceD.setReads (t : TraceD) (v : LV) (h : IsSl 34 (t.reads.l.map readDV) v) : TraceD := ⟨t.key, ⟨t.reads.l, v, h, t.reads.small⟩, t.outs⟩
def TraceD.setOuts (t : TraceD) (v : LV) (h : IsSl 33 (t.outs.l.map madeDV) v) : TraceD := ⟨t.key, t.reads, ⟨t.outs.l, v, h, t.outs.small⟩⟩
theorem isSl_cells {k : Nat} {es : List LV} {v : LV} (h : IsSl k es v) : v.cells = [v] := by cases h <;> rfl
theorem isSl_solid {k : Nat} {es : List LV} {v : LV} (h : IsSl k es v) : v.solid = true := by cases h <;> rfl
theorem splice_reads (t : TraceD) (v : LV) (h : IsSl 34 (t.reads.l.map readDV) v) : splice (traceDC t) (0 + 32) v.cells = traceDC (t.setReads v h) := by
  rw [isSl_cells h]
  simp [splice, traceDC, TraceD.setReads, List.take_append, List.drop_append]
theorem splice_outs (t : TraceD) (v : LV) (h : IsSl 33 (t.outs.l.map madeDV) v) : splice (traceDC t) (0 + 33) v.cells = traceDC (t.setOuts v h) := by
  rw [isSl_cells h]
  simp [splice, traceDC, TraceD.setOuts, List.take_append, List.drop_append]
  rw [List.take_of_length_le (by simp), List.drop_of_length_le (by simp)]

theorem clone_spec (t : TraceD) (h1 : t.reads.l.length < 1048576) (h2 : t.outs.l.length < 1048576) (F : Hp) (T : Tk) : HCalls Tryd.prog 38 [traceDV t] F T (fun r L' T' => ∃ t' : TraceD, SameT t' t ∧ r = traceDV t' ∧ L' = F ∧ ∃ T0, T' = T0 ++ T) := by
 refine HCalls.enterG q_f_38 rfl ?_
 refine HWp.frame (r' := ⟨12, [(0, traceDV t)]⟩) rfl ?_
 refine HWp.seq ?_
 refine HWp.text (.act 0 [] (.act 1 [] .done)) rfl ?_
 refine HPlan.box rfl rfl rfl (by first | rfl | (simp; done)) (fun i1 => ⟨keptH_nil, ?_⟩)
 refine HPlan.alloc rfl rfl q_zo_28 (by first | rfl | (simp; done)) (fun i2 => ⟨keptH_nil, ?_⟩)
 refine HPlan.fin ?_
 refine onNorm_n ?_
 refine HWp.seq ?_
 refine HWp.draw q_mix (.rd 0 (.rd 1 (.rd 3 (.rd 4 (.act 2 [4] (.rd 6 (.act 5 [] (.act 7 [] (.rd 8 (.act 9 [] .done)))))))))) (by kernel_rfl) ?_
 refine HPlan.fieldAddr rfl rfl rfl rfl q_fo_28_1 rfl ?_
 first
 | refine HPlan.loadI rfl rfl rfl q_sh_25 (by constructor <;> first | rfl | decide | omega | exact Nat.le_refl _ | (simp [digC_len, dgV, LV.cells, readDC_len, readDV, madeDC_len, madeDV, traceDC_len, traceDV]; done) | (simp [digC_len, dgV, LV.cells, readDC_len, readDV, madeDC_len, madeDV, traceDC_len, traceDV]; omega)) (by first | exact (traceD_reads _) | rfl) ?_
 | refine HPlan.load rfl rfl rfl q_sh_25 (by repeat (first | exact List.Mem.head _ | apply List.Mem.tail | assumption)) (by constructor <;> first | rfl | decide | omega | exact Nat.le_refl _ | (simp [digC_len, dgV, LV.cells, readDC_len, readDV, madeDC_len, madeDV, traceDC_len, traceDV]; done) | (simp [digC_len, dgV, LV.cells, readDC_len, readDV, madeDC_len, madeDV, traceDC_len, traceDV]; omega)) (by first | exact (traceD_reads _) | rfl) ?_
 refine HPlan.fieldAddr rfl rfl rfl rfl q_fo_28_2 rfl ?_
 first
 | refine HPlan.loadI rfl rfl rfl q_sh_26 (by constructor <;> first | rfl | decide | omega | exact Nat.le_refl _ | (simp [digC_len, dgV, LV.cells, readDC_len, readDV, madeDC_len, madeDV, traceDC_len, traceDV]; done) | (simp [digC_len, dgV, LV.cells, readDC_len, readDV, madeDC_len, madeDV, traceDC_len, traceDV]; omega)) (by first | exact (traceD_outs _) | rfl) ?_
 | refine HPlan.load rfl rfl rfl q_sh_26 (by repeat (first | exact List.Mem.head _ | apply List.Mem.tail | assumption)) (by constructor <;> first | rfl | decide | omega | exact Nat.le_refl _ | (simp [digC_len, dgV, LV.cells, readDC_len, readDV, madeDC_len, madeDV, traceDC_len, traceDV]; done) | (simp [digC_len, dgV, LV.cells, readDC_len, readDV, madeDC_len, madeDV, traceDC_len, traceDV]; omega)) (by first | exact (traceD_outs _) | rfl) ?_
 refine HPlan.callS rfl rfl rfl q_en_66 (cloner t.reads h1 _ _) (List.Perm.refl _) (List.Perm.refl _) ?_
 rintro r_R1_2 L_R1_2 T1 ⟨hr1, rfl, T0, rfl⟩
 refine ⟨(keptH_ids (by repeat (first | exact allId_nil | refine allId_cons (by repeat (first | exact List.Mem.head _ | apply List.Mem.tail | assumption)) (by repeat (first | exact List.Mem.head _ | apply List.Mem.tail | assumption)) ?_))), ?_⟩
 refine HPlan.fieldAddr rfl rfl rfl rfl q_fo_28_1 rfl ?_
 refine HPlan.callS rfl rfl rfl q_en_67 (clonem t.outs h2 _ _) (List.Perm.refl _) (List.Perm.refl _) ?_
 rintro r_R1_5 L_R1_5 T2 ⟨hr2, rfl, T00, rfl⟩
 refine ⟨keptH_nil, ?_⟩
 refine HPlan.store rfl rfl rfl rfl q_sz_25 (isSl_solid hr1) (by rw [isSl_cells hr1]; rfl) (by repeat (first | exact List.Mem.head _ | apply List.Mem.tail | assumption)) (splice_reads t r_R1_2 hr1) (by repeat (first | exact Upd.here | apply Upd.there)) (by simp) keptH_nil ?_
 refine HPlan.fieldAddr rfl rfl rfl rfl q_fo_28_2 rfl ?_
 refine HPlan.store rfl rfl rfl rfl q_sz_26 (isSl_solid hr2) (by rw [isSl_cells hr2]; rfl) (by repeat (first | exact List.Mem.head _ | apply List.Mem.tail | assumption)) (splice_outs (t.setReads r_R1_2 hr1) r_R1_5 hr2) (by repeat (first | exact Upd.here | apply Upd.there)) (by simp) keptH_nil ?_
 refine HPlan.fin ?_
 refine onNorm_n ?_
 refine HWp.seq ?_
 refine HWp.text (.rd 0 (.act 1 [] .done)) rfl ?_
 first
 | refine HPlan.loadI rfl rfl rfl q_sh_28 (by constructor <;> first | rfl | decide | omega | exact Nat.le_refl _ | (simp [digC_len, dgV, LV.cells, readDC_len, readDV, madeDC_len, madeDV, traceDC_len, traceDV]; done) | (simp [digC_len, dgV, LV.cells, readDC_len, readDV, madeDC_len, madeDV, traceDC_len, traceDV]; omega)) (by first | exact (traceD_all _) | rfl) ?_
 | refine HPlan.load rfl rfl rfl q_sh_28 (by repeat (first | exact List.Mem.head _ | apply List.Mem.tail | assumption)) (by constructor <;> first | rfl | decide | omega | exact Nat.le_refl _ | (simp [digC_len, dgV, LV.cells, readDC_len, readDV, madeDC_len, madeDV, traceDC_len, traceDV]; done) | (simp [digC_len, dgV, LV.cells, readDC_len, readDV, madeDC_len, madeDV, traceDC_len, traceDV]; omega)) (by first | exact (traceD_all _) | rfl) ?_
 refine HPlan.store rfl rfl rfl rfl q_sz_28 (by first | rfl | (simp; done)) (by first | rfl | decide | omega | (simp [digC_len, dgV, LV.cells, readDC_len, readDV, madeDC_len, madeDV, traceDC_len, traceDV]; done) | (simp [digC_len, dgV, LV.cells, readDC_len, readDV, madeDC_len, madeDV, traceDC_len, traceDV]; omega)) (by repeat (first | exact List.Mem.head _ | apply List.Mem.tail | assumption)) (by first | exact (splice_whole _ (traceDC _) (by rw [traceDC_len]; rfl)) | rfl) (by repeat (first | exact Upd.here | apply Upd.there)) (by first | rfl | decide | omega | (simp [digC_len, dgV, LV.cells, readDC_len, readDV, madeDC_len, madeDV, traceDC_len, traceDV]; done) | (simp [digC_len, dgV, LV.cells, readDC_len, readDV, madeDC_len, madeDV, traceDC_len, traceDV]; omega)) keptH_nil ?_
 refine HPlan.fin ?_
 refine onNorm_n ?_
 refine HWp.ret ?_
 refine retQ_r (.cell q_sh_28 rfl (by repeat (first | exact List.Mem.head _ | apply List.Mem.tail | assumption)) (by constructor <;> first | rfl | decide | omega | exact Nat.le_refl _ | (simp; done) | (simp; omega)) (traceD_all _) .nil) ?_
 exact endK_of ⟨(t.setReads r_R1_2 hr1).setOuts r_R1_5 hr2, ⟨rfl, rfl, rfl⟩, rfl, rfl, T00 ++ T0, rfl⟩ (by repeat (first | exact Part.refl _ | refine Part.pull (by repeat (first | exact Pull.here | apply Pull.there)) ?_ | refine Part.skip _ ?_ | exact Part.nil _ | exact Part.app _ _ | exact Part.appL _ _ | refine Part.appR _ ?_)) (.of_perm (.of_eq (by simp)))
end Go.Proofs.YthfoobfgdakbmaaDoor

set_option linter.unusedVariables false
set_option linter.unusedSimpArgs false
set_option maxRecDepth 100000
namespace Go.Proofs.YthfoobfgdakbmaaDoor
open Go Go.RowKit Go.L
theorem q_en_36 : enterable Tryd.prog 36 = true := by kernel_rfl
theorem q_f_35 : Tryd.prog.funcs[35]? = some Tryd.f35 := by kernel_rfl
theorem q_tk_22 : tyKind Tryd.prog 22 = .sl := by kernel_rfl
theorem q_ix_22 : indexIn Tryd.prog 22 = some (none, 34) := by kernel_rfl
theorem q_en_35 : enterable Tryd.prog 35 = true := by kernel_rfl
theorem q_f_61 : Tryd.prog.funcs[61]? = some Tryd.f61 := by kernel_rfl

theorem trace_cells (ts : List TraceD) : ∀ e ∈ ts.map traceDV, e.cells.length = 34 := fun e he => by
  obtain ⟨x, _, rfl⟩ := List.mem_map.1 he; simp [traceDV, LV.cells]
theorem trace_load {ts : List TraceD} {rest : List LV} {k : Nat} (h : k < ts.length) : (bif true then LV.agg (((flat (ts.map traceDV) ++ rest).drop (0 + k * 34)).take 34) else ((flat (ts.map traceDV) ++ rest).drop (0 + k * 34)).headD .und) = traceDV ts[k] := by
  refine (load_flat (k := 34) (ag := true) (trace_cells ts) (by rw [List.length_map]; exact h) (fun e he => ?_) (fun h => by cases h)).trans (List.getElem_map _)
  obtain ⟨x, _, rfl⟩ := List.mem_map.1 he; rfl
theorem trace_store {ts : List TraceD} {rest : List LV} {k : Nat} (h : k < ts.length) (x : TraceD) : splice (flat (ts.map traceDV) ++ rest) (0 + k * 34) (traceDV x).cells = flat ((ts.set k x).map traceDV) ++ rest := by
  rw [store_flat (k := 34) (trace_cells ts) (by rw [List.length_map]; exact h) (by simp [traceDV, LV.cells]), List.map_set]

theorem closure_spec (x t : TraceD) (i cv : Nat) (F : Hp) (T : Tk) : HCalls Tryd.prog 35 [traceDV x, .ref i 0] ((i, .cells 28 (traceDC t) cv) :: F) T (fun r L' T' => r = .bool (decide (SameT x t)) ∧ L' = (i, .cells 28 (traceDC t) cv) :: F ∧ T' = T) := by
 refine HCalls.enterG q_f_35 rfl ?_
 refine HWp.frame (r' := ⟨7, [(0, traceDV x), (1, .ref i 0)]⟩) rfl ?_
 refine HWp.seq ?_
 refine HWp.text (.act 0 [] (.rd 1 .done)) rfl ?_
 refine HPlan.box rfl rfl rfl (by first | rfl | (simp; done)) (fun i2 => ⟨keptH_nil, ?_⟩)
 refine HPlan.assign rfl rfl rfl ?_
 refine HPlan.fin ?_
 refine onNorm_n ?_
 refine HWp.seq ?_
 refine HWp.text (.rd 0 (.rd 1 (.act 2 [] (.rd 3 .done)))) rfl ?_
 first
 | refine HPlan.loadI rfl rfl rfl q_sh_28 (by constructor <;> first | rfl | decide | omega | exact Nat.le_refl _ | (simp [digC_len, dgV, LV.cells, readDC_len, readDV, madeDC_len, madeDV, traceDC_len, traceDV]; done) | (simp [digC_len, dgV, LV.cells, readDC_len, readDV, madeDC_len, madeDV, traceDC_len, traceDV]; omega)) (by first | exact (traceD_all _) | rfl) ?_
 | refine HPlan.load rfl rfl rfl q_sh_28 (by repeat (first | exact List.Mem.head _ | apply List.Mem.tail | assumption)) (by constructor <;> first | rfl | decide | omega | exact Nat.le_refl _ | (simp [digC_len, dgV, LV.cells, readDC_len, readDV, madeDC_len, madeDV, traceDC_len, traceDV]; done) | (simp [digC_len, dgV, LV.cells, readDC_len, readDV, madeDC_len, madeDV, traceDC_len, traceDV]; omega)) (by first | exact (traceD_all _) | rfl) ?_
 first
 | refine HPlan.loadI rfl rfl rfl q_sh_28 (by constructor <;> first | rfl | decide | omega | exact Nat.le_refl _ | (simp [digC_len, dgV, LV.cells, readDC_len, readDV, madeDC_len, madeDV, traceDC_len, traceDV]; done) | (simp [digC_len, dgV, LV.cells, readDC_len, readDV, madeDC_len, madeDV, traceDC_len, traceDV]; omega)) (by first | exact (traceD_all _) | rfl) ?_
 | refine HPlan.load rfl rfl rfl q_sh_28 (by repeat (first | exact List.Mem.head _ | apply List.Mem.tail | assumption)) (by constructor <;> first | rfl | decide | omega | exact Nat.le_refl _ | (simp [digC_len, dgV, LV.cells, readDC_len, readDV, madeDC_len, madeDV, traceDC_len, traceDV]; done) | (simp [digC_len, dgV, LV.cells, readDC_len, readDV, madeDC_len, madeDV, traceDC_len, traceDV]; omega)) (by first | exact (traceD_all _) | rfl) ?_
 refine HPlan.callPure rfl rfl rfl q_en_36 (tsame_spec _ _) keptH_nil ?_
 refine HPlan.assign rfl rfl rfl ?_
 refine HPlan.fin ?_
 refine onNorm_n ?_
 refine HWp.ret ?_
 refine retQ_r (.tmp rfl .nil) ?_
 exact endK_of ⟨rfl, rfl, rfl⟩ (by repeat (first | exact Part.refl _ | refine Part.pull (by repeat (first | exact Pull.here | apply Pull.there)) ?_ | refine Part.skip _ ?_ | exact Part.nil _ | exact Part.app _ _ | exact Part.appL _ _ | refine Part.appR _ ?_)) (by repeat (first | exact Part.refl _ | refine Part.pull (by repeat (first | exact Pull.here | apply Pull.there)) ?_ | refine Part.skip _ ?_ | exact Part.nil _ | exact Part.app _ _ | exact Part.appL _ _ | refine Part.appR _ ?_))
theorem idxrow_spec (row : Row) (ts : List TraceD) (t : TraceD) (i cv : Nat) (hok : row.ok 34 (ts.map traceDV)) (hl : ts.length < 1048576) (F : Hp) (T : Tk) : HCalls Tryd.prog 61 [row.v (ts.map traceDV), .fn (.func 35) [] [.ref i 0]] (row.o (ts.map traceDV) :: (i, .cells 28 (traceDC t) cv) :: F) T (fun r L' T' => ∃ n : Int, r = .int .i64 n ∧ ((n = -1 ∧ ∀ j (h : j < ts.length), ¬ SameT ts[j] t) ∨ ∃ k, ∃ h : k < ts.length, n = (k : Int) ∧ SameT ts[k] t ∧ ∀ j (h : j < ts.length), j < k → ¬ SameT ts[j] t) ∧ L' = row.o (ts.map traceDV) :: (i, .cells 28 (traceDC t) cv) :: F ∧ T' = T) := by
 refine HCalls.enterG q_f_61 rfl ?_
 refine HWp.frame (r' := ⟨19, [(0, row.v (ts.map traceDV)), (1, .fn (.func 35) [] [.ref i 0])]⟩) rfl ?_
 refine HWp.seq ?_
 refine HWp.text (.rd 0 .done) rfl ?_
 refine HPlan.assign rfl rfl rfl ?_
 refine HPlan.fin ?_
 refine onNorm_n ?_
 refine HWp.seq ?_
 refine HWp.seq ?_
 refine HWp.text (.rd 0 (.rd 1 (.rd 2 .done))) rfl ?_
 refine HPlan.move rfl rfl rfl ?_
 refine HPlan.lenO hok.own rfl rfl rfl q_tk_22 (by rw [List.length_map]) ?_
 refine HPlan.move rfl rfl rfl ?_
 refine HPlan.fin ?_
 refine onNorm_n ?_
 refine HWp.block ?_
 refine HWp.loopF (α := Nat) (fun k => ts.length - k) (fun k => k ≤ ts.length ∧ ∀ j (h : j < ts.length), j < k → ¬ SameT ts[j] t) (fun k => ⟨19, [(0, row.v (ts.map traceDV)), (1, .fn (.func 35) [] [.ref i 0]), (7, .int .i64 (ts.length : Int)), (8, .int .i64 (k : Int))]⟩) (fun k => row.o (ts.map traceDV) :: (i, .cells 28 (traceDC t) cv) :: F) (fun k => T) ?_ ?_
 ·
  refine ⟨0, ⟨Nat.zero_le _, fun i _ h => absurd h (Nat.not_lt_zero _)⟩, (LessE.less (by repeat (first | exact LessE.nil | refine LessE.same rfl ?_ | refine LessE.own rfl ?_ | refine LessE.eq rfl ?_ (by first | rfl | (congr 1; omega) | simp))) rfl), (by repeat (first | exact Part.refl _ | refine Part.pull (by repeat (first | exact Pull.here | apply Pull.there)) ?_ | refine Part.skip _ ?_ | exact Part.nil _ | exact Part.app _ _ | exact Part.appL _ _ | refine Part.appR _ ?_)), (by repeat (first | exact Part.refl _ | refine Part.pull (by repeat (first | exact Pull.here | apply Pull.there)) ?_ | refine Part.skip _ ?_ | exact Part.nil _ | exact Part.app _ _ | exact Part.appL _ _ | refine Part.appR _ ?_))⟩
 ·
  rintro k ⟨hk1, hno⟩
  refine HWp.seq ?_
  refine HWp.text (.rd 0 .done) rfl ?_
  refine HPlan.intBin rfl rfl rfl rfl rfl rfl ?_
  refine HPlan.fin ?_
  refine onNorm_n ?_
  refine HWp.seq ?_
  refine HWp.cond rfl ?_ ?_
  ·
   intro hc9
   first
   | exact PrN hc9
   | ((try simp only [Pr] at hc9); exfalso; omega)
   | (try simp only [Pr] at hc9)
     refine HWp.skip ?_
     refine onNorm_n ?_
     refine HWp.seq ?_
     refine HWp.block ?_
     refine HWp.seq ?_
     refine HWp.text (.rd 0 (.rd 1 .done)) rfl ?_
     refine HPlan.move rfl rfl rfl ?_
     refine HPlan.assign rfl rfl rfl ?_
     refine HPlan.fin ?_
     refine onNorm_n ?_
     refine HWp.seq ?_
     refine HWp.text (.rd 0 (.rd 1 (.rd 2 (.rd 3 (.rd 4 (.act 5 [] .done)))))) rfl ?_
     refine HPlan.move rfl rfl rfl ?_
     refine HPlan.move rfl rfl rfl ?_
     refine HPlan.move rfl rfl rfl ?_
     refine HPlan.indexH rfl rfl rfl rfl q_ix_22 (by omega) (by simp only [List.length_map]; omega) (rfl : _ = LV.ref row.id (0 + k * 34)) ?_
     refine HPlan.load rfl rfl rfl q_sh_28 (by repeat (first | exact List.Mem.head _ | apply List.Mem.tail | assumption)) (by constructor <;> simp [flat_len (trace_cells _)] <;> omega) (trace_load (k := k) (by omega)) ?_
     refine HPlan.callV rfl rfl rfl rfl q_en_35 rfl (closure_spec ts[k] t i cv _ _) (List.Perm.swap _ _ _) (List.Perm.refl _) ?_
     rintro r_R4_5 L_R4_5 T1 ⟨rfl, rfl, rfl⟩
     refine ⟨keptH_nil, ?_⟩
     refine HPlan.fin ?_
     refine onNorm_n ?_
     refine HWp.cond rfl ?_ ?_
     ·
      intro hc16
      first
      | exact PrN hc16
      | ((try simp only [Pr] at hc16); exfalso; omega)
      | (try simp only [Pr] at hc16)
        refine HWp.seq ?_
        refine HWp.text (.rd 0 (.rd 1 .done)) rfl ?_
        refine HPlan.move rfl rfl rfl ?_
        refine HPlan.assign rfl rfl rfl ?_
        refine HPlan.fin ?_
        refine onNorm_n ?_
        refine HWp.ret ?_
        refine onExitH_r ?_
        refine onNorm_r ?_
        refine onNorm_r ?_
        refine onExitH_r ?_
        refine onNorm_r ?_
        refine retQ_r (.tmp rfl .nil) ?_
        first
        | exact endK_of ⟨_, rfl, .inr ⟨k, by omega, rfl, hc16, hno⟩, rfl, rfl⟩ (by repeat (first | exact Part.refl _ | refine Part.pull (by repeat (first | exact Pull.here | apply Pull.there)) ?_ | refine Part.skip _ ?_ | exact Part.nil _ | exact Part.app _ _ | exact Part.appL _ _ | refine Part.appR _ ?_)) (by repeat (first | exact Part.refl _ | refine Part.pull (by repeat (first | exact Pull.here | apply Pull.there)) ?_ | refine Part.skip _ ?_ | exact Part.nil _ | exact Part.app _ _ | exact Part.appL _ _ | refine Part.appR _ ?_))
        | exact endK_of ⟨_, rfl, .inl ⟨rfl, fun j h => hno j h (by omega)⟩, rfl, rfl⟩ (by repeat (first | exact Part.refl _ | refine Part.pull (by repeat (first | exact Pull.here | apply Pull.there)) ?_ | refine Part.skip _ ?_ | exact Part.nil _ | exact Part.app _ _ | exact Part.appL _ _ | refine Part.appR _ ?_)) (by repeat (first | exact Part.refl _ | refine Part.pull (by repeat (first | exact Pull.here | apply Pull.there)) ?_ | refine Part.skip _ ?_ | exact Part.nil _ | exact Part.app _ _ | exact Part.appL _ _ | refine Part.appR _ ?_))
     ·
      intro hc16
      first
      | exact PrN hc16
      | ((try simp only [Pr] at hc16); exfalso; omega)
      | (try simp only [Pr] at hc16)
        refine HWp.skip ?_
        refine onExitH_n ?_
        refine onNorm_n ?_
        refine HWp.text (.rd 0 (.rd 1 .done)) rfl ?_
        refine HPlan.intBin rfl rfl rfl rfl rfl (by first | exact add_i64 (by omega) (by omega) | rfl) ?_
        refine HPlan.move rfl rfl rfl ?_
        refine HPlan.fin ?_
        refine onNorm_n ?_
        refine ⟨(k + 1), (by omega), ⟨by omega, fun j h h1 => (by by_cases e : j = k; (subst e; exact hc16); exact hno j h (by omega))⟩, (LessE.less (by repeat (first | exact LessE.nil | refine LessE.same rfl ?_ | refine LessE.own rfl ?_ | refine LessE.eq rfl ?_ (by first | rfl | (congr 1; omega) | simp))) rfl), (by repeat (first | exact Part.refl _ | refine Part.pull (by repeat (first | exact Pull.here | apply Pull.there)) ?_ | refine Part.skip _ ?_ | exact Part.nil _ | exact Part.app _ _ | exact Part.appL _ _ | refine Part.appR _ ?_)), (by repeat (first | exact Part.refl _ | refine Part.pull (by repeat (first | exact Pull.here | apply Pull.there)) ?_ | refine Part.skip _ ?_ | exact Part.nil _ | exact Part.app _ _ | exact Part.appL _ _ | refine Part.appR _ ?_))⟩
  ·
   intro hc9
   first
   | exact PrN hc9
   | ((try simp only [Pr] at hc9); exfalso; omega)
   | (try simp only [Pr] at hc9)
     refine HWp.exit ?_
     refine onNorm_e ?_
     refine onNorm_e ?_
     refine onExitH_hit ?_
     refine onNorm_n ?_
     refine HWp.seq ?_
     refine HWp.text (.rd 0 .done) rfl ?_
     refine HPlan.assign rfl rfl rfl ?_
     refine HPlan.fin ?_
     refine onNorm_n ?_
     refine HWp.ret ?_
     refine retQ_r (.tmp rfl .nil) ?_
     first
     | exact endK_of ⟨_, rfl, .inr ⟨k, by omega, rfl, hc16, hno⟩, rfl, rfl⟩ (by repeat (first | exact Part.refl _ | refine Part.pull (by repeat (first | exact Pull.here | apply Pull.there)) ?_ | refine Part.skip _ ?_ | exact Part.nil _ | exact Part.app _ _ | exact Part.appL _ _ | refine Part.appR _ ?_)) (by repeat (first | exact Part.refl _ | refine Part.pull (by repeat (first | exact Pull.here | apply Pull.there)) ?_ | refine Part.skip _ ?_ | exact Part.nil _ | exact Part.app _ _ | exact Part.appL _ _ | refine Part.appR _ ?_))
     | exact endK_of ⟨_, rfl, .inl ⟨rfl, fun j h => hno j h (by omega)⟩, rfl, rfl⟩ (by repeat (first | exact Part.refl _ | refine Part.pull (by repeat (first | exact Pull.here | apply Pull.there)) ?_ | refine Part.skip _ ?_ | exact Part.nil _ | exact Part.app _ _ | exact Part.appL _ _ | refine Part.appR _ ?_)) (by repeat (first | exact Part.refl _ | refine Part.pull (by repeat (first | exact Pull.here | apply Pull.there)) ?_ | refine Part.skip _ ?_ | exact Part.nil _ | exact Part.app _ _ | exact Part.appL _ _ | refine Part.appR _ ?_))
end Go.Proofs.YthfoobfgdakbmaaDoor

set_option linter.unusedVariables false
set_option linter.unusedSimpArgs false
set_option maxRecDepth 100000
namespace Go.Proofs.YthfoobfgdakbmaaDoor
open Go Go.RowKit Go.L
theorem q_en_61 : enterable Tryd.prog 61 = true := by kernel_rfl
theorem q_sv_22 : sliceTy Tryd.prog 22 = some 34 := by kernel_rfl
theorem q_el_22 : elemIn Tryd.prog 22 = some (28, 34, 80) := by kernel_rfl
theorem q_f_34 : Tryd.prog.funcs[34]? = some Tryd.f34 := by kernel_rfl

def keepT (t : TraceD) (l : List TraceD) : List TraceD := l.filter fun x => !decide (SameT x t)
def cur (t : TraceD) (ts : List TraceD) (j : Nat) : List TraceD := keepT t (ts.take j) ++ ts.drop (keepT t (ts.take j)).length
theorem keep_le (t : TraceD) (ts : List TraceD) (j : Nat) : (keepT t (ts.take j)).length ≤ j := by
  refine Nat.le_trans (List.length_filter_le _ _) ?_
  rw [List.length_take]; omega
theorem cur_len {t : TraceD} {ts : List TraceD} {j : Nat} (hj : j ≤ ts.length) : (cur t ts j).length = ts.length := by
  have := keep_le t ts j
  rw [cur, List.length_append, List.length_drop]; omega
theorem cur_at {t : TraceD} {ts : List TraceD} {j : Nat} (hj : j < ts.length) : (cur t ts j)[j]'(by rw [cur_len (by omega)]; exact hj) = ts[j] := by
  have := keep_le t ts j
  simp only [cur]
  rw [List.getElem_append_right (by omega), List.getElem_drop]
  congr 1; omega
theorem keep_yes {t : TraceD} {ts : List TraceD} {j : Nat} (hj : j < ts.length) (h : SameT ts[j] t) : keepT t (ts.take (j + 1)) = keepT t (ts.take j) := by
  rw [List.take_add_one, List.getElem?_eq_getElem hj, keepT, List.filter_append]
  simp [keepT, h]
theorem keep_no {t : TraceD} {ts : List TraceD} {j : Nat} (hj : j < ts.length) (h : ¬ SameT ts[j] t) : keepT t (ts.take (j + 1)) = keepT t (ts.take j) ++ [ts[j]] := by
  rw [List.take_add_one, List.getElem?_eq_getElem hj, keepT, List.filter_append]
  simp [keepT, h]
theorem cur_yes {t : TraceD} {ts : List TraceD} {j : Nat} (hj : j < ts.length) (h : SameT ts[j] t) : cur t ts (j + 1) = cur t ts j := by
  rw [cur, keep_yes hj h]; rfl
theorem cur_no {t : TraceD} {ts : List TraceD} {j : Nat} (hj : j < ts.length) (h : ¬ SameT ts[j] t) : (cur t ts j).set (keepT t (ts.take j)).length ts[j] = cur t ts (j + 1) := by
  have hk := keep_le t ts j
  rw [cur, cur, keep_no hj h, List.set_append_right _ _ (Nat.le_refl _), Nat.sub_self, List.drop_eq_getElem_cons (by omega), List.set_cons_zero, List.length_append, List.length_singleton, List.append_assoc]
  rfl
theorem keep_all {t : TraceD} {ts : List TraceD} {k : Nat} (h : ∀ j (h : j < ts.length), j < k → ¬ SameT ts[j] t) : keepT t (ts.take k) = ts.take k := by
  rw [keepT, List.filter_eq_self]
  intro x hx
  obtain ⟨i, hi, rfl⟩ := List.mem_iff_getElem.1 hx
  rw [List.length_take] at hi
  rw [List.getElem_take]
  simp [h i (by omega) (by omega)]
theorem cur_first {t : TraceD} {ts : List TraceD} {k : Nat} (hk : k < ts.length) (hs : SameT ts[k] t) (h : ∀ j (h : j < ts.length), j < k → ¬ SameT ts[j] t) : cur t ts (k + 1) = ts ∧ (keepT t (ts.take (k + 1))).length = k := by
  have e : keepT t (ts.take (k + 1)) = ts.take k := by rw [keep_yes hk hs, keep_all h]
  rw [cur, e, List.length_take, Nat.min_eq_left (by omega)]
  exact ⟨List.take_append_drop _ _, rfl⟩
theorem perm3 {α : Type} (a b c : α) (l : List α) : (a :: b :: c :: l).Perm (c :: a :: b :: l) :=
  ((List.Perm.swap c b l).cons a).trans (List.Perm.swap c a (b :: l))
theorem tail_clear {ks ds : List LV} {rest : List LV} (hk : ∀ e ∈ ks ++ ds, e.cells.length = 34) : splice (flat (ks ++ ds) ++ rest) (0 + ks.length * 34) (List.replicate (ds.length * 34) .und) = flat ks ++ (List.replicate (ds.length * 34) .und ++ rest) := by
  have h1 := flat_len (k := 34) (es := ks) (fun e he => hk e (List.mem_append_left _ he))
  have h2 := flat_len (k := 34) (es := ds) (fun e he => hk e (List.mem_append_right _ he))
  unfold splice
  rw [flat_append, Nat.zero_add, List.length_replicate, ← h1, ← h2]
  simp only [List.append_assoc, List.take_left]
  congr 1
  congr 1
  rw [List.drop_append, List.drop_of_length_le (by omega), List.nil_append, Nat.add_sub_cancel_left, List.drop_left]
theorem clear_cur {t : TraceD} {ts : List TraceD} {rest : List LV} : splice (flat ((cur t ts ts.length).map traceDV) ++ rest) (0 + (keepT t ts).length * 34) (List.replicate ((ts.length - (keepT t ts).length) * 34) .und) = flat ((keepT t ts).map traceDV) ++ (List.replicate ((ts.length - (keepT t ts).length) * 34) .und ++ rest) := by
  have e : cur t ts ts.length = keepT t ts ++ ts.drop (keepT t ts).length := by rw [cur, List.take_length]
  rw [e, List.map_append]
  have := tail_clear (ks := (keepT t ts).map traceDV) (ds := (ts.drop (keepT t ts).length).map traceDV) (rest := rest) (by rw [← List.map_append]; exact trace_cells _)
  rw [List.length_map, List.length_map, List.length_drop] at this
  exact this
theorem keep_self {t : TraceD} {ts : List TraceD} (h : ∀ j (h : j < ts.length), ¬ SameT ts[j] t) : keepT t ts = ts := by
  have := keep_all (t := t) (ts := ts) (k := ts.length) (fun j hj _ => h j hj)
  rwa [List.take_length] at this

theorem delete_spec (row : Row) (ts : List TraceD) (t : TraceD) (i cv : Nat) (hok : row.ok 34 (ts.map traceDV)) (hl : ts.length < 1048576) (F : Hp) (T : Tk) : HCalls Tryd.prog 34 [row.v (ts.map traceDV), .fn (.func 35) [] [.ref i 0]] (row.o (ts.map traceDV) :: (i, .cells 28 (traceDC t) cv) :: F) T (fun r L' T' => ∃ row' : Row, row'.ok 34 ((keepT t ts).map traceDV) ∧ r = row'.v ((keepT t ts).map traceDV) ∧ L' = row'.o ((keepT t ts).map traceDV) :: (i, .cells 28 (traceDC t) cv) :: F ∧ T' = T) := by
 refine HCalls.enterG q_f_34 rfl ?_
 refine HWp.frame (r' := ⟨42, [(0, row.v (ts.map traceDV)), (1, .fn (.func 35) [] [.ref i 0])]⟩) rfl ?_
 refine HWp.seq ?_
 refine HWp.text (.rd 0 .done) rfl ?_
 refine HPlan.assign rfl rfl rfl ?_
 refine HPlan.fin ?_
 refine onNorm_n ?_
 refine HWp.seq ?_
 refine HWp.text (.rd 0 (.rd 1 (.act 2 [] (.rd 3 .done)))) rfl ?_
 refine HPlan.move rfl rfl rfl ?_
 refine HPlan.move rfl rfl rfl ?_
 refine HPlan.callS rfl rfl rfl q_en_61 (idxrow_spec row ts t i cv hok hl F T) (List.Perm.refl _) (List.Perm.refl _) ?_
 rintro r_R1_2 L_R1_2 T1 ⟨n, rfl, hn, rfl, rfl⟩
 refine ⟨keptH_nil, ?_⟩
 refine HPlan.assign rfl rfl rfl ?_
 refine HPlan.fin ?_
 refine onNorm_n ?_
 refine HWp.seq ?_
 refine HWp.seq ?_
 refine HWp.text (.rd 0 (.rd 1 .done)) rfl ?_
 refine HPlan.move rfl rfl rfl ?_
 refine HPlan.intBin rfl rfl rfl rfl rfl rfl ?_
 refine HPlan.fin ?_
 refine onNorm_n ?_
 refine HWp.cond rfl ?_ ?_
 ·
  intro hc12
  first
  | exact PrN hc12
  | ((try simp only [Pr] at hc12); exfalso; omega)
  | (try simp only [Pr] at hc12)
    refine HWp.seq ?_
    refine HWp.text (.rd 0 (.rd 1 .done)) rfl ?_
    refine HPlan.move rfl rfl rfl ?_
    refine HPlan.assign rfl rfl rfl ?_
    refine HPlan.fin ?_
    refine onNorm_n ?_
    refine HWp.ret ?_
    refine onNorm_r ?_
    refine retQ_r (.tmp rfl .nil) ?_
    first
    | (have e := keep_self (hn.resolve_right (fun ⟨k, hk, e, _⟩ => by omega)).2; exact endK_of ⟨row, by rw [e]; exact hok, by rw [e]; rfl, by rw [e], rfl⟩ (by repeat (first | exact Part.refl _ | refine Part.pull (by repeat (first | exact Pull.here | apply Pull.there)) ?_ | refine Part.skip _ ?_ | exact Part.nil _ | exact Part.app _ _ | exact Part.appL _ _ | refine Part.appR _ ?_)) (by repeat (first | exact Part.refl _ | refine Part.pull (by repeat (first | exact Pull.here | apply Pull.there)) ?_ | refine Part.skip _ ?_ | exact Part.nil _ | exact Part.app _ _ | exact Part.appL _ _ | refine Part.appR _ ?_)))
    | exact endK_of ⟨⟨row.id, row.ty, ver + 1, row.cap, List.replicate ((ts.length - (keepT t ts).length) * 34) .und ++ row.rest⟩, ⟨by have := hok.len; simp only [List.length_map, List.length_append, List.length_replicate] at this ⊢; omega, by have := hok.cap; simp only [List.length_map] at this ⊢; omega, trace_cells _⟩, by simp only [Row.v, List.length_map]; rfl, rfl, rfl⟩ (by repeat (first | exact Part.refl _ | refine Part.pull (by repeat (first | exact Pull.here | apply Pull.there)) ?_ | refine Part.skip _ ?_ | exact Part.nil _ | exact Part.app _ _ | exact Part.appL _ _ | refine Part.appR _ ?_)) (by repeat (first | exact Part.refl _ | refine Part.pull (by repeat (first | exact Pull.here | apply Pull.there)) ?_ | refine Part.skip _ ?_ | exact Part.nil _ | exact Part.app _ _ | exact Part.appL _ _ | refine Part.appR _ ?_))
 ·
  intro hc12
  first
  | exact PrN hc12
  | ((try simp only [Pr] at hc12); exfalso; omega)
  | (try simp only [Pr] at hc12)
    obtain ⟨k, hk, rfl, hsk, hno⟩ := hn.resolve_left (fun h => hc12 h.1)
    refine HWp.skip ?_
    refine onNorm_n ?_
    refine HWp.seq ?_
    refine HWp.seq ?_
    refine HWp.text (.rd 0 (.rd 1 (.rd 2 .done))) rfl ?_
    refine HPlan.move rfl rfl rfl ?_
    refine HPlan.intBin rfl rfl rfl rfl rfl (by first | exact add_i64 (by omega) (by omega) | rfl) ?_
    refine HPlan.assign rfl rfl rfl ?_
    refine HPlan.fin ?_
    refine onNorm_n ?_
    refine HWp.block ?_
    refine HWp.loopF (α := Nat × Nat) (fun q => ts.length - q.1) (fun q => q.1 ≤ ts.length ∧ (keepT t (ts.take q.1)).length < q.1) (fun q => ⟨42, [(0, row.v (ts.map traceDV)), (1, .fn (.func 35) [] [.ref i 0]), (5, .int .i64 ((keepT t (ts.take q.1)).length : Int)), (6, .int .i64 (q.1 : Int))]⟩) (fun q => (row.id, .cells row.ty (flat ((cur t ts q.1).map traceDV) ++ row.rest) q.2) :: (i, .cells 28 (traceDC t) cv) :: F) (fun q => T1) ?_ ?_
    ·
     obtain ⟨hcf, hkl⟩ := cur_first hk hsk hno
     rw [show row.o (ts.map traceDV) = (row.id, LObj.cells row.ty (flat ((cur t ts (k + 1)).map traceDV) ++ row.rest) row.ver) by rw [hcf]; rfl]
     rw [show (LV.int .i64 (k : Int)) = LV.int .i64 ((keepT t (ts.take (k + 1))).length : Int) by rw [hkl]]
     refine ⟨(k + 1, row.ver), ⟨by show k + 1 ≤ _; omega, by show (keepT t (ts.take (k + 1))).length < k + 1; rw [(cur_first hk hsk hno).2]; omega⟩, (LessE.less (by repeat (first | exact LessE.nil | refine LessE.same rfl ?_ | refine LessE.own rfl ?_ | refine LessE.eq rfl ?_ (by first | rfl | (congr 1; omega) | simp))) rfl), (by repeat (first | exact Part.refl _ | refine Part.pull (by repeat (first | exact Pull.here | apply Pull.there)) ?_ | refine Part.skip _ ?_ | exact Part.nil _ | exact Part.app _ _ | exact Part.appL _ _ | refine Part.appR _ ?_)), (by repeat (first | exact Part.refl _ | refine Part.pull (by repeat (first | exact Pull.here | apply Pull.there)) ?_ | refine Part.skip _ ?_ | exact Part.nil _ | exact Part.app _ _ | exact Part.appL _ _ | refine Part.appR _ ?_))⟩
    ·
     rintro q ⟨hj1, hlt⟩
     obtain ⟨j, ver⟩ := q
     simp only at hj1 hlt ⊢
     have hcl := cur_len (t := t) (ts := ts) hj1
     have hkj := keep_le t ts j
     refine HWp.seq ?_
     refine HWp.seq ?_
     refine HWp.text (.rd 0 (.rd 1 (.rd 2 (.rd 3 .done)))) rfl ?_
     refine HPlan.move rfl rfl rfl ?_
     refine HPlan.move rfl rfl rfl ?_
     refine HPlan.lenO hok.own rfl rfl rfl q_tk_22 (by rw [List.length_map]) ?_
     refine HPlan.intBin rfl rfl rfl rfl rfl rfl ?_
     refine HPlan.fin ?_
     refine onNorm_n ?_
     refine HWp.cond rfl ?_ ?_
     ·
      intro hc19
      first
      | exact PrN hc19
      | ((try simp only [Pr] at hc19); exfalso; omega)
      | (try simp only [Pr] at hc19)
        refine HWp.skip ?_
        refine onNorm_n ?_
        refine HWp.seq ?_
        refine HWp.block ?_
        refine HWp.seq ?_
        refine HWp.text (.rd 0 (.rd 1 (.rd 2 (.rd 3 (.act 4 [] (.act 5 [] .done)))))) rfl ?_
        refine HPlan.move rfl rfl rfl ?_
        refine HPlan.move rfl rfl rfl ?_
        refine HPlan.indexH rfl rfl rfl rfl q_ix_22 (by omega) (by simp only [List.length_map]; omega) (rfl : _ = LV.ref row.id (0 + j * 34)) ?_
        refine HPlan.load rfl rfl rfl q_sh_28 (by repeat (first | exact List.Mem.head _ | apply List.Mem.tail | assumption)) (by constructor <;> simp [flat_len (trace_cells _)] <;> omega) ((trace_load (k := j) (by omega)).trans (congrArg traceDV (cur_at (by omega)))) ?_
        refine HPlan.alloc rfl rfl q_zo_28 (by first | rfl | (simp; done)) (fun i7 => ⟨keptH_nil, ?_⟩)
        refine HPlan.store rfl rfl rfl rfl q_sz_28 (by first | rfl | (simp; done)) (by first | rfl | decide | omega | (simp [digC_len, dgV, LV.cells, readDC_len, readDV, madeDC_len, madeDV, traceDC_len, traceDV]; done) | (simp [digC_len, dgV, LV.cells, readDC_len, readDV, madeDC_len, madeDV, traceDC_len, traceDV]; omega)) (by repeat (first | exact List.Mem.head _ | apply List.Mem.tail | assumption)) (by first | exact (splice_whole _ (traceDC _) (by rw [traceDC_len]; rfl)) | rfl) (by repeat (first | exact Upd.here | apply Upd.there)) (by first | rfl | decide | omega | (simp [digC_len, dgV, LV.cells, readDC_len, readDV, madeDC_len, madeDV, traceDC_len, traceDV]; done) | (simp [digC_len, dgV, LV.cells, readDC_len, readDV, madeDC_len, madeDV, traceDC_len, traceDV]; omega)) keptH_nil ?_
        refine HPlan.fin ?_
        refine onNorm_n ?_
        refine HWp.seq ?_
        refine HWp.text (.rd 0 (.rd 1 (.act 2 [] (.rd 3 .done)))) rfl ?_
        refine HPlan.move rfl rfl rfl ?_
        first
        | refine HPlan.loadI rfl rfl rfl q_sh_28 (by constructor <;> first | rfl | decide | omega | exact Nat.le_refl _ | (simp [digC_len, dgV, LV.cells, readDC_len, readDV, madeDC_len, madeDV, traceDC_len, traceDV]; done) | (simp [digC_len, dgV, LV.cells, readDC_len, readDV, madeDC_len, madeDV, traceDC_len, traceDV]; omega)) (by first | exact (traceD_all _) | rfl) ?_
        | refine HPlan.load rfl rfl rfl q_sh_28 (by repeat (first | exact List.Mem.head _ | apply List.Mem.tail | assumption)) (by constructor <;> first | rfl | decide | omega | exact Nat.le_refl _ | (simp [digC_len, dgV, LV.cells, readDC_len, readDV, madeDC_len, madeDV, traceDC_len, traceDV]; done) | (simp [digC_len, dgV, LV.cells, readDC_len, readDV, madeDC_len, madeDV, traceDC_len, traceDV]; omega)) (by first | exact (traceD_all _) | rfl) ?_
        refine HPlan.callV rfl rfl rfl rfl q_en_35 rfl (closure_spec ts[j] t i cv _ _) (perm3 _ _ _ _) (List.Perm.refl _) ?_
        rintro r_R8_2 L_R8_2 T2 ⟨rfl, rfl, rfl⟩
        refine ⟨keptH_nil, ?_⟩
        refine HPlan.not rfl rfl rfl rfl ?_
        refine HPlan.fin ?_
        refine onNorm_n ?_
        refine HWp.cond rfl ?_ ?_
        ·
         intro hc29
         first
         | exact PrN hc29
         | ((try simp only [Pr] at hc29); exfalso; omega)
         | (try simp only [Pr] at hc29)
           refine HWp.seq ?_
           refine HWp.text (.rd 0 (.rd 1 (.rd 2 (.rd 3 (.act 4 [] .done))))) rfl ?_
           refine HPlan.move rfl rfl rfl ?_
           refine HPlan.move rfl rfl rfl ?_
           first
           | refine HPlan.loadI rfl rfl rfl q_sh_28 (by constructor <;> first | rfl | decide | omega | exact Nat.le_refl _ | (simp [digC_len, dgV, LV.cells, readDC_len, readDV, madeDC_len, madeDV, traceDC_len, traceDV]; done) | (simp [digC_len, dgV, LV.cells, readDC_len, readDV, madeDC_len, madeDV, traceDC_len, traceDV]; omega)) (by first | exact (traceD_all _) | rfl) ?_
           | refine HPlan.load rfl rfl rfl q_sh_28 (by repeat (first | exact List.Mem.head _ | apply List.Mem.tail | assumption)) (by constructor <;> first | rfl | decide | omega | exact Nat.le_refl _ | (simp [digC_len, dgV, LV.cells, readDC_len, readDV, madeDC_len, madeDV, traceDC_len, traceDV]; done) | (simp [digC_len, dgV, LV.cells, readDC_len, readDV, madeDC_len, madeDV, traceDC_len, traceDV]; omega)) (by first | exact (traceD_all _) | rfl) ?_
           refine HPlan.indexH rfl rfl rfl rfl q_ix_22 (by omega) (by simp only [List.length_map]; omega) (rfl : _ = LV.ref row.id (0 + (keepT t (ts.take j)).length * 34)) ?_
           refine HPlan.store rfl rfl rfl rfl q_sz_28 (by first | rfl | (simp; done)) (by simp [traceDV, LV.cells]) (by repeat (first | exact List.Mem.head _ | apply List.Mem.tail | assumption)) ((trace_store (by omega) ts[j]).trans (by rw [cur_no (by omega) (by simpa using hc29)])) (by repeat (first | exact Upd.here | apply Upd.there)) (by simp [flat_len (trace_cells _)]; omega) keptH_nil ?_
           refine HPlan.fin ?_
           refine onNorm_n ?_
           refine HWp.text (.rd 0 (.rd 1 (.rd 2 .done))) rfl ?_
           refine HPlan.move rfl rfl rfl ?_
           refine HPlan.intBin rfl rfl rfl rfl rfl (by first | exact add_i64 (by omega) (by omega) | rfl) ?_
           refine HPlan.assign rfl rfl rfl ?_
           refine HPlan.fin ?_
           refine onExitH_n ?_
           refine onNorm_n ?_
           refine HWp.text (.rd 0 (.rd 1 (.rd 2 .done))) rfl ?_
           refine HPlan.move rfl rfl rfl ?_
           refine HPlan.intBin rfl rfl rfl rfl rfl (by first | exact add_i64 (by omega) (by omega) | rfl) ?_
           refine HPlan.assign rfl rfl rfl ?_
           refine HPlan.fin ?_
           refine onNorm_n ?_
           first
           | (have hns : ¬ SameT ts[j] t := (by simpa using hc29); have hkn := keep_no (by omega) hns; rw [show LV.int .i64 (((keepT t (ts.take j)).length : Int) + 1) = LV.int .i64 ((keepT t (ts.take (j + 1))).length : Int) by rw [hkn, List.length_append, List.length_singleton]; rfl]; exact ⟨(j + 1, ver + 1), (by show ts.length - (j + 1) < ts.length - j; omega), ⟨by show j + 1 ≤ _; omega, by show (keepT t (ts.take (j + 1))).length < j + 1; rw [hkn, List.length_append, List.length_singleton]; omega⟩, (LessE.less (by repeat (first | exact LessE.nil | refine LessE.same rfl ?_ | refine LessE.own rfl ?_ | refine LessE.eq rfl ?_ (by first | rfl | (congr 1; omega) | simp))) rfl), (by repeat (first | exact Part.refl _ | refine Part.pull (by repeat (first | exact Pull.here | apply Pull.there)) ?_ | refine Part.skip _ ?_ | exact Part.nil _ | exact Part.app _ _ | exact Part.appL _ _ | refine Part.appR _ ?_)), (by repeat (first | exact Part.refl _ | refine Part.pull (by repeat (first | exact Pull.here | apply Pull.there)) ?_ | refine Part.skip _ ?_ | exact Part.nil _ | exact Part.app _ _ | exact Part.appL _ _ | refine Part.appR _ ?_))⟩)
           | (have hys : SameT ts[j] t := (by simpa using hc29); rw [← cur_yes (by omega) hys, show LV.int .i64 ((keepT t (ts.take j)).length : Int) = LV.int .i64 ((keepT t (ts.take (j + 1))).length : Int) by rw [keep_yes (by omega) hys]]; exact ⟨(j + 1, ver), (by show ts.length - (j + 1) < ts.length - j; omega), ⟨by show j + 1 ≤ _; omega, by show (keepT t (ts.take (j + 1))).length < j + 1; rw [keep_yes (by omega) hys]; omega⟩, (LessE.less (by repeat (first | exact LessE.nil | refine LessE.same rfl ?_ | refine LessE.own rfl ?_ | refine LessE.eq rfl ?_ (by first | rfl | (congr 1; omega) | simp))) rfl), (by repeat (first | exact Part.refl _ | refine Part.pull (by repeat (first | exact Pull.here | apply Pull.there)) ?_ | refine Part.skip _ ?_ | exact Part.nil _ | exact Part.app _ _ | exact Part.appL _ _ | refine Part.appR _ ?_)), (by repeat (first | exact Part.refl _ | refine Part.pull (by repeat (first | exact Pull.here | apply Pull.there)) ?_ | refine Part.skip _ ?_ | exact Part.nil _ | exact Part.app _ _ | exact Part.appL _ _ | refine Part.appR _ ?_))⟩)
        ·
         intro hc29
         first
         | exact PrN hc29
         | ((try simp only [Pr] at hc29); exfalso; omega)
         | (try simp only [Pr] at hc29)
           refine HWp.skip ?_
           refine onExitH_n ?_
           refine onNorm_n ?_
           refine HWp.text (.rd 0 (.rd 1 (.rd 2 .done))) rfl ?_
           refine HPlan.move rfl rfl rfl ?_
           refine HPlan.intBin rfl rfl rfl rfl rfl (by first | exact add_i64 (by omega) (by omega) | rfl) ?_
           refine HPlan.assign rfl rfl rfl ?_
           refine HPlan.fin ?_
           refine onNorm_n ?_
           first
           | (have hns : ¬ SameT ts[j] t := (by simpa using hc29); have hkn := keep_no (by omega) hns; rw [show LV.int .i64 (((keepT t (ts.take j)).length : Int) + 1) = LV.int .i64 ((keepT t (ts.take (j + 1))).length : Int) by rw [hkn, List.length_append, List.length_singleton]; rfl]; exact ⟨(j + 1, ver + 1), (by show ts.length - (j + 1) < ts.length - j; omega), ⟨by show j + 1 ≤ _; omega, by show (keepT t (ts.take (j + 1))).length < j + 1; rw [hkn, List.length_append, List.length_singleton]; omega⟩, (LessE.less (by repeat (first | exact LessE.nil | refine LessE.same rfl ?_ | refine LessE.own rfl ?_ | refine LessE.eq rfl ?_ (by first | rfl | (congr 1; omega) | simp))) rfl), (by repeat (first | exact Part.refl _ | refine Part.pull (by repeat (first | exact Pull.here | apply Pull.there)) ?_ | refine Part.skip _ ?_ | exact Part.nil _ | exact Part.app _ _ | exact Part.appL _ _ | refine Part.appR _ ?_)), (by repeat (first | exact Part.refl _ | refine Part.pull (by repeat (first | exact Pull.here | apply Pull.there)) ?_ | refine Part.skip _ ?_ | exact Part.nil _ | exact Part.app _ _ | exact Part.appL _ _ | refine Part.appR _ ?_))⟩)
           | (have hys : SameT ts[j] t := (by simpa using hc29); rw [← cur_yes (by omega) hys, show LV.int .i64 ((keepT t (ts.take j)).length : Int) = LV.int .i64 ((keepT t (ts.take (j + 1))).length : Int) by rw [keep_yes (by omega) hys]]; exact ⟨(j + 1, ver), (by show ts.length - (j + 1) < ts.length - j; omega), ⟨by show j + 1 ≤ _; omega, by show (keepT t (ts.take (j + 1))).length < j + 1; rw [keep_yes (by omega) hys]; omega⟩, (LessE.less (by repeat (first | exact LessE.nil | refine LessE.same rfl ?_ | refine LessE.own rfl ?_ | refine LessE.eq rfl ?_ (by first | rfl | (congr 1; omega) | simp))) rfl), (by repeat (first | exact Part.refl _ | refine Part.pull (by repeat (first | exact Pull.here | apply Pull.there)) ?_ | refine Part.skip _ ?_ | exact Part.nil _ | exact Part.app _ _ | exact Part.appL _ _ | refine Part.appR _ ?_)), (by repeat (first | exact Part.refl _ | refine Part.pull (by repeat (first | exact Pull.here | apply Pull.there)) ?_ | refine Part.skip _ ?_ | exact Part.nil _ | exact Part.app _ _ | exact Part.appL _ _ | refine Part.appR _ ?_))⟩)
     ·
      intro hc19
      first
      | exact PrN hc19
      | ((try simp only [Pr] at hc19); exfalso; omega)
      | (try simp only [Pr] at hc19)
        refine HWp.exit ?_
        refine onNorm_e ?_
        refine onNorm_e ?_
        obtain rfl : j = ts.length := by omega
        rw [List.take_length] at hlt hkj ⊢
        refine onExitH_hit ?_
        refine onNorm_n ?_
        refine HWp.seq ?_
        refine HWp.text (.rd 0 (.rd 1 (.rd 2 (.act 3 [] .done)))) rfl ?_
        refine HPlan.move rfl rfl rfl ?_
        refine HPlan.move rfl rfl rfl ?_
        refine HPlan.sliceH rfl rfl rfl rfl rfl q_sv_22 (by omega) (by simp only [List.length_map]; omega) (by have := hok.cap; simp only [List.length_map] at this ⊢; omega) (by rw [if_neg (by have := hok.cap; rw [List.length_map] at this; simp only [Int.toNat_natCast]; omega)]; simp only [List.length_map, Int.toNat_natCast] : _ = LV.hs row.id (0 + (keepT t ts).length * 34) (ts.length - (keepT t ts).length) (row.cap - (keepT t ts).length)) ?_
        refine HPlan.clearH rfl rfl rfl q_el_22 q_zo_28 rfl (by repeat (first | exact List.Mem.head _ | apply List.Mem.tail | assumption)) (by simp [flat_len (trace_cells _)]; omega) clear_cur (by repeat (first | exact Upd.here | apply Upd.there)) keptH_nil ?_
        refine HPlan.fin ?_
        refine onNorm_n ?_
        refine HWp.seq ?_
        refine HWp.text (.rd 0 (.rd 1 (.rd 2 (.rd 3 .done)))) rfl ?_
        refine HPlan.move rfl rfl rfl ?_
        refine HPlan.move rfl rfl rfl ?_
        refine HPlan.sliceH rfl rfl rfl rfl rfl q_sv_22 (by omega) (by omega) (by have := hok.cap; rw [List.length_map] at this; omega) (by simp only [Int.toNat_natCast, Int.toNat_zero, Nat.sub_zero, Nat.zero_mul, Nat.add_zero, ite_self, List.length_map] : _ = LV.hs row.id 0 (keepT t ts).length row.cap) ?_
        refine HPlan.assign rfl rfl rfl ?_
        refine HPlan.fin ?_
        refine onNorm_n ?_
        refine HWp.ret ?_
        refine retQ_r (.tmp rfl .nil) ?_
        first
        | (have e := keep_self (hn.resolve_right (fun ⟨k, hk, e, _⟩ => by omega)).2; exact endK_of ⟨row, by rw [e]; exact hok, by rw [e]; rfl, by rw [e], rfl⟩ (by repeat (first | exact Part.refl _ | refine Part.pull (by repeat (first | exact Pull.here | apply Pull.there)) ?_ | refine Part.skip _ ?_ | exact Part.nil _ | exact Part.app _ _ | exact Part.appL _ _ | refine Part.appR _ ?_)) (by repeat (first | exact Part.refl _ | refine Part.pull (by repeat (first | exact Pull.here | apply Pull.there)) ?_ | refine Part.skip _ ?_ | exact Part.nil _ | exact Part.app _ _ | exact Part.appL _ _ | refine Part.appR _ ?_)))
        | exact endK_of ⟨⟨row.id, row.ty, ver + 1, row.cap, List.replicate ((ts.length - (keepT t ts).length) * 34) .und ++ row.rest⟩, ⟨by have := hok.len; simp only [List.length_map, List.length_append, List.length_replicate] at this ⊢; omega, by have := hok.cap; simp only [List.length_map] at this ⊢; omega, trace_cells _⟩, by simp only [Row.v, List.length_map]; rfl, rfl, rfl⟩ (by repeat (first | exact Part.refl _ | refine Part.pull (by repeat (first | exact Pull.here | apply Pull.there)) ?_ | refine Part.skip _ ?_ | exact Part.nil _ | exact Part.app _ _ | exact Part.appL _ _ | refine Part.appR _ ?_)) (by repeat (first | exact Part.refl _ | refine Part.pull (by repeat (first | exact Pull.here | apply Pull.there)) ?_ | refine Part.skip _ ?_ | exact Part.nil _ | exact Part.app _ _ | exact Part.appL _ _ | refine Part.appR _ ?_))
end Go.Proofs.YthfoobfgdakbmaaDoor

set_option linter.unusedVariables false
set_option linter.unusedSimpArgs false
set_option maxRecDepth 100000
namespace Go.Proofs.YthfoobfgdakbmaaDoor
open Go Go.RowKit Go.L
theorem q_src_22 : srcTy Tryd.prog 22 = true := by kernel_rfl
theorem q_un_3 : Tryd.prog.underlying 3 = some (.int .i64) := by kernel_rfl
theorem q_f_64 : Tryd.prog.funcs[64]? = some Tryd.f64 := by kernel_rfl
theorem q_f_37 : Tryd.prog.funcs[37]? = some Tryd.f37 := by kernel_rfl

theorem row_take {k n : Nat} {es : List LV} {rest : List LV} (hk : ∀ e ∈ es, e.cells.length = k) (hn : n = es.length) : ((flat es ++ rest).drop 0).take (n * k) = flat es := by
  subst hn
  rw [List.drop_zero, ← flat_len hk, List.take_left]
theorem trace_ones (ts : List TraceD) : ∀ c ∈ flat (ts.map traceDV), c.one = true := fun c hc => by
  simp only [flat, List.mem_flatMap, List.mem_map] at hc
  obtain ⟨e, ⟨x, _, rfl⟩, h⟩ := hc
  have := traceDV_solid x
  simp only [LV.solid, List.all_eq_true] at this
  exact this c h
theorem put_first {a b rest : List LV} {m : Nat} (ha : a.length = m) (h : m ≤ rest.length) : splice rest 0 a = a ++ rest.drop m := by
  subst ha; simp [splice]
theorem put_next {a b rest : List LV} {m n : Nat} (ha : a.length = m) (hb : b.length = n) : splice (a ++ rest) m b = a ++ (b ++ rest.drop n) := by
  subst ha; subst hb
  simp [splice, List.drop_append]
theorem sub_none {n : Nat} (h : n < 4611686018427387904) : intBin .sub .i64 ((n : Int) + 1) 0 = .int .i64 ((n + 1 : Nat) : Int) := by
  rw [sub_i64 (by omega) (by omega)]
  rfl
theorem cells_len {row : Row} {ts : List TraceD} (h : row.ok 34 (ts.map traceDV)) : (flat (ts.map traceDV) ++ row.rest).length = row.cap * 34 := by
  have := h.len
  rw [List.length_append, flat_len (trace_cells ts)]; exact this
theorem ne_cells {row : Row} {ts : List TraceD} (h : row.ok 34 (ts.map traceDV)) (hc : 0 < row.cap) : flat (ts.map traceDV) ++ row.rest ≠ [] := fun e => by
  have := cells_len h
  rw [e] at this; simp at this; omega
theorem shift_cells {es rest : List LV} {n : Nat} (hn : (flat es).length = n) (h : 34 + n ≤ (flat es ++ rest).length) (a : List LV) (ha : a.length = 34) : splice (splice (flat es ++ rest) 34 (flat es)) 0 a = a ++ (flat es ++ (flat es ++ rest).drop (34 + n)) := by
  have e : splice (flat es ++ rest) 34 (flat es) = (flat es ++ rest).take 34 ++ (flat es ++ (flat es ++ rest).drop (34 + n)) := by
    unfold splice; rw [hn, List.append_assoc]
  rw [e, put_first (b := []) ha (by rw [List.length_append, List.length_take]; omega), List.drop_left' (by rw [List.length_take]; omega)]
theorem splice_len {cs new : List LV} {off : Nat} (h : off + new.length ≤ cs.length) : (splice cs off new).length = cs.length := by
  unfold splice
  simp only [List.length_append, List.length_take, List.length_drop]; omega
theorem flat_first (x : TraceD) (ts : List TraceD) (R : List LV) : flat [traceDV x] ++ (flat (ts.map traceDV) ++ R) = flat ((x :: ts).map traceDV) ++ R := by simp [flat]
theorem solid1 (x : TraceD) : ∀ e ∈ [traceDV x], e.solid = true := fun e he => by simp at he; subst he; simp
theorem cells1 (x : TraceD) : ∀ e ∈ [traceDV x], e.cells.length = 34 := trace_cells [x]

theorem insert_spec (row vrow : Row) (ts : List TraceD) (x : TraceD) (hok : row.ok 34 (ts.map traceDV)) (hv : vrow.ok 34 [traceDV x]) (hid : vrow.id ≠ row.id) (hl : ts.length < 1048576) (F : Hp) (T : Tk) : HCalls Tryd.prog 37 [row.v (ts.map traceDV), .int .i64 0, vrow.v [traceDV x]] (row.o (ts.map traceDV) :: vrow.o [traceDV x] :: F) T (fun r L' T' => ∃ row' : Row, row'.ok 34 ((x :: ts).map traceDV) ∧ r = row'.v ((x :: ts).map traceDV) ∧ L' = row'.o ((x :: ts).map traceDV) :: F ∧ T' = T) := by
 have hcapL := hok.cap
 rw [List.length_map] at hcapL
 refine HCalls.enterG q_f_37 rfl ?_
 refine HWp.frame (r' := ⟨95, [(0, row.v (ts.map traceDV)), (1, .int .i64 0), (2, vrow.v [traceDV x])]⟩) rfl ?_
 refine HWp.seq ?_
 refine HWp.text (.rd 0 .done) rfl ?_
 refine HPlan.assign rfl rfl rfl ?_
 refine HPlan.fin ?_
 refine onNorm_n ?_
 refine HWp.seq ?_
 refine HWp.text (.rd 0 (.rd 1 (.rd 2 .done))) rfl ?_
 refine HPlan.move rfl rfl rfl ?_
 refine HPlan.move rfl rfl rfl ?_
 refine HPlan.sliceH rfl rfl rfl rfl rfl q_sv_22 (by omega) (by simp only [List.length_map]; omega) (by have := hok.cap; simp only [List.length_map] at this ⊢; omega) rfl ?_
 refine HPlan.fin ?_
 refine onNorm_n ?_
 refine HWp.seq ?_
 refine HWp.text (.rd 0 (.rd 1 (.rd 2 .done))) rfl ?_
 refine HPlan.move rfl rfl rfl ?_
 refine HPlan.lenO hv.own rfl rfl rfl q_tk_22 (rfl : _ = LV.int .i64 1) ?_
 refine HPlan.assign rfl rfl rfl ?_
 refine HPlan.fin ?_
 refine onNorm_n ?_
 refine HWp.seq ?_
 refine HWp.seq ?_
 refine HWp.text (.rd 0 (.rd 1 .done)) rfl ?_
 refine HPlan.move rfl rfl rfl ?_
 refine HPlan.intBin rfl rfl rfl rfl rfl (rfl : _ = LV.bool false) ?_
 refine HPlan.fin ?_
 refine onNorm_n ?_
 refine HWp.cond_f rfl ?_
 refine HWp.skip ?_
 refine onNorm_n ?_
 refine HWp.seq ?_
 refine HWp.text (.rd 0 (.rd 1 (.rd 2 .done))) rfl ?_
 refine HPlan.move rfl rfl rfl ?_
 refine HPlan.lenO hok.own rfl rfl rfl q_tk_22 (by rw [List.length_map]) ?_
 refine HPlan.assign rfl rfl rfl ?_
 refine HPlan.fin ?_
 refine onNorm_n ?_
 refine HWp.seq ?_
 refine HWp.seq ?_
 refine HWp.text (.rd 0 (.rd 1 (.rd 2 .done))) rfl ?_
 refine HPlan.move rfl rfl rfl ?_
 refine HPlan.move rfl rfl rfl ?_
 refine HPlan.intBin rfl rfl rfl rfl rfl rfl ?_
 refine HPlan.fin ?_
 refine onNorm_n ?_
 refine HWp.cond rfl ?_ ?_
 ·
  intro hc22
  first
  | exact PrN hc22
  | ((try simp only [Pr] at hc22); exfalso; omega)
  | (try simp only [Pr] at hc22)
    refine HWp.seq ?_
    refine HWp.text (.rd 0 (.rd 1 (.act 2 [] (.rd 3 .done)))) rfl ?_
    refine HPlan.move rfl rfl rfl ?_
    refine HPlan.move rfl rfl rfl ?_
    refine HPlan.appendRS rfl rfl rfl rfl q_el_22 q_src_22 hok.own rfl (by repeat (first | exact List.Mem.head _ | apply List.Mem.tail | assumption)) (by simp [flat_len (cells1 x)]) (row_take (cells1 x) rfl) (cells1 x) (List.Perm.refl _) (solid1 x) (by simp only [List.length_map, List.length_cons, List.length_nil]; omega) (by simp only [List.length_map, List.length_cons, List.length_nil]; omega) ?_
    intro v2 lv2 ho_v2
    refine ⟨keptH_nil, ?_⟩
    refine HPlan.assign rfl rfl rfl ?_
    refine HPlan.fin ?_
    refine onNorm_n ?_
    refine HWp.ret ?_
    refine onNorm_r ?_
    refine retQ_r (.tmp rfl .nil) ?_
    first
    | (obtain ⟨row2, h1, rfl, rfl⟩ := ho_v2.row (by simp); obtain rfl : ts = [] := List.eq_nil_of_length_eq_zero (by omega); exact endK_of ⟨row2, h1, rfl, rfl, rfl⟩ (by repeat (first | exact Part.refl _ | refine Part.pull (by repeat (first | exact Pull.here | apply Pull.there)) ?_ | refine Part.skip _ ?_ | exact Part.nil _ | exact Part.app _ _ | exact Part.appL _ _ | refine Part.appR _ ?_)) (by repeat (first | exact Part.refl _ | refine Part.pull (by repeat (first | exact Pull.here | apply Pull.there)) ?_ | refine Part.skip _ ?_ | exact Part.nil _ | exact Part.app _ _ | exact Part.appL _ _ | refine Part.appR _ ?_)))
    | (rw [flat_first]; exact endK_of ⟨⟨idz, 28, _, cap_idz, ((List.replicate (cap_idz * 34) LV.und).drop 34).drop (flat (ts.map traceDV)).length⟩, ⟨by simp only [List.length_map, List.length_cons, List.length_drop, List.length_replicate, flat_len (trace_cells ts)]; omega, by simp only [List.length_map, List.length_cons]; omega, trace_cells _⟩, (by show LV.hs _ 0 _ _ = LV.hs _ 0 ((x :: ts).map traceDV).length _; rw [List.length_map]; rfl), rfl, rfl⟩ (by repeat (first | exact Part.refl _ | refine Part.pull (by repeat (first | exact Pull.here | apply Pull.there)) ?_ | refine Part.skip _ ?_ | exact Part.nil _ | exact Part.app _ _ | exact Part.appL _ _ | refine Part.appR _ ?_)) (by repeat (first | exact Part.refl _ | refine Part.pull (by repeat (first | exact Pull.here | apply Pull.there)) ?_ | refine Part.skip _ ?_ | exact Part.nil _ | exact Part.app _ _ | exact Part.appL _ _ | refine Part.appR _ ?_)))
    | (rw [flat_first]; exact endK_of ⟨⟨row.id, row.ty, row.ver + 1 + 1, row.cap, (flat (ts.map traceDV) ++ row.rest).drop (34 + (ts.map traceDV).length * 34)⟩, ⟨by have := cells_len hok; simp only [List.length_map, List.length_cons, List.length_drop, this]; omega, by simp only [List.length_map, List.length_cons]; omega, trace_cells _⟩, (by show LV.hs row.id 0 (ts.length + 1) row.cap = LV.hs row.id 0 ((x :: ts).map traceDV).length row.cap; rw [List.length_map]; rfl), rfl, rfl⟩ (by repeat (first | exact Part.refl _ | refine Part.pull (by repeat (first | exact Pull.here | apply Pull.there)) ?_ | refine Part.skip _ ?_ | exact Part.nil _ | exact Part.app _ _ | exact Part.appL _ _ | refine Part.appR _ ?_)) (by repeat (first | exact Part.refl _ | refine Part.pull (by repeat (first | exact Pull.here | apply Pull.there)) ?_ | refine Part.skip _ ?_ | exact Part.nil _ | exact Part.app _ _ | exact Part.appL _ _ | refine Part.appR _ ?_)))
 ·
  intro hc22
  first
  | exact PrN hc22
  | ((try simp only [Pr] at hc22); exfalso; omega)
  | (try simp only [Pr] at hc22)
    refine HWp.skip ?_
    refine onNorm_n ?_
    refine HWp.seq ?_
    refine HWp.seq ?_
    refine HWp.text (.rd 0 (.rd 1 (.rd 2 (.rd 3 (.rd 4 (.rd 5 .done)))))) rfl ?_
    refine HPlan.move rfl rfl rfl ?_
    refine HPlan.move rfl rfl rfl ?_
    refine HPlan.intBin rfl rfl rfl rfl rfl (add_i64 (by omega) (by omega)) ?_
    refine HPlan.move rfl rfl rfl ?_
    refine HPlan.capH rfl rfl rfl q_sv_22 rfl ?_
    refine HPlan.intBin rfl rfl rfl rfl rfl rfl ?_
    refine HPlan.fin ?_
    refine onNorm_n ?_
    refine HWp.cond rfl ?_ ?_
    ·
     intro hc31
     first
     | exact PrN hc31
     | ((try simp only [Pr] at hc31); exfalso; omega)
     | (try simp only [Pr] at hc31)
       refine HWp.seq ?_
       refine HWp.text (.rd 0 (.rd 1 (.rd 2 (.rd 3 (.rd 4 (.rd 5 (.rd 6 (.rd 7 (.act 8 [] (.rd 9 .done)))))))))) rfl ?_
       refine HPlan.move rfl rfl rfl ?_
       refine HPlan.move rfl rfl rfl ?_
       refine HPlan.sliceH rfl rfl rfl rfl rfl q_sv_22 (by omega) (by omega) (by omega) rfl ?_
       refine HPlan.move rfl rfl rfl ?_
       refine HPlan.move rfl rfl rfl ?_
       refine HPlan.intBin rfl rfl rfl rfl rfl (by first | exact add_i64 (by omega) (by omega) | rfl) ?_
       refine HPlan.move rfl rfl rfl ?_
       refine HPlan.intBin rfl rfl rfl rfl rfl (sub_none (by omega)) ?_
       refine HPlan.appZerosH rfl rfl rfl rfl q_el_22 q_un_3 (by repeat (first | exact List.Mem.head _ | apply List.Mem.tail | assumption)) (by omega) (by decide) (by omega) (by omega) (by omega) (fun idz cap_idz hc_idz => ⟨keptH_nil, ?_⟩)
       refine HPlan.assign rfl rfl rfl ?_
       refine HPlan.fin ?_
       refine onNorm_n ?_
       refine HWp.seq ?_
       refine HWp.text (.rd 0 (.rd 1 (.rd 2 (.rd 3 (.act 4 [] .done))))) rfl ?_
       refine HPlan.move rfl rfl rfl ?_
       refine HPlan.move rfl rfl rfl ?_
       refine HPlan.sliceH rfl rfl rfl rfl rfl q_sv_22 (by omega) (by omega) (by omega) (by simp : _ = LV.hs idz 0 (ts.length + 1) cap_idz) ?_
       refine HPlan.move rfl rfl rfl ?_
       refine HPlan.copyH rfl rfl rfl rfl q_el_22 (show Nat.min 1 (ts.length + 1) = 1 from Nat.min_eq_left (by omega)) (by repeat (first | exact List.Mem.head _ | apply List.Mem.tail | assumption)) (by repeat (first | exact List.Mem.head _ | apply List.Mem.tail | assumption)) (by rw [List.length_replicate]; omega) (by simp [flat_len (cells1 x)]) (by rw [row_take (n := 1) (cells1 x) rfl]; exact trace_ones [x]) (by rw [row_take (n := 1) (cells1 x) rfl, put_first (b := []) (m := 34) (rest := List.replicate (cap_idz * 34) LV.und) (flat_len (cells1 x)) (by rw [List.length_replicate]; omega)] : _ = flat [traceDV x] ++ (List.replicate (cap_idz * 34) LV.und).drop 34) (by repeat (first | exact Upd.here | apply Upd.there)) keptH_nil rfl ?_
       refine HPlan.fin ?_
       refine onNorm_n ?_
       refine HWp.seq ?_
       refine HWp.draw q_mix (.rd 0 (.rd 1 (.rd 2 (.rd 3 (.rd 4 (.rd 5 (.rd 6 (.rd 7 (.act 8 [] .done))))))))) (by kernel_rfl) ?_
       refine HPlan.move rfl rfl rfl ?_
       refine HPlan.move rfl rfl rfl ?_
       refine HPlan.move rfl rfl rfl ?_
       refine HPlan.intBin rfl rfl rfl rfl rfl (rfl : _ = LV.int .i64 1) ?_
       refine HPlan.sliceH rfl rfl rfl rfl rfl q_sv_22 (by omega) (by omega) (by omega) (by rw [if_neg (by show ¬ cap_idz = 1; omega)]; rfl : _ = LV.hs idz 34 ts.length (cap_idz - 1)) ?_
       refine HPlan.move rfl rfl rfl ?_
       refine HPlan.move rfl rfl rfl ?_
       refine HPlan.sliceH rfl rfl rfl rfl rfl q_sv_22 (by omega) (by simp only [List.length_map]; omega) (by simp only [List.length_map]; omega) (by simp : _ = LV.hs row.id 0 ts.length row.cap) ?_
       refine HPlan.copyH rfl rfl rfl rfl q_el_22 (Nat.min_self _) (by repeat (first | exact List.Mem.head _ | apply List.Mem.tail | assumption)) (by repeat (first | exact List.Mem.head _ | apply List.Mem.tail | assumption)) (by simp [flat_len (cells1 x)]; omega) (by simp [flat_len (trace_cells _)]) (by rw [row_take (trace_cells _) (by rw [List.length_map] : ts.length = (ts.map traceDV).length)]; exact trace_ones _) (by rw [row_take (trace_cells _) (by rw [List.length_map] : ts.length = (ts.map traceDV).length), put_next (m := 34) (flat_len (cells1 x)) rfl]) (by repeat (first | exact Upd.here | apply Upd.there)) keptH_nil rfl ?_
       refine HPlan.fin ?_
       refine onNorm_n ?_
       refine HWp.seq ?_
       refine HWp.text (.rd 0 (.rd 1 .done)) rfl ?_
       refine HPlan.move rfl rfl rfl ?_
       refine HPlan.assign rfl rfl rfl ?_
       refine HPlan.fin ?_
       refine onNorm_n ?_
       refine HWp.ret ?_
       refine onNorm_r ?_
       refine retQ_r (.tmp rfl .nil) ?_
       first
       | (obtain ⟨row2, h1, rfl, rfl⟩ := ho_v2.row (by simp); obtain rfl : ts = [] := List.eq_nil_of_length_eq_zero (by omega); exact endK_of ⟨row2, h1, rfl, rfl, rfl⟩ (by repeat (first | exact Part.refl _ | refine Part.pull (by repeat (first | exact Pull.here | apply Pull.there)) ?_ | refine Part.skip _ ?_ | exact Part.nil _ | exact Part.app _ _ | exact Part.appL _ _ | refine Part.appR _ ?_)) (by repeat (first | exact Part.refl _ | refine Part.pull (by repeat (first | exact Pull.here | apply Pull.there)) ?_ | refine Part.skip _ ?_ | exact Part.nil _ | exact Part.app _ _ | exact Part.appL _ _ | refine Part.appR _ ?_)))
       | (rw [flat_first]; exact endK_of ⟨⟨idz, 28, _, cap_idz, ((List.replicate (cap_idz * 34) LV.und).drop 34).drop (flat (ts.map traceDV)).length⟩, ⟨by simp only [List.length_map, List.length_cons, List.length_drop, List.length_replicate, flat_len (trace_cells ts)]; omega, by simp only [List.length_map, List.length_cons]; omega, trace_cells _⟩, (by show LV.hs _ 0 _ _ = LV.hs _ 0 ((x :: ts).map traceDV).length _; rw [List.length_map]; rfl), rfl, rfl⟩ (by repeat (first | exact Part.refl _ | refine Part.pull (by repeat (first | exact Pull.here | apply Pull.there)) ?_ | refine Part.skip _ ?_ | exact Part.nil _ | exact Part.app _ _ | exact Part.appL _ _ | refine Part.appR _ ?_)) (by repeat (first | exact Part.refl _ | refine Part.pull (by repeat (first | exact Pull.here | apply Pull.there)) ?_ | refine Part.skip _ ?_ | exact Part.nil _ | exact Part.app _ _ | exact Part.appL _ _ | refine Part.appR _ ?_)))
       | (rw [flat_first]; exact endK_of ⟨⟨row.id, row.ty, row.ver + 1 + 1, row.cap, (flat (ts.map traceDV) ++ row.rest).drop (34 + (ts.map traceDV).length * 34)⟩, ⟨by have := cells_len hok; simp only [List.length_map, List.length_cons, List.length_drop, this]; omega, by simp only [List.length_map, List.length_cons]; omega, trace_cells _⟩, (by show LV.hs row.id 0 (ts.length + 1) row.cap = LV.hs row.id 0 ((x :: ts).map traceDV).length row.cap; rw [List.length_map]; rfl), rfl, rfl⟩ (by repeat (first | exact Part.refl _ | refine Part.pull (by repeat (first | exact Pull.here | apply Pull.there)) ?_ | refine Part.skip _ ?_ | exact Part.nil _ | exact Part.app _ _ | exact Part.appL _ _ | refine Part.appR _ ?_)) (by repeat (first | exact Part.refl _ | refine Part.pull (by repeat (first | exact Pull.here | apply Pull.there)) ?_ | refine Part.skip _ ?_ | exact Part.nil _ | exact Part.app _ _ | exact Part.appL _ _ | refine Part.appR _ ?_)))
    ·
     intro hc31
     first
     | exact PrN hc31
     | ((try simp only [Pr] at hc31); exfalso; omega)
     | (try simp only [Pr] at hc31)
       refine HWp.skip ?_
       refine onNorm_n ?_
       refine HWp.seq ?_
       refine HWp.text (.rd 0 (.rd 1 (.rd 2 (.rd 3 (.rd 4 (.rd 5 .done)))))) rfl ?_
       refine HPlan.move rfl rfl rfl ?_
       refine HPlan.move rfl rfl rfl ?_
       refine HPlan.move rfl rfl rfl ?_
       refine HPlan.intBin rfl rfl rfl rfl rfl (by first | exact add_i64 (by omega) (by omega) | rfl) ?_
       refine HPlan.sliceH rfl rfl rfl rfl rfl q_sv_22 (by omega) (by omega) (by omega) (by first | (simp; done) | (simp; rfl) : _ = LV.hs row.id 0 (ts.length + 1) row.cap) ?_
       refine HPlan.assign rfl rfl rfl ?_
       refine HPlan.fin ?_
       refine onNorm_n ?_
       refine HWp.seq ?_
       refine HWp.seq ?_
       refine HWp.text (.rd 0 (.rd 1 (.rd 2 (.rd 3 (.rd 4 (.rd 5 (.act 6 [] (.rd 7 .done)))))))) rfl ?_
       refine HPlan.move rfl rfl rfl ?_
       refine HPlan.move rfl rfl rfl ?_
       refine HPlan.move rfl rfl rfl ?_
       refine HPlan.move rfl rfl rfl ?_
       refine HPlan.intBin rfl rfl rfl rfl rfl (rfl : _ = LV.int .i64 1) ?_
       refine HPlan.sliceH rfl rfl rfl rfl rfl q_sv_22 (by omega) (by omega) (by omega) (by rw [if_neg (by show ¬ row.cap = 1; omega)]; rfl : _ = LV.hs row.id 34 ts.length (row.cap - 1)) ?_
       refine HPlan.overlapsX (tR := 4) rfl rfl rfl rfl q_f_64 (by decide) rfl (by kernel_rfl) (by kernel_rfl) q_sv_22 (by repeat (first | exact List.Mem.head _ | apply List.Mem.tail | assumption)) (by repeat (first | exact List.Mem.head _ | apply List.Mem.tail | assumption)) hid (ne_cells hok (by omega)) keptH_nil ?_
       refine HPlan.not rfl rfl rfl rfl ?_
       refine HPlan.fin ?_
       refine onNorm_n ?_
       refine HWp.cond_t rfl ?_
       refine HWp.seq ?_
       refine HWp.draw q_mix (.rd 0 (.rd 1 (.rd 2 (.rd 3 (.rd 4 (.rd 5 (.rd 6 (.rd 7 (.act 8 [] .done))))))))) (by kernel_rfl) ?_
       refine HPlan.move rfl rfl rfl ?_
       refine HPlan.move rfl rfl rfl ?_
       refine HPlan.move rfl rfl rfl ?_
       refine HPlan.intBin rfl rfl rfl rfl rfl (rfl : _ = LV.int .i64 1) ?_
       refine HPlan.sliceH rfl rfl rfl rfl rfl q_sv_22 (by omega) (by omega) (by omega) (by rw [if_neg (by show ¬ row.cap = 1; omega)]; rfl : _ = LV.hs row.id 34 ts.length (row.cap - 1)) ?_
       refine HPlan.move rfl rfl rfl ?_
       refine HPlan.move rfl rfl rfl ?_
       refine HPlan.sliceH rfl rfl rfl rfl rfl q_sv_22 (by omega) (by omega) (by omega) (by first | (simp; done) | (simp; rfl) : _ = LV.hs row.id 0 (ts.length + 1) row.cap) ?_
       refine HPlan.copyH rfl rfl rfl rfl q_el_22 (Nat.min_eq_right (Nat.le_succ _)) (by repeat (first | exact List.Mem.head _ | apply List.Mem.tail | assumption)) (by repeat (first | exact List.Mem.head _ | apply List.Mem.tail | assumption)) (by rw [cells_len hok]; omega) (by rw [cells_len hok]; omega) (by rw [row_take (trace_cells _) (by rw [List.length_map] : ts.length = (ts.map traceDV).length)]; exact trace_ones _) (by rw [row_take (trace_cells _) (by rw [List.length_map] : ts.length = (ts.map traceDV).length)]) (by repeat (first | exact Upd.here | apply Upd.there)) keptH_nil rfl ?_
       refine HPlan.fin ?_
       refine onNorm_n ?_
       refine HWp.seq ?_
       refine HWp.text (.rd 0 (.rd 1 (.rd 2 (.rd 3 (.act 4 [] .done))))) rfl ?_
       refine HPlan.move rfl rfl rfl ?_
       refine HPlan.move rfl rfl rfl ?_
       refine HPlan.sliceH rfl rfl rfl rfl rfl q_sv_22 (by omega) (by omega) (by omega) (by first | (simp; done) | (simp; rfl) : _ = LV.hs row.id 0 (ts.length + 1) row.cap) ?_
       refine HPlan.move rfl rfl rfl ?_
       refine HPlan.copyH rfl rfl rfl rfl q_el_22 (show Nat.min 1 (ts.length + 1) = 1 from Nat.min_eq_left (by omega)) (by repeat (first | exact List.Mem.head _ | apply List.Mem.tail | assumption)) (by repeat (first | exact List.Mem.head _ | apply List.Mem.tail | assumption)) (by rw [splice_len (by rw [cells_len hok, flat_len (trace_cells _), List.length_map]; omega), cells_len hok]; omega) (by simp [flat_len (cells1 x)]) (by rw [row_take (n := 1) (cells1 x) rfl]; exact trace_ones [x]) (by rw [row_take (n := 1) (cells1 x) rfl, shift_cells (flat_len (trace_cells ts)) (by rw [cells_len hok, List.length_map]; omega) _ (flat_len (cells1 x))]) (by repeat (first | exact Upd.here | apply Upd.there)) keptH_nil rfl ?_
       refine HPlan.fin ?_
       refine onNorm_n ?_
       refine HWp.seq ?_
       refine HWp.text (.rd 0 (.rd 1 .done)) rfl ?_
       refine HPlan.move rfl rfl rfl ?_
       refine HPlan.assign rfl rfl rfl ?_
       refine HPlan.fin ?_
       refine onNorm_n ?_
       refine HWp.ret ?_
       refine onNorm_r ?_
       refine retQ_r (.tmp rfl .nil) ?_
       first
       | (obtain ⟨row2, h1, rfl, rfl⟩ := ho_v2.row (by simp); obtain rfl : ts = [] := List.eq_nil_of_length_eq_zero (by omega); exact endK_of ⟨row2, h1, rfl, rfl, rfl⟩ (by repeat (first | exact Part.refl _ | refine Part.pull (by repeat (first | exact Pull.here | apply Pull.there)) ?_ | refine Part.skip _ ?_ | exact Part.nil _ | exact Part.app _ _ | exact Part.appL _ _ | refine Part.appR _ ?_)) (by repeat (first | exact Part.refl _ | refine Part.pull (by repeat (first | exact Pull.here | apply Pull.there)) ?_ | refine Part.skip _ ?_ | exact Part.nil _ | exact Part.app _ _ | exact Part.appL _ _ | refine Part.appR _ ?_)))
       | (rw [flat_first]; exact endK_of ⟨⟨idz, 28, _, cap_idz, ((List.replicate (cap_idz * 34) LV.und).drop 34).drop (flat (ts.map traceDV)).length⟩, ⟨by simp only [List.length_map, List.length_cons, List.length_drop, List.length_replicate, flat_len (trace_cells ts)]; omega, by simp only [List.length_map, List.length_cons]; omega, trace_cells _⟩, (by show LV.hs _ 0 _ _ = LV.hs _ 0 ((x :: ts).map traceDV).length _; rw [List.length_map]; rfl), rfl, rfl⟩ (by repeat (first | exact Part.refl _ | refine Part.pull (by repeat (first | exact Pull.here | apply Pull.there)) ?_ | refine Part.skip _ ?_ | exact Part.nil _ | exact Part.app _ _ | exact Part.appL _ _ | refine Part.appR _ ?_)) (by repeat (first | exact Part.refl _ | refine Part.pull (by repeat (first | exact Pull.here | apply Pull.there)) ?_ | refine Part.skip _ ?_ | exact Part.nil _ | exact Part.app _ _ | exact Part.appL _ _ | refine Part.appR _ ?_)))
       | (rw [flat_first]; exact endK_of ⟨⟨row.id, row.ty, row.ver + 1 + 1, row.cap, (flat (ts.map traceDV) ++ row.rest).drop (34 + (ts.map traceDV).length * 34)⟩, ⟨by have := cells_len hok; simp only [List.length_map, List.length_cons, List.length_drop, this]; omega, by simp only [List.length_map, List.length_cons]; omega, trace_cells _⟩, (by show LV.hs row.id 0 (ts.length + 1) row.cap = LV.hs row.id 0 ((x :: ts).map traceDV).length row.cap; rw [List.length_map]; rfl), rfl, rfl⟩ (by repeat (first | exact Part.refl _ | refine Part.pull (by repeat (first | exact Pull.here | apply Pull.there)) ?_ | refine Part.skip _ ?_ | exact Part.nil _ | exact Part.app _ _ | exact Part.appL _ _ | refine Part.appR _ ?_)) (by repeat (first | exact Part.refl _ | refine Part.pull (by repeat (first | exact Pull.here | apply Pull.there)) ?_ | refine Part.skip _ ?_ | exact Part.nil _ | exact Part.app _ _ | exact Part.appL _ _ | refine Part.appR _ ?_)))
end Go.Proofs.YthfoobfgdakbmaaDoor

set_option linter.unusedVariables false
set_option linter.unusedSimpArgs false
set_option maxRecDepth 100000
namespace Go.Proofs.YthfoobfgdakbmaaDoor
open Go Go.RowKit Go.L
theorem q_en_12 : enterable Tryd.prog 12 = true := by kernel_rfl
theorem q_f_14 : Tryd.prog.funcs[14]? = some Tryd.f14 := by kernel_rfl
theorem q_zo_70 : zeroOf Tryd.prog 70 = some (LV.agg [(LV.int .i64 0), LV.nilm]) := by kernel_rfl
theorem q_pl_70 : placesOf Tryd.prog 70 = some (fun i => ([(0, 1), (1, 1)] : List (Nat × Nat))[i]?) := by kernel_rfl
theorem q_f_10 : Tryd.prog.funcs[10]? = some Tryd.f10 := by kernel_rfl

def SameTo (a b : List TraceD) (k : Nat) : Prop := ∀ i (h : i < a.length) (h' : i < b.length), i < k → SameT a[i] b[i]
def SameAll (a b : List TraceD) : Prop := a.length = b.length ∧ SameTo a b a.length
theorem SameTo.step {a b : List TraceD} {k : Nat} (h : SameTo a b k) (ha : k < a.length) (hb : k < b.length) (e : SameT a[k] b[k]) : SameTo a b (k + 1) := fun i h1 h2 h3 => by
  by_cases q : i = k
  · subst q; exact e
  · exact h i h1 h2 (by omega)

theorem sameall_yes (a b : List TraceD) (x y : LV) (hx : IsSl 34 (a.map traceDV) x) (hy : IsSl 34 (b.map traceDV) y) (hl : a.length < 1048576) (hs : SameAll a b) : HPure Tryd.prog 14 [x, y] (.bool true) := by
 intro L T
 refine HCalls.enterG q_f_14 rfl ?_
 refine HWp.frame (r' := ⟨27, [(0, x), (1, y)]⟩) rfl ?_
 refine HWp.seq ?_
 refine HWp.text (.rd 0 .done) rfl ?_
 refine HPlan.assign rfl rfl rfl ?_
 refine HPlan.fin ?_
 refine onNorm_n ?_
 refine HWp.seq ?_
 refine HWp.seq ?_
 refine HWp.text (.rd 0 (.rd 1 (.rd 2 (.rd 3 (.rd 4 .done))))) rfl ?_
 refine HPlan.move rfl rfl rfl ?_
 refine HPlan.lenS rfl rfl rfl q_tk_22 hx (by rw [List.length_map]) ?_
 refine HPlan.move rfl rfl rfl ?_
 refine HPlan.lenS rfl rfl rfl q_tk_22 hy (by rw [List.length_map, ← hs.1]) ?_
 refine HPlan.intBin rfl rfl rfl rfl rfl (congrArg (fun b => LV.bool (!b)) (beq_self_eq_true _) : _ = LV.bool false) ?_
 refine HPlan.fin ?_
 refine onNorm_n ?_
 refine HWp.cond_f rfl ?_
 refine HWp.skip ?_
 refine onNorm_n ?_
 refine HWp.seq ?_
 refine HWp.seq ?_
 refine HWp.text (.rd 0 .done) rfl ?_
 refine HPlan.assign rfl rfl rfl ?_
 refine HPlan.fin ?_
 refine onNorm_n ?_
 refine HWp.block ?_
 refine HWp.loopF (α := Nat) (fun k => a.length - k) (fun k => k ≤ a.length) (fun k => ⟨27, [(0, x), (1, y), (5, .int .i64 (k : Int))]⟩) (fun k => L) (fun k => T) ?_ ?_
 ·
  refine ⟨0, (Nat.zero_le _), (LessE.less (by repeat (first | exact LessE.nil | refine LessE.same rfl ?_ | refine LessE.own rfl ?_ | refine LessE.eq rfl ?_ (by first | rfl | (congr 1; omega) | simp))) rfl), (by repeat (first | exact Part.refl _ | refine Part.pull (by repeat (first | exact Pull.here | apply Pull.there)) ?_ | refine Part.skip _ ?_ | exact Part.nil _ | exact Part.app _ _ | exact Part.appL _ _ | refine Part.appR _ ?_)), (by repeat (first | exact Part.refl _ | refine Part.pull (by repeat (first | exact Pull.here | apply Pull.there)) ?_ | refine Part.skip _ ?_ | exact Part.nil _ | exact Part.app _ _ | exact Part.appL _ _ | refine Part.appR _ ?_))⟩
 ·
  rintro k hk1
  refine HWp.seq ?_
  refine HWp.seq ?_
  refine HWp.text (.rd 0 (.rd 1 (.rd 2 (.rd 3 .done)))) rfl ?_
  refine HPlan.move rfl rfl rfl ?_
  refine HPlan.move rfl rfl rfl ?_
  refine HPlan.lenS rfl rfl rfl q_tk_22 hx (by rw [List.length_map]) ?_
  refine HPlan.intBin rfl rfl rfl rfl rfl rfl ?_
  refine HPlan.fin ?_
  refine onNorm_n ?_
  refine HWp.cond rfl ?_ ?_
  ·
   intro hc14
   first
   | exact PrN hc14
   | ((try simp only [Pr] at hc14); exfalso; omega)
   | (try simp only [Pr] at hc14)
     refine HWp.skip ?_
     refine onNorm_n ?_
     refine HWp.seq ?_
     refine HWp.block ?_
     refine HWp.seq ?_
     refine HWp.draw q_mix (.rd 0 (.rd 1 (.rd 2 (.rd 3 (.rd 4 (.rd 5 (.rd 6 (.rd 7 (.act 8 [] (.rd 9 .done)))))))))) (by kernel_rfl) ?_
     refine HPlan.move rfl rfl rfl ?_
     refine HPlan.move rfl rfl rfl ?_
     refine HPlan.indexS rfl rfl rfl rfl q_ix_22 hx (by omega) (by simp only [List.length_map]; omega) (by first | exact at_map (by omega) | rfl) ?_
     first
     | refine HPlan.loadI rfl rfl rfl q_sh_28 (by constructor <;> first | rfl | decide | omega | exact Nat.le_refl _ | (simp [digC_len, dgV, LV.cells, readDC_len, readDV, madeDC_len, madeDV, traceDC_len, traceDV]; done) | (simp [digC_len, dgV, LV.cells, readDC_len, readDV, madeDC_len, madeDV, traceDC_len, traceDV]; omega)) (by first | exact (traceD_all _) | rfl) ?_
     | refine HPlan.load rfl rfl rfl q_sh_28 (by repeat (first | exact List.Mem.head _ | apply List.Mem.tail | assumption)) (by constructor <;> first | rfl | decide | omega | exact Nat.le_refl _ | (simp [digC_len, dgV, LV.cells, readDC_len, readDV, madeDC_len, madeDV, traceDC_len, traceDV]; done) | (simp [digC_len, dgV, LV.cells, readDC_len, readDV, madeDC_len, madeDV, traceDC_len, traceDV]; omega)) (by first | exact (traceD_all _) | rfl) ?_
     refine HPlan.move rfl rfl rfl ?_
     refine HPlan.move rfl rfl rfl ?_
     refine HPlan.indexS rfl rfl rfl rfl q_ix_22 hy (by omega) (by have := hs.1; simp only [List.length_map]; omega) (at_map (by have := hs.1; omega)) ?_
     first
     | refine HPlan.loadI rfl rfl rfl q_sh_28 (by constructor <;> first | rfl | decide | omega | exact Nat.le_refl _ | (simp [digC_len, dgV, LV.cells, readDC_len, readDV, madeDC_len, madeDV, traceDC_len, traceDV]; done) | (simp [digC_len, dgV, LV.cells, readDC_len, readDV, madeDC_len, madeDV, traceDC_len, traceDV]; omega)) (by first | exact (traceD_all _) | rfl) ?_
     | refine HPlan.load rfl rfl rfl q_sh_28 (by repeat (first | exact List.Mem.head _ | apply List.Mem.tail | assumption)) (by constructor <;> first | rfl | decide | omega | exact Nat.le_refl _ | (simp [digC_len, dgV, LV.cells, readDC_len, readDV, madeDC_len, madeDV, traceDC_len, traceDV]; done) | (simp [digC_len, dgV, LV.cells, readDC_len, readDV, madeDC_len, madeDV, traceDC_len, traceDV]; omega)) (by first | exact (traceD_all _) | rfl) ?_
     refine HPlan.callPure rfl rfl rfl q_en_12 (by have := same_spec a[k] (b[k]'(by have := hs.1; omega)); rw [decide_eq_true (hs.2 k (by omega) (by have := hs.1; omega) (by omega))] at this; exact this) keptH_nil ?_
     refine HPlan.not rfl rfl rfl rfl ?_
     refine HPlan.fin ?_
     refine onNorm_n ?_
     refine HWp.cond_f rfl ?_
     refine HWp.skip ?_
     refine onExitH_n ?_
     refine onNorm_n ?_
     refine HWp.text (.rd 0 (.rd 1 (.rd 2 .done))) rfl ?_
     refine HPlan.move rfl rfl rfl ?_
     refine HPlan.intBin rfl rfl rfl rfl rfl (by first | exact add_i64 (by omega) (by omega) | rfl) ?_
     refine HPlan.assign rfl rfl rfl ?_
     refine HPlan.fin ?_
     refine onNorm_n ?_
     refine ⟨(k + 1), (by omega), (by omega), (LessE.less (by repeat (first | exact LessE.nil | refine LessE.same rfl ?_ | refine LessE.own rfl ?_ | refine LessE.eq rfl ?_ (by first | rfl | (congr 1; omega) | simp))) rfl), (by repeat (first | exact Part.refl _ | refine Part.pull (by repeat (first | exact Pull.here | apply Pull.there)) ?_ | refine Part.skip _ ?_ | exact Part.nil _ | exact Part.app _ _ | exact Part.appL _ _ | refine Part.appR _ ?_)), (by repeat (first | exact Part.refl _ | refine Part.pull (by repeat (first | exact Pull.here | apply Pull.there)) ?_ | refine Part.skip _ ?_ | exact Part.nil _ | exact Part.app _ _ | exact Part.appL _ _ | refine Part.appR _ ?_))⟩
  ·
   intro hc14
   first
   | exact PrN hc14
   | ((try simp only [Pr] at hc14); exfalso; omega)
   | (try simp only [Pr] at hc14)
     refine HWp.exit ?_
     refine onNorm_e ?_
     refine onNorm_e ?_
     refine onExitH_hit ?_
     refine onNorm_n ?_
     refine HWp.seq ?_
     refine HWp.text (.rd 0 .done) rfl ?_
     refine HPlan.assign rfl rfl rfl ?_
     refine HPlan.fin ?_
     refine onNorm_n ?_
     refine HWp.ret ?_
     refine retQ_r (.tmp rfl .nil) ?_
     exact endK_of ⟨rfl, rfl, rfl⟩ (by repeat (first | exact Part.refl _ | refine Part.pull (by repeat (first | exact Pull.here | apply Pull.there)) ?_ | refine Part.skip _ ?_ | exact Part.nil _ | exact Part.app _ _ | exact Part.appL _ _ | refine Part.appR _ ?_)) (by repeat (first | exact Part.refl _ | refine Part.pull (by repeat (first | exact Pull.here | apply Pull.there)) ?_ | refine Part.skip _ ?_ | exact Part.nil _ | exact Part.app _ _ | exact Part.appL _ _ | refine Part.appR _ ?_))
theorem dbnew_spec (n : Int) (h1 : 1 ≤ n) (h8 : n ≤ 8) (F : Hp) (T : Tk) : HCalls Tryd.prog 10 [.int .i64 n] F T (fun r L' T' => ∃ d m, r = .tup [.ref d 0, .int .i64 0] ∧ L' = (d, .cells 70 [.int .i64 n, .mp m] 0) :: (m, .map [] 0) :: F ∧ T' = T) := by
 refine HCalls.enterG q_f_10 rfl ?_
 refine HWp.frame (r' := ⟨14, [(0, .int .i64 n)]⟩) rfl ?_
 refine HWp.seq ?_
 refine HWp.text (.rd 0 (.rd 1 .done)) rfl ?_
 refine HPlan.assign rfl rfl rfl ?_
 refine HPlan.assign rfl rfl rfl ?_
 refine HPlan.fin ?_
 refine onNorm_n ?_
 refine HWp.seq ?_
 refine HWp.seq ?_
 refine HWp.text (.rd 0 (.rd 1 (.rd 2 (.rd 3 (.rd 4 (.rd 5 .done)))))) rfl ?_
 refine HPlan.move rfl rfl rfl ?_
 refine HPlan.intBin rfl rfl rfl rfl rfl rfl ?_
 refine HPlan.move rfl rfl rfl ?_
 refine HPlan.split ?_ ?_
 ·
  intro hb1_2
  first
  | exact PrN hb1_2
  | ((try simp only [Pr] at hb1_2); exfalso; omega)
  | (try simp only [Pr] at hb1_2)
    refine HPlan.leftR rfl rfl ?_
    refine HPlan.leftR rfl rfl ?_
    refine HPlan.pickT rfl rfl rfl rfl ?_
    refine HPlan.fin ?_
    refine onNorm_n ?_
    refine HWp.cond_t rfl ?_
    refine HWp.seq ?_
    refine HWp.text (.rd 0 (.rd 1 .done)) rfl ?_
    refine HPlan.assign rfl rfl rfl ?_
    refine HPlan.assign rfl rfl rfl ?_
    refine HPlan.fin ?_
    refine onNorm_n ?_
    refine HWp.ret ?_
    refine onNorm_r ?_
    refine retQ_r (.tmp rfl (.tmp rfl .nil)) ?_
    exact endK_of ⟨_, _, rfl, rfl, rfl⟩ (by repeat (first | exact Part.refl _ | refine Part.pull (by repeat (first | exact Pull.here | apply Pull.there)) ?_ | refine Part.skip _ ?_ | exact Part.nil _ | exact Part.app _ _ | exact Part.appL _ _ | refine Part.appR _ ?_)) (by repeat (first | exact Part.refl _ | refine Part.pull (by repeat (first | exact Pull.here | apply Pull.there)) ?_ | refine Part.skip _ ?_ | exact Part.nil _ | exact Part.app _ _ | exact Part.appL _ _ | refine Part.appR _ ?_))
 ·
  intro hb1_2
  first
  | exact PrN hb1_2
  | ((try simp only [Pr] at hb1_2); exfalso; omega)
  | (try simp only [Pr] at hb1_2)
    refine HPlan.move rfl rfl rfl ?_
    refine HPlan.intBin rfl rfl rfl rfl rfl rfl ?_
    refine HPlan.pickF rfl rfl rfl rfl ?_
    refine HPlan.fin ?_
    refine onNorm_n ?_
    refine HWp.cond rfl ?_ ?_
    ·
     intro hc9
     first
     | exact PrN hc9
     | ((try simp only [Pr] at hc9); exfalso; omega)
     | (try simp only [Pr] at hc9)
       refine HWp.seq ?_
       refine HWp.text (.rd 0 (.rd 1 .done)) rfl ?_
       refine HPlan.assign rfl rfl rfl ?_
       refine HPlan.assign rfl rfl rfl ?_
       refine HPlan.fin ?_
       refine onNorm_n ?_
       refine HWp.ret ?_
       refine onNorm_r ?_
       refine retQ_r (.tmp rfl (.tmp rfl .nil)) ?_
       exact endK_of ⟨_, _, rfl, rfl, rfl⟩ (by repeat (first | exact Part.refl _ | refine Part.pull (by repeat (first | exact Pull.here | apply Pull.there)) ?_ | refine Part.skip _ ?_ | exact Part.nil _ | exact Part.app _ _ | exact Part.appL _ _ | refine Part.appR _ ?_)) (by repeat (first | exact Part.refl _ | refine Part.pull (by repeat (first | exact Pull.here | apply Pull.there)) ?_ | refine Part.skip _ ?_ | exact Part.nil _ | exact Part.app _ _ | exact Part.appL _ _ | refine Part.appR _ ?_))
    ·
     intro hc9
     first
     | exact PrN hc9
     | ((try simp only [Pr] at hc9); exfalso; omega)
     | (try simp only [Pr] at hc9)
       refine HWp.skip ?_
       refine onNorm_n ?_
       refine HWp.seq ?_
       refine HWp.text (.rd 0 (.act 1 [] (.rd 2 (.act 3 [] (.rd 4 (.rd 5 .done)))))) rfl ?_
       refine HPlan.move rfl rfl rfl ?_
       refine HPlan.makeMap rfl rfl (fun i11 => ⟨keptH_nil, ?_⟩)
       refine HPlan.build rfl rfl rfl q_zo_70 (by first | rfl | (simp; done)) q_pl_70 (fillOk_cons rfl (by first | rfl | (simp; done)) (by first | rfl | decide | omega | (simp; done) | (simp; omega)) (by first | rfl | decide | omega | (simp; done) | (simp; omega)) (fillOk_cons rfl (by first | rfl | (simp; done)) (by first | rfl | decide | omega | (simp; done) | (simp; omega)) (by first | rfl | decide | omega | (simp; done) | (simp; omega)) fillOk_nil)) (by rfl : _ = LV.agg [.int .i64 n, .mp i11]) ?_
       refine HPlan.box rfl rfl rfl (by first | rfl | (simp; done)) (fun i13 => ⟨keptH_nil, ?_⟩)
       refine HPlan.assign rfl rfl rfl ?_
       refine HPlan.assign rfl rfl rfl ?_
       refine HPlan.fin ?_
       refine onNorm_n ?_
       refine HWp.ret ?_
       refine retQ_r (.tmp rfl (.tmp rfl .nil)) ?_
       exact endK_of ⟨_, _, rfl, rfl, rfl⟩ (by repeat (first | exact Part.refl _ | refine Part.pull (by repeat (first | exact Pull.here | apply Pull.there)) ?_ | refine Part.skip _ ?_ | exact Part.nil _ | exact Part.app _ _ | exact Part.appL _ _ | refine Part.appR _ ?_)) (by repeat (first | exact Part.refl _ | refine Part.pull (by repeat (first | exact Pull.here | apply Pull.there)) ?_ | refine Part.skip _ ?_ | exact Part.nil _ | exact Part.app _ _ | exact Part.appL _ _ | refine Part.appR _ ?_))
end Go.Proofs.YthfoobfgdakbmaaDoor

set_option linter.unusedVariables false
set_option linter.unusedSimpArgs false
set_option maxRecDepth 100000
namespace Go.Proofs.YthfoobfgdakbmaaDoor
open Go Go.RowKit Go.L

theorem insert_nil (vrow : Row) (x : TraceD) (hv : vrow.ok 34 [traceDV x]) (F : Hp) (T : Tk) : HCalls Tryd.prog 37 [.nils, .int .i64 0, vrow.v [traceDV x]] (vrow.o [traceDV x] :: F) T (fun r L' T' => ∃ row' : Row, row'.ok 34 ([x].map traceDV) ∧ r = row'.v ([x].map traceDV) ∧ L' = row'.o ([x].map traceDV) :: F ∧ T' = T) := by
 refine HCalls.enterG q_f_37 rfl ?_
 refine HWp.frame (r' := ⟨95, [(0, .nils), (1, .int .i64 0), (2, vrow.v [traceDV x])]⟩) rfl ?_
 refine HWp.seq ?_
 refine HWp.text (.rd 0 .done) rfl ?_
 refine HPlan.assign rfl rfl rfl ?_
 refine HPlan.fin ?_
 refine onNorm_n ?_
 refine HWp.seq ?_
 refine HWp.text (.rd 0 (.rd 1 (.rd 2 .done))) rfl ?_
 refine HPlan.move rfl rfl rfl ?_
 refine HPlan.move rfl rfl rfl ?_
 refine HPlan.subNil rfl rfl rfl rfl rfl q_sv_22 ?_
 refine HPlan.fin ?_
 refine onNorm_n ?_
 refine HWp.seq ?_
 refine HWp.text (.rd 0 (.rd 1 (.rd 2 .done))) rfl ?_
 refine HPlan.move rfl rfl rfl ?_
 refine HPlan.lenO hv.own rfl rfl rfl q_tk_22 (rfl : _ = LV.int .i64 1) ?_
 refine HPlan.assign rfl rfl rfl ?_
 refine HPlan.fin ?_
 refine onNorm_n ?_
 refine HWp.seq ?_
 refine HWp.seq ?_
 refine HWp.text (.rd 0 (.rd 1 .done)) rfl ?_
 refine HPlan.move rfl rfl rfl ?_
 refine HPlan.intBin rfl rfl rfl rfl rfl (rfl : _ = LV.bool false) ?_
 refine HPlan.fin ?_
 refine onNorm_n ?_
 refine HWp.cond_f rfl ?_
 refine HWp.skip ?_
 refine onNorm_n ?_
 refine HWp.seq ?_
 refine HWp.text (.rd 0 (.rd 1 (.rd 2 .done))) rfl ?_
 refine HPlan.move rfl rfl rfl ?_
 refine HPlan.lenS rfl rfl rfl q_tk_22 (IsSl.nils (k := 34)) (rfl : _ = LV.int .i64 0) ?_
 refine HPlan.assign rfl rfl rfl ?_
 refine HPlan.fin ?_
 refine onNorm_n ?_
 refine HWp.seq ?_
 refine HWp.seq ?_
 refine HWp.text (.rd 0 (.rd 1 (.rd 2 .done))) rfl ?_
 refine HPlan.move rfl rfl rfl ?_
 refine HPlan.move rfl rfl rfl ?_
 refine HPlan.intBin rfl rfl rfl rfl rfl (rfl : _ = LV.bool true) ?_
 refine HPlan.fin ?_
 refine onNorm_n ?_
 refine HWp.cond_t rfl ?_
 refine HWp.seq ?_
 refine HWp.text (.rd 0 (.rd 1 (.act 2 [] (.rd 3 .done)))) rfl ?_
 refine HPlan.move rfl rfl rfl ?_
 refine HPlan.move rfl rfl rfl ?_
 refine HPlan.appendRS rfl rfl rfl rfl q_el_22 q_src_22 (OwnSl.nil (k := 34) rfl) rfl (by repeat (first | exact List.Mem.head _ | apply List.Mem.tail | assumption)) (by simp [flat_len (cells1 x)]) (row_take (cells1 x) rfl) (cells1 x) (List.Perm.refl _) (solid1 x) (by simp) (by simp) ?_
 intro v2 lv2 ho_v2
 refine ⟨keptH_nil, ?_⟩
 refine HPlan.assign rfl rfl rfl ?_
 refine HPlan.fin ?_
 refine onNorm_n ?_
 refine HWp.ret ?_
 refine onNorm_r ?_
 refine retQ_r (.tmp rfl .nil) ?_
 obtain ⟨row2, h1, rfl, rfl⟩ := ho_v2.row (by simp)
 exact endK_of ⟨row2, h1, rfl, rfl, rfl⟩ (by repeat (first | exact Part.refl _ | refine Part.pull (by repeat (first | exact Pull.here | apply Pull.there)) ?_ | refine Part.skip _ ?_ | exact Part.nil _ | exact Part.app _ _ | exact Part.appL _ _ | refine Part.appR _ ?_)) (by repeat (first | exact Part.refl _ | refine Part.pull (by repeat (first | exact Pull.here | apply Pull.there)) ?_ | refine Part.skip _ ?_ | exact Part.nil _ | exact Part.app _ _ | exact Part.appL _ _ | refine Part.appR _ ?_))
end Go.Proofs.YthfoobfgdakbmaaDoor

set_option linter.unusedVariables false
set_option linter.unusedSimpArgs false
set_option maxRecDepth 100000
namespace Go.Proofs.YthfoobfgdakbmaaDoor
open Go Go.RowKit Go.L

theorem idx_nil (i : Nat) : HPure Tryd.prog 61 [.nils, .fn (.func 35) [] [.ref i 0]] (.int .i64 (-1)) := by
 intro L T
 refine HCalls.enterG q_f_61 rfl ?_
 refine HWp.frame (r' := ⟨19, [(0, .nils), (1, .fn (.func 35) [] [.ref i 0])]⟩) rfl ?_
 refine HWp.seq ?_
 refine HWp.text (.rd 0 .done) rfl ?_
 refine HPlan.assign rfl rfl rfl ?_
 refine HPlan.fin ?_
 refine onNorm_n ?_
 refine HWp.seq ?_
 refine HWp.seq ?_
 refine HWp.text (.rd 0 (.rd 1 (.rd 2 .done))) rfl ?_
 refine HPlan.move rfl rfl rfl ?_
 refine HPlan.lenS rfl rfl rfl q_tk_22 (IsSl.nils (k := 34)) (rfl : _ = LV.int .i64 0) ?_
 refine HPlan.move rfl rfl rfl ?_
 refine HPlan.fin ?_
 refine onNorm_n ?_
 refine HWp.block ?_
 refine HWp.loopF (α := Unit) (fun k => 0) (fun k => True) (fun k => ⟨19, [(7, .int .i64 0), (8, .int .i64 0)]⟩) (fun k => L) (fun k => T) ?_ ?_
 ·
  refine ⟨(), trivial, (LessE.less (by repeat (first | exact LessE.nil | refine LessE.same rfl ?_ | refine LessE.own rfl ?_ | refine LessE.eq rfl ?_ (by first | rfl | (congr 1; omega) | simp))) rfl), (by repeat (first | exact Part.refl _ | refine Part.pull (by repeat (first | exact Pull.here | apply Pull.there)) ?_ | refine Part.skip _ ?_ | exact Part.nil _ | exact Part.app _ _ | exact Part.appL _ _ | refine Part.appR _ ?_)), (by repeat (first | exact Part.refl _ | refine Part.pull (by repeat (first | exact Pull.here | apply Pull.there)) ?_ | refine Part.skip _ ?_ | exact Part.nil _ | exact Part.app _ _ | exact Part.appL _ _ | refine Part.appR _ ?_))⟩
 ·
  rintro k -
  refine HWp.seq ?_
  refine HWp.text (.rd 0 .done) rfl ?_
  refine HPlan.intBin rfl rfl rfl rfl rfl (rfl : _ = LV.bool false) ?_
  refine HPlan.fin ?_
  refine onNorm_n ?_
  refine HWp.seq ?_
  refine HWp.cond_f rfl ?_
  refine HWp.exit ?_
  refine onNorm_e ?_
  refine onNorm_e ?_
  refine onExitH_hit ?_
  refine onNorm_n ?_
  refine HWp.seq ?_
  refine HWp.text (.rd 0 .done) rfl ?_
  refine HPlan.assign rfl rfl rfl ?_
  refine HPlan.fin ?_
  refine onNorm_n ?_
  refine HWp.ret ?_
  refine retQ_r (.tmp rfl .nil) ?_
  exact endK_of ⟨rfl, rfl, rfl⟩ (by repeat (first | exact Part.refl _ | refine Part.pull (by repeat (first | exact Pull.here | apply Pull.there)) ?_ | refine Part.skip _ ?_ | exact Part.nil _ | exact Part.app _ _ | exact Part.appL _ _ | refine Part.appR _ ?_)) (by repeat (first | exact Part.refl _ | refine Part.pull (by repeat (first | exact Pull.here | apply Pull.there)) ?_ | refine Part.skip _ ?_ | exact Part.nil _ | exact Part.app _ _ | exact Part.appL _ _ | refine Part.appR _ ?_))
theorem delete_nil (i : Nat) : HPure Tryd.prog 34 [.nils, .fn (.func 35) [] [.ref i 0]] .nils := by
 intro L T
 refine HCalls.enterG q_f_34 rfl ?_
 refine HWp.frame (r' := ⟨42, [(0, .nils), (1, .fn (.func 35) [] [.ref i 0])]⟩) rfl ?_
 refine HWp.seq ?_
 refine HWp.text (.rd 0 .done) rfl ?_
 refine HPlan.assign rfl rfl rfl ?_
 refine HPlan.fin ?_
 refine onNorm_n ?_
 refine HWp.seq ?_
 refine HWp.text (.rd 0 (.rd 1 (.act 2 [] (.rd 3 .done)))) rfl ?_
 refine HPlan.move rfl rfl rfl ?_
 refine HPlan.move rfl rfl rfl ?_
 refine HPlan.callPure rfl rfl rfl q_en_61 (idx_nil i) keptH_nil ?_
 refine HPlan.assign rfl rfl rfl ?_
 refine HPlan.fin ?_
 refine onNorm_n ?_
 refine HWp.seq ?_
 refine HWp.seq ?_
 refine HWp.text (.rd 0 (.rd 1 .done)) rfl ?_
 refine HPlan.move rfl rfl rfl ?_
 refine HPlan.intBin rfl rfl rfl rfl rfl (rfl : _ = LV.bool true) ?_
 refine HPlan.fin ?_
 refine onNorm_n ?_
 refine HWp.cond_t rfl ?_
 refine HWp.seq ?_
 refine HWp.text (.rd 0 (.rd 1 .done)) rfl ?_
 refine HPlan.move rfl rfl rfl ?_
 refine HPlan.assign rfl rfl rfl ?_
 refine HPlan.fin ?_
 refine onNorm_n ?_
 refine HWp.ret ?_
 refine onNorm_r ?_
 refine retQ_r (.tmp rfl .nil) ?_
 exact endK_of ⟨rfl, rfl, rfl⟩ (by repeat (first | exact Part.refl _ | refine Part.pull (by repeat (first | exact Pull.here | apply Pull.there)) ?_ | refine Part.skip _ ?_ | exact Part.nil _ | exact Part.app _ _ | exact Part.appL _ _ | refine Part.appR _ ?_)) (by repeat (first | exact Part.refl _ | refine Part.pull (by repeat (first | exact Pull.here | apply Pull.there)) ?_ | refine Part.skip _ ?_ | exact Part.nil _ | exact Part.app _ _ | exact Part.appL _ _ | refine Part.appR _ ?_))
end Go.Proofs.YthfoobfgdakbmaaDoor

set_option linter.unusedVariables false
set_option linter.unusedSimpArgs false
set_option maxRecDepth 100000
namespace Go.Proofs.YthfoobfgdakbmaaDoor
open Go Go.RowKit Go.L
theorem q_se_22 : sliceElem Tryd.prog 22 = some (28, 34) := by kernel_rfl
theorem q_zs_28 : (zeroOf Tryd.prog 28).isSome = true := by kernel_rfl
theorem q_f_39 : Tryd.prog.funcs[39]? = some Tryd.f39 := by kernel_rfl
theorem clonerow_spec (row : Row) (ts : List TraceD) (hok : row.ok 34 (ts.map traceDV)) (hne : ts ≠ []) (hl : ts.length < 1048576) (F : Hp) (T : Tk) : HCalls Tryd.prog 39 [row.v (ts.map traceDV)] (row.o (ts.map traceDV) :: F) T (fun r L' T' => ∃ row' : Row, row'.ok 34 (ts.map traceDV) ∧ r = row'.v (ts.map traceDV) ∧ L' = row'.o (ts.map traceDV) :: row.o (ts.map traceDV) :: F ∧ T' = T) := by
 refine HCalls.enterG q_f_39 rfl ?_
 refine HWp.frame (r' := ⟨8, [(0, row.v (ts.map traceDV))]⟩) rfl ?_
 refine HWp.seq ?_
 refine HWp.text (.rd 0 .done) rfl ?_
 refine HPlan.assign rfl rfl rfl ?_
 refine HPlan.fin ?_
 refine onNorm_n ?_
 refine HWp.seq ?_
 refine HWp.seq ?_
 refine HWp.text (.rd 0 (.rd 1 .done)) rfl ?_
 refine HPlan.move rfl rfl rfl ?_
 refine HPlan.nilEqK rfl rfl rfl rfl q_tk_22 rfl rfl rfl rfl ?_
 refine HPlan.fin ?_
 refine onNorm_n ?_
 refine HWp.cond_f rfl ?_
 refine HWp.skip ?_
 refine onNorm_n ?_
 refine HWp.seq ?_
 refine HWp.text (.act 0 [] (.rd 1 (.act 2 [] (.rd 3 .done)))) rfl ?_
 refine HPlan.buildSliceH rfl rfl q_se_22 q_zs_28 rfl (by decide) rfl rfl rfl allCells_nil (fun idc => ⟨keptH_nil, ?_⟩)
 refine HPlan.move rfl rfl rfl ?_
 refine HPlan.appendRS rfl rfl rfl rfl q_el_22 q_src_22 (Row.ok.own (r := ⟨idc, 28, 0, 0, []⟩) (k := 34) (es := []) ⟨rfl, Nat.le_refl _, fun e h => nomatch h⟩) (congrArg (fun n => LV.hs row.id 0 n row.cap) (rfl : (ts.map traceDV).length = (ts.map traceDV).length)) (by repeat (first | exact List.Mem.head _ | apply List.Mem.tail | assumption)) (by simp [flat_len (trace_cells ts)]) (row_take (trace_cells ts) rfl) (trace_cells ts) (List.Perm.refl _) (fun e he => by obtain ⟨x, _, rfl⟩ := List.mem_map.1 he; simp) (by simp only [List.length_map, List.length_nil]; omega) (by simp only [List.length_map, List.length_nil]; omega) ?_
 intro v2 lv2 ho_v2
 refine ⟨keptH_nil, ?_⟩
 refine HPlan.assign rfl rfl rfl ?_
 refine HPlan.fin ?_
 refine onNorm_n ?_
 refine HWp.ret ?_
 refine retQ_r (.tmp rfl .nil) ?_
 obtain ⟨row2, h1, rfl, rfl⟩ := ho_v2.row (by simpa using hne)
 exact endK_of ⟨row2, h1, rfl, rfl, rfl⟩ (by repeat (first | exact Part.refl _ | refine Part.pull (by repeat (first | exact Pull.here | apply Pull.there)) ?_ | refine Part.skip _ ?_ | exact Part.nil _ | exact Part.app _ _ | exact Part.appL _ _ | refine Part.appR _ ?_)) (by repeat (first | exact Part.refl _ | refine Part.pull (by repeat (first | exact Pull.here | apply Pull.there)) ?_ | refine Part.skip _ ?_ | exact Part.nil _ | exact Part.app _ _ | exact Part.appL _ _ | refine Part.appR _ ?_))
end Go.Proofs.YthfoobfgdakbmaaDoor

set_option linter.unusedVariables false
set_option linter.unusedSimpArgs false
set_option maxRecDepth 100000
namespace Go.Proofs.YthfoobfgdakbmaaDoor
open Go Go.RowKit Go.L


/-! ### A db's rows, by their keys -/
abbrev Ent := Dig × Row × List TraceD
def rowE (e : Ent) : LV × LV := (dgV e.1, e.2.1.v (e.2.2.map traceDV))
def objE (e : Ent) : Nat × LObj := e.2.1.o (e.2.2.map traceDV)
def entsR (rs : List Ent) : List (LV × LV) := rs.map rowE
def objsR (rs : List Ent) : Hp := rs.map objE
def getR (d : Dig) : List Ent → Option (Row × List TraceD)
  | [] => none
  | e :: r => if d = e.1 then some e.2 else getR d r
def putR (d : Dig) (x : Row × List TraceD) : List Ent → List Ent
  | [] => [(d, x)]
  | e :: r => if d = e.1 then (d, x) :: r else e :: putR d x r
theorem key_dg (a b : Dig) : keyEq (dgV a) (dgV b) = decide (a = b) := dig_eq a b
theorem dg_fits (d : Dig) : (KeyK.arr 32 (.int .u8)).fits (dgV d) = true := by
  simp [KeyK.fits, dgV, digC, bytesLV, CK.fits, d.2]
theorem ents_fits (rs : List Ent) : ∀ p ∈ entsR rs, (KeyK.arr 32 (.int .u8)).fits p.1 = true := fun p hp => by
  obtain ⟨e, _, rfl⟩ := List.mem_map.1 hp; exact dg_fits _
theorem get_rows (d : Dig) : ∀ rs, getL (dgV d) (entsR rs) = (getR d rs).map fun x => x.1.v (x.2.map traceDV)
  | [] => rfl
  | e :: r => by
    have ih := get_rows d r
    simp only [entsR, List.map_cons, rowE, getL, key_dg, getR] at ih ⊢
    by_cases h : d = e.1
    · simp [h]
    · simp only [h, decide_false, cond_false, if_false]; exact ih
theorem put_rows (d : Dig) (x : Row × List TraceD) : ∀ rs, putL (dgV d) (x.1.v (x.2.map traceDV)) (entsR rs) = entsR (putR d x rs)
  | [] => rfl
  | e :: r => by
    have ih := put_rows d x r
    simp only [entsR, List.map_cons, rowE, putL, key_dg, putR] at ih ⊢
    by_cases h : d = e.1
    · simp [h, rowE]
    · simp only [h, decide_false, cond_false, if_false, List.map_cons, rowE]; rw [ih]
theorem split_rows {d : Dig} {x : Row × List TraceD} : ∀ {rs : List Ent}, getR d rs = some x → ∃ A B, rs = A ++ (d, x) :: B ∧ ∀ y, putR d y rs = A ++ (d, y) :: B
  | [], h => by cases h
  | e :: r, h => by
    simp only [getR] at h
    split at h
    · rename_i hd
      cases h
      exact ⟨[], r, by rw [hd]; rfl, fun y => by simp [putR, hd]⟩
    · rename_i hd
      obtain ⟨A, B, h1, h2⟩ := split_rows h
      exact ⟨e :: A, B, by rw [h1]; rfl, fun y => by simp only [putR]; rw [if_neg hd, h2]; rfl⟩
theorem put_none {d : Dig} {y : Row × List TraceD} : ∀ {rs : List Ent}, getR d rs = none → putR d y rs = rs ++ [(d, y)]
  | [], _ => rfl
  | e :: r, h => by
    simp only [getR] at h
    split at h
    · cases h
    · rename_i hd
      simp only [putR]; rw [if_neg hd, put_none h]; rfl
theorem objs_split (A B : List Ent) (e : Ent) : (objsR (A ++ e :: B)).Perm (objE e :: (objsR A ++ objsR B)) := by
  simp only [objsR, List.map_append, List.map_cons]
  exact List.perm_middle
/-- Rows that are kept: whole, none empty. -/
def RowsOk (rs : List Ent) : Prop := ∀ e ∈ rs, e.2.1.ok 34 (e.2.2.map traceDV) ∧ e.2.2 ≠ [] ∧ e.2.2.length ≤ 8

end Go.Proofs.YthfoobfgdakbmaaDoor
